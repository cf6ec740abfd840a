/- Lemmas for VaultCrashes, texts W2 W3; no condition beyond those that each states. -/
import Derived.Test.YtncbojocglcieaaVV12
import Derived.Deep.Cut
/- vault's law: VaultRenews. -/
namespace Go.Proofs.Ytncbojocglcieaa
open Go.RowKit
set_option linter.unusedSimpArgs false
set_option linter.unusedVariables false
theorem Vlt.bounds {N m0 : Nat} {D : DevD} {v : VaultD} {all : List ByteArray} {fr : Option ByteArray} (h : Vlt N D v m0 all fr) (hv : v.over = false) :
    (0 ≤ v.at_ ∧ v.at_ ≤ 4096) ∧ (0 ≤ v.s ∧ v.s ≤ 4096) ∧ (0 ≤ v.s2 ∧ v.s2 ≤ 4096) ∧ D.size ≤ 4096 ∧ v.recs = all := by
  obtain ⟨_, l2, l3, _⟩ := h.live hv
  have hn := h.geo.n
  have hf := h.fits
  have hs := h.geo.s
  have hz := h.size
  rw [l3, hs.1, hs.2]
  refine ⟨⟨by omega, by omega⟩, ⟨by omega, by omega⟩, ⟨by omega, by omega⟩, by omega, l2⟩
/-- Append where power stays. -/
theorem Vlt.append_on {N m0 : Nat} {D : DevD} {v : VaultD} {all : List ByteArray} {fr : Option ByteArray} (h : Vlt N D v m0 all fr) (hv : v.over = false) (hl : D.left = -1) (r : ByteArray) :
    ∃ v' D', v.append D r = (v', D', fitsErr v.s v.at_ r.size) ∧ D'.left = -1 ∧ D'.queue.length ≤ D.queue.length + 1000 ∧ v'.over = false ∧ v'.img = v.img ∧ v'.ep = v.ep ∧ v'.s = v.s ∧
      ((fitsErr v.s v.at_ r.size ≠ 0 ∧ v' = v ∧ D' = D) ∨ (fitsErr v.s v.at_ r.size = 0 ∧ Vlt N D' v' m0 (all ++ [r]) none ∧ v'.at_ = v.at_ + nframes r.size)) := by
  have ha := h.append hv r
  obtain ⟨P, hP⟩ : ∃ P, v.append D r = P := ⟨_, rfl⟩
  obtain ⟨v', D', E⟩ := P
  rw [hP] at ha
  simp only at ha
  obtain ⟨a1, a2, a3⟩ := ha
  rcases a3 with ⟨rfl, b2, rfl, rfl⟩ | ⟨b1, b2, b3, b4, b5, b6, b7⟩
  · exact ⟨_, _, hP, hl, Nat.le_add_right _ _, hv, rfl, rfl, rfl, Or.inl ⟨b2, rfl, rfl⟩⟩
  · rcases b7 with ⟨rfl, c2, c3, c4⟩ | ⟨_, c2, _⟩
    · exact ⟨v', D', by rw [hP, b1], a1.2 hl, a2, c2, b4, b6, b5, Or.inr ⟨b1, b3, c4⟩⟩
    · exact absurd hl c2
/-- Renew where power stays. -/
theorem Vlt.renew_on {N m0 : Nat} {D : DevD} {v : VaultD} {all : List ByteArray} {fr : Option ByteArray} (h : Vlt N D v m0 all fr) (hv : v.over = false) (hl : D.left = -1) (hep : v.ep < 9223372036854775808) (r : ByteArray) :
    ∃ v' D', v.renew D r = (v', D', fitsErr v.s2 1 r.size) ∧ D'.left = -1 ∧ D'.queue.length ≤ D.queue.length + 6000 ∧ v'.over = false ∧
      ((fitsErr v.s2 1 r.size ≠ 0 ∧ v' = v ∧ D' = D) ∨ (fitsErr v.s2 1 r.size = 0 ∧ Vlt N D' v' 0 [] none ∧ v'.img = r ∧ v'.ep = v.ep + 1 ∧ v'.at_ = 1 + (nframes r.size : Int) ∧ v'.s = v.s2 ∧ D'.queue = [])) := by
  have ha := h.renew hv hep r
  obtain ⟨P, hP⟩ : ∃ P, v.renew D r = P := ⟨_, rfl⟩
  obtain ⟨v', D', E⟩ := P
  rw [hP] at ha
  simp only at ha
  obtain ⟨a1, a2, a3⟩ := ha
  rcases a3 with ⟨rfl, b2, rfl, rfl⟩ | ⟨b1, b2, b3⟩
  · exact ⟨_, _, hP, hl, Nat.le_add_right _ _, hv, Or.inl ⟨b2, rfl, rfl⟩⟩
  · rcases b3 with ⟨rfl, rfl, c2, c3⟩ | ⟨_, c2, _⟩
    · exact ⟨v.renewed r, D', by rw [hP, b1], a1.2 hl, a2, hv, Or.inr ⟨b1, c2, rfl, rfl, rfl, rfl, c3⟩⟩
    · exact absurd hl c2
theorem empty_iff (x : ByteArray) : (x.toList == []) = true ↔ x = ⟨#[]⟩ := by
  rw [beq_iff_eq, ByteArray.toList_eq]
  constructor
  · intro h
    cases x with | mk d => simp at h; rw [h]
  · intro h; rw [h]
def oldB : ByteArray := ⟨#[111, 108, 100]⟩
def behindB : ByteArray := ⟨#[98, 101, 104, 105, 110, 100]⟩
def RenewsRel (w0 : World) (g vb m : Nat) (iv : Value) (wr : World) : Prop :=
  ∃ (i : Nat) (D : DevD) (v : VaultD) (all : List ByteArray) (rv : Value), iv = .int .i64 i ∧ i ≤ m ∧ OwnV w0 wr (fun _ => False) g D vb rv v ∧ Vlt 80 D v 0 all none ∧ v.over = false ∧ D.left = -1 ∧ D.queue.length ≤ 1000 * i ∧ v.ep = 1 ∧ all.length ≤ i
set_option maxRecDepth 100000 in
set_option maxHeartbeats 4000000 in
theorem vaultrenews_any (img : ByteArray) (v2 v3 : Value) (l : List OpV) (kept : List Int) (w : World) (hi : img.size ≤ maxLen) (h2 : Arg EOpV w v2 l) (h3 : Arg EInt w v3 kept) (m2 : l.length ≤ maxLen) (m3 : kept.length ≤ maxLen) (hok : ∀ o ∈ l, o.Ok w) :
    Calls Try.prog 14 #[.string img, v2, v3] w fun e w' => e = .returned (.bool true) ∧ Below w.heap.size w w' := by
  obtain ⟨a2, c2, rfl⟩ := h2.shape
  obtain ⟨a3, c3, rfl⟩ := h3.shape
  have A2 := Lib.hid h2
  have A3 := Lib.hid h3
  have OK := Lib.hid hok
  have hfew := fun w' (hb : Below w.heap.size w w') => few08_any w' _ l 20 (h2.below hb) m2 (fun o ho => ⟨(hok o ho).1, (hok o ho).2.2.1⟩)
  have FEW := Lib.hid hfew
  have M3 := Lib.hid m3
  unfold maxLen at m2 m3 hi
  clear h2 h3 hok hfew
  go_enter Try.func14, Try.ntmps14
  go_wp2_with fail
  refine (awake08_any _).mono ?_
  rintro e w1 ⟨rfl, hb1⟩
  have HB1 := Lib.hid hb1
  clear hb1
  go_wp2_with fail
  refine (FEW.out w1 HB1.out).mono ?_
  rintro e w2 ⟨fv, rfl, hfp, hb2⟩
  obtain ⟨fb, rfl, hfb⟩ := hfp
  have HB2 := Lib.hid (HB1.out.trans (hb2.mono HB1.out.size))
  have HFB := Lib.hid hfb
  clear hb2 hfb
  have leave : ∀ w2, Below w.heap.size w w2 → ∀ K : Ending → World → Prop, (∀ w3, Below w.heap.size w w3 → K (.returned (.bool true)) w3) → Calls Try.prog 41 #[] w2 K := by
    intro w2 hb K hK
    refine (awake08_any _).mono ?_
    rintro e w3 ⟨rfl, hb3⟩
    exact hK w3 (hb.trans (hb3.mono hb.size))
  have LEAVE := Lib.hid leave
  clear leave
  cases fb
  · go_wp2_with fail
    refine LEAVE.out _ HB2.out _ ?_
    intro w3 hb3
    go_wp2_with fail
    go_ret
    exact ⟨rfl, hb3⟩
  · obtain ⟨hl20, hob⟩ := HFB.out rfl
    have hl20' : l.length ≤ 20 := by omega
    have HOB := Lib.hid hob
    clear hob
    by_cases hi3 : img.size ≤ 300
    rotate_left
    · have n1 : decide ((300 : Int) < img.size) = true := decide_eq_true (by omega)
      go_wp2_with fail
      refine LEAVE.out _ HB2.out _ ?_
      intro w3 hb3
      go_wp2_with fail
      go_ret
      exact ⟨rfl, hb3⟩
    have n1 : decide ((300 : Int) < img.size) = false := decide_eq_false (by omega)
    by_cases hk60 : kept.length ≤ 60
    rotate_left
    · have n2 : decide ((60 : Int) < kept.length) = true := decide_eq_true (by omega)
      go_wp2_with fail
      refine LEAVE.out _ HB2.out _ ?_
      intro w3 hb3
      go_wp2_with fail
      go_ret
      exact ⟨rfl, hb3⟩
    have n2 : decide ((60 : Int) < kept.length) = false := decide_eq_false (by omega)
    by_cases hi0 : img = ⟨#[]⟩
    · have n3 : (img.toList == (⟨#[]⟩ : ByteArray).toList) = true := (str_eq_iff _ _).2 hi0
      go_wp2_with fail
      refine LEAVE.out _ HB2.out _ ?_
      intro w3 hb3
      go_wp2_with fail
      go_ret
      exact ⟨rfl, hb3⟩
    have n3 : (img.toList == (⟨#[]⟩ : ByteArray).toList) = false := by rw [Bool.eq_false_iff, ne_eq, str_eq_iff]; exact hi0
    have n5 : (img.toList == []) = false := by rw [Bool.eq_false_iff, ne_eq, empty_iff]; exact hi0
    have hi1 : img.size ≠ 0 := fun e => hi0 (by
      have : img.data.size = 0 := e
      cases img with | mk d => simp at this; rw [this])
    have hrok : Rok img := ⟨hi1, by omega⟩
    have HROK := Lib.hid hrok
    have hfi : fitsErr 40 1 img.size = 0 := by unfold fitsErr nframes; rw [if_neg (by omega), if_neg (by omega)]
    have HFI := Lib.hid hfi
    obtain ⟨D1, D2, x, k1, k2, k3, k4, k5, k6, k7, k8, k9, k10, k11, k12, k13, k14, k15, k16⟩ := format_open (N := 80) (D := ⟨80, [], [], [], -1⟩) ⟨by decide, by decide⟩ rfl rfl (newdev_good 80) oldB ⟨by decide, by decide⟩ (by decide)
    have K1 := Lib.hid k1
    have K2 := Lib.hid k2
    have K14 := Lib.hid k14
    have K3 := Lib.hid k3
    clear k1 k2 k14 k3 k4 k5 k8 k10 k9 hrok hfi
    go_wp2_with fail
    refine (ownr_new (R := fun _ => False) w w2 80 HB2.out (fun k q => q.elim)).mono ?_
    rintro e w3 ⟨g, rfl, h3, hh3⟩
    have H3 := Lib.hid (show OwnR w w3 (fun _ => False) g ⟨80, [], [], [], -1⟩ from h3)
    clear h3 hh3
    go_wp2_with fail
    refine (begun08_any oldB H3.out (by decide) (by decide) (by decide) (by decide) K1.out K2.out (by rw [k12]; decide) (by rw [k13]; decide) (by rw [k11]; decide) K14.out).mono ?_
    rintro e w4 ⟨vb, rv, rfl, h4, hh4⟩
    have H4 := Lib.hid h4
    have hx0 := k6
    have hq2 : D2.queue.length = 0 := by rw [k16]; rfl
    clear h4 hh4
    go_wp2_with fail
    go_loopw [9] (fun iv wr => RenewsRel w g vb l.length iv wr) (fun iv _ => l.length - (intOf iv).toNat)
    case atStart => exact ⟨0, D2, x, [], rv, rfl, Nat.zero_le _, H4.out, K3.out, k6, k15, by omega, k7, Nat.le_refl _⟩
    case round =>
      obtain ⟨i, D, v, all, rv, rfl, hi, hO, hV, hv, hl, hq, hep, hal⟩ := hrel
      have HO := Lib.hid hO
      have HV := Lib.hid hV
      have hbd := hV.bounds hv
      have HBD := Lib.hid hbd
      clear hO hV hbd K1 K2 K3 K14 H3 H4
      by_cases hlt : i < l.length
      · have i1 : (i : Int) < l.length := by omega
        obtain ⟨o, ho⟩ : ∃ o, l[i]? = some o := ⟨_, List.getElem?_eq_getElem hlt⟩
        obtain ⟨hob, _⟩ := OK.out o (List.mem_of_getElem? ho)
        unfold maxLen at hob
        obtain ⟨gl, off, hgl, _, _, cw, _⟩ := vop_cells A2.out i o ho
        subst hgl
        have c1 := cell_later HO.out.bel cw
        clear cw ho
        go_wp2_with fail
        obtain ⟨v', D', e1, e2, e3, e4, e5, e6, e7, e8⟩ := HV.out.append_on hv hl o.b
        have hcall := vappend_any o.b HO.out HBD.out.2.2.2.1 (by omega) (by rw [hl]; decide) (by omega) HBD.out.1 HBD.out.2.1 (by rw [HBD.out.2.2.2.2]; omega)
        rw [e1] at hcall
        refine hcall.mono ?_
        rintro e w5 ⟨rfl, hh5, rv', h5⟩
        have h5 : OwnV w w5 (fun _ => False) g D' vb rv' v' := h5
        have E8 := Lib.hid e8
        have H5 := Lib.hid h5
        clear hcall h5 hh5 e1 e8
        go_wp2_with fail
        refine ⟨?_, by simp [intOf]; omega⟩
        rcases E8.out with ⟨_, q1, q2⟩ | ⟨_, q1, _⟩
        · exact ⟨i + 1, D', v', all, rv', by go_num, hlt, H5.out, by rw [q1, q2]; exact HV.out, e4, e2, by omega, by omega, by omega⟩
        · exact ⟨i + 1, D', v', all ++ [o.b], rv', by go_num, hlt, H5.out, q1, e4, e2, by omega, by omega, by simp; omega⟩
      · have ei : i = l.length := by omega
        subst ei
        have i2 : ¬ ((l.length : Int) < l.length) := by omega
        go_wp2_with fail
        obtain ⟨v', D', e1, e2, e3, e4, e5⟩ := HV.out.renew_on hv hl (by omega) img
        have hs2 : v.s2 = 40 := HV.out.geo.s.2
        rw [hs2, HFI.out] at e1 e5
        have hcall := vrenew_any img HO.out HBD.out.2.2.2.1 (by omega) (by rw [hl]; decide) (by omega) HBD.out.2.2.1 (by omega)
        rw [e1] at hcall
        rcases e5 with ⟨q, _⟩ | ⟨_, f1, f2, f3, f4, f5, f6⟩
        · exact absurd rfl q
        refine hcall.mono ?_
        rintro e w5 ⟨rfl, hh5, rv', h5⟩
        have H5 := Lib.hid (show OwnV w w5 (fun _ => False) g D' vb rv' v' from h5)
        have F1 := Lib.hid f1
        have hbd := f1.bounds e4
        have HBD2 := Lib.hid hbd
        clear hcall h5 hh5 e1 f1 hbd HV HBD HO
        go_wp2_with fail
        refine (ownr_pending H5.out.own).mono ?_
        rintro e w6 ⟨rfl, rfl⟩
        rw [f6]
        have hb : (⟨#[98, 101, 104, 105, 110, 100]⟩ : ByteArray) = behindB := rfl
        go_wp2_with fail
        obtain ⟨v5, D5, p1, p2, p3, p4, p5, p6, p7, p8⟩ := F1.out.append_on e4 e2 behindB
        have hcall := vappend_any behindB H5.out HBD2.out.2.2.2.1 (by omega) (by rw [e2]; decide) (by decide) HBD2.out.1 HBD2.out.2.1 (by rw [HBD2.out.2.2.2.2]; simp)
        rw [p1] at hcall
        refine hcall.mono ?_
        rintro e w7 ⟨rfl, hh7, rv7, h7⟩
        have H7 := Lib.hid (show OwnV w w7 (fun _ => False) g D5 vb rv7 v5 from h7)
        obtain ⟨all5, hv5, hal5⟩ : ∃ all5, Vlt 80 D5 v5 0 all5 none ∧ all5.length ≤ 1 := by
          rcases p8 with ⟨_, q1, q2⟩ | ⟨_, q1, _⟩
          · rw [q1, q2]; exact ⟨[], F1.out, by simp⟩
          · exact ⟨_, q1, by simp⟩
        have HV5 := Lib.hid hv5
        clear hcall h7 hh7 p1 p8 hv5 H5 F1 HBD2
        go_wp2_with fail
        refine (ownr_restart H7.out.own _ kept A3.out M3.out (by omega)).mono ?_
        rintro e w8 ⟨rfl, h8, hh8⟩
        have H8 := Lib.hid h8
        clear h8 hh8
        obtain ⟨D9, v9, s1, s2, s3, s4, s5, s6, s7, s8⟩ := HV5.out.crash_open kept
        have S1 := Lib.hid s1
        have S7 := Lib.hid s7
        have hs9 : v9.img = img ∧ v9.recs.length ≤ 1 := by
          rcases s8 with ⟨r1, r2, j, r3, r4, r5, r6⟩ | ⟨y, r1, _⟩
          · exact ⟨by rw [r1, p5, f2], by rw [r5, List.length_take]; omega⟩
          · cases r1
        have hz : (D5.restart kept).size ≤ 4096 := by show D5.size ≤ 4096; rw [HV5.out.size]; decide
        clear s1 s7 s8
        go_wp2_with fail
        refine (vopen_ok H8.out hz (by show (0 : Nat) ≤ _; omega) (by show (-1 : Int) ≤ _; decide) S7.out S1.out).mono ?_
        rintro e w9 ⟨vb9, rv9, rfl, h9, hh9⟩
        have H9 := Lib.hid h9
        clear h9 hh9
        go_wp2_with fail
        refine (vimage_any H9.out).mono ?_
        rintro e w10 ⟨rfl, rfl⟩
        rw [hs9.1]
        have n6 : (img.toList == img.toList) = true := by simp
        go_wp2_with fail
        refine (vrecords_any H9.out (by omega)).mono ?_
        rintro e w11 ⟨v11, rfl, hr11, hb11⟩
        have hlr : v9.recs.length ≤ 1 := hs9.2
        obtain ⟨a11, c11, rfl⟩ := hr11.shape
        have HB11 := Lib.hid (H9.out.bel.trans (hb11.mono H9.out.bel.size))
        have n7 : (v9.recs.length : Int) ≤ 1 := by omega
        have n8 : decide ((v9.recs.length : Int) ≤ 1) = true := decide_eq_true n7
        have n9 : decide (v9.recs.length ≤ 1) = true := decide_eq_true hlr
        clear hr11 hb11
        go_wp2_with fail
        go_ret
        exact ⟨rfl, HB11.out⟩
end Go.Proofs.Ytncbojocglcieaa

/- vault's law: VaultPlays. -/
namespace Go.Proofs.Ytncbojocglcieaa
open Go.RowKit
set_option linter.unusedSimpArgs false
set_option linter.unusedVariables false
theorem Vlt.sync_on {N m0 : Nat} {D : DevD} {v : VaultD} {all : List ByteArray} {fr : Option ByteArray} (h : Vlt N D v m0 all fr) (hv : v.over = false) (hl : D.left = -1) :
    v.syncErr D = 0 ∧ (if v.over = true then D else D.fl.1) = D.flush ∧ v.done 0 = v ∧ Vlt N D.flush v all.length all none := by
  rcases h.sync hv with ⟨a, b, c, d, e⟩ | ⟨_, b, _⟩
  · exact ⟨a, by rw [if_neg (by rw [hv]; decide), d], c, e⟩
  · rw [hl] at b; cases b
/-- The state between two calls. -/
def VPlaysRel (w0 : World) (g vb N m : Nat) (mv rv pv iv : Value) (wr : World) : Prop :=
  ∃ (i : Nat) (D : DevD) (v : VaultD) (m0 : Nat) (all : List ByteArray) (rw_ : Value), iv = .int .i64 i ∧ i ≤ m ∧ mv = .string v.img ∧ pv = .int .i64 (v.s - v.at_) ∧ Row EStr wr w0.heap.size rv all ∧
    OwnV w0 wr (ownB rv) g D vb rw_ v ∧ Vlt N D v m0 all none ∧ v.over = false ∧ D.left = -1 ∧ D.queue.length ≤ 6000 * i ∧ v.ep ≤ i + 1 ∧ all.length ≤ i ∧ v.img.size ≤ 500
/-- The state behind a call. -/
def VDoneRel (w0 : World) (g vb N i : Nat) (mv rv pv qv gv : Value) (wr : World) : Prop :=
  ∃ (E : Int) (D : DevD) (v : VaultD) (m0 : Nat) (all : List ByteArray) (rw_ : Value), qv = .int .i64 E ∧ gv = .int .i64 E ∧ mv = .string v.img ∧ pv = .int .i64 (v.s - v.at_) ∧ Row EStr wr w0.heap.size rv all ∧
    OwnV w0 wr (ownB rv) g D vb rw_ v ∧ Vlt N D v m0 all none ∧ v.over = false ∧ D.left = -1 ∧ D.queue.length ≤ 6000 * i ∧ v.ep ≤ i + 1 ∧ all.length ≤ i ∧ v.img.size ≤ 500
set_option maxRecDepth 100000 in
set_option maxHeartbeats 8000000 in
theorem vaultplays_any (c : Nat) (img : ByteArray) (v2 : Value) (l : List OpV) (w : World) (hc : c < 256) (hi : img.size ≤ maxLen) (h2 : Arg EOpV w v2 l) (m2 : l.length ≤ maxLen) (hok : ∀ o ∈ l, o.Ok w) :
    Calls Try.prog 13 #[.int .u8 c, .string img, v2] w fun e w' => e = .returned (.bool true) ∧ Below w.heap.size w w' := by
  obtain ⟨a2, c2, rfl⟩ := h2.shape
  have A2 := Lib.hid h2
  have OK := Lib.hid hok
  have hfew := fun w' (hb : Below w.heap.size w w') => few08_any w' _ l 30 (h2.below hb) m2 (fun o ho => ⟨(hok o ho).1, (hok o ho).2.2.1⟩)
  have FEW := Lib.hid hfew
  unfold maxLen at m2 hi
  clear h2 hok hfew
  obtain ⟨k, hk⟩ : ∃ k : Nat, (c : Int) % 61 = k := ⟨c % 61, by omega⟩
  have hk60 : k ≤ 60 := by omega
  have leave : ∀ w2, Below w.heap.size w w2 → ∀ K : Ending → World → Prop, (∀ w3, Below w.heap.size w w3 → K (.returned (.bool true)) w3) → Calls Try.prog 41 #[] w2 K := by
    intro w2 hb K hK
    refine (awake08_any _).mono ?_
    rintro e w3 ⟨rfl, hb3⟩
    exact hK w3 (hb.trans (hb3.mono hb.size))
  have LEAVE := Lib.hid leave
  clear leave
  go_enter Try.func13, Try.ntmps13
  go_wp2_with fail
  refine LEAVE.out _ (Below.refl _ _) _ ?_
  intro w1 hb1
  have HB1 := Lib.hid hb1
  clear hb1
  go_wp2_with fail
  refine (FEW.out w1 HB1.out).mono ?_
  rintro e w2 ⟨fv, rfl, hfp, hb2⟩
  obtain ⟨fb, rfl, hfb⟩ := hfp
  have HB2 := Lib.hid (HB1.out.trans (hb2.mono HB1.out.size))
  have HFB := Lib.hid hfb
  clear hb2 hfb
  cases fb
  · go_wp2_with fail
    refine LEAVE.out _ HB2.out _ ?_
    intro w3 hb3
    go_wp2_with fail
    go_ret
    exact ⟨rfl, hb3⟩
  · obtain ⟨hl30, hob⟩ := HFB.out rfl
    have hl30' : l.length ≤ 30 := by omega
    have hob2 : ∀ o ∈ l, o.b.size ≤ 400 ∧ o.kn ≤ 100 := by rw [List.take_of_length_le (by omega)] at hob; exact hob
    have HOB := Lib.hid hob2
    clear hob hob2
    by_cases hi5 : img.size ≤ 500
    rotate_left
    · have n1 : decide ((500 : Int) < img.size) = true := decide_eq_true (by omega)
      go_wp2_with fail
      refine LEAVE.out _ HB2.out _ ?_
      intro w3 hb3
      go_wp2_with fail
      go_ret
      exact ⟨rfl, hb3⟩
    have n1 : decide ((500 : Int) < img.size) = false := decide_eq_false (by omega)
    go_wp2_with fail
    refine (ownr_new (R := fun _ => False) w w2 k HB2.out (fun k q => q.elim)).mono ?_
    rintro e w3 ⟨g, rfl, h3, hh3⟩
    have hkk : (min (max (k : Int) 0) 4096).toNat = k := by omega
    rw [hkk] at h3
    have H3 := Lib.hid (show OwnR w w3 (fun _ => False) g ⟨k, [], [], [], -1⟩ from h3)
    clear h3 hh3 hkk
    go_wp2_with fail
    have hf := format_any img H3.out (by show k ≤ 4096; omega) (by simp) (by simp) (by omega)
    obtain ⟨P, hP⟩ : ∃ P, (DevD.mk k [] [] [] (-1)).format img = P := ⟨_, rfl⟩
    rw [hP] at hf
    have HP := Lib.hid hP
    refine hf.mono ?_
    rintro e w4 ⟨rfl, h4, hh4⟩
    have H4 := Lib.hid (show OwnR w w4 (fun _ => False) g P.1 from h4)
    clear h4 hh4 hf hP
    go_wp2_with fail
    refine (cut_ref img w4 (by omega)).mono ?_
    rintro e w5 ⟨cv, rfl, hcr, hb5⟩
    obtain ⟨ca, cc, rfl⟩ := hcr.shape
    have H5 := Lib.hid (H4.out.below hb5)
    have hcl : (cutL img.data.toList).length = nframes img.size := cut_len img
    rw [hcl]
    obtain ⟨nf, hnf⟩ : ∃ nf, nframes img.size = nf := ⟨_, rfl⟩
    rw [hnf]
    have HNF := Lib.hid hnf
    have hnf9 : nf ≤ 9 := by rw [← hnf]; unfold nframes; omega
    have hpos := Lib.hid (show img.size ≠ 0 → 1 ≤ nf from fun q => by rw [← hnf]; unfold nframes; omega)
    clear hcr hb5 hcl hnf
    by_cases hk4 : k < 4
    · have hfe := format_bad ⟨k, [], [], [], -1⟩ img rfl hk4
      rw [HP.out] at hfe
      have k1 : decide ((k : Int) < 4) = true := decide_eq_true (by omega)
      have k2 : decide (k < 4) = true := decide_eq_true hk4
      subst hfe
      have hopn : (DevD.mk k [] [] [] (-1)).openV = (none, ⟨k, [], [], [], -1⟩, 1) := by
        have hm : (DevD.mk k [] [] [] (-1)).mayErr = 1 := by unfold DevD.mayErr; rw [if_neg (by simp), if_pos hk4]
        unfold DevD.openV
        rw [hm, if_pos (by decide)]
      have HOP := Lib.hid hopn
      clear hopn
      go_wp2_with fail
      refine (vopen_no H5.out (by show k ≤ 4096; omega) (by simp) (by simp) (newdev_good k) HOP.out).mono ?_
      rintro e w6 ⟨rfl, h6, hh6⟩
      have H6 := Lib.hid h6
      clear h6 hh6
      go_wp2_with fail
      go_ret
      exact ⟨rfl, H6.out.bel⟩
    have k1 : decide ((k : Int) < 4) = false := decide_eq_false (by omega)
    have k2 : decide (k < 4) = false := decide_eq_false hk4
    obtain ⟨m, hm⟩ : ∃ m, k / 2 = m := ⟨_, rfl⟩
    have hh : ((k : Nat) : Int) / 2 = (m : Int) := by omega
    have ht : (k : Int).tdiv 2 = (m : Int) := by rw [Int.tdiv_eq_ediv_of_nonneg (by omega)]; exact hh
    have hm1 : (0 : Int) ≤ (m : Int) := by omega
    have hm2 : (m : Int) ≤ 30 := by omega
    by_cases hi0 : img = ⟨#[]⟩
    · have n3 : (img.toList == (⟨#[]⟩ : ByteArray).toList) = true := (str_eq_iff _ _).2 hi0
      have n5 : (img.toList == []) = true := (empty_iff _).2 hi0
      have hf4 : fitsErr ((k : Int) / 2) 1 img.size = 4 := by rw [hi0]; rfl
      have hfe := format_unfit ⟨k, [], [], [], -1⟩ img rfl (by show 4 ≤ k; omega) (by show fitsErr ((k : Int) / 2) 1 img.size ≠ 0; rw [hf4]; decide)
      have hf4' : fitsErr (((DevD.mk k [] [] [] (-1)).size : Int) / 2) 1 img.size = 4 := hf4
      rw [HP.out, hf4'] at hfe
      subst hfe
      clear hf4 hf4'
      go_wp2_with fail
      go_ret
      exact ⟨rfl, H5.out.bel⟩
    have n3 : (img.toList == (⟨#[]⟩ : ByteArray).toList) = false := by rw [Bool.eq_false_iff, ne_eq, str_eq_iff]; exact hi0
    have n5 : (img.toList == []) = false := by rw [Bool.eq_false_iff, ne_eq, empty_iff]; exact hi0
    have hi1 : img.size ≠ 0 := fun e => hi0 (by
      have : img.data.size = 0 := e
      cases img with | mk d => simp at this; rw [this])
    by_cases hfull : m - 1 < nf
    · have f1 : (m : Int) - 1 < nf := by omega
      have f2 : decide ((m : Int) - 1 < nf) = true := decide_eq_true f1
      have hf11 : fitsErr ((k : Int) / 2) 1 img.size = 11 := by unfold fitsErr; rw [if_neg (by omega), HNF.out, hh, if_pos (by omega)]
      have hfe := format_unfit ⟨k, [], [], [], -1⟩ img rfl (by show 4 ≤ k; omega) (by show fitsErr ((k : Int) / 2) 1 img.size ≠ 0; rw [hf11]; decide)
      have hf11' : fitsErr (((DevD.mk k [] [] [] (-1)).size : Int) / 2) 1 img.size = 11 := hf11
      rw [HP.out, hf11'] at hfe
      subst hfe
      clear hf11 hf11'
      go_wp2_with fail
      go_ret
      exact ⟨rfl, H5.out.bel⟩
    have f1 : ¬ ((m : Int) - 1 < nf) := by omega
    have f2 : decide ((m : Int) - 1 < nf) = false := decide_eq_false f1
    obtain ⟨D1, D2, x, k1', k2', k3, k4, k5, k6, k7, k8, k9, k10, k11, k12, k13, k14, k15, k16⟩ := format_open (N := k) (D := ⟨k, [], [], [], -1⟩) ⟨by omega, by omega⟩ rfl rfl (newdev_good k) img ⟨hi1, by omega⟩ (by rw [HNF.out]; omega)
    rw [HP.out] at k1'
    subst k1'
    have K2 := Lib.hid k2'
    have K3 := Lib.hid k3
    have K14 := Lib.hid k14
    rw [HNF.out] at k10
    clear k2' k3 k14 hi0
    go_wp2_with fail
    refine (vopen_ok H5.out (by rw [k12]; omega) (by rw [k13]; decide) (by rw [k11]; decide) K14.out K2.out).mono ?_
    rintro e w6 ⟨vb, rv, rfl, h6, hh6⟩
    have H6 := Lib.hid h6
    clear h6 hh6
    go_wp2_with fail
    go_loopw [1, 15, 16, 17] (fun mv rv pv iv wr => VPlaysRel w g vb k l.length mv rv pv iv wr) (fun _ _ _ iv _ => l.length - (intOf iv).toNat)
    case atStart => exact ⟨0, D2, x, 0, [], rv, rfl, Nat.zero_le _, by rw [k4], by rw [k8, k10]; congr 1; omega, Row.nil _ _ _, H6.out.sub (fun k q => by cases q), K3.out, k6, k15, by rw [k16]; exact Nat.zero_le _, by omega, Nat.le_refl _, by rw [k4]; exact hi5⟩
    case round =>
      obtain ⟨i, D, v, m0, all, rw_, rfl, hi, rfl, rfl, hR, hO, hV, hv, hl, hq, hep, hal, his⟩ := hrel
      obtain ⟨ra, rc, rfl⟩ := hR.shape
      have hs1 : v.s = m := by rw [hV.geo.s.1, hm]
      have hs2 : v.s2 = m := by rw [hV.geo.s.2, hm]
      have HO := Lib.hid hO
      have HV := Lib.hid hV
      have HR := Lib.hid hR
      have HBD := Lib.hid (hV.bounds hv)
      clear hO hV hR K2 K3 K14 H3 H4 H5 H6 k4 k5 k6 k7 k8 k9 k10 k11 k12 k13 k15 k16
      by_cases hlt : i < l.length
      · have i1 : (i : Int) < l.length := by omega
        obtain ⟨o, ho⟩ : ∃ o, l[i]? = some o := ⟨_, List.getElem?_eq_getElem hlt⟩
        obtain ⟨hob, _⟩ := HOB.out o (List.mem_of_getElem? ho)
        obtain ⟨gl, off, hgl, _, cw0, cw1, _⟩ := vop_cells A2.out i o ho
        subst hgl
        have c0 := cell_later HO.out.bel cw0
        have c1 := cell_later HO.out.bel cw1
        clear ho
        go_wp2_with fail
        refine (cut_ref o.b wr (by omega)).mono ?_
        rintro e w21 ⟨cv, rfl, hcr, hb21⟩
        obtain ⟨ca2, cc2, rfl⟩ := hcr.shape
        rw [cut_len o.b]
        obtain ⟨kf, hkf⟩ : ∃ kf, nframes o.b.size = kf := ⟨_, rfl⟩
        rw [hkf]
        have hkf7 : kf ≤ 7 := by rw [← hkf]; unfold nframes; omega
        have HKF := Lib.hid hkf
        have H21 := Lib.hid (HO.out.below hb21)
        have HR21 := Lib.hid (HR.out.below hb21)
        clear hcr hb21 c0 c1 hkf HO HR
        have c0 := cell_later H21.out.bel cw0
        have c1 := cell_later H21.out.bel cw1
        by_cases q2 : o.kind.toNat % 4 = 2
        · have hkz : (o.kind.toNat : Int) % 4 = 2 := by omega
          obtain ⟨s1, s2, s3, s4⟩ := HV.out.sync_on hv hl
          go_wp2_with fail
          have hcall := vsync_any H21.out
          rw [s1, s2, s3] at hcall
          refine hcall.mono ?_
          rintro e w5 ⟨rfl, h5, hh5⟩
          have HO5 := Lib.hid h5
          have HR5 := Lib.hid (HR21.out.kept (fun k q => hh5.block k q))
          have HV5 := Lib.hid s4
          have HBD5 := Lib.hid (s4.bounds hv)
          have hq5 : D.flush.queue.length = 0 := rfl
          have hl5 : D.flush.left = -1 := hl
          have hv5 := hv
          clear hcall h5 hh5 s1 s2 s3 s4 H21 HR21 HV HBD c0 c1
          generalize D.flush = D5 at *
          go_wp2_with fail
          refine (vimage_any HO5.out).mono ?_
          rintro e w61 ⟨rfl, rfl⟩
          go_wp2_with fail
          refine (vrecords_any HO5.out (by rw [HBD5.out.2.2.2.2]; omega)).mono ?_
          rintro e w62 ⟨v62, rfl, hr62, hb62⟩
          rw [HBD5.out.2.2.2.2] at hr62
          obtain ⟨a62, c62, rfl⟩ := hr62.shape
          have HR62 := Lib.hid hr62
          have HB62 := Lib.hid hb62
          clear hr62 hb62
          go_wp2_with fail
          refine (same_any w62 _ _ _ _ HR62.out.arg (HR5.out.arg.below HB62.out) (by unfold maxLen; omega) (by unfold maxLen; omega)).mono ?_
          rintro e w63 ⟨rfl, hb63⟩
          rw [decide_eq_true rfl]
          have HB63 := Lib.hid (HB62.out.trans (hb63.mono HB62.out.size))
          have HO6 := Lib.hid (HO5.out.below HB63.out)
          clear hb63
          go_wp2_with fail
          refine (vroom_any HO6.out (by have := HBD5.out.1; omega) (by have := HBD5.out.2.1; omega)).mono ?_
          rintro e w64 ⟨rfl, hb64⟩
          have HB64 := Lib.hid (HB63.out.trans (hb64.mono HB63.out.size))
          have HO7 := Lib.hid (HO6.out.below hb64)
          clear hb64
          go_wp2_with fail
          refine (vover_any HO7.out).mono ?_
          rintro e w65 ⟨rfl, rfl⟩
          rw [hv5]
          go_wp2_with fail
          exact ⟨⟨i + 1, D5, v, all.length, all, rw_, by go_num, hlt, rfl, by first | rfl | (congr 1; omega), HR5.out.below HB64.out, HO7.out, HV5.out, hv5, hl5, by omega, by omega, by omega, by omega⟩, by simp [intOf]; omega⟩
        · by_cases q3 : o.kind.toNat % 4 = 3
          · have hkz : (o.kind.toNat : Int) % 4 = 3 := by omega
            obtain ⟨v', D', e1, e2, e3, e4, e5⟩ := HV.out.renew_on hv hl (by omega) o.b
            rw [hs2] at e1 e5
            have hcall := vrenew_any o.b H21.out HBD.out.2.2.2.1 (by omega) (by rw [hl]; decide) (by omega) HBD.out.2.2.1 (by omega)
            rw [e1] at hcall
            clear q2 q3
            by_cases hb0 : o.b = ⟨#[]⟩
            · have n3 : (o.b.toList == []) = true := (empty_iff _).2 hb0
              have hF : fitsErr (m : Int) 1 o.b.size = 4 := by rw [hb0]; rfl
              clear hb0
              go_wp2_with fail
              rcases e5 with ⟨_, q1, q3⟩ | ⟨q, _⟩
              rotate_left
              · rw [hF] at q; cases q
              rw [hF, q1, q3] at hcall
              refine hcall.mono ?_
              rintro e w5 ⟨rfl, hh5, rw5, h5⟩
              have HO5 := Lib.hid (show OwnV w w5 _ g D vb rw5 v from h5)
              have HR5 := Lib.hid (HR21.out.kept (fun k q => hh5.block k q))
              have HV5 := Lib.hid HV.out
              have HBD5 := Lib.hid HBD.out
              have hl5 := hl
              have hv5 := hv
              have c1' := cell_later h5.bel cw1
              clear hcall h5 hh5 H21 HR21 HV HBD c0 c1 e1 e2 e3 e4 q1 q3
              go_wp2_with fail
              refine (vimage_any HO5.out).mono ?_
              rintro e w61 ⟨rfl, rfl⟩
              go_wp2_with fail
              refine (vrecords_any HO5.out (by rw [HBD5.out.2.2.2.2]; omega)).mono ?_
              rintro e w62 ⟨v62, rfl, hr62, hb62⟩
              rw [HBD5.out.2.2.2.2] at hr62
              obtain ⟨a62, c62, rfl⟩ := hr62.shape
              have HR62 := Lib.hid hr62
              have HB62 := Lib.hid hb62
              clear hr62 hb62
              go_wp2_with fail
              refine (same_any w62 _ _ _ _ HR62.out.arg (HR5.out.arg.below HB62.out) (by unfold maxLen; omega) (by unfold maxLen; omega)).mono ?_
              rintro e w63 ⟨rfl, hb63⟩
              rw [decide_eq_true rfl]
              have HB63 := Lib.hid (HB62.out.trans (hb63.mono HB62.out.size))
              have HO6 := Lib.hid (HO5.out.below HB63.out)
              clear hb63
              go_wp2_with fail
              refine (vroom_any HO6.out (by have := HBD5.out.1; omega) (by have := HBD5.out.2.1; omega)).mono ?_
              rintro e w64 ⟨rfl, hb64⟩
              have HB64 := Lib.hid (HB63.out.trans (hb64.mono HB63.out.size))
              have HO7 := Lib.hid (HO6.out.below hb64)
              clear hb64
              go_wp2_with fail
              refine (vover_any HO7.out).mono ?_
              rintro e w65 ⟨rfl, rfl⟩
              rw [hv5]
              go_wp2_with fail
              exact ⟨⟨i + 1, D, v, m0, all, rw5, by go_num, hlt, rfl, by first | rfl | (congr 1; omega), HR5.out.below HB64.out, HO7.out, HV5.out, hv5, hl5, by omega, by omega, by omega, by omega⟩, by simp [intOf]; omega⟩
            have n3 : (o.b.toList == []) = false := by rw [Bool.eq_false_iff, ne_eq, empty_iff]; exact hb0
            have hbz : o.b.size ≠ 0 := fun e => hb0 (by
              have : o.b.data.size = 0 := e
              cases hx : o.b with | mk d => rw [hx] at this; simp at this; rw [this])
            clear hb0
            by_cases hb1 : (m : Int) - 1 < kf
            · have n4 : decide ((m : Int) - 1 < kf) = true := decide_eq_true hb1
              have hF : fitsErr (m : Int) 1 o.b.size = 11 := by unfold fitsErr; rw [if_neg (by omega), HKF.out, if_pos hb1]
              go_wp2_with fail
              rcases e5 with ⟨_, q1, q3⟩ | ⟨q, _⟩
              rotate_left
              · rw [hF] at q; cases q
              rw [hF, q1, q3] at hcall
              refine hcall.mono ?_
              rintro e w5 ⟨rfl, hh5, rw5, h5⟩
              have HO5 := Lib.hid (show OwnV w w5 _ g D vb rw5 v from h5)
              have HR5 := Lib.hid (HR21.out.kept (fun k q => hh5.block k q))
              have HV5 := Lib.hid HV.out
              have HBD5 := Lib.hid HBD.out
              have hl5 := hl
              have hv5 := hv
              have c1' := cell_later h5.bel cw1
              clear hcall h5 hh5 H21 HR21 HV HBD c0 c1 e1 e2 e3 e4 q1 q3
              go_wp2_with fail
              refine (vimage_any HO5.out).mono ?_
              rintro e w61 ⟨rfl, rfl⟩
              go_wp2_with fail
              refine (vrecords_any HO5.out (by rw [HBD5.out.2.2.2.2]; omega)).mono ?_
              rintro e w62 ⟨v62, rfl, hr62, hb62⟩
              rw [HBD5.out.2.2.2.2] at hr62
              obtain ⟨a62, c62, rfl⟩ := hr62.shape
              have HR62 := Lib.hid hr62
              have HB62 := Lib.hid hb62
              clear hr62 hb62
              go_wp2_with fail
              refine (same_any w62 _ _ _ _ HR62.out.arg (HR5.out.arg.below HB62.out) (by unfold maxLen; omega) (by unfold maxLen; omega)).mono ?_
              rintro e w63 ⟨rfl, hb63⟩
              rw [decide_eq_true rfl]
              have HB63 := Lib.hid (HB62.out.trans (hb63.mono HB62.out.size))
              have HO6 := Lib.hid (HO5.out.below HB63.out)
              clear hb63
              go_wp2_with fail
              refine (vroom_any HO6.out (by have := HBD5.out.1; omega) (by have := HBD5.out.2.1; omega)).mono ?_
              rintro e w64 ⟨rfl, hb64⟩
              have HB64 := Lib.hid (HB63.out.trans (hb64.mono HB63.out.size))
              have HO7 := Lib.hid (HO6.out.below hb64)
              clear hb64
              go_wp2_with fail
              refine (vover_any HO7.out).mono ?_
              rintro e w65 ⟨rfl, rfl⟩
              rw [hv5]
              go_wp2_with fail
              exact ⟨⟨i + 1, D, v, m0, all, rw5, by go_num, hlt, rfl, by first | rfl | (congr 1; omega), HR5.out.below HB64.out, HO7.out, HV5.out, hv5, hl5, by omega, by omega, by omega, by omega⟩, by simp [intOf]; omega⟩
            have n4 : decide ((m : Int) - 1 < kf) = false := decide_eq_false hb1
            have hF : fitsErr (m : Int) 1 o.b.size = 0 := by unfold fitsErr; rw [if_neg (by omega), HKF.out, if_neg hb1]
            rcases e5 with ⟨q, _⟩ | ⟨_, f1', f2', f3, f4, f5, f6⟩
            · rw [hF] at q; exact absurd rfl q
            rw [hF] at hcall
            have hs5 : v'.s = m := f5
            rw [HKF.out] at f4
            go_wp2_with fail
            refine hcall.mono ?_
            rintro e w5 ⟨rfl, hh5, rw5, h5⟩
            have HO5 := Lib.hid (OwnV.sub (R' := ownB (.slice none 0 0)) (show OwnV w w5 _ g D' vb rw5 v' from h5) (fun k q => by cases q))
            have HR5 := Lib.hid (Row.nil EStr w5 w.heap.size)
            have HV5 := Lib.hid f1'
            have HBD5 := Lib.hid (f1'.bounds e4)
            have hl5 := e2
            have hv5 := e4
            have hn5 : ([] : List ByteArray).length = 0 := rfl
            have c1' := cell_later h5.bel cw1
            have hbi : v'.img.size ≤ 500 := by rw [f2']; omega
            have hbq : D'.queue.length = 0 := by rw [f6]; rfl
            have c1'' := c1'
            clear hcall h5 hh5 H21 HR21 HV HBD c0 c1 e1 e3 f1' f6 hs1
            go_wp2_with fail
            refine (vimage_any HO5.out).mono ?_
            rintro e w61 ⟨rfl, rfl⟩
            go_wp2_with fail
            refine (vrecords_any HO5.out (by rw [HBD5.out.2.2.2.2]; omega)).mono ?_
            rintro e w62 ⟨v62, rfl, hr62, hb62⟩
            rw [HBD5.out.2.2.2.2] at hr62
            obtain ⟨a62, c62, rfl⟩ := hr62.shape
            have HR62 := Lib.hid hr62
            have HB62 := Lib.hid hb62
            clear hr62 hb62
            go_wp2_with fail
            refine (same_any w62 _ _ _ _ HR62.out.arg (HR5.out.arg.below HB62.out) (by unfold maxLen; omega) (by unfold maxLen; omega)).mono ?_
            rintro e w63 ⟨rfl, hb63⟩
            rw [decide_eq_true rfl]
            have HB63 := Lib.hid (HB62.out.trans (hb63.mono HB62.out.size))
            have HO6 := Lib.hid (HO5.out.below HB63.out)
            clear hb63
            go_wp2_with fail
            refine (vroom_any HO6.out (by have := HBD5.out.1; omega) (by have := HBD5.out.2.1; omega)).mono ?_
            rintro e w64 ⟨rfl, hb64⟩
            have HB64 := Lib.hid (HB63.out.trans (hb64.mono HB63.out.size))
            have HO7 := Lib.hid (HO6.out.below hb64)
            clear hb64
            rw [show v'.s - v'.at_ = (m : Int) - 1 - kf from by omega]
            go_wp2_with fail
            refine (vover_any HO7.out).mono ?_
            rintro e w65 ⟨rfl, rfl⟩
            rw [hv5]
            go_wp2_with fail
            exact ⟨⟨i + 1, D', v', 0, [], rw5, by go_num, hlt, by rw [f2'], by first | rfl | (congr 1; omega), HR5.out.below HB64.out, HO7.out, HV5.out, hv5, hl5, by omega, by omega, by omega, by omega⟩, by simp [intOf]; omega⟩
          · have hkz2 : ¬ (o.kind.toNat : Int) % 4 = 2 := by omega
            have hkz3 : ¬ (o.kind.toNat : Int) % 4 = 3 := by omega
            obtain ⟨v', D', e1, e2, e3, e4, e5', e6, e7, e5⟩ := HV.out.append_on hv hl o.b
            rw [hs1] at e1 e5
            have hcall := vappend_any o.b H21.out HBD.out.2.2.2.1 (by omega) (by rw [hl]; decide) (by omega) HBD.out.1 HBD.out.2.1 (by rw [HBD.out.2.2.2.2]; omega)
            rw [e1] at hcall
            clear q2 q3
            by_cases hb0 : o.b = ⟨#[]⟩
            · have n3 : (o.b.toList == []) = true := (empty_iff _).2 hb0
              have hF : fitsErr (m : Int) v.at_ o.b.size = 4 := by rw [hb0]; rfl
              clear hb0
              go_wp2_with fail
              rcases e5 with ⟨_, q1, q3⟩ | ⟨q, _⟩
              rotate_left
              · rw [hF] at q; cases q
              rw [hF, q1, q3] at hcall
              refine hcall.mono ?_
              rintro e w5 ⟨rfl, hh5, rw5, h5⟩
              have HO5 := Lib.hid (show OwnV w w5 _ g D vb rw5 v from h5)
              have HR5 := Lib.hid (HR21.out.kept (fun k q => hh5.block k q))
              have HV5 := Lib.hid HV.out
              have HBD5 := Lib.hid HBD.out
              have hl5 := hl
              have hv5 := hv
              have c1' := cell_later h5.bel cw1
              clear hcall h5 hh5 H21 HR21 HV HBD c0 c1 e1 e2 e3 e4 q1 q3
              go_wp2_with fail
              refine (vimage_any HO5.out).mono ?_
              rintro e w61 ⟨rfl, rfl⟩
              go_wp2_with fail
              refine (vrecords_any HO5.out (by rw [HBD5.out.2.2.2.2]; omega)).mono ?_
              rintro e w62 ⟨v62, rfl, hr62, hb62⟩
              rw [HBD5.out.2.2.2.2] at hr62
              obtain ⟨a62, c62, rfl⟩ := hr62.shape
              have HR62 := Lib.hid hr62
              have HB62 := Lib.hid hb62
              clear hr62 hb62
              go_wp2_with fail
              refine (same_any w62 _ _ _ _ HR62.out.arg (HR5.out.arg.below HB62.out) (by unfold maxLen; omega) (by unfold maxLen; omega)).mono ?_
              rintro e w63 ⟨rfl, hb63⟩
              rw [decide_eq_true rfl]
              have HB63 := Lib.hid (HB62.out.trans (hb63.mono HB62.out.size))
              have HO6 := Lib.hid (HO5.out.below HB63.out)
              clear hb63
              go_wp2_with fail
              refine (vroom_any HO6.out (by have := HBD5.out.1; omega) (by have := HBD5.out.2.1; omega)).mono ?_
              rintro e w64 ⟨rfl, hb64⟩
              have HB64 := Lib.hid (HB63.out.trans (hb64.mono HB63.out.size))
              have HO7 := Lib.hid (HO6.out.below hb64)
              clear hb64
              go_wp2_with fail
              refine (vover_any HO7.out).mono ?_
              rintro e w65 ⟨rfl, rfl⟩
              rw [hv5]
              go_wp2_with fail
              exact ⟨⟨i + 1, D, v, m0, all, rw5, by go_num, hlt, rfl, by first | rfl | (congr 1; omega), HR5.out.below HB64.out, HO7.out, HV5.out, hv5, hl5, by omega, by omega, by omega, by omega⟩, by simp [intOf]; omega⟩
            have n3 : (o.b.toList == []) = false := by rw [Bool.eq_false_iff, ne_eq, empty_iff]; exact hb0
            have hbz : o.b.size ≠ 0 := fun e => hb0 (by
              have : o.b.data.size = 0 := e
              cases hx : o.b with | mk d => rw [hx] at this; simp at this; rw [this])
            clear hb0
            by_cases hb1 : (m : Int) - v.at_ < kf
            · have n4 : decide ((m : Int) - v.at_ < kf) = true := decide_eq_true hb1
              have hF : fitsErr (m : Int) v.at_ o.b.size = 11 := by unfold fitsErr; rw [if_neg (by omega), HKF.out, if_pos hb1]
              go_wp2_with fail
              rcases e5 with ⟨_, q1, q3⟩ | ⟨q, _⟩
              rotate_left
              · rw [hF] at q; cases q
              rw [hF, q1, q3] at hcall
              refine hcall.mono ?_
              rintro e w5 ⟨rfl, hh5, rw5, h5⟩
              have HO5 := Lib.hid (show OwnV w w5 _ g D vb rw5 v from h5)
              have HR5 := Lib.hid (HR21.out.kept (fun k q => hh5.block k q))
              have HV5 := Lib.hid HV.out
              have HBD5 := Lib.hid HBD.out
              have hl5 := hl
              have hv5 := hv
              have c1' := cell_later h5.bel cw1
              clear hcall h5 hh5 H21 HR21 HV HBD c0 c1 e1 e2 e3 e4 q1 q3
              go_wp2_with fail
              refine (vimage_any HO5.out).mono ?_
              rintro e w61 ⟨rfl, rfl⟩
              go_wp2_with fail
              refine (vrecords_any HO5.out (by rw [HBD5.out.2.2.2.2]; omega)).mono ?_
              rintro e w62 ⟨v62, rfl, hr62, hb62⟩
              rw [HBD5.out.2.2.2.2] at hr62
              obtain ⟨a62, c62, rfl⟩ := hr62.shape
              have HR62 := Lib.hid hr62
              have HB62 := Lib.hid hb62
              clear hr62 hb62
              go_wp2_with fail
              refine (same_any w62 _ _ _ _ HR62.out.arg (HR5.out.arg.below HB62.out) (by unfold maxLen; omega) (by unfold maxLen; omega)).mono ?_
              rintro e w63 ⟨rfl, hb63⟩
              rw [decide_eq_true rfl]
              have HB63 := Lib.hid (HB62.out.trans (hb63.mono HB62.out.size))
              have HO6 := Lib.hid (HO5.out.below HB63.out)
              clear hb63
              go_wp2_with fail
              refine (vroom_any HO6.out (by have := HBD5.out.1; omega) (by have := HBD5.out.2.1; omega)).mono ?_
              rintro e w64 ⟨rfl, hb64⟩
              have HB64 := Lib.hid (HB63.out.trans (hb64.mono HB63.out.size))
              have HO7 := Lib.hid (HO6.out.below hb64)
              clear hb64
              go_wp2_with fail
              refine (vover_any HO7.out).mono ?_
              rintro e w65 ⟨rfl, rfl⟩
              rw [hv5]
              go_wp2_with fail
              exact ⟨⟨i + 1, D, v, m0, all, rw5, by go_num, hlt, rfl, by first | rfl | (congr 1; omega), HR5.out.below HB64.out, HO7.out, HV5.out, hv5, hl5, by omega, by omega, by omega, by omega⟩, by simp [intOf]; omega⟩
            have n4 : decide ((m : Int) - v.at_ < kf) = false := decide_eq_false hb1
            have hF : fitsErr (m : Int) v.at_ o.b.size = 0 := by unfold fitsErr; rw [if_neg (by omega), HKF.out, if_neg hb1]
            rcases e5 with ⟨q, _⟩ | ⟨_, f1', f4⟩
            · rw [hF] at q; exact absurd rfl q
            rw [hF] at hcall
            have hs5 : v'.s = m := by rw [e7, hs1]
            rw [HKF.out] at f4
            go_wp2_with fail
            refine hcall.mono ?_
            rintro e w5 ⟨rfl, hh5, rw5, h5⟩
            have HO51 := Lib.hid (show OwnV w w5 _ g D' vb rw5 v' from h5)
            have HR51 := Lib.hid (HR21.out.kept (fun k q => hh5.block k q))
            have HV5 := Lib.hid f1'
            have HBD5 := Lib.hid (f1'.bounds e4)
            have hl5 := e2
            have hv5 := e4
            have c1' := cell_later h5.bel cw1
            have hB0 : w.heap.size ≤ w5.heap.size := h5.bel.size
            have hbat := HBD.out.1
            have hbi : v'.img.size ≤ 500 := by rw [e5']; exact his
            clear hcall h5 hh5 H21 HR21 HV HBD c0 c1 e1 f1' FEW LEAVE HFB HP HNF hpos
            have c1f : ∀ ob : Obj, (w5.alloc ob).drew.cell? ⟨gl, off + i * 6 + 1, none⟩ = some (.string o.b) := fun ob => by rw [(show Below w5.heap.size w5 (w5.alloc ob).drew from (by repeat (first | exact Below.refl _ _ | assumption | (refine Below.drew ?_) | (refine below_drewN ?_ _) | (refine Below.alloc ?_ (by simp; done) _) | (refine Below.alloc ?_ (by simp; omega) _)))).cell (World.block_lt_of_cell? _ _ c1')]; exact c1'
            have MARK : True := trivial
            have c1d : w5.drew.cell? ⟨gl, off + i * 6 + 1, none⟩ = some (.string o.b) := c1'
            go_upto_region 31 with fail
            go_cut [15] from 1000 (fun s15 wx => Row EStr wx w.heap.size s15 (all ++ [o.b]) ∧ OwnV w wx (ownB s15) g D' vb rw5 v' ∧ Below w5.heap.size w5 wx)
            case first =>
              go_region_law (first
                | (have _hh := HMA
                   refine step_app EStr.laid rfl _ _ 49 49 Try.underlying49 Try.underlying49 rfl _ all rfl (HR6.out.alloc _) _ [o.b] rfl ?e1 ?e2 ?e3 (Nat.le_trans hB0 (Nat.le_trans HB6.out.size (by simp))) ?_
                   case e1 => exact Arg.blk (m_alloc _ _ _ rfl) [o.b] rfl 1
                   case e2 => (show (all.length + 1) * 16 ≤ _; omega)
                   case e3 => (show all.length + 1 ≤ maxLen; unfold maxLen; omega)
                   intro v7 w7 hr7 hv7 k7
                   have hb7 : Below w5.heap.size w5 w7 := (show Below w5.heap.size w5 _ from HB6.out.trans ((show Below w6.heap.size w6 _ from (by repeat (first | exact Below.refl _ _ | assumption | (refine Below.drew ?_) | (refine below_drewN ?_ _) | (refine Below.alloc ?_ (by simp; done) _) | (refine Below.alloc ?_ (by simp; omega) _)))).mono HB6.out.size)).trans (k7.toBelow (B := w5.heap.size) (Nat.le_trans HB6.out.size (by simp)) (fun i q => HG6.out i q.symm))
                   have HG7 := Lib.hid (show ∀ k, v7.ownBlock = some k → w5.heap.size ≤ k from fun k q => (hv7 k q).elim (fun e => HG6.out k e) (fun e => Nat.le_trans (Nat.le_trans HB6.out.size (by simp)) (Nat.le_of_eq e)))
                   have HO7 := Lib.hid (HO51.out.turn (R' := ownB v7) (keepBelow hb7) (fun k q => ⟨Or.inr (HG7.out k q), hr7.lt q⟩))
                   obtain ⟨a7, c7, rfl⟩ := hr7.shape
                   have HR7 := Lib.hid hr7
                   have HB7 := Lib.hid hb7
                   clear hr7 hv7 k7 hb7 _hh)
                | (have _hh := HMB
                   refine step_app EStr.laid rfl _ _ 49 49 Try.underlying49 Try.underlying49 rfl _ all rfl (HR6.out) _ [o.b] rfl ?e1 ?e2 ?e3 (Nat.le_trans hB0 (Nat.le_trans HB6.out.size (by first | exact Nat.le_refl _ | simp))) ?_
                   case e1 => exact HX6.out
                   case e2 => (show (all.length + 1) * 16 ≤ _; omega)
                   case e3 => (show all.length + 1 ≤ maxLen; unfold maxLen; omega)
                   intro v7 w7 hr7 hv7 k7
                   have hb7 : Below w5.heap.size w5 w7 := (show Below w5.heap.size w5 _ from HB6.out.trans ((show Below w6.heap.size w6 _ from (by repeat (first | exact Below.refl _ _ | assumption | (refine Below.drew ?_) | (refine below_drewN ?_ _) | (refine Below.alloc ?_ (by simp; done) _) | (refine Below.alloc ?_ (by simp; omega) _)))).mono HB6.out.size)).trans (k7.toBelow (B := w5.heap.size) (Nat.le_trans HB6.out.size (by first | exact Nat.le_refl _ | simp)) (fun i q => HG6.out i q.symm))
                   have HG7 := Lib.hid (show ∀ k, v7.ownBlock = some k → w5.heap.size ≤ k from fun k q => (hv7 k q).elim (fun e => HG6.out k e) (fun e => Nat.le_trans (Nat.le_trans HB6.out.size (by first | exact Nat.le_refl _ | simp)) (Nat.le_of_eq e)))
                   have HO7 := Lib.hid (HO51.out.turn (R' := ownB v7) (keepBelow hb7) (fun k q => ⟨Or.inr (HG7.out k q), hr7.lt q⟩))
                   obtain ⟨a7, c7, rfl⟩ := hr7.shape
                   have HR7 := Lib.hid hr7
                   have HB7 := Lib.hid hb7
                   clear hr7 hv7 k7 hb7 _hh)
                | (have _hh := MARK
                   refine step_app EStr.laid rfl _ _ 49 49 Try.underlying49 Try.underlying49 rfl _ [] rfl (Row.new w5 w.heap.size #[] [] hB0 rfl (by decide)) _ all rfl ?e1 ?e2 ?e3 (Nat.le_trans hB0 (by simp <;> omega)) ?_
                   case e1 => exact HR51.out.arg.below (by repeat (first | exact Below.refl _ _ | assumption | (refine Below.drew ?_) | (refine below_drewN ?_ _) | (refine Below.alloc ?_ (by simp; done) _) | (refine Below.alloc ?_ (by simp; omega) _)))
                   case e2 => (show (0 + all.length) * 16 ≤ _; omega)
                   case e3 => (show 0 + all.length ≤ maxLen; unfold maxLen; omega)
                   intro v6 w6 hr6 hv6 k6
                   have hb6 : Below w5.heap.size w5 w6 := (show Below w5.heap.size w5 _ from (by repeat (first | exact Below.refl _ _ | assumption | (refine Below.drew ?_) | (refine below_drewN ?_ _) | (refine Below.alloc ?_ (by simp; done) _) | (refine Below.alloc ?_ (by simp; omega) _)))).trans (k6.toBelow (B := w5.heap.size) (by simp <;> omega) (fun i q => by first | exact Nat.le_of_eq (Option.some.inj q).symm | exact Nat.le_trans (by simp <;> omega) (Nat.le_of_eq (Option.some.inj q).symm)))
                   have c1e : w6.cell? ⟨gl, off + i * 6 + 1, none⟩ = some (.string o.b) := by rw [hb6.cell (World.block_lt_of_cell? _ _ c1')]; exact c1'
                   obtain ⟨a6, c6, rfl⟩ := hr6.shape
                   rw [List.nil_append] at hr6 ⊢
                   have HR6 := Lib.hid hr6
                   have HB6 := Lib.hid hb6
                   have HMA : True := trivial
                   have HG6 := Lib.hid (show ∀ k, (Value.slice a6 all.length c6).ownBlock = some k → w5.heap.size ≤ k from fun k q => (hv6 k q).elim (fun e => by first | exact Nat.le_of_eq (Option.some.inj e) | exact Nat.le_trans (by simp <;> omega) (Nat.le_of_eq (Option.some.inj e))) (fun e => Nat.le_trans (by simp <;> omega) (Nat.le_of_eq e)))
                   clear hr6 hv6 k6 hb6 MARK _hh)
                | (have _hh := MARK
                   have hx : Arg EStr ((w5.alloc (.cells #[] 9)).alloc (.cells #[.string o.b] 9)).drew (.slice (some ⟨w5.heap.size + 1, 0, none⟩) 1 1) [o.b] := Arg.blk (m_alloc (w5.alloc (.cells #[] 9)) _ _ (by simp)) [o.b] rfl 1
                   refine step_app EStr.laid rfl _ _ 49 49 Try.underlying49 Try.underlying49 rfl _ [] rfl ((Row.new w5 w.heap.size #[] [] hB0 rfl (by decide)).alloc (.cells #[.string o.b] 9)) _ all rfl ?e1 ?e2 ?e3 (Nat.le_trans hB0 (by simp <;> omega)) ?_
                   case e1 => exact HR51.out.arg.below (by repeat (first | exact Below.refl _ _ | assumption | (refine Below.drew ?_) | (refine below_drewN ?_ _) | (refine Below.alloc ?_ (by simp; done) _) | (refine Below.alloc ?_ (by simp; omega) _)))
                   case e2 => (show (0 + all.length) * 16 ≤ _; omega)
                   case e3 => (show 0 + all.length ≤ maxLen; unfold maxLen; omega)
                   intro v6 w6 hr6 hv6 k6
                   have hb6 : Below w5.heap.size w5 w6 := (show Below w5.heap.size w5 _ from (by repeat (first | exact Below.refl _ _ | assumption | (refine Below.drew ?_) | (refine below_drewN ?_ _) | (refine Below.alloc ?_ (by simp; done) _) | (refine Below.alloc ?_ (by simp; omega) _)))).trans (k6.toBelow (B := w5.heap.size) (by simp <;> omega) (fun i q => by first | exact Nat.le_of_eq (Option.some.inj q).symm | exact Nat.le_trans (by simp <;> omega) (Nat.le_of_eq (Option.some.inj q).symm)))
                   have c1e : w6.cell? ⟨gl, off + i * 6 + 1, none⟩ = some (.string o.b) := by rw [hb6.cell (World.block_lt_of_cell? _ _ c1')]; exact c1'
                   obtain ⟨a6, c6, rfl⟩ := hr6.shape
                   rw [List.nil_append] at hr6 ⊢
                   have HR6 := Lib.hid hr6
                   have HB6 := Lib.hid hb6
                   have HX6 := Lib.hid (hx.keep k6 (fun i q e => by (have a := Option.some.inj q; have b := Option.some.inj e; simp at a b; omega)))
                   have HMB : True := trivial
                   clear hx
                   have HG6 := Lib.hid (show ∀ k, (Value.slice a6 all.length c6).ownBlock = some k → w5.heap.size ≤ k from fun k q => (hv6 k q).elim (fun e => by first | exact Nat.le_of_eq (Option.some.inj e) | exact Nat.le_trans (by simp <;> omega) (Nat.le_of_eq (Option.some.inj e))) (fun e => Nat.le_trans (by simp <;> omega) (Nat.le_of_eq e)))
                   clear hr6 hv6 k6 hb6 MARK _hh)
                | (have _hh := MARK
                   have hrow : Row EStr ((w5.alloc (.cells #[.string o.b] 9)).alloc (.cells #[] 9)) w.heap.size (.slice (some ⟨w5.heap.size + 1, 0, none⟩) 0 0) [] := by (have := Row.new (E := EStr) (w5.alloc (.cells #[.string o.b] 9)) w.heap.size #[] [] (Nat.le_trans hB0 (by simp)) rfl (by decide); rw [World.size_alloc] at this; exact this)
                   have hx : Arg EStr ((w5.alloc (.cells #[.string o.b] 9)).alloc (.cells #[] 9)).drew (.slice (some ⟨w5.heap.size, 0, none⟩) 1 1) [o.b] := Arg.blk (m_old _ (m_alloc w5 _ _ rfl)) [o.b] rfl 1
                   refine step_app EStr.laid rfl _ _ 49 49 Try.underlying49 Try.underlying49 rfl _ [] rfl hrow _ all rfl ?e1 ?e2 ?e3 (Nat.le_trans hB0 (by simp <;> omega)) ?_
                   case e1 => exact HR51.out.arg.below (by repeat (first | exact Below.refl _ _ | assumption | (refine Below.drew ?_) | (refine below_drewN ?_ _) | (refine Below.alloc ?_ (by simp; done) _) | (refine Below.alloc ?_ (by simp; omega) _)))
                   case e2 => (show (0 + all.length) * 16 ≤ _; omega)
                   case e3 => (show 0 + all.length ≤ maxLen; unfold maxLen; omega)
                   intro v6 w6 hr6 hv6 k6
                   have hb6 : Below w5.heap.size w5 w6 := (show Below w5.heap.size w5 _ from (by repeat (first | exact Below.refl _ _ | assumption | (refine Below.drew ?_) | (refine below_drewN ?_ _) | (refine Below.alloc ?_ (by simp; done) _) | (refine Below.alloc ?_ (by simp; omega) _)))).trans (k6.toBelow (B := w5.heap.size) (by simp <;> omega) (fun i q => by first | exact Nat.le_of_eq (Option.some.inj q).symm | exact Nat.le_trans (by simp <;> omega) (Nat.le_of_eq (Option.some.inj q).symm)))
                   have c1e : w6.cell? ⟨gl, off + i * 6 + 1, none⟩ = some (.string o.b) := by rw [hb6.cell (World.block_lt_of_cell? _ _ c1')]; exact c1'
                   obtain ⟨a6, c6, rfl⟩ := hr6.shape
                   rw [List.nil_append] at hr6 ⊢
                   have HR6 := Lib.hid hr6
                   have HB6 := Lib.hid hb6
                   have HX6 := Lib.hid (hx.keep k6 (fun i q e => by (have a := Option.some.inj q; have b := Option.some.inj e; simp at a b; omega)))
                   have HMB : True := trivial
                   clear hx
                   have HG6 := Lib.hid (show ∀ k, (Value.slice a6 all.length c6).ownBlock = some k → w5.heap.size ≤ k from fun k q => (hv6 k q).elim (fun e => by first | exact Nat.le_of_eq (Option.some.inj e) | exact Nat.le_trans (by simp <;> omega) (Nat.le_of_eq (Option.some.inj e))) (fun e => Nat.le_trans (by simp <;> omega) (Nat.le_of_eq e)))
                   clear hr6 hv6 k6 hb6 MARK _hh)
                )
              all_goals
                go_wp2
                go_meet
                case rel =>
                  have hln : (all ++ [o.b]).length = all.length + 1 := by simp
                  have z1 := HR7.out
                  have z2 := HO7.out
                  rw [hln] at z1 z2
                  exact ⟨z1, z2, HB7.out⟩
            case rest =>
              rename World => w7
              rename Value => s15
              obtain ⟨hr7, ho7, hb7⟩ := hcut
              obtain ⟨all5, ha5⟩ : ∃ a5, all ++ [o.b] = a5 := ⟨_, rfl⟩
              have hb5 : all5.length ≤ i + 1 := by rw [← ha5]; simp; omega
              rw [ha5] at hr7 HV5 HBD5
              obtain ⟨a7, c7, rfl⟩ := hr7.shape
              have HO5 := Lib.hid ho7
              have HR5 := Lib.hid hr7
              have c1'' := cell_later ho7.bel cw1
              clear ha5
              clear hr7 ho7 hb7 c1f c1d c1' HO51 HR51
              go_wp2_with fail
              refine (vimage_any HO5.out).mono ?_
              rintro e w61 ⟨rfl, rfl⟩
              go_wp2_with fail
              refine (vrecords_any HO5.out (by rw [HBD5.out.2.2.2.2]; omega)).mono ?_
              rintro e w62 ⟨v62, rfl, hr62, hb62⟩
              rw [HBD5.out.2.2.2.2] at hr62
              obtain ⟨a62, c62, rfl⟩ := hr62.shape
              have HR62 := Lib.hid hr62
              have HB62 := Lib.hid hb62
              clear hr62 hb62
              go_wp2_with fail
              refine (same_any w62 _ _ _ _ HR62.out.arg (HR5.out.arg.below HB62.out) (by unfold maxLen; omega) (by unfold maxLen; omega)).mono ?_
              rintro e w63 ⟨rfl, hb63⟩
              rw [decide_eq_true rfl]
              have HB63 := Lib.hid (HB62.out.trans (hb63.mono HB62.out.size))
              have HO6 := Lib.hid (HO5.out.below HB63.out)
              clear hb63
              go_wp2_with fail
              refine (vroom_any HO6.out (by have := HBD5.out.1; omega) (by have := HBD5.out.2.1; omega)).mono ?_
              rintro e w64 ⟨rfl, hb64⟩
              have HB64 := Lib.hid (HB63.out.trans (hb64.mono HB63.out.size))
              have HO7 := Lib.hid (HO6.out.below hb64)
              clear hb64
              rw [show v'.s - v'.at_ = (m : Int) - v.at_ - kf from by omega]
              go_wp2_with fail
              refine (vover_any HO7.out).mono ?_
              rintro e w65 ⟨rfl, rfl⟩
              rw [hv5]
              go_wp2_with fail
              exact ⟨⟨i + 1, D', v', m0, all5, rw5, by go_num, hlt, by rw [e5'], by first | rfl | (congr 1; omega), HR5.out.below HB64.out, HO7.out, HV5.out, hv5, hl5, by omega, by omega, by omega, by omega⟩, by simp [intOf]; omega⟩
      · have ei : i = l.length := by omega
        subst ei
        have i2 : ¬ ((l.length : Int) < l.length) := by omega
        obtain ⟨D', o1, o2, o3, o4, o5⟩ := HV.out.reopen hv hl
        have O1 := Lib.hid o1
        have O5 := Lib.hid o5
        clear o1 o2 o5 FEW LEAVE HFB HP HNF hpos
        go_wp2_with fail
        refine (vopen_ok HO.out.dev' HBD.out.2.2.2.1 (by omega) (by rw [hl]; decide) O5.out O1.out).mono ?_
        rintro e w61 ⟨vb6, rv6, rfl, h6, hh6⟩
        have H6 := Lib.hid h6
        have HR6 := Lib.hid (HR.out.kept (fun k q => hh6.block k q))
        clear h6 hh6 HO HR
        go_wp2_with fail
        refine (vimage_any H6.out).mono ?_
        rintro e w62 ⟨rfl, rfl⟩
        go_wp2_with fail
        refine (vrecords_any H6.out (by rw [HBD.out.2.2.2.2]; omega)).mono ?_
        rintro e w63 ⟨v63, rfl, hr63, hb63⟩
        rw [HBD.out.2.2.2.2] at hr63
        obtain ⟨a63, c63, rfl⟩ := hr63.shape
        have HR63 := Lib.hid hr63
        have HB63 := Lib.hid hb63
        clear hr63 hb63
        go_wp2_with fail
        refine (same_any w63 _ _ _ _ HR63.out.arg (HR6.out.arg.below HB63.out) (by unfold maxLen; omega) (by unfold maxLen; omega)).mono ?_
        rintro e w64 ⟨rfl, hb64⟩
        rw [decide_eq_true rfl]
        have H7 := Lib.hid (H6.out.below (HB63.out.trans (hb64.mono HB63.out.size)))
        clear hb64
        go_wp2_with fail
        refine (vroom_any H7.out (by have := HBD.out.1; omega) (by have := HBD.out.2.1; omega)).mono ?_
        rintro e w65 ⟨rfl, hb65⟩
        have H8 := Lib.hid (H7.out.below hb65)
        clear hb65
        go_wp2_with fail
        go_ret
        exact ⟨rfl, H8.out.bel⟩
end Go.Proofs.Ytncbojocglcieaa
