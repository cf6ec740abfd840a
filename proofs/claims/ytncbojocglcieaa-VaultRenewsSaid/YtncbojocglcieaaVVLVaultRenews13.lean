/- Lemmas for VaultRenews, texts W2; no condition beyond those that each states. -/
import Derived.Test.YtncbojocglcieaaVV12
/- vault's law: VaultRenews. -/
namespace Go.Proofs.Ytncbojocglcieaa
open Go.RowKit
set_option linter.unusedSimpArgs false
set_option linter.unusedVariables false
theorem Vlt.bounds {N m0 : Nat} {D : DevD} {v : VaultD} {all : List ByteArray} {fr : Option ByteArray} (h : Vlt N D v m0 all fr) (hv : v.over = false) :
    (0 ≤ v.at_ ∧ v.at_ ≤ 4096) ∧ (0 ≤ v.s ∧ v.s ≤ 4096) ∧ (0 ≤ v.s2 ∧ v.s2 ≤ 4096) ∧ D.size ≤ 4096 ∧ v.recs = all := by
  obtain ⟨_, l2, l3, _⟩ := h.live hv
  have hn := h.geo.n
  have hf := h.fits
  have hs := h.geo.s
  have hz := h.size
  rw [l3, hs.1, hs.2]
  refine ⟨⟨by omega, by omega⟩, ⟨by omega, by omega⟩, ⟨by omega, by omega⟩, by omega, l2⟩
/-- Append where power stays. -/
theorem Vlt.append_on {N m0 : Nat} {D : DevD} {v : VaultD} {all : List ByteArray} {fr : Option ByteArray} (h : Vlt N D v m0 all fr) (hv : v.over = false) (hl : D.left = -1) (r : ByteArray) :
    ∃ v' D', v.append D r = (v', D', fitsErr v.s v.at_ r.size) ∧ D'.left = -1 ∧ D'.queue.length ≤ D.queue.length + 1000 ∧ v'.over = false ∧ v'.img = v.img ∧ v'.ep = v.ep ∧ v'.s = v.s ∧
      ((fitsErr v.s v.at_ r.size ≠ 0 ∧ v' = v ∧ D' = D) ∨ (fitsErr v.s v.at_ r.size = 0 ∧ Vlt N D' v' m0 (all ++ [r]) none ∧ v'.at_ = v.at_ + nframes r.size)) := by
  have ha := h.append hv r
  obtain ⟨P, hP⟩ : ∃ P, v.append D r = P := ⟨_, rfl⟩
  obtain ⟨v', D', E⟩ := P
  rw [hP] at ha
  simp only at ha
  obtain ⟨a1, a2, a3⟩ := ha
  rcases a3 with ⟨rfl, b2, rfl, rfl⟩ | ⟨b1, b2, b3, b4, b5, b6, b7⟩
  · exact ⟨_, _, hP, hl, Nat.le_add_right _ _, hv, rfl, rfl, rfl, Or.inl ⟨b2, rfl, rfl⟩⟩
  · rcases b7 with ⟨rfl, c2, c3, c4⟩ | ⟨_, c2, _⟩
    · exact ⟨v', D', by rw [hP, b1], a1.2 hl, a2, c2, b4, b6, b5, Or.inr ⟨b1, b3, c4⟩⟩
    · exact absurd hl c2
/-- Renew where power stays. -/
theorem Vlt.renew_on {N m0 : Nat} {D : DevD} {v : VaultD} {all : List ByteArray} {fr : Option ByteArray} (h : Vlt N D v m0 all fr) (hv : v.over = false) (hl : D.left = -1) (hep : v.ep < 9223372036854775808) (r : ByteArray) :
    ∃ v' D', v.renew D r = (v', D', fitsErr v.s2 1 r.size) ∧ D'.left = -1 ∧ D'.queue.length ≤ D.queue.length + 6000 ∧ v'.over = false ∧
      ((fitsErr v.s2 1 r.size ≠ 0 ∧ v' = v ∧ D' = D) ∨ (fitsErr v.s2 1 r.size = 0 ∧ Vlt N D' v' 0 [] none ∧ v'.img = r ∧ v'.ep = v.ep + 1 ∧ v'.at_ = 1 + (nframes r.size : Int) ∧ v'.s = v.s2 ∧ D'.queue = [])) := by
  have ha := h.renew hv hep r
  obtain ⟨P, hP⟩ : ∃ P, v.renew D r = P := ⟨_, rfl⟩
  obtain ⟨v', D', E⟩ := P
  rw [hP] at ha
  simp only at ha
  obtain ⟨a1, a2, a3⟩ := ha
  rcases a3 with ⟨rfl, b2, rfl, rfl⟩ | ⟨b1, b2, b3⟩
  · exact ⟨_, _, hP, hl, Nat.le_add_right _ _, hv, Or.inl ⟨b2, rfl, rfl⟩⟩
  · rcases b3 with ⟨rfl, rfl, c2, c3⟩ | ⟨_, c2, _⟩
    · exact ⟨v.renewed r, D', by rw [hP, b1], a1.2 hl, a2, hv, Or.inr ⟨b1, c2, rfl, rfl, rfl, rfl, c3⟩⟩
    · exact absurd hl c2
theorem empty_iff (x : ByteArray) : (x.toList == []) = true ↔ x = ⟨#[]⟩ := by
  rw [beq_iff_eq, ByteArray.toList_eq]
  constructor
  · intro h
    cases x with | mk d => simp at h; rw [h]
  · intro h; rw [h]
def oldB : ByteArray := ⟨#[111, 108, 100]⟩
def behindB : ByteArray := ⟨#[98, 101, 104, 105, 110, 100]⟩
def RenewsRel (w0 : World) (g vb m : Nat) (iv : Value) (wr : World) : Prop :=
  ∃ (i : Nat) (D : DevD) (v : VaultD) (all : List ByteArray) (rv : Value), iv = .int .i64 i ∧ i ≤ m ∧ OwnV w0 wr (fun _ => False) g D vb rv v ∧ Vlt 80 D v 0 all none ∧ v.over = false ∧ D.left = -1 ∧ D.queue.length ≤ 1000 * i ∧ v.ep = 1 ∧ all.length ≤ i
set_option maxRecDepth 100000 in
set_option maxHeartbeats 4000000 in
theorem vaultrenews_any (img : ByteArray) (v2 v3 : Value) (l : List OpV) (kept : List Int) (w : World) (hi : img.size ≤ maxLen) (h2 : Arg EOpV w v2 l) (h3 : Arg EInt w v3 kept) (m2 : l.length ≤ maxLen) (m3 : kept.length ≤ maxLen) (hok : ∀ o ∈ l, o.Ok w) :
    Calls Try.prog 14 #[.string img, v2, v3] w fun e w' => e = .returned (.bool true) ∧ Below w.heap.size w w' := by
  obtain ⟨a2, c2, rfl⟩ := h2.shape
  obtain ⟨a3, c3, rfl⟩ := h3.shape
  have A2 := Lib.hid h2
  have A3 := Lib.hid h3
  have OK := Lib.hid hok
  have hfew := fun w' (hb : Below w.heap.size w w') => few08_any w' _ l 20 (h2.below hb) m2 (fun o ho => ⟨(hok o ho).1, (hok o ho).2.2.1⟩)
  have FEW := Lib.hid hfew
  have M3 := Lib.hid m3
  unfold maxLen at m2 m3 hi
  clear h2 h3 hok hfew
  go_enter Try.func14, Try.ntmps14
  go_wp2_with fail
  refine (awake08_any _).mono ?_
  rintro e w1 ⟨rfl, hb1⟩
  have HB1 := Lib.hid hb1
  clear hb1
  go_wp2_with fail
  refine (FEW.out w1 HB1.out).mono ?_
  rintro e w2 ⟨fv, rfl, hfp, hb2⟩
  obtain ⟨fb, rfl, hfb⟩ := hfp
  have HB2 := Lib.hid (HB1.out.trans (hb2.mono HB1.out.size))
  have HFB := Lib.hid hfb
  clear hb2 hfb
  have leave : ∀ w2, Below w.heap.size w w2 → ∀ K : Ending → World → Prop, (∀ w3, Below w.heap.size w w3 → K (.returned (.bool true)) w3) → Calls Try.prog 41 #[] w2 K := by
    intro w2 hb K hK
    refine (awake08_any _).mono ?_
    rintro e w3 ⟨rfl, hb3⟩
    exact hK w3 (hb.trans (hb3.mono hb.size))
  have LEAVE := Lib.hid leave
  clear leave
  cases fb
  · go_wp2_with fail
    refine LEAVE.out _ HB2.out _ ?_
    intro w3 hb3
    go_wp2_with fail
    go_ret
    exact ⟨rfl, hb3⟩
  · obtain ⟨hl20, hob⟩ := HFB.out rfl
    have hl20' : l.length ≤ 20 := by omega
    have HOB := Lib.hid hob
    clear hob
    by_cases hi3 : img.size ≤ 300
    rotate_left
    · have n1 : decide ((300 : Int) < img.size) = true := decide_eq_true (by omega)
      go_wp2_with fail
      refine LEAVE.out _ HB2.out _ ?_
      intro w3 hb3
      go_wp2_with fail
      go_ret
      exact ⟨rfl, hb3⟩
    have n1 : decide ((300 : Int) < img.size) = false := decide_eq_false (by omega)
    by_cases hk60 : kept.length ≤ 60
    rotate_left
    · have n2 : decide ((60 : Int) < kept.length) = true := decide_eq_true (by omega)
      go_wp2_with fail
      refine LEAVE.out _ HB2.out _ ?_
      intro w3 hb3
      go_wp2_with fail
      go_ret
      exact ⟨rfl, hb3⟩
    have n2 : decide ((60 : Int) < kept.length) = false := decide_eq_false (by omega)
    by_cases hi0 : img = ⟨#[]⟩
    · have n3 : (img.toList == (⟨#[]⟩ : ByteArray).toList) = true := (str_eq_iff _ _).2 hi0
      go_wp2_with fail
      refine LEAVE.out _ HB2.out _ ?_
      intro w3 hb3
      go_wp2_with fail
      go_ret
      exact ⟨rfl, hb3⟩
    have n3 : (img.toList == (⟨#[]⟩ : ByteArray).toList) = false := by rw [Bool.eq_false_iff, ne_eq, str_eq_iff]; exact hi0
    have n5 : (img.toList == []) = false := by rw [Bool.eq_false_iff, ne_eq, empty_iff]; exact hi0
    have hi1 : img.size ≠ 0 := fun e => hi0 (by
      have : img.data.size = 0 := e
      cases img with | mk d => simp at this; rw [this])
    have hrok : Rok img := ⟨hi1, by omega⟩
    have HROK := Lib.hid hrok
    have hfi : fitsErr 40 1 img.size = 0 := by unfold fitsErr nframes; rw [if_neg (by omega), if_neg (by omega)]
    have HFI := Lib.hid hfi
    obtain ⟨D1, D2, x, k1, k2, k3, k4, k5, k6, k7, k8, k9, k10, k11, k12, k13, k14, k15, k16⟩ := format_open (N := 80) (D := ⟨80, [], [], [], -1⟩) ⟨by decide, by decide⟩ rfl rfl (newdev_good 80) oldB ⟨by decide, by decide⟩ (by decide)
    have K1 := Lib.hid k1
    have K2 := Lib.hid k2
    have K14 := Lib.hid k14
    have K3 := Lib.hid k3
    clear k1 k2 k14 k3 k4 k5 k8 k10 k9 hrok hfi
    go_wp2_with fail
    refine (ownr_new (R := fun _ => False) w w2 80 HB2.out (fun k q => q.elim)).mono ?_
    rintro e w3 ⟨g, rfl, h3, hh3⟩
    have H3 := Lib.hid (show OwnR w w3 (fun _ => False) g ⟨80, [], [], [], -1⟩ from h3)
    clear h3 hh3
    go_wp2_with fail
    refine (begun08_any oldB H3.out (by decide) (by decide) (by decide) (by decide) K1.out K2.out (by rw [k12]; decide) (by rw [k13]; decide) (by rw [k11]; decide) K14.out).mono ?_
    rintro e w4 ⟨vb, rv, rfl, h4, hh4⟩
    have H4 := Lib.hid h4
    have hx0 := k6
    have hq2 : D2.queue.length = 0 := by rw [k16]; rfl
    clear h4 hh4
    go_wp2_with fail
    go_loopw [9] (fun iv wr => RenewsRel w g vb l.length iv wr) (fun iv _ => l.length - (intOf iv).toNat)
    case atStart => exact ⟨0, D2, x, [], rv, rfl, Nat.zero_le _, H4.out, K3.out, k6, k15, by omega, k7, Nat.le_refl _⟩
    case round =>
      obtain ⟨i, D, v, all, rv, rfl, hi, hO, hV, hv, hl, hq, hep, hal⟩ := hrel
      have HO := Lib.hid hO
      have HV := Lib.hid hV
      have hbd := hV.bounds hv
      have HBD := Lib.hid hbd
      clear hO hV hbd K1 K2 K3 K14 H3 H4
      by_cases hlt : i < l.length
      · have i1 : (i : Int) < l.length := by omega
        obtain ⟨o, ho⟩ : ∃ o, l[i]? = some o := ⟨_, List.getElem?_eq_getElem hlt⟩
        obtain ⟨hob, _⟩ := OK.out o (List.mem_of_getElem? ho)
        unfold maxLen at hob
        obtain ⟨gl, off, hgl, _, _, cw, _⟩ := vop_cells A2.out i o ho
        subst hgl
        have c1 := cell_later HO.out.bel cw
        clear cw ho
        go_wp2_with fail
        obtain ⟨v', D', e1, e2, e3, e4, e5, e6, e7, e8⟩ := HV.out.append_on hv hl o.b
        have hcall := vappend_any o.b HO.out HBD.out.2.2.2.1 (by omega) (by rw [hl]; decide) (by omega) HBD.out.1 HBD.out.2.1 (by rw [HBD.out.2.2.2.2]; omega)
        rw [e1] at hcall
        refine hcall.mono ?_
        rintro e w5 ⟨rfl, hh5, rv', h5⟩
        have h5 : OwnV w w5 (fun _ => False) g D' vb rv' v' := h5
        have E8 := Lib.hid e8
        have H5 := Lib.hid h5
        clear hcall h5 hh5 e1 e8
        go_wp2_with fail
        refine ⟨?_, by simp [intOf]; omega⟩
        rcases E8.out with ⟨_, q1, q2⟩ | ⟨_, q1, _⟩
        · exact ⟨i + 1, D', v', all, rv', by go_num, hlt, H5.out, by rw [q1, q2]; exact HV.out, e4, e2, by omega, by omega, by omega⟩
        · exact ⟨i + 1, D', v', all ++ [o.b], rv', by go_num, hlt, H5.out, q1, e4, e2, by omega, by omega, by simp; omega⟩
      · have ei : i = l.length := by omega
        subst ei
        have i2 : ¬ ((l.length : Int) < l.length) := by omega
        go_wp2_with fail
        obtain ⟨v', D', e1, e2, e3, e4, e5⟩ := HV.out.renew_on hv hl (by omega) img
        have hs2 : v.s2 = 40 := HV.out.geo.s.2
        rw [hs2, HFI.out] at e1 e5
        have hcall := vrenew_any img HO.out HBD.out.2.2.2.1 (by omega) (by rw [hl]; decide) (by omega) HBD.out.2.2.1 (by omega)
        rw [e1] at hcall
        rcases e5 with ⟨q, _⟩ | ⟨_, f1, f2, f3, f4, f5, f6⟩
        · exact absurd rfl q
        refine hcall.mono ?_
        rintro e w5 ⟨rfl, hh5, rv', h5⟩
        have H5 := Lib.hid (show OwnV w w5 (fun _ => False) g D' vb rv' v' from h5)
        have F1 := Lib.hid f1
        have hbd := f1.bounds e4
        have HBD2 := Lib.hid hbd
        clear hcall h5 hh5 e1 f1 hbd HV HBD HO
        go_wp2_with fail
        refine (ownr_pending H5.out.own).mono ?_
        rintro e w6 ⟨rfl, rfl⟩
        rw [f6]
        have hb : (⟨#[98, 101, 104, 105, 110, 100]⟩ : ByteArray) = behindB := rfl
        go_wp2_with fail
        obtain ⟨v5, D5, p1, p2, p3, p4, p5, p6, p7, p8⟩ := F1.out.append_on e4 e2 behindB
        have hcall := vappend_any behindB H5.out HBD2.out.2.2.2.1 (by omega) (by rw [e2]; decide) (by decide) HBD2.out.1 HBD2.out.2.1 (by rw [HBD2.out.2.2.2.2]; simp)
        rw [p1] at hcall
        refine hcall.mono ?_
        rintro e w7 ⟨rfl, hh7, rv7, h7⟩
        have H7 := Lib.hid (show OwnV w w7 (fun _ => False) g D5 vb rv7 v5 from h7)
        obtain ⟨all5, hv5, hal5⟩ : ∃ all5, Vlt 80 D5 v5 0 all5 none ∧ all5.length ≤ 1 := by
          rcases p8 with ⟨_, q1, q2⟩ | ⟨_, q1, _⟩
          · rw [q1, q2]; exact ⟨[], F1.out, by simp⟩
          · exact ⟨_, q1, by simp⟩
        have HV5 := Lib.hid hv5
        clear hcall h7 hh7 p1 p8 hv5 H5 F1 HBD2
        go_wp2_with fail
        refine (ownr_restart H7.out.own _ kept A3.out M3.out (by omega)).mono ?_
        rintro e w8 ⟨rfl, h8, hh8⟩
        have H8 := Lib.hid h8
        clear h8 hh8
        obtain ⟨D9, v9, s1, s2, s3, s4, s5, s6, s7, s8⟩ := HV5.out.crash_open kept
        have S1 := Lib.hid s1
        have S7 := Lib.hid s7
        have hs9 : v9.img = img ∧ v9.recs.length ≤ 1 := by
          rcases s8 with ⟨r1, r2, j, r3, r4, r5, r6⟩ | ⟨y, r1, _⟩
          · exact ⟨by rw [r1, p5, f2], by rw [r5, List.length_take]; omega⟩
          · cases r1
        have hz : (D5.restart kept).size ≤ 4096 := by show D5.size ≤ 4096; rw [HV5.out.size]; decide
        clear s1 s7 s8
        go_wp2_with fail
        refine (vopen_ok H8.out hz (by show (0 : Nat) ≤ _; omega) (by show (-1 : Int) ≤ _; decide) S7.out S1.out).mono ?_
        rintro e w9 ⟨vb9, rv9, rfl, h9, hh9⟩
        have H9 := Lib.hid h9
        clear h9 hh9
        go_wp2_with fail
        refine (vimage_any H9.out).mono ?_
        rintro e w10 ⟨rfl, rfl⟩
        rw [hs9.1]
        have n6 : (img.toList == img.toList) = true := by simp
        go_wp2_with fail
        refine (vrecords_any H9.out (by omega)).mono ?_
        rintro e w11 ⟨v11, rfl, hr11, hb11⟩
        have hlr : v9.recs.length ≤ 1 := hs9.2
        obtain ⟨a11, c11, rfl⟩ := hr11.shape
        have HB11 := Lib.hid (H9.out.bel.trans (hb11.mono H9.out.bel.size))
        have n7 : (v9.recs.length : Int) ≤ 1 := by omega
        have n8 : decide ((v9.recs.length : Int) ≤ 1) = true := decide_eq_true n7
        have n9 : decide (v9.recs.length ≤ 1) = true := decide_eq_true hlr
        clear hr11 hb11
        go_wp2_with fail
        go_ret
        exact ⟨rfl, HB11.out⟩
end Go.Proofs.Ytncbojocglcieaa
