/- Lemmas for VaultOpens, texts W2 W5 P24 W6; no condition beyond those that each states. -/
import Derived.Test.YtncbojocglcieaaVV12
import Derived.Deep.QuietTactic
import Derived.BigQuiet
import Derived.Outline
/- vault's law: VaultRenews. -/
namespace Go.Proofs.Ytncbojocglcieaa
open Go.RowKit
set_option linter.unusedSimpArgs false
set_option linter.unusedVariables false
theorem Vlt.bounds {N m0 : Nat} {D : DevD} {v : VaultD} {all : List ByteArray} {fr : Option ByteArray} (h : Vlt N D v m0 all fr) (hv : v.over = false) :
    (0 ≤ v.at_ ∧ v.at_ ≤ 4096) ∧ (0 ≤ v.s ∧ v.s ≤ 4096) ∧ (0 ≤ v.s2 ∧ v.s2 ≤ 4096) ∧ D.size ≤ 4096 ∧ v.recs = all := by
  obtain ⟨_, l2, l3, _⟩ := h.live hv
  have hn := h.geo.n
  have hf := h.fits
  have hs := h.geo.s
  have hz := h.size
  rw [l3, hs.1, hs.2]
  refine ⟨⟨by omega, by omega⟩, ⟨by omega, by omega⟩, ⟨by omega, by omega⟩, by omega, l2⟩
/-- Append where power stays. -/
theorem Vlt.append_on {N m0 : Nat} {D : DevD} {v : VaultD} {all : List ByteArray} {fr : Option ByteArray} (h : Vlt N D v m0 all fr) (hv : v.over = false) (hl : D.left = -1) (r : ByteArray) :
    ∃ v' D', v.append D r = (v', D', fitsErr v.s v.at_ r.size) ∧ D'.left = -1 ∧ D'.queue.length ≤ D.queue.length + 1000 ∧ v'.over = false ∧ v'.img = v.img ∧ v'.ep = v.ep ∧ v'.s = v.s ∧
      ((fitsErr v.s v.at_ r.size ≠ 0 ∧ v' = v ∧ D' = D) ∨ (fitsErr v.s v.at_ r.size = 0 ∧ Vlt N D' v' m0 (all ++ [r]) none ∧ v'.at_ = v.at_ + nframes r.size)) := by
  have ha := h.append hv r
  obtain ⟨P, hP⟩ : ∃ P, v.append D r = P := ⟨_, rfl⟩
  obtain ⟨v', D', E⟩ := P
  rw [hP] at ha
  simp only at ha
  obtain ⟨a1, a2, a3⟩ := ha
  rcases a3 with ⟨rfl, b2, rfl, rfl⟩ | ⟨b1, b2, b3, b4, b5, b6, b7⟩
  · exact ⟨_, _, hP, hl, Nat.le_add_right _ _, hv, rfl, rfl, rfl, Or.inl ⟨b2, rfl, rfl⟩⟩
  · rcases b7 with ⟨rfl, c2, c3, c4⟩ | ⟨_, c2, _⟩
    · exact ⟨v', D', by rw [hP, b1], a1.2 hl, a2, c2, b4, b6, b5, Or.inr ⟨b1, b3, c4⟩⟩
    · exact absurd hl c2
/-- Renew where power stays. -/
theorem Vlt.renew_on {N m0 : Nat} {D : DevD} {v : VaultD} {all : List ByteArray} {fr : Option ByteArray} (h : Vlt N D v m0 all fr) (hv : v.over = false) (hl : D.left = -1) (hep : v.ep < 9223372036854775808) (r : ByteArray) :
    ∃ v' D', v.renew D r = (v', D', fitsErr v.s2 1 r.size) ∧ D'.left = -1 ∧ D'.queue.length ≤ D.queue.length + 6000 ∧ v'.over = false ∧
      ((fitsErr v.s2 1 r.size ≠ 0 ∧ v' = v ∧ D' = D) ∨ (fitsErr v.s2 1 r.size = 0 ∧ Vlt N D' v' 0 [] none ∧ v'.img = r ∧ v'.ep = v.ep + 1 ∧ v'.at_ = 1 + (nframes r.size : Int) ∧ v'.s = v.s2 ∧ D'.queue = [])) := by
  have ha := h.renew hv hep r
  obtain ⟨P, hP⟩ : ∃ P, v.renew D r = P := ⟨_, rfl⟩
  obtain ⟨v', D', E⟩ := P
  rw [hP] at ha
  simp only at ha
  obtain ⟨a1, a2, a3⟩ := ha
  rcases a3 with ⟨rfl, b2, rfl, rfl⟩ | ⟨b1, b2, b3⟩
  · exact ⟨_, _, hP, hl, Nat.le_add_right _ _, hv, Or.inl ⟨b2, rfl, rfl⟩⟩
  · rcases b3 with ⟨rfl, rfl, c2, c3⟩ | ⟨_, c2, _⟩
    · exact ⟨v.renewed r, D', by rw [hP, b1], a1.2 hl, a2, hv, Or.inr ⟨b1, c2, rfl, rfl, rfl, rfl, c3⟩⟩
    · exact absurd hl c2
theorem empty_iff (x : ByteArray) : (x.toList == []) = true ↔ x = ⟨#[]⟩ := by
  rw [beq_iff_eq, ByteArray.toList_eq]
  constructor
  · intro h
    cases x with | mk d => simp at h; rw [h]
  · intro h; rw [h]
def oldB : ByteArray := ⟨#[111, 108, 100]⟩
def behindB : ByteArray := ⟨#[98, 101, 104, 105, 110, 100]⟩
def RenewsRel (w0 : World) (g vb m : Nat) (iv : Value) (wr : World) : Prop :=
  ∃ (i : Nat) (D : DevD) (v : VaultD) (all : List ByteArray) (rv : Value), iv = .int .i64 i ∧ i ≤ m ∧ OwnV w0 wr (fun _ => False) g D vb rv v ∧ Vlt 80 D v 0 all none ∧ v.over = false ∧ D.left = -1 ∧ D.queue.length ≤ 1000 * i ∧ v.ep = 1 ∧ all.length ≤ i
set_option maxRecDepth 100000 in
set_option maxHeartbeats 4000000 in
theorem vaultrenews_any (img : ByteArray) (v2 v3 : Value) (l : List OpV) (kept : List Int) (w : World) (hi : img.size ≤ maxLen) (h2 : Arg EOpV w v2 l) (h3 : Arg EInt w v3 kept) (m2 : l.length ≤ maxLen) (m3 : kept.length ≤ maxLen) (hok : ∀ o ∈ l, o.Ok w) :
    Calls Try.prog 14 #[.string img, v2, v3] w fun e w' => e = .returned (.bool true) ∧ Below w.heap.size w w' := by
  obtain ⟨a2, c2, rfl⟩ := h2.shape
  obtain ⟨a3, c3, rfl⟩ := h3.shape
  have A2 := Lib.hid h2
  have A3 := Lib.hid h3
  have OK := Lib.hid hok
  have hfew := fun w' (hb : Below w.heap.size w w') => few08_any w' _ l 20 (h2.below hb) m2 (fun o ho => ⟨(hok o ho).1, (hok o ho).2.2.1⟩)
  have FEW := Lib.hid hfew
  have M3 := Lib.hid m3
  unfold maxLen at m2 m3 hi
  clear h2 h3 hok hfew
  go_enter Try.func14, Try.ntmps14
  go_wp2_with fail
  refine (awake08_any _).mono ?_
  rintro e w1 ⟨rfl, hb1⟩
  have HB1 := Lib.hid hb1
  clear hb1
  go_wp2_with fail
  refine (FEW.out w1 HB1.out).mono ?_
  rintro e w2 ⟨fv, rfl, hfp, hb2⟩
  obtain ⟨fb, rfl, hfb⟩ := hfp
  have HB2 := Lib.hid (HB1.out.trans (hb2.mono HB1.out.size))
  have HFB := Lib.hid hfb
  clear hb2 hfb
  have leave : ∀ w2, Below w.heap.size w w2 → ∀ K : Ending → World → Prop, (∀ w3, Below w.heap.size w w3 → K (.returned (.bool true)) w3) → Calls Try.prog 41 #[] w2 K := by
    intro w2 hb K hK
    refine (awake08_any _).mono ?_
    rintro e w3 ⟨rfl, hb3⟩
    exact hK w3 (hb.trans (hb3.mono hb.size))
  have LEAVE := Lib.hid leave
  clear leave
  cases fb
  · go_wp2_with fail
    refine LEAVE.out _ HB2.out _ ?_
    intro w3 hb3
    go_wp2_with fail
    go_ret
    exact ⟨rfl, hb3⟩
  · obtain ⟨hl20, hob⟩ := HFB.out rfl
    have hl20' : l.length ≤ 20 := by omega
    have HOB := Lib.hid hob
    clear hob
    by_cases hi3 : img.size ≤ 300
    rotate_left
    · have n1 : decide ((300 : Int) < img.size) = true := decide_eq_true (by omega)
      go_wp2_with fail
      refine LEAVE.out _ HB2.out _ ?_
      intro w3 hb3
      go_wp2_with fail
      go_ret
      exact ⟨rfl, hb3⟩
    have n1 : decide ((300 : Int) < img.size) = false := decide_eq_false (by omega)
    by_cases hk60 : kept.length ≤ 60
    rotate_left
    · have n2 : decide ((60 : Int) < kept.length) = true := decide_eq_true (by omega)
      go_wp2_with fail
      refine LEAVE.out _ HB2.out _ ?_
      intro w3 hb3
      go_wp2_with fail
      go_ret
      exact ⟨rfl, hb3⟩
    have n2 : decide ((60 : Int) < kept.length) = false := decide_eq_false (by omega)
    by_cases hi0 : img = ⟨#[]⟩
    · have n3 : (img.toList == (⟨#[]⟩ : ByteArray).toList) = true := (str_eq_iff _ _).2 hi0
      go_wp2_with fail
      refine LEAVE.out _ HB2.out _ ?_
      intro w3 hb3
      go_wp2_with fail
      go_ret
      exact ⟨rfl, hb3⟩
    have n3 : (img.toList == (⟨#[]⟩ : ByteArray).toList) = false := by rw [Bool.eq_false_iff, ne_eq, str_eq_iff]; exact hi0
    have n5 : (img.toList == []) = false := by rw [Bool.eq_false_iff, ne_eq, empty_iff]; exact hi0
    have hi1 : img.size ≠ 0 := fun e => hi0 (by
      have : img.data.size = 0 := e
      cases img with | mk d => simp at this; rw [this])
    have hrok : Rok img := ⟨hi1, by omega⟩
    have HROK := Lib.hid hrok
    have hfi : fitsErr 40 1 img.size = 0 := by unfold fitsErr nframes; rw [if_neg (by omega), if_neg (by omega)]
    have HFI := Lib.hid hfi
    obtain ⟨D1, D2, x, k1, k2, k3, k4, k5, k6, k7, k8, k9, k10, k11, k12, k13, k14, k15, k16⟩ := format_open (N := 80) (D := ⟨80, [], [], [], -1⟩) ⟨by decide, by decide⟩ rfl rfl (newdev_good 80) oldB ⟨by decide, by decide⟩ (by decide)
    have K1 := Lib.hid k1
    have K2 := Lib.hid k2
    have K14 := Lib.hid k14
    have K3 := Lib.hid k3
    clear k1 k2 k14 k3 k4 k5 k8 k10 k9 hrok hfi
    go_wp2_with fail
    refine (ownr_new (R := fun _ => False) w w2 80 HB2.out (fun k q => q.elim)).mono ?_
    rintro e w3 ⟨g, rfl, h3, hh3⟩
    have H3 := Lib.hid (show OwnR w w3 (fun _ => False) g ⟨80, [], [], [], -1⟩ from h3)
    clear h3 hh3
    go_wp2_with fail
    refine (begun08_any oldB H3.out (by decide) (by decide) (by decide) (by decide) K1.out K2.out (by rw [k12]; decide) (by rw [k13]; decide) (by rw [k11]; decide) K14.out).mono ?_
    rintro e w4 ⟨vb, rv, rfl, h4, hh4⟩
    have H4 := Lib.hid h4
    have hx0 := k6
    have hq2 : D2.queue.length = 0 := by rw [k16]; rfl
    clear h4 hh4
    go_wp2_with fail
    go_loopw [9] (fun iv wr => RenewsRel w g vb l.length iv wr) (fun iv _ => l.length - (intOf iv).toNat)
    case atStart => exact ⟨0, D2, x, [], rv, rfl, Nat.zero_le _, H4.out, K3.out, k6, k15, by omega, k7, Nat.le_refl _⟩
    case round =>
      obtain ⟨i, D, v, all, rv, rfl, hi, hO, hV, hv, hl, hq, hep, hal⟩ := hrel
      have HO := Lib.hid hO
      have HV := Lib.hid hV
      have hbd := hV.bounds hv
      have HBD := Lib.hid hbd
      clear hO hV hbd K1 K2 K3 K14 H3 H4
      by_cases hlt : i < l.length
      · have i1 : (i : Int) < l.length := by omega
        obtain ⟨o, ho⟩ : ∃ o, l[i]? = some o := ⟨_, List.getElem?_eq_getElem hlt⟩
        obtain ⟨hob, _⟩ := OK.out o (List.mem_of_getElem? ho)
        unfold maxLen at hob
        obtain ⟨gl, off, hgl, _, _, cw, _⟩ := vop_cells A2.out i o ho
        subst hgl
        have c1 := cell_later HO.out.bel cw
        clear cw ho
        go_wp2_with fail
        obtain ⟨v', D', e1, e2, e3, e4, e5, e6, e7, e8⟩ := HV.out.append_on hv hl o.b
        have hcall := vappend_any o.b HO.out HBD.out.2.2.2.1 (by omega) (by rw [hl]; decide) (by omega) HBD.out.1 HBD.out.2.1 (by rw [HBD.out.2.2.2.2]; omega)
        rw [e1] at hcall
        refine hcall.mono ?_
        rintro e w5 ⟨rfl, hh5, rv', h5⟩
        have h5 : OwnV w w5 (fun _ => False) g D' vb rv' v' := h5
        have E8 := Lib.hid e8
        have H5 := Lib.hid h5
        clear hcall h5 hh5 e1 e8
        go_wp2_with fail
        refine ⟨?_, by simp [intOf]; omega⟩
        rcases E8.out with ⟨_, q1, q2⟩ | ⟨_, q1, _⟩
        · exact ⟨i + 1, D', v', all, rv', by go_num, hlt, H5.out, by rw [q1, q2]; exact HV.out, e4, e2, by omega, by omega, by omega⟩
        · exact ⟨i + 1, D', v', all ++ [o.b], rv', by go_num, hlt, H5.out, q1, e4, e2, by omega, by omega, by simp; omega⟩
      · have ei : i = l.length := by omega
        subst ei
        have i2 : ¬ ((l.length : Int) < l.length) := by omega
        go_wp2_with fail
        obtain ⟨v', D', e1, e2, e3, e4, e5⟩ := HV.out.renew_on hv hl (by omega) img
        have hs2 : v.s2 = 40 := HV.out.geo.s.2
        rw [hs2, HFI.out] at e1 e5
        have hcall := vrenew_any img HO.out HBD.out.2.2.2.1 (by omega) (by rw [hl]; decide) (by omega) HBD.out.2.2.1 (by omega)
        rw [e1] at hcall
        rcases e5 with ⟨q, _⟩ | ⟨_, f1, f2, f3, f4, f5, f6⟩
        · exact absurd rfl q
        refine hcall.mono ?_
        rintro e w5 ⟨rfl, hh5, rv', h5⟩
        have H5 := Lib.hid (show OwnV w w5 (fun _ => False) g D' vb rv' v' from h5)
        have F1 := Lib.hid f1
        have hbd := f1.bounds e4
        have HBD2 := Lib.hid hbd
        clear hcall h5 hh5 e1 f1 hbd HV HBD HO
        go_wp2_with fail
        refine (ownr_pending H5.out.own).mono ?_
        rintro e w6 ⟨rfl, rfl⟩
        rw [f6]
        have hb : (⟨#[98, 101, 104, 105, 110, 100]⟩ : ByteArray) = behindB := rfl
        go_wp2_with fail
        obtain ⟨v5, D5, p1, p2, p3, p4, p5, p6, p7, p8⟩ := F1.out.append_on e4 e2 behindB
        have hcall := vappend_any behindB H5.out HBD2.out.2.2.2.1 (by omega) (by rw [e2]; decide) (by decide) HBD2.out.1 HBD2.out.2.1 (by rw [HBD2.out.2.2.2.2]; simp)
        rw [p1] at hcall
        refine hcall.mono ?_
        rintro e w7 ⟨rfl, hh7, rv7, h7⟩
        have H7 := Lib.hid (show OwnV w w7 (fun _ => False) g D5 vb rv7 v5 from h7)
        obtain ⟨all5, hv5, hal5⟩ : ∃ all5, Vlt 80 D5 v5 0 all5 none ∧ all5.length ≤ 1 := by
          rcases p8 with ⟨_, q1, q2⟩ | ⟨_, q1, _⟩
          · rw [q1, q2]; exact ⟨[], F1.out, by simp⟩
          · exact ⟨_, q1, by simp⟩
        have HV5 := Lib.hid hv5
        clear hcall h7 hh7 p1 p8 hv5 H5 F1 HBD2
        go_wp2_with fail
        refine (ownr_restart H7.out.own _ kept A3.out M3.out (by omega)).mono ?_
        rintro e w8 ⟨rfl, h8, hh8⟩
        have H8 := Lib.hid h8
        clear h8 hh8
        obtain ⟨D9, v9, s1, s2, s3, s4, s5, s6, s7, s8⟩ := HV5.out.crash_open kept
        have S1 := Lib.hid s1
        have S7 := Lib.hid s7
        have hs9 : v9.img = img ∧ v9.recs.length ≤ 1 := by
          rcases s8 with ⟨r1, r2, j, r3, r4, r5, r6⟩ | ⟨y, r1, _⟩
          · exact ⟨by rw [r1, p5, f2], by rw [r5, List.length_take]; omega⟩
          · cases r1
        have hz : (D5.restart kept).size ≤ 4096 := by show D5.size ≤ 4096; rw [HV5.out.size]; decide
        clear s1 s7 s8
        go_wp2_with fail
        refine (vopen_ok H8.out hz (by show (0 : Nat) ≤ _; omega) (by show (-1 : Int) ≤ _; decide) S7.out S1.out).mono ?_
        rintro e w9 ⟨vb9, rv9, rfl, h9, hh9⟩
        have H9 := Lib.hid h9
        clear h9 hh9
        go_wp2_with fail
        refine (vimage_any H9.out).mono ?_
        rintro e w10 ⟨rfl, rfl⟩
        rw [hs9.1]
        have n6 : (img.toList == img.toList) = true := by simp
        go_wp2_with fail
        refine (vrecords_any H9.out (by omega)).mono ?_
        rintro e w11 ⟨v11, rfl, hr11, hb11⟩
        have hlr : v9.recs.length ≤ 1 := hs9.2
        obtain ⟨a11, c11, rfl⟩ := hr11.shape
        have HB11 := Lib.hid (H9.out.bel.trans (hb11.mono H9.out.bel.size))
        have n7 : (v9.recs.length : Int) ≤ 1 := by omega
        have n8 : decide ((v9.recs.length : Int) ≤ 1) = true := decide_eq_true n7
        have n9 : decide (v9.recs.length ≤ 1) = true := decide_eq_true hlr
        clear hr11 hb11
        go_wp2_with fail
        go_ret
        exact ⟨rfl, HB11.out⟩
end Go.Proofs.Ytncbojocglcieaa

/- vault's reference: epoch. -/
namespace Go.Proofs.Ytncbojocglcieaa
open Go.RowKit
set_option linter.unusedSimpArgs false
set_option linter.unusedVariables false
set_option maxRecDepth 100000 in
set_option maxHeartbeats 1000000 in
theorem epoch08_any (s : ByteArray) (w : World) (h64 : s.size = 64) : Calls Try.prog 66 #[.string s] w fun e w' => e = .returned (.int .u64 (epoL s.data.toList)) ∧ Below w.heap.size w w' := by
  have hsl : s.data.toList.length = 64 := by rw [Array.length_toList]; exact h64
  have HSL := Lib.hid hsl
  clear hsl
  go_enter Try.func66, Try.ntmps66
  go_wp2_with fail
  go_loopw [3, 4] (fun nv iv wr => ∃ i : Nat, iv = .int .i64 i ∧ i ≤ 8 ∧ nv = .int .u64 (beN (s.data.toList.take i) : Nat) ∧ wr = w) (fun _ iv _ => 8 - (intOf iv).toNat)
  case atStart => exact ⟨0, rfl, Nat.zero_le _, rfl, rfl⟩
  case round =>
    obtain ⟨i, rfl, hi, rfl, rfl⟩ := hrel
    by_cases hlt : i < 8
    · have i1 : (i : Int) < 8 := by omega
      have hm := beN_lt (s.data.toList.take i)
      rw [List.length_take, HSL.out, Nat.min_eq_left (by omega)] at hm
      have hm2 : beN (s.data.toList.take i) < 72057594037927936 := Nat.lt_of_lt_of_le hm (by have : 256 ^ i ≤ 256 ^ 7 := Nat.pow_le_pow_right (by decide) (by omega); exact this)
      have hn := beN_take s.data.toList i (by rw [HSL.out]; omega)
      have HN := Lib.hid hn
      clear hn hm
      have i2 : (i : Int) < s.size := by omega
      have i3 : i < s.size := by omega
      have hg : s.data.toList.getD i 0 = s[i]'i3 := by
        rw [List.getD_eq_getElem?_getD, List.getElem?_eq_getElem (by rw [HSL.out]; omega)]; rfl
      have HG := Lib.hid hg
      clear hg
      generalize beN (s.data.toList.take i) = m at *
      have hc := (s[i]'i3).toNat_lt
      have hw : IntKind.u64.wrap ((m : Int) * 256 + IntKind.u64.wrap (((s[i]'i3).toNat : Nat) : Int)) = ((m * 256 + (s[i]'i3).toNat : Nat) : Int) := by
        rw [IntWalk.u64_in (((s[i]'i3).toNat : Nat) : Int) (by omega), IntWalk.u64_in _ (by omega)]; simp
      have HW := Lib.hid hw
      clear hw
      go_wp2_with fail
      exact ⟨⟨i + 1, by go_num, hlt, by rw [HN.out, HG.out, Int.natCast_add, Int.natCast_mul]; rfl, trivial⟩, by simp [intOf]; omega⟩
    · have ei : i = 8 := by omega
      subst ei
      have hmx := beN_lt (s.data.toList.take 8)
      rw [List.length_take, HSL.out] at hmx
      have hep : epoL s.data.toList = if hdrB (beN (s.data.toList.take 8)) = s then beN (s.data.toList.take 8) else 0 := by
        unfold epoL
        by_cases q : hdr (beN (s.data.toList.take 8)) = s.data.toList
        · rw [if_pos q, if_pos (by unfold hdrB; rw [q])]
        · rw [if_neg q, if_neg (fun e => q (congrArg (fun x : ByteArray => x.data.toList) e))]
      have HEP := Lib.hid hep
      have hh := fun w => head_any (beN (s.data.toList.take 8)) w hmx
      have ehd : (⟨(hdr (beN (s.data.toList.take 8))).toArray⟩ : ByteArray) = hdrB (beN (s.data.toList.take 8)) := rfl
      rw [ehd] at hh
      have HH := Lib.hid hh
      clear hep hh ehd
      generalize hdrB (beN (s.data.toList.take 8)) = X at *
      generalize beN (s.data.toList.take 8) = m at *
      go_wp2_with fail
      refine (HH.out wr).mono ?_
      rintro e w1 ⟨rfl, hb1⟩
      by_cases q : X = s
      · subst q
        go_wp2_with fail
        go_ret
        rw [HEP.out, if_pos trivial]
        exact ⟨rfl, hb1⟩
      · have n3 : (X.toList == s.toList) = false := by rw [Bool.eq_false_iff, ne_eq, str_eq_iff]; exact q
        go_wp2_with fail
        go_ret
        rw [HEP.out, if_neg q]
        exact ⟨rfl, hb1⟩
end Go.Proofs.Ytncbojocglcieaa

/- vault: a device of 40 sectors that is whole is opened. -/
namespace Go.Proofs.Ytncbojocglcieaa
open Go.RowKit
set_option linter.unusedSimpArgs false
set_option linter.unusedVariables false
/-- A head's epoch among sectors. -/
def ep08 (L : List ByteArray) (i : Nat) : Nat := epoL (L.getD i ⟨#[]⟩).data.toList
/-- The bank that is opened, of 40 sectors. -/
def bk08 (L : List ByteArray) : List ByteArray := if ep08 L 0 < ep08 L 20 then L.drop 20 else L.take 20
def scn08 (L : List ByteArray) : List (List UInt8) := (scanned ((bk08 L).drop 1)).1
def no08 (L : List ByteArray) : Prop := (ep08 L 0 = 0 ∧ ep08 L 20 = 0) ∨ scn08 L = []
theorem secs_take20 (D : DevD) : (D.secs 0 40).take 20 = D.secs 0 20 := by
  apply List.ext_getElem?
  intro i
  rw [List.getElem?_take]
  split
  · rename_i h; rw [secs_get D 0 40 i (by omega), secs_get D 0 20 i h]
  · rename_i h; rw [List.getElem?_eq_none (by rw [secs_length]; omega)]
theorem secs_drop20 (D : DevD) : (D.secs 0 40).drop 20 = D.secs 20 20 := by
  apply List.ext_getElem?
  intro i
  rw [List.getElem?_drop]
  by_cases h : i < 20
  · rw [secs_get D 0 40 (20 + i) (by omega), secs_get D 20 20 i h, show (0 : Int) + ((20 + i : Nat) : Int) = 20 + (i : Int) from by omega]
  · rw [List.getElem?_eq_none (by rw [secs_length]; omega), List.getElem?_eq_none (by rw [secs_length]; omega)]
theorem open40 {D : DevD} (hl : D.left = -1) (hs : D.size = 40) :
    (no08 (D.secs 0 40) → D.openV = (none, D, 2)) ∧
    (∀ x rs, scn08 (D.secs 0 40) = x :: rs → ¬ no08 (D.secs 0 40) → ∃ v D', D.openV = (some v, D', 0) ∧ v.img = bL x ∧ v.recs = rs.map bL ∧ D'.queue = []) := by
  have hmay : D.mayErr = 0 := by unfold DevD.mayErr; rw [if_neg (by rw [hl]; decide), if_neg (by omega)]
  have hh : ((D.size : Nat) : Int) / 2 = 20 := by rw [hs]; decide
  have e0 : ep08 (D.secs 0 40) 0 = D.epo 0 := by
    unfold ep08 DevD.epo; rw [List.getD_eq_getElem?_getD, secs_get D 0 40 0 (by omega)]; rfl
  have e20 : ep08 (D.secs 0 40) 20 = D.epo 20 := by
    unfold ep08 DevD.epo; rw [List.getD_eq_getElem?_getD, secs_get D 0 40 20 (by omega)]; rfl
  obtain ⟨F, hF⟩ : ∃ F, D.fst = F := ⟨_, rfl⟩
  have hfst : F.s = 20 ∧ (F.f = 0 ∨ F.f = 20) ∧ F.over = false ∧ D.secs F.f 20 = bk08 (D.secs 0 40) ∧ (F.ep = 0 ↔ (ep08 (D.secs 0 40) 0 = 0 ∧ ep08 (D.secs 0 40) 20 = 0)) := by
    rw [← hF]
    unfold DevD.fst bk08
    rw [hh, e0, e20, secs_take20, secs_drop20]
    split
    · rename_i q; exact ⟨rfl, Or.inr rfl, rfl, rfl, by simp only; omega⟩
    · rename_i q; exact ⟨rfl, Or.inl rfl, rfl, rfl, by simp only; omega⟩
  obtain ⟨f1, f2, f3, f4, f5⟩ := hfst
  have hon : D.on F.f F.s = true := by unfold DevD.on; rw [decide_eq_true_eq, hs, f1]; rcases f2 with q | q <;> rw [q] <;> decide
  have hsc : D.scn = (scn08 (D.secs 0 40), ((1 + (scanned ((bk08 (D.secs 0 40)).drop 1)).2 : Nat) : Int), 0) := by
    unfold DevD.scn DevD.scan
    rw [hF, if_neg (by rw [hl]; decide), if_neg (by rw [hon]; decide), f1]
    show ((scanned ((D.secs F.f 20).drop 1)).1, ((1 + (scanned ((D.secs F.f 20).drop 1)).2 : Nat) : Int), (0 : Int)) = _
    rw [f4]; rfl
  refine ⟨fun h => ?_, fun x rs hx h => ?_⟩
  · unfold DevD.openV
    rw [hmay, if_neg (by decide), hF, hsc, if_pos (by
      rcases h with h | h
      · exact Or.inl (f5.2 h)
      · exact Or.inr h)]
  · have hw : D.wip.2 = 0 := by
      unfold DevD.wip DevD.wipe
      rw [hF, if_neg (by rw [hl]; decide), if_neg (by rw [hon]; decide)]
      exact (wipes_ok _ _ _ hl).1
    have hwl : D.wip.1.left = -1 := by
      unfold DevD.wip DevD.wipe
      rw [hF, if_neg (by rw [hl]; decide), if_neg (by rw [hon]; decide)]
      exact (wipes_ok _ _ _ hl).2.1
    have hfl : D.wip.1.fl = (D.wip.1.flush, 0) := by unfold DevD.fl; rw [if_neg (by rw [hwl]; decide), if_neg (by rw [hwl]; decide)]
    have hn : ¬ (F.ep = 0 ∨ D.scn.1 = []) := by
      rw [hsc]
      rintro (q | q)
      · exact h (Or.inl (f5.1 q))
      · rw [show scn08 (D.secs 0 40) = [] from q] at hx; cases hx
    refine ⟨_, _, by unfold DevD.openV; rw [hmay, if_neg (by decide), hF, if_neg hn, hw, if_neg (by decide), hfl], ?_, ?_, rfl⟩
    · show bL (D.scn.1.headD []) = _
      rw [hsc]; show bL ((scn08 (D.secs 0 40)).headD []) = _; rw [hx]; rfl
    · show D.scn.1.tail.map bL = _
      rw [hsc]; show (scn08 (D.secs 0 40)).tail.map bL = _; rw [hx]; rfl
end Go.Proofs.Ytncbojocglcieaa

/- vault's reference: Open. -/
namespace Go.Proofs.Ytncbojocglcieaa
open Go.RowKit
set_option linter.unusedSimpArgs false
set_option linter.unusedVariables false
def RefO (L : List ByteArray) (w : World) (e : Ending) (w' : World) : Prop :=
  (no08 L → e = .returned (.tuple #[.string ⟨#[]⟩, .slice none 0 0, .bool false])) ∧
  (∀ x rs, scn08 L = x :: rs → ¬ no08 L → ∃ v, e = .returned (.tuple #[.string (bL x), v, .bool true]) ∧ RowO EStr w' w.heap.size v (rs.map bL)) ∧ Below w.heap.size w w'
set_option maxRecDepth 100000 in
set_option maxHeartbeats 4000000 in
theorem open08_ref (w : World) (g cap : Nat) (L : List ByteArray) (h : Strs w g 0 L) (hl : L.length = 40) (hcap : 40 ≤ cap) (hcm : cap ≤ maxLen) (h64 : ∀ f ∈ L, f.size = 64) :
    Calls Try.prog 42 #[.slice (some ⟨g, 0, none⟩) 40 cap] w (RefO L w) := by
  unfold maxLen at hcm
  obtain ⟨x0, h0⟩ : ∃ x, L[0]? = some x := ⟨_, List.getElem?_eq_getElem (by omega)⟩
  obtain ⟨x20, h20⟩ : ∃ x, L[20]? = some x := ⟨_, List.getElem?_eq_getElem (by omega)⟩
  have c0 : w.cell? ⟨g, 0, none⟩ = some (.string x0) := h 0 x0 h0
  have c20 : w.cell? ⟨g, 20, none⟩ = some (.string x20) := h 20 x20 h20
  have s0 := h64 x0 (List.mem_of_getElem? h0)
  have s20 := h64 x20 (List.mem_of_getElem? h20)
  have e0 : ep08 L 0 = epoL x0.data.toList := by unfold ep08; rw [List.getD_eq_getElem?_getD, h0]; rfl
  have e20 : ep08 L 20 = epoL x20.data.toList := by unfold ep08; rw [List.getD_eq_getElem?_getD, h20]; rfl
  have hep0 := fun w => epoch08_any x0 w s0
  have hep20 := fun w => epoch08_any x20 w s20
  rw [← e0] at hep0
  rw [← e20] at hep20
  obtain ⟨a, ha⟩ : ∃ a, ep08 L 0 = a := ⟨_, rfl⟩
  obtain ⟨b, hb⟩ : ∃ b, ep08 L 20 = b := ⟨_, rfl⟩
  rw [ha] at hep0
  rw [hb] at hep20
  have hlt1 : (L.take 20).length = 20 := by rw [List.length_take]; omega
  have hld1 : (L.drop 20).length = 20 := by rw [List.length_drop]; omega
  have hsc1 : ∀ w', Below w.heap.size w w' → Calls Try.prog 38 #[.slice (some ⟨g, 0, none⟩) 20 cap] w' fun e w2 => ∃ v, e = .returned (.tuple #[v, .int .i64 ((1 + (scanned ((L.take 20).drop 1)).2 : Nat) : Int)]) ∧ Row EStr w2 w'.heap.size v ((scanned ((L.take 20).drop 1)).1.map bL) ∧ Below w'.heap.size w' w2 := by
    intro w' hb'
    have hs : Strs w' g 0 (L.take 20) := fun i x hx => (h.below hb') i x (by
      rw [List.getElem?_take] at hx; split at hx
      · exact hx
      · cases hx)
    have := scan_ref w' g 0 cap (L.take 20) hs (by omega) (by unfold maxLen; exact hcm) (by intro q; rw [q] at hlt1; cases hlt1) (fun f hf => h64 f (List.mem_of_mem_take hf)) (by omega)
    rw [hlt1] at this
    exact this
  have hsc2 : ∀ w', Below w.heap.size w w' → Calls Try.prog 38 #[.slice (some ⟨g, 20, none⟩) 20 (cap - 20)] w' fun e w2 => ∃ v, e = .returned (.tuple #[v, .int .i64 ((1 + (scanned ((L.drop 20).drop 1)).2 : Nat) : Int)]) ∧ Row EStr w2 w'.heap.size v ((scanned ((L.drop 20).drop 1)).1.map bL) ∧ Below w'.heap.size w' w2 := by
    intro w' hb'
    have hs : Strs w' g 20 (L.drop 20) := by have := (h.below hb').drop 20; simpa using this
    have := scan_ref w' g 20 (cap - 20) (L.drop 20) hs (by omega) (by unfold maxLen; omega) (by intro q; rw [q] at hld1; cases hld1) (fun f hf => h64 f (List.mem_of_mem_drop hf)) (by omega)
    rw [hld1] at this
    exact this
  have hbk1 : a < b → bk08 L = L.drop 20 := fun q => by unfold bk08; rw [ha, hb, if_pos q]
  have hbk2 : ¬ a < b → bk08 L = L.take 20 := fun q => by unfold bk08; rw [ha, hb, if_neg q]
  have hno : no08 L = ((a = 0 ∧ b = 0) ∨ scn08 L = []) := by unfold no08; rw [ha, hb]
  have HSC1 := Lib.hid hsc1
  have HSC2 := Lib.hid hsc2
  have HBK1 := Lib.hid hbk1
  have HBK2 := Lib.hid hbk2
  have HNO := Lib.hid hno
  clear h hl h64 h0 h20 s0 s20 e0 e20 ha hb hlt1 hld1 hsc1 hsc2 hbk1 hbk2 hno
  have hcp : ¬ (cap = 20) := by omega
  go_enter Try.func42, Try.ntmps42
  go_wp2_with fail
  go_region_held3 (fun w' => w'.cell? ⟨g, 0, none⟩ = some (.string x0) ∧ w'.cell? ⟨g, 20, none⟩ = some (.string x20)) (first | exact ⟨cell_later hbb c0, cell_later hbb c20⟩ | go_keep)
    (first
      | (go_at_call 66; refine (hep0 _).mono ?_; rintro e w1 ⟨rfl, hb1⟩; have hbb : Below w.heap.size w w1 := Below.trans (by repeat (first | exact Below.refl _ _ | assumption | (refine Below.drew ?_) | (refine below_drewN ?_ _) | (refine Below.alloc ?_ (by simp; done) _) | (refine Below.alloc ?_ (by simp; omega) _))) (hb1.mono (by simp)); clear hep0)
      | (go_at_call 66; refine (hep20 _).mono ?_; rintro e w2 ⟨rfl, hb2⟩; have hbb : Below w.heap.size w w2 := hbb.trans (hb2.mono hbb.size)))
  have HBB := Lib.hid hbb
  clear c0 c20 hb1 hb2 hbb
  have TAIL : ∀ (w3 : World) (v : Value) (F : List ByteArray) (m : Int), w.heap.size ≤ w3.heap.size → True := fun _ _ _ _ _ => trivial
  by_cases hlt : a < b
  · have i1 : (a : Int) < b := by omega
    have hbk := HBK1.out hlt
    have hS : scn08 L = (scanned ((L.drop 20).drop 1)).1 := by unfold scn08; rw [hbk]
    have hsc := HSC2.out
    rw [← hS] at hsc
    have HSC := Lib.hid hsc
    clear hbk hS hsc HSC1 HSC2 HBK1 HBK2 TAIL
    go_wp2_with fail
    refine (HSC.out _ HBB.out).mono ?_
    rintro e w3 ⟨sv, rfl, hr3, hb3⟩
    have HB3 := Lib.hid (HBB.out.trans (hb3.mono HBB.out.size))
    have HR3 := Lib.hid (hr3.mono HBB.out.size)
    obtain ⟨sa, sc, rfl⟩ := hr3.shape
    rw [List.length_map] at HR3 ⊢
    clear hr3 hb3 HSC
    by_cases hab : a = 0 ∧ b = 0
    · obtain ⟨rfl, rfl⟩ := hab
      go_wp2_with fail
      go_ret3
      exact ⟨fun _ => rfl, fun x rs _ q => absurd (by rw [HNO.out]; simp) q, HB3.out⟩
    · have hz : a = 0 → b ≠ 0 := fun p q => hab ⟨p, q⟩
      rcases hS : scn08 L with _ | ⟨x, rs⟩
      · rw [hS] at HR3
        rw [show ([] : List (List UInt8)).length = 0 from rfl]
        have q1 : (a : Int) = 0 → ¬ ((b : Int) = 0) := fun p q => hab ⟨by omega, by omega⟩
        have q2 : a = 0 → ¬ (b = 0) := fun p q => hab ⟨p, q⟩
        have hno : no08 L := by rw [HNO.out]; exact Or.inr hS
        have HNO2 := Lib.hid hno
        clear hno hS hab
        by_cases ha0 : a = 0
        · subst ha0
          have p2 : ¬ (b = 0) := q2 rfl
          have p1 : ¬ ((b : Int) = 0) := by omega
          clear q1 q2 hz
          go_wp2_with fail
          go_ret3
          exact ⟨fun _ => rfl, fun x rs _ q => absurd HNO2.out q, HB3.out⟩
        · have p1 : ¬ ((a : Int) = 0) := by omega
          clear q1 q2 hz
          go_wp2_with fail
          go_ret3
          exact ⟨fun _ => rfl, fun x rs _ q => absurd HNO2.out q, HB3.out⟩
      · rw [hS, List.map_cons] at HR3
        obtain ⟨ga, cap3, e3, hc3, hm3, hg3, hst⟩ := HR3.out.strs (by simp)
        have cc : w3.cell? ⟨ga, 0, none⟩ = some (.string (bL x)) := hst 0 (bL x) rfl
        simp only [Value.slice.injEq] at e3
        obtain ⟨rfl, -, rfl⟩ := e3
        have htl : RowO EStr w3 w.heap.size (.slice (if sc = 1 then some ⟨ga, 0, none⟩ else some ⟨ga, 1, none⟩) rs.length (sc - 1)) (rs.map bL) := by
          have := RowO.tail (x := bL x) (l := rs.map bL) (cap := sc) (by simpa using HR3.out)
          rw [List.length_map] at this; exact this
        have HTL := Lib.hid htl
        rw [show (x :: rs).length = rs.length + 1 from rfl]
        simp only [List.length_cons, List.length_map] at hc3
        unfold maxLen at hm3
        have i2 : (1 : Int) ≤ (rs.length : Int) + 1 := by omega
        have i3 : (rs.length : Int) + 1 ≤ sc := by omega
        have i4 : 1 ≤ rs.length + 1 := by omega
        have i5 : ¬ ((rs.length : Int) + 1 = 0) := by omega
        have i6 : rs.length + 1 ≤ sc := by omega
        have hno : ¬ no08 L := by
          rw [HNO.out]; rintro (q | q)
          · exact hab q
          · rw [hS] at q; cases q
        have q1 : (a : Int) = 0 → ¬ ((b : Int) = 0) := fun p q => hab ⟨by omega, by omega⟩
        have q2 : a = 0 → ¬ (b = 0) := fun p q => hab ⟨p, q⟩
        have HNO2 := Lib.hid hno
        have HS := Lib.hid hS
        clear hno hS hab hz HR3 htl hst
        have hpost : ∀ (o : Nat) (w4 : World), (RowO EStr w3 w.heap.size (.slice (some ⟨ga, o, none⟩) rs.length (sc - 1)) (rs.map bL)) → Qt w3 w4 → RefO L w (.returned (.tuple #[.string (bL x), .slice (some ⟨ga, o, none⟩) rs.length (sc - 1), .bool true])) w4 := by
          intro o w4 hr q
          refine ⟨fun q => absurd q HNO2.out, fun y ys e _ => ?_, HB3.out.trans ((show Below w3.heap.size w3 w4 from ⟨q.os, q.tape, q.output, by rw [q.heap]; exact Nat.le_refl _, fun k _ => by rw [q.heap]⟩).mono HB3.out.size)⟩
          rw [HS.out] at e
          obtain ⟨rfl, rfl⟩ := List.cons.inj e
          exact ⟨_, rfl, hr.kept (by rw [q.heap]; exact Nat.le_refl _) (fun k _ => by rw [q.heap])⟩
        have HP := Lib.hid hpost
        clear hpost
        by_cases hc1 : sc = 1
        · have hr0 := HTL.out
          rw [if_pos hc1] at hr0
          have e5 : rs = [] := List.eq_nil_of_length_eq_zero (by omega)
          subst e5
          subst hc1
          have HR0 := Lib.hid hr0
          clear hr0 HTL
          rw [show ([] : List (List UInt8)).length + 1 = 1 from rfl]
          by_cases ha0 : a = 0
          · subst ha0
            have p2 : ¬ (b = 0) := q2 rfl
            have p1 : ¬ ((b : Int) = 0) := by omega
            clear q1 q2
            first
              | (exfalso; omega)
              | (go_wp2_with fail
                 go_quiet (fail)
                 go_wp2_with fail
                 go_ret3
                 exact HP.out _ _ HR0.out (Qt.drewN _ _))
          · have p1 : ¬ ((a : Int) = 0) := by omega
            clear q1 q2
            go_wp2_with fail
            go_quiet (fail)
            go_wp2_with fail
            go_ret3
            exact HP.out _ _ HR0.out (Qt.drewN _ _)
        · have hr0 := HTL.out
          rw [if_neg hc1] at hr0
          have HR0 := Lib.hid hr0
          clear hr0
          by_cases ha0 : a = 0
          · subst ha0
            have p2 : ¬ (b = 0) := q2 rfl
            have p1 : ¬ ((b : Int) = 0) := by omega
            clear q1 q2
            first
              | (exfalso; omega)
              | (go_wp2_with fail
                 go_quiet (fail)
                 go_wp2_with fail
                 go_ret3
                 exact HP.out _ _ HR0.out (Qt.drewN _ _))
          · have p1 : ¬ ((a : Int) = 0) := by omega
            clear q1 q2
            go_wp2_with fail
            go_quiet (fail)
            go_wp2_with fail
            go_ret3
            exact HP.out _ _ HR0.out (Qt.drewN _ _)
  · have i1 : ¬ ((a : Int) < b) := by omega
    have hbk := HBK2.out hlt
    have hS : scn08 L = (scanned ((L.take 20).drop 1)).1 := by unfold scn08; rw [hbk]
    have hsc := HSC1.out
    rw [← hS] at hsc
    have HSC := Lib.hid hsc
    clear hbk hS hsc HSC1 HSC2 HBK1 HBK2 TAIL
    go_wp2_with fail
    refine (HSC.out _ HBB.out).mono ?_
    rintro e w3 ⟨sv, rfl, hr3, hb3⟩
    have HB3 := Lib.hid (HBB.out.trans (hb3.mono HBB.out.size))
    have HR3 := Lib.hid (hr3.mono HBB.out.size)
    obtain ⟨sa, sc, rfl⟩ := hr3.shape
    rw [List.length_map] at HR3 ⊢
    clear hr3 hb3 HSC
    by_cases hab : a = 0 ∧ b = 0
    · obtain ⟨rfl, rfl⟩ := hab
      go_wp2_with fail
      go_ret3
      exact ⟨fun _ => rfl, fun x rs _ q => absurd (by rw [HNO.out]; simp) q, HB3.out⟩
    · have hz : a = 0 → b ≠ 0 := fun p q => hab ⟨p, q⟩
      rcases hS : scn08 L with _ | ⟨x, rs⟩
      · rw [hS] at HR3
        rw [show ([] : List (List UInt8)).length = 0 from rfl]
        have q1 : (a : Int) = 0 → ¬ ((b : Int) = 0) := fun p q => hab ⟨by omega, by omega⟩
        have q2 : a = 0 → ¬ (b = 0) := fun p q => hab ⟨p, q⟩
        have hno : no08 L := by rw [HNO.out]; exact Or.inr hS
        have HNO2 := Lib.hid hno
        clear hno hS hab
        by_cases ha0 : a = 0
        · subst ha0
          have p2 : ¬ (b = 0) := q2 rfl
          have p1 : ¬ ((b : Int) = 0) := by omega
          clear q1 q2 hz
          go_wp2_with fail
          go_ret3
          exact ⟨fun _ => rfl, fun x rs _ q => absurd HNO2.out q, HB3.out⟩
        · have p1 : ¬ ((a : Int) = 0) := by omega
          clear q1 q2 hz
          go_wp2_with fail
          go_ret3
          exact ⟨fun _ => rfl, fun x rs _ q => absurd HNO2.out q, HB3.out⟩
      · rw [hS, List.map_cons] at HR3
        obtain ⟨ga, cap3, e3, hc3, hm3, hg3, hst⟩ := HR3.out.strs (by simp)
        have cc : w3.cell? ⟨ga, 0, none⟩ = some (.string (bL x)) := hst 0 (bL x) rfl
        simp only [Value.slice.injEq] at e3
        obtain ⟨rfl, -, rfl⟩ := e3
        have htl : RowO EStr w3 w.heap.size (.slice (if sc = 1 then some ⟨ga, 0, none⟩ else some ⟨ga, 1, none⟩) rs.length (sc - 1)) (rs.map bL) := by
          have := RowO.tail (x := bL x) (l := rs.map bL) (cap := sc) (by simpa using HR3.out)
          rw [List.length_map] at this; exact this
        have HTL := Lib.hid htl
        rw [show (x :: rs).length = rs.length + 1 from rfl]
        simp only [List.length_cons, List.length_map] at hc3
        unfold maxLen at hm3
        have i2 : (1 : Int) ≤ (rs.length : Int) + 1 := by omega
        have i3 : (rs.length : Int) + 1 ≤ sc := by omega
        have i4 : 1 ≤ rs.length + 1 := by omega
        have i5 : ¬ ((rs.length : Int) + 1 = 0) := by omega
        have i6 : rs.length + 1 ≤ sc := by omega
        have hno : ¬ no08 L := by
          rw [HNO.out]; rintro (q | q)
          · exact hab q
          · rw [hS] at q; cases q
        have q1 : (a : Int) = 0 → ¬ ((b : Int) = 0) := fun p q => hab ⟨by omega, by omega⟩
        have q2 : a = 0 → ¬ (b = 0) := fun p q => hab ⟨p, q⟩
        have HNO2 := Lib.hid hno
        have HS := Lib.hid hS
        clear hno hS hab hz HR3 htl hst
        have hpost : ∀ (o : Nat) (w4 : World), (RowO EStr w3 w.heap.size (.slice (some ⟨ga, o, none⟩) rs.length (sc - 1)) (rs.map bL)) → Qt w3 w4 → RefO L w (.returned (.tuple #[.string (bL x), .slice (some ⟨ga, o, none⟩) rs.length (sc - 1), .bool true])) w4 := by
          intro o w4 hr q
          refine ⟨fun q => absurd q HNO2.out, fun y ys e _ => ?_, HB3.out.trans ((show Below w3.heap.size w3 w4 from ⟨q.os, q.tape, q.output, by rw [q.heap]; exact Nat.le_refl _, fun k _ => by rw [q.heap]⟩).mono HB3.out.size)⟩
          rw [HS.out] at e
          obtain ⟨rfl, rfl⟩ := List.cons.inj e
          exact ⟨_, rfl, hr.kept (by rw [q.heap]; exact Nat.le_refl _) (fun k _ => by rw [q.heap])⟩
        have HP := Lib.hid hpost
        clear hpost
        by_cases hc1 : sc = 1
        · have hr0 := HTL.out
          rw [if_pos hc1] at hr0
          have e5 : rs = [] := List.eq_nil_of_length_eq_zero (by omega)
          subst e5
          subst hc1
          have HR0 := Lib.hid hr0
          clear hr0 HTL
          rw [show ([] : List (List UInt8)).length + 1 = 1 from rfl]
          by_cases ha0 : a = 0
          · subst ha0
            have p2 : ¬ (b = 0) := q2 rfl
            have p1 : ¬ ((b : Int) = 0) := by omega
            clear q1 q2
            first
              | (exfalso; omega)
              | (go_wp2_with fail
                 go_quiet (fail)
                 go_wp2_with fail
                 go_ret3
                 exact HP.out _ _ HR0.out (Qt.drewN _ _))
          · have p1 : ¬ ((a : Int) = 0) := by omega
            clear q1 q2
            go_wp2_with fail
            go_quiet (fail)
            go_wp2_with fail
            go_ret3
            exact HP.out _ _ HR0.out (Qt.drewN _ _)
        · have hr0 := HTL.out
          rw [if_neg hc1] at hr0
          have HR0 := Lib.hid hr0
          clear hr0
          by_cases ha0 : a = 0
          · subst ha0
            have p2 : ¬ (b = 0) := q2 rfl
            have p1 : ¬ ((b : Int) = 0) := by omega
            clear q1 q2
            first
              | (exfalso; omega)
              | (go_wp2_with fail
                 go_quiet (fail)
                 go_wp2_with fail
                 go_ret3
                 exact HP.out _ _ HR0.out (Qt.drewN _ _))
          · have p1 : ¬ ((a : Int) = 0) := by omega
            clear q1 q2
            go_wp2_with fail
            go_quiet (fail)
            go_wp2_with fail
            go_ret3
            exact HP.out _ _ HR0.out (Qt.drewN _ _)
end Go.Proofs.Ytncbojocglcieaa
