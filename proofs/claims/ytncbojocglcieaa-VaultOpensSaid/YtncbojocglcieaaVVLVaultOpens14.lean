/- Lemmas for VaultOpens, texts W7 RowTT; no condition beyond those that each states. -/
import Derived.Test.YtncbojocglcieaaVVLVaultOpens13
import Derived.Deep.Cut
/- vault's law: VaultOpens. -/
namespace Go.Proofs.Ytncbojocglcieaa
open Go.RowKit
set_option linter.unusedSimpArgs false
set_option linter.unusedVariables false
/-- A device of 40 sectors, whole, beside two blocks and others. -/
def VO (w : World) (B g : Nat) (o4 o5 : Obj) (S : Nat → Prop) (q : Nat) (wr : World) : Prop :=
  ∃ D : DevD, OwnR w wr (fun k => (k = B ∨ k = B + 1) ∨ S k) g D ∧ D.left = -1 ∧ D.size = 40 ∧ (∀ i, (D.sec i).size = 64) ∧ D.queue.length ≤ q ∧ wr.heap[B]? = some o4 ∧ wr.heap[B + 1]? = some o5
section
variable {w wr w' : World} {B g q : Nat} {o4 o5 : Obj} {S : Nat → Prop}
theorem VO.bel (h : VO w B g o4 o5 S q wr) : Below w.heap.size w wr := by obtain ⟨D, h1, _⟩ := h; exact h1.bel
theorem VO.mono {q' : Nat} (h : VO w B g o4 o5 S q wr) (hq : q ≤ q') : VO w B g o4 o5 S q' wr := by obtain ⟨D, h1, h2, h3, h4, h5, h6⟩ := h; exact ⟨D, h1, h2, h3, h4, by omega, h6⟩
theorem VO.below (h : VO w B g o4 o5 S q wr) (hb : Below wr.heap.size wr w') : VO w B g o4 o5 S q w' := by
  obtain ⟨D, h1, h2, h3, h4, h5, h6, h7⟩ := h
  exact ⟨D, h1.below hb, h2, h3, h4, h5, (hb.block _ (m_lt h6)).trans h6, (hb.block _ (m_lt h7)).trans h7⟩
theorem VO.take (h : VO w B g o4 o5 (fun _ => False) q wr) (hb : Below wr.heap.size wr w') {v : Value} {l : List ByteArray} (hr : Row EStr w' wr.heap.size v l) : VO w B g o4 o5 (ownB v) q w' := by
  obtain ⟨D, h1, h2, h3, h4, h5, h6, h7⟩ := h
  refine ⟨D, h1.turn (keepBelow hb) (fun k q => ?_), h2, h3, h4, h5, (hb.block _ (m_lt h6)).trans h6, (hb.block _ (m_lt h7)).trans h7⟩
  rcases q with q | q
  · exact ⟨Or.inl (Or.inl q), Nat.lt_of_lt_of_le (h1.lt (Or.inl q)) hb.size⟩
  · exact ⟨Or.inr (hr.ge q), hr.lt q⟩
theorem VO.drop (h : VO w B g o4 o5 S q wr) : VO w B g o4 o5 (fun _ => False) q wr := by
  obtain ⟨D, h1, h2⟩ := h
  exact ⟨D, h1.sub (fun k q => q.elim Or.inl (fun e => e.elim)), h2⟩
theorem VO.c4 (h : VO w B g o4 o5 S q wr) : wr.heap[B]? = some o4 := by obtain ⟨D, _, _, _, _, _, h6, _⟩ := h; exact h6
theorem VO.c5 (h : VO w B g o4 o5 S q wr) : wr.heap[B + 1]? = some o5 := by obtain ⟨D, _, _, _, _, _, _, h7⟩ := h; exact h7
theorem VO.put (h : VO w B g o4 o5 S q wr) (hq : q ≤ 1000) (p : Int) (hp : 0 ≤ p ∧ p < 40) (x : ByteArray) (hx : x.size = 64) :
    Calls Try.prog 18 #[.pointer (some ⟨g, 0, none⟩), .int .i64 p, .string x] wr fun e w' => e = .returned (.int .i64 0) ∧ VO w B g o4 o5 S (q + 1) w' ∧ ∀ k, S k → w'.heap[k]? = wr.heap[k]? := by
  obtain ⟨D, h1, h2, h3, h4, h5, h6, h7⟩ := h
  have hask : D.ask p = 0 := by unfold DevD.ask; rw [h2, h3, if_neg (by decide), if_neg (by omega)]
  refine (ownr_put_ok h1 p x (by omega) (by rw [h2]; decide) (by unfold DevD.putErr; rw [hask, hx]; rfl)).mono ?_
  rintro e w1 ⟨rfl, k1, k2⟩
  refine ⟨rfl, ⟨D.put p x, k1, by unfold DevD.put; simp [h2], h3, fun i => ?_, by simp [DevD.put]; omega, (k2.block _ (Or.inl (Or.inl rfl))).trans h6, (k2.block _ (Or.inl (Or.inr rfl))).trans h7⟩, fun k s => k2.block k (Or.inr s)⟩
  rw [put_sec]
  split
  · exact hx
  · exact h4 i
end
theorem flat_cut_le (rs : List (List UInt8)) (h : ∀ r ∈ rs, r ≠ [] ∧ r.length ≤ 60000) : rs.length ≤ (rs.flatMap cutL).length := by
  induction rs with
  | nil => exact Nat.le_refl _
  | cons r rs ih =>
    have h1 := ih (fun x hx => h x (List.mem_cons_of_mem _ hx))
    have h2 : 1 ≤ (cutL r).length := by
      rw [cutL_length]
      have := List.length_pos_iff.2 (h r List.mem_cons_self).1
      unfold nframes; omega
    rw [List.flatMap_cons, List.length_append, List.length_cons]; omega
theorem scn08_len (L : List ByteArray) (hl : L.length = 40) (h64 : ∀ f ∈ L, f.size = 64) : (scn08 L).length ≤ 40 := by
  have hb : ((bk08 L).drop 1).length ≤ 40 := by
    unfold bk08
    split
    · rw [List.length_drop, List.length_drop]; omega
    · rw [List.length_drop, List.length_take]; omega
  have hm : ∀ f ∈ (bk08 L).drop 1, f.size = 64 := by
    intro f hf
    have := List.mem_of_mem_drop hf
    unfold bk08 at this
    split at this
    · exact h64 f (List.mem_of_mem_drop this)
    · exact h64 f (List.mem_of_mem_take this)
  obtain ⟨r1, r2, _⟩ := scanned_recs _ _ (Nat.le_refl _) hm
  have := flat_cut_le _ r2
  rw [r1, List.length_take] at this
  unfold scn08
  omega
def VO1 (w : World) (B g : Nat) (o4 o5 : Obj) (n : Nat) (iv : Value) (wr : World) : Prop := ∃ i : Nat, iv = .int .i64 i ∧ i ≤ n ∧ VO w B g o4 o5 (fun _ => False) i wr
def VO2 (w : World) (B g : Nat) (o4 o5 : Obj) (kv : Value) (wr : World) : Prop := ∃ k : Nat, kv = .int .i64 k ∧ k ≤ 2 ∧ VO w B g o4 o5 (fun _ => False) (40 + 30 * k) wr
def VO3 (w : World) (B g : Nat) (o4 o5 : Obj) (k n : Nat) (av iv : Value) (wr : World) : Prop :=
  ∃ p i : Nat, av = .int .i64 (20 * (k : Int) + 1 + p) ∧ iv = .int .i64 i ∧ p ≤ 19 ∧ i ≤ n ∧ VO w B g o4 o5 (fun _ => False) (40 + 30 * k + p) wr
def VO4 (w : World) (B g : Nat) (o4 o5 : Obj) (k N : Nat) (cv : Value) (C : List ByteArray) (av jv : Value) (wr : World) : Prop :=
  ∃ p j : Nat, av = .int .i64 (20 * (k : Int) + 1 + p) ∧ jv = .int .i64 j ∧ p ≤ 19 ∧ j ≤ C.length ∧ VO w B g o4 o5 (ownB cv) (40 + 30 * k + p) wr ∧ Row EStr wr N cv C
def VO5 (w5 : World) (D : DevD) (N : Nat) (ov iv : Value) (wr : World) : Prop := ∃ i : Nat, iv = .int .i64 i ∧ i ≤ 40 ∧ Row EStr wr N ov (D.secs 0 i) ∧ Below N w5 wr
set_option maxRecDepth 100000 in
set_option maxHeartbeats 8000000 in
theorem vaultopens_any (v1 : Value) (l : List ByteArray) (x0 x1 : Nat) (va vb : Value) (la lb : List ByteArray) (w : World) (h1 : Arg EStr w v1 l) (m1 : l.length ≤ maxLen) (g1 : ∀ x ∈ l, x.size ≤ maxLen)
    (hx0 : x0 < 18446744073709551616) (hx1 : x1 < 18446744073709551616) (ha : Arg EStr w va la) (ma : la.length ≤ maxLen) (ga : ∀ x ∈ la, x.size ≤ maxLen) (hb : Arg EStr w vb lb) (mb : lb.length ≤ maxLen) (gb : ∀ x ∈ lb, x.size ≤ maxLen) :
    Calls Try.prog 12 #[v1, .agg #[.int .u64 x0, .int .u64 x1], .agg #[va, vb]] w fun e w' => e = .returned (.bool true) ∧ Below w.heap.size w w' := by
  obtain ⟨a1, c1, rfl⟩ := h1.shape
  obtain ⟨aa, ca, rfl⟩ := ha.shape
  obtain ⟨ab, cb, rfl⟩ := hb.shape
  have A1 := Lib.hid h1
  have AA := Lib.hid ha
  have AB := Lib.hid hb
  have G1 := Lib.hid g1
  have GA := Lib.hid ga
  have GB := Lib.hid gb
  unfold maxLen at m1 ma mb
  clear h1 ha hb g1 ga gb
  have leave : ∀ w2, Below w.heap.size w w2 → ∀ K : Ending → World → Prop, (∀ w3, Below w2.heap.size w2 w3 → K (.returned (.bool true)) w3) → Calls Try.prog 41 #[] w2 K := by
    intro w2 hb K hK
    refine (awake08_any _).mono ?_
    rintro e w3 ⟨rfl, hb3⟩
    exact hK w3 hb3
  have LEAVE := Lib.hid leave
  clear leave
  obtain ⟨o4, ho4⟩ : ∃ o, Obj.cells #[.int .u64 x0, .int .u64 x1] 77 (0, 0) = o := ⟨_, rfl⟩
  obtain ⟨o5, ho5⟩ : ∃ o, Obj.cells #[.slice aa la.length ca, .slice ab lb.length cb] 78 (0, 0) = o := ⟨_, rfl⟩
  have HO4 := Lib.hid ho4
  have HO5 := Lib.hid ho5
  clear ho4 ho5
  obtain ⟨B, hB⟩ : ∃ B, w.heap.size = B := ⟨_, rfl⟩
  have HB := Lib.hid hB
  clear hB
  go_enter Try.func12, Try.ntmps12
  go_wp2_with fail
  refine LEAVE.out _ (by repeat (first | exact Below.refl _ _ | assumption | (refine Below.drew ?_) | (refine below_drewN ?_ _) | (refine Below.alloc ?_ (by simp; done) _) | (refine Below.alloc ?_ (by simp; omega) _))) _ ?_
  intro w1 hb1
  have hc4 : w1.heap[B]? = some o4 := by
    rw [hb1.block B (by rw [← HB.out]; simp; omega), ← HO4.out]
    exact m_old _ (m_alloc w _ _ HB.out)
  have hc5 : w1.heap[B + 1]? = some o5 := by
    rw [hb1.block (B + 1) (by rw [← HB.out]; simp), ← HO5.out]
    exact m_alloc _ _ _ (by rw [← HB.out]; simp)
  have hbw : Below w.heap.size w w1 := (((Below.refl w.heap.size w).alloc (Nat.le_refl _) _).alloc (by simp) _).trans (hb1.mono (by simp; omega))
  have HC4 := Lib.hid hc4
  have HC5 := Lib.hid hc5
  have HB1 := Lib.hid hbw
  have cA : w1.cell? ⟨B + 1, 0, none⟩ = some (.slice aa la.length ca) := (m_cells (hc5.trans (by rw [HO5.out]))).1 0
  have cB : w1.cell? ⟨B + 1, 1, none⟩ = some (.slice ab lb.length cb) := (m_cells (hc5.trans (by rw [HO5.out]))).1 1
  rw [HB.out]
  clear hb1 hc4 hc5 hbw
  by_cases hl : l.length ≤ 40
  rotate_left
  · have n1 : decide ((40 : Int) < l.length) = true := decide_eq_true (by omega)
    go_wp2_with fail
    refine LEAVE.out _ HB1.out _ ?_
    intro w3 hb3
    go_wp2_with fail
    go_ret
    exact ⟨rfl, HB1.out.trans (hb3.mono HB1.out.size)⟩
  have n1 : decide ((40 : Int) < l.length) = false := decide_eq_false (by omega)
  by_cases hla : la.length ≤ 5
  rotate_left
  · have n2 : decide ((5 : Int) < la.length) = true := decide_eq_true (by omega)
    go_wp2_with fail
    refine LEAVE.out _ HB1.out _ ?_
    intro w3 hb3
    go_wp2_with fail
    go_ret
    exact ⟨rfl, HB1.out.trans (hb3.mono HB1.out.size)⟩
  have n2 : decide ((5 : Int) < la.length) = false := decide_eq_false (by omega)
  by_cases hlb : lb.length ≤ 5
  rotate_left
  · have n3 : decide ((5 : Int) < lb.length) = true := decide_eq_true (by omega)
    go_wp2_with fail
    refine LEAVE.out _ HB1.out _ ?_
    intro w3 hb3
    go_wp2_with fail
    go_ret
    exact ⟨rfl, HB1.out.trans (hb3.mono HB1.out.size)⟩
  have n3 : decide ((5 : Int) < lb.length) = false := decide_eq_false (by omega)
  clear m1 ma mb
  go_wp2_with fail
  refine (ownr_new (R := fun k => (k = B ∨ k = B + 1) ∨ False) w w1 40 HB1.out ?hR).mono ?_
  case hR =>
    intro k q
    have z4 := m_lt HC4.out
    have z5 := m_lt HC5.out
    rw [HB.out]
    rcases q with (rfl | rfl) | q
    · exact ⟨Nat.le_refl _, z4⟩
    · exact ⟨Nat.le_succ _, z5⟩
    · exact q.elim
  rintro e w2 ⟨g, rfl, h2, hb2⟩
  have HV0 := Lib.hid (show VO w B g o4 o5 (fun _ => False) 0 w2 from ⟨_, h2, rfl, rfl, fun _ => zsec_size, Nat.le_refl _, (hb2.block _ (m_lt HC4.out)).trans HC4.out, (hb2.block _ (m_lt HC5.out)).trans HC5.out⟩)
  clear h2 hb2 HC4 HC5 cA cB n1 n2 n3
  go_wp2_with fail
  go_loopw [8] (fun iv wr => VO1 w B g o4 o5 l.length iv wr) (fun iv _ => l.length - (intOf iv).toNat)
  case atStart => exact ⟨0, rfl, Nat.zero_le _, HV0.out⟩
  case round =>
    obtain ⟨i, rfl, hi, hV⟩ := hrel
    have HV := Lib.hid hV
    clear hV HV0
    by_cases hlt : i < l.length
    · have i1 : (i : Int) < l.length := by omega
      obtain ⟨x, hx⟩ : ∃ x, l[i]? = some x := ⟨_, List.getElem?_eq_getElem hlt⟩
      have hxm := G1.out x (List.mem_of_getElem? hx)
      unfold maxLen at hxm
      obtain ⟨gl, ol, kl, e1, hcl⟩ := A1.out.cells (by intro q; rw [q] at hlt; simp at hlt)
      simp only [Value.slice.injEq] at e1
      obtain ⟨rfl, -, rfl⟩ := e1
      have cw : w.cell? ⟨gl, ol + i, none⟩ = some (.string x) := by have := hcl i x hx 0 (by decide); simpa [EStr] using this
      have cc := cell_later HV.out.bel cw
      clear hcl hx cw
      by_cases h64 : x.size = 64
      · have q1 : ((x.size : Int) == 64) = true := by simp; omega
        have q2 : (x.size : Int) = 64 := by omega
        have HP := Lib.hid (HV.out.put (by omega) i (by omega) x h64)
        clear h64
        go_wp2_with fail
        refine HP.out.mono ?_
        rintro e w3 ⟨rfl, h3, -⟩
        go_wp2_with fail
        exact ⟨⟨i + 1, by go_num, hlt, h3⟩, by simp [intOf]; omega⟩
      · have q1 : ((x.size : Int) == 64) = false := by simp; omega
        have q2 : ¬ ((x.size : Int) = 64) := by omega
        go_wp2_with fail
        exact ⟨⟨i + 1, by go_num, hlt, HV.out.mono (by omega)⟩, by simp [intOf]; omega⟩
    · have ei : i = l.length := by omega
      subst ei
      have i1 : ¬ ((l.length : Int) < l.length) := by omega
      have HW0 := Lib.hid (HV.out.mono (show l.length ≤ 40 + 30 * 0 by omega))
      clear HV
      go_wp2_with fail
      go_loopw [9, 10, 11, 12, 13] (fun kv _ _ _ _ wr => VO2 w B g o4 o5 kv wr) (fun kv _ _ _ _ _ => 2 - (intOf kv).toNat)
      case atStart => exact ⟨0, rfl, by decide, HW0.out⟩
      case round =>
        obtain ⟨k, rfl, hk, hV⟩ := hrel
        have HV := Lib.hid hV
        clear hV HW0 i1
        by_cases hk2 : k < 2
        · have i1 : (k : Int) < 2 := by omega
          obtain ⟨x, R, ra, rc, hcx, hcr, hx, hR, hRl, hRs⟩ : ∃ (x : Nat) (R : List ByteArray) (ra : Option Addr) (rc : Nat), (∀ w' : World, w'.heap[B]? = some o4 → w'.cell? ⟨B, k, none⟩ = some (.int .u64 x)) ∧ (∀ w' : World, w'.heap[B + 1]? = some o5 → w'.cell? ⟨B + 1, k, none⟩ = some (.slice ra R.length rc)) ∧ x < 18446744073709551616 ∧ Arg EStr w (.slice ra R.length rc) R ∧ R.length ≤ 5 ∧ ∀ y ∈ R, y.size ≤ maxLen := by
            rcases (show k = 0 ∨ k = 1 by omega) with rfl | rfl
            · exact ⟨x0, la, aa, ca, fun w' h => (m_cells (h.trans (by rw [HO4.out]))).1 0, fun w' h => (m_cells (h.trans (by rw [HO5.out]))).1 0, hx0, AA.out, hla, GA.out⟩
            · exact ⟨x1, lb, ab, cb, fun w' h => (m_cells (h.trans (by rw [HO4.out]))).1 1, fun w' h => (m_cells (h.trans (by rw [HO5.out]))).1 1, hx1, AB.out, hlb, GB.out⟩
          have HCX := Lib.hid hcx
          have HCR := Lib.hid hcr
          have HR := Lib.hid hR
          have HRS := Lib.hid hRs
          clear hcx hcr hR hRs
          go_wp2_with fail
          go_loopw [10, 11, 12, 13] (fun av iv _ _ wr => VO3 w B g o4 o5 k R.length av iv wr) (fun _ iv _ _ _ => R.length - (intOf iv).toNat)
          case atStart => exact ⟨0, 0, by simp, rfl, by decide, Nat.zero_le _, HV.out⟩
          case round =>
            obtain ⟨p, i, rfl, rfl, hp, hi, hV3⟩ := hrel
            have HV3 := Lib.hid hV3
            have ck : wr.cell? ⟨B + 1, k, none⟩ = some (.slice ra R.length rc) := HCR.out wr hV3.c5
            clear hV3 HV
            by_cases hlt : i < R.length
            · have i2 : (i : Int) < R.length := by omega
              obtain ⟨y, hy⟩ : ∃ y, R[i]? = some y := ⟨_, List.getElem?_eq_getElem hlt⟩
              have hym := HRS.out y (List.mem_of_getElem? hy)
              unfold maxLen at hym
              obtain ⟨gl, ol, kl, e1, hcl⟩ := HR.out.cells (by intro q; rw [q] at hlt; simp at hlt)
              simp only [Value.slice.injEq] at e1
              obtain ⟨rfl, -, rfl⟩ := e1
              have cw : w.cell? ⟨gl, ol + i, none⟩ = some (.string y) := by have := hcl i y hy 0 (by decide); simpa [EStr] using this
              have cc := cell_later HV3.out.bel cw
              clear hcl hy cw
              by_cases hy3 : 300 < y.size
              · have q1 : (300 : Int) < y.size := by omega
                go_wp2_with fail
                go_ret
                exact ⟨rfl, HV3.out.bel⟩
              · have q1 : ¬ ((300 : Int) < y.size) := by omega
                have HCUT := Lib.hid (fun w => cut_ref y w (by omega))
                have HC64 := Lib.hid (cutL_64 y.data.toList)
                have hcl : (cutL y.data.toList).length ≤ 5 := by rw [cut_len]; unfold nframes; omega
                generalize cutL y.data.toList = C at *
                go_wp2_with fail
                refine (HCUT.out _).mono ?_
                rintro e w3 ⟨cv, rfl, hr3, hb3⟩
                have HV4 := Lib.hid (HV3.out.take hb3 hr3)
                have HR3 := Lib.hid hr3
                obtain ⟨N, hN⟩ : ∃ N, wr.heap.size = N := ⟨_, rfl⟩
                rw [hN] at HR3
                obtain ⟨ca3, cc3, rfl⟩ := hr3.shape
                clear hr3 hb3 HCUT HV3 hN
                go_wp2_with fail
                go_loopw [10, 13] (fun av jv wr => VO4 w B g o4 o5 k N (.slice ca3 C.length cc3) C av jv wr) (fun _ jv _ => C.length - (intOf jv).toNat)
                case atStart => exact ⟨p, 0, rfl, rfl, hp, Nat.zero_le _, HV4.out, HR3.out⟩
                case round =>
                  obtain ⟨p2, j, rfl, rfl, hp2, hj, hV5, hR5⟩ := hrel
                  have HV5 := Lib.hid hV5
                  have HR5 := Lib.hid hR5
                  clear hV5 hR5 HV4 HR3
                  by_cases hjl : j < C.length
                  · have i3 : (j : Int) < C.length := by omega
                    by_cases hp19 : p2 < 19
                    · have i4 : 20 * (k : Int) + 1 + p2 < 20 * (k : Int) + 20 := by omega
                      obtain ⟨f, hf⟩ : ∃ f, C[j]? = some f := ⟨_, List.getElem?_eq_getElem hjl⟩
                      have hf64 := HC64.out f (List.mem_of_getElem? hf)
                      obtain ⟨cg, ccap, e2, _, _, _, hst⟩ := HR5.out.strs (by intro q; rw [q] at hjl; simp at hjl)
                      simp only [Value.slice.injEq] at e2
                      obtain ⟨rfl, -, rfl⟩ := e2
                      have cf : wr.cell? ⟨cg, j, none⟩ = some (.string f) := by have := hst j f hf; simpa using this
                      have HP := Lib.hid (HV5.out.put (by omega) (20 * (k : Int) + 1 + p2) (by omega) f hf64)
                      clear hst hf hf64
                      go_wp2_with fail
                      refine HP.out.mono ?_
                      rintro e w4 ⟨rfl, h4, h4b⟩
                      have HR6 := Lib.hid (HR5.out.kept (w' := w4) (fun k q => h4b k q))
                      have HV6 := Lib.hid h4
                      clear h4 h4b HP HV5 HR5
                      go_wp2_with fail
                      exact ⟨⟨p2 + 1, j + 1, by go_num, by go_num, hp19, hjl, HV6.out, HR6.out⟩, by simp [intOf]; omega⟩
                    · have i4 : ¬ (20 * (k : Int) + 1 + p2 < 20 * (k : Int) + 20) := by omega
                      have HV6 := Lib.hid HV5.out.drop
                      go_wp2_with fail
                      exact ⟨⟨p2, i + 1, rfl, by go_num, hp2, hlt, HV6.out⟩, by simp [intOf]; omega⟩
                  · have i3 : ¬ ((j : Int) < C.length) := by omega
                    have HV6 := Lib.hid HV5.out.drop
                    go_wp2_with fail
                    exact ⟨⟨p2, i + 1, rfl, by go_num, hp2, hlt, HV6.out⟩, by simp [intOf]; omega⟩
            · have i2 : ¬ ((i : Int) < R.length) := by omega
              have cx : wr.cell? ⟨B, k, none⟩ = some (.int .u64 x) := HCX.out wr HV3.out.c4
              by_cases hx0' : 0 < x
              · have q1 : (0 : Int) < x := by omega
                have hh := fun w => head_any x w hx
                have ehd : (⟨(hdr x).toArray⟩ : ByteArray) = hdrB x := rfl
                rw [ehd] at hh
                have HH := Lib.hid hh
                have HX64 := Lib.hid (hdrB_size x)
                clear hh ehd
                generalize hdrB x = X at *
                go_wp2_with fail
                refine (HH.out _).mono ?_
                rintro e w3 ⟨rfl, hb3⟩
                have HV4 := Lib.hid (HV3.out.below hb3)
                have HP := Lib.hid (HV4.out.put (by omega) (20 * (k : Int)) (by omega) X HX64.out)
                clear hb3 HV3 HH
                go_wp2_with fail
                refine HP.out.mono ?_
                rintro e w4 ⟨rfl, h4, -⟩
                have HV6 := Lib.hid (h4.mono (show 40 + 30 * k + p + 1 ≤ 40 + 30 * (k + 1) by omega))
                clear h4 HP
                go_wp2_with fail
                exact ⟨⟨k + 1, by go_num, hk2, HV6.out⟩, by simp [intOf]; omega⟩
              · have q1 : ¬ ((0 : Int) < x) := by omega
                have HV6 := Lib.hid (HV3.out.mono (show 40 + 30 * k + p ≤ 40 + 30 * (k + 1) by omega))
                go_wp2_with fail
                exact ⟨⟨k + 1, by go_num, hk2, HV6.out⟩, by simp [intOf]; omega⟩
        · have ek : ¬ ((k : Int) < 2) := by omega
          obtain ⟨D, h1, hDl, hDs, hD64, hDq, -, -⟩ := HV.out
          have H5 := Lib.hid (show OwnR w wr (fun _ => False) g D from h1.sub (fun k q => q.elim))
          have HD64 := Lib.hid hD64
          clear h1 hD64 HV HO4 HO5
          obtain ⟨w5, hw5⟩ : ∃ w5 : World, w5 = wr := ⟨_, rfl⟩
          obtain ⟨N, hN⟩ : ∃ N, w5.heap.size = N := ⟨_, rfl⟩
          have HN := Lib.hid hN
          rw [← hw5] at H5
          have hb0 : Below N w5 wr := by rw [← hw5]; exact Below.refl _ _
          have HB0 := Lib.hid hb0
          clear hw5 hN hb0
          go_wp2_with fail
          go_loopw [14, 15, 16, 17] (fun ov iv _ _ wr => VO5 w5 D N ov iv wr) (fun _ iv _ _ _ => 40 - (intOf iv).toNat)
          case atStart => exact ⟨0, rfl, Nat.zero_le _, Row.nil _ _ _, HB0.out⟩
          case round =>
            obtain ⟨i, rfl, hi, hr, hb⟩ := hrel
            have HR := Lib.hid hr
            have HO := Lib.hid (H5.out.below (w' := wr) (by rw [HN.out]; exact hb))
            have HBW := Lib.hid hb
            have hBl : N ≤ wr.heap.size := by have := hb.size; rw [HN.out] at this; exact this
            obtain ⟨oa, oc, rfl⟩ := hr.shape
            rw [secs_length]
            rw [secs_length] at HR
            clear hr hb HB0
            by_cases hlt : i < 40
            · have i1 : (i : Int) < 40 := by omega
              have ha : D.ask i = 0 := by unfold DevD.ask; rw [hDl, hDs, if_neg (by decide), if_neg (by omega)]
              have hg : D.get i = D.sec i := by unfold DevD.get; rw [if_pos ha]
              have hS := secs_succ D 0 i
              rw [Int.zero_add] at hS
              have HA := Lib.hid ha
              have HG := Lib.hid hg
              have HS := Lib.hid hS
              clear ha hg hS
              go_wp2_with fail
              refine (ownr_get HO.out i).mono ?_
              rintro e w6 ⟨rfl, h6, hb6⟩
              rw [HA.out, HG.out]
              have HR6 := Lib.hid (HR.out.below hb6)
              have HB6 := Lib.hid (HBW.out.trans (hb6.mono hBl))
              have hBl6 : N ≤ w6.heap.size := Nat.le_trans hBl hb6.size
              clear hb6 h6 HO
              generalize D.sec i = x at *
              go_wp2_with (first
                | (refine app_row EStr.laid rfl _ _ 49 49 Try.underlying49 Try.underlying49 rfl _ (D.secs 0 i) rfl (HR6.out.alloc _) _ [x] rfl ?c1 ?c2 ?c3 (by simp; omega) ?_
                   case c1 => exact Arg.blk (m_alloc _ _ _ rfl) [x] rfl 1
                   case c2 => rw [secs_length]; show (i + 1) * 16 ≤ _; omega
                   case c3 => rw [secs_length]; show i + 1 ≤ maxLen; unfold maxLen; omega
                   intro v7 w7 hr7 hv7 k7
                   rw [← HS.out] at hr7))
              have hb7 : Below N w5 w7 := (HB6.out.alloc (by omega) _).trans (k7.toBelow (by simp; omega) (fun k q => HR6.out.ge q.symm))
              exact ⟨⟨i + 1, by go_num, hlt, hr7, hb7⟩, by simp [intOf]; omega⟩
            · have ei : i = 40 := by omega
              subst ei
              obtain ⟨ho1, ho2⟩ := open40 hDl hDs
              have hL : (D.secs 0 40).length = 40 := secs_length _ _ _
              have h64 : ∀ f ∈ D.secs 0 40, f.size = 64 := by
                intro f hf
                unfold DevD.secs at hf
                obtain ⟨i, _, rfl⟩ := List.mem_map.1 hf
                exact HD64.out _
              obtain ⟨sg, scap, e3, hc3, hm3, hg3, hst⟩ := HR.out.strs (by intro q; rw [q] at hL; cases hL)
              simp only [Value.slice.injEq] at e3
              obtain ⟨rfl, -, rfl⟩ := e3
              have hro := open08_ref wr sg oc (D.secs 0 40) hst hL (by omega) hm3 h64
              have HRO := Lib.hid hro
              have HSL := Lib.hid (scn08_len _ hL h64)
              have HO1 := Lib.hid ho1
              have HO2 := Lib.hid ho2
              clear hro ho1 ho2 hst h64 hL H5 HN
              generalize D.secs 0 40 = L at *
              go_wp2_with fail
              refine HRO.out.mono ?_
              rintro e w6 ⟨hno, hok, hb6⟩
              by_cases hn : no08 L
              · have hn' := hno hn
                subst hn'
                have HOP := Lib.hid (HO1.out hn)
                have HO6 := Lib.hid (HO.out.below hb6)
                clear hno hok hb6 hn HO1 HO2 HRO HR
                go_wp2_with fail
                refine (vopen_no HO6.out (by rw [hDs]; decide) (by omega) (by rw [hDl]; decide) HD64.out HOP.out).mono ?_
                rintro e w7 ⟨rfl, h7, hh7⟩
                have H7 := Lib.hid h7
                clear h7 hh7
                go_wp2_with fail
                go_ret
                exact ⟨rfl, H7.out.bel⟩
              · rcases hS : scn08 L with _ | ⟨x, rs⟩
                · exact absurd (Or.inr hS) hn
                · obtain ⟨v, rfl, hv⟩ := hok x rs hS hn
                  obtain ⟨V, D', hop, hi1, hi2, hi3⟩ := HO2.out x rs hS hn
                  have HOP := Lib.hid hop
                  have HI1 := Lib.hid hi1
                  have HI2 := Lib.hid hi2
                  have HI3 := Lib.hid hi3
                  obtain ⟨wa, wc, rfl⟩ := hv.shape
                  rw [List.length_map] at hv ⊢
                  have hrl : rs.length ≤ 4096 := by have := HSL.out; rw [hS, List.length_cons] at this; omega
                  have HO6 := Lib.hid ((HO.out.with_new hb6).sub (R' := ownB (.slice wa rs.length wc)) (fun k q => Or.inr ⟨hv.ge q, hv.lt q⟩))
                  have HV6 := Lib.hid hv
                  clear hno hok hb6 hn hS hop hi1 hi2 hi3 hv HO1 HO2 HRO HR HO
                  go_wp2_with fail
                  refine (vopen_ok HO6.out (by rw [hDs]; decide) (by omega) (by rw [hDl]; decide) HD64.out HOP.out).mono ?_
                  rintro e w7 ⟨vb7, rv7, rfl, h7, hh7⟩
                  have H7 := Lib.hid h7
                  have HV7 := Lib.hid (HV6.out.kept hh7.size (fun k q => hh7.block k q))
                  clear h7 hh7 HO6 HV6
                  go_wp2_with fail
                  refine (vimage_any H7.out).mono ?_
                  rintro e w8 ⟨rfl, rfl⟩
                  rw [HI1.out]
                  go_wp2_with fail
                  refine (vrecords_any H7.out (by rw [HI2.out, List.length_map]; omega)).mono ?_
                  rintro e w9 ⟨v9, rfl, hr9, hb9⟩
                  rw [HI2.out] at hr9
                  obtain ⟨a9, c9, rfl⟩ := hr9.shape
                  rw [List.length_map] at hr9 ⊢
                  have HR9 := Lib.hid hr9
                  have HB9 := Lib.hid hb9
                  clear hr9 hb9
                  go_wp2_with fail
                  refine (same_any w9 _ _ _ _ HR9.out.arg (HV7.out.arg.below HB9.out) (by rw [List.length_map]; unfold maxLen; omega) (by rw [List.length_map]; unfold maxLen; omega)).mono ?_
                  rintro e w10 ⟨rfl, hb10⟩
                  rw [decide_eq_true rfl]
                  have H10 := Lib.hid (H7.out.below (HB9.out.trans (hb10.mono HB9.out.size)))
                  clear hb10
                  go_wp2_with fail
                  refine (ownr_pending H10.out.own).mono ?_
                  rintro e w11 ⟨rfl, rfl⟩
                  rw [HI3.out]
                  go_wp2_with fail
                  go_ret
                  exact ⟨rfl, H10.out.bel⟩
end Go.Proofs.Ytncbojocglcieaa

/- Pairs of numbers, and pairs of lists of texts, that are arguments. -/
namespace Go.Proofs.Ytncbojocglcieaa
open Go.Joins Go.ChangeShapes Go.WideShapes Go.RowKit Go.Deep
variable {H : Type} {enc : TypeId × Value → H} {w : World} {base : Nat} {spare : Nat → Bool} {held : Bool}
set_option maxRecDepth 10000 in
theorem open_two64 {r : Reach} {b0 : Nat} {v : Value} {d : DataW H} {p : List MemPlace}
    (hv : Value.okWide Try.prog w r b0 77 v) (h : DataW.Trod enc Try.prog w base spare held 77 v d p) :
    ∃ x y : Nat, v = .agg #[.int .u64 x, .int .u64 y] ∧ x < 18446744073709551616 ∧ y < 18446744073709551616 := by
  obtain ⟨cs, rfl, hsz⟩ := okWide_array (n := 2) (e := 54) Try.underlying77 hv
  obtain ⟨l⟩ := cs
  have hC : Try.prog.cellsOf 77 = 2 := by kernel_rfl
  have hC1 : Try.prog.cellsOf 54 = 1 := by kernel_rfl
  match l, hsz.trans hC with
  | [c0, c1], _ =>
    obtain ⟨fuel, hf⟩ := h
    obtain ⟨xs, n, _, _, hlen, hxl, hg⟩ := DataW.trod_array (n := 2) (e := 54) Try.underlying77 hf
    match xs, hxl with
    | [y0, y1], _ =>
      have g0 := hg 0 (by decide)
      have g1 := hg 1 (by decide)
      rw [hC1] at g0 g1
      obtain ⟨k0, e0, _, w0⟩ := DataW.trod_int Try.underlying54 (show DataW.trod enc Try.prog w base spare held n 54 [c0] = some y0 from g0)
      obtain ⟨k1, e1, _, w1⟩ := DataW.trod_int Try.underlying54 (show DataW.trod enc Try.prog w base spare held n 54 [c1] = some y1 from g1)
      simp only [List.cons.injEq, and_true] at e0 e1
      subst e0; subst e1
      obtain ⟨a, rfl, ha⟩ := u64_of w0
      obtain ⟨b, rfl, hb⟩ := u64_of w1
      exact ⟨a, b, rfl, ha, hb⟩
set_option maxRecDepth 10000 in
theorem open_twostrs {r : Reach} {b0 : Nat} {v : Value} {d : DataW H} {p : List MemPlace}
    (hv : Value.okWide Try.prog w r b0 78 v) (h : DataW.Trod enc Try.prog w base spare held 78 v d p) :
    ∃ (va vb : Value) (la lb : List ByteArray), v = .agg #[va, vb] ∧ Arg EStr w va la ∧ la.length ≤ maxLen ∧ (∀ x ∈ la, x.size ≤ maxLen) ∧ Arg EStr w vb lb ∧ lb.length ≤ maxLen ∧ (∀ x ∈ lb, x.size ≤ maxLen) := by
  obtain ⟨cs, rfl, hsz⟩ := okWide_array (n := 2) (e := 49) Try.underlying78 hv
  obtain ⟨l⟩ := cs
  have hC : Try.prog.cellsOf 78 = 2 := by kernel_rfl
  have hC1 : Try.prog.cellsOf 49 = 1 := by kernel_rfl
  have key : ∀ n cs x, DataW.trod enc Try.prog w base spare held n 9 cs = some x → ∃ y : ByteArray, cs = EStr.enc y ∧ y.size ≤ maxLen := fun n cs x hx => by
    obtain ⟨k, e, _, hw⟩ := DataW.trod_string Try.underlying9 hx
    exact ⟨k, e, hw⟩
  match l, hsz.trans hC with
  | [c0, c1], _ =>
    obtain ⟨fuel, hf⟩ := h
    obtain ⟨xs, n, _, _, hlen, hxl, hg⟩ := DataW.trod_array (n := 2) (e := 49) Try.underlying78 hf
    match xs, hxl with
    | [y0, y1], _ =>
      have g0 := hg 0 (by decide)
      have g1 := hg 1 (by decide)
      rw [hC1] at g0 g1
      obtain ⟨a0, n0, k0, e0, hn0, l0, hl0, q0, p0⟩ := open_cells (E := EStr) (fun y => y.size ≤ maxLen) Try.underlying49 (by kernel_rfl) key (show DataW.trod enc Try.prog w base spare held n 49 [c0] = some y0 from g0)
      obtain ⟨a1, n1, k1, e1, hn1, l1, hl1, q1, p1⟩ := open_cells (E := EStr) (fun y => y.size ≤ maxLen) Try.underlying49 (by kernel_rfl) key (show DataW.trod enc Try.prog w base spare held n 49 [c1] = some y1 from g1)
      simp only [List.cons.injEq, and_true] at e0 e1
      subst e0; subst e1
      exact ⟨_, _, l0, l1, rfl, q0, by omega, p0, q1, by omega, p1⟩
end Go.Proofs.Ytncbojocglcieaa
