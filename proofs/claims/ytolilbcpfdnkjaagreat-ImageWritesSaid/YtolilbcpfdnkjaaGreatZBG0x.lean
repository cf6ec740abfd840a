/- Lemmas, texts G0x G1x G2x G3x G4x; no condition beyond those that each states. -/
import Derived.Test.YtolilbcpfdnkjaaGreatZBH0x
import Derived.Test.YtolilbcpfdnkjaaGreatZBH1x
import Derived.Test.YtolilbcpfdnkjaaGreatZBH2x
import Derived.Test.YtolilbcpfdnkjaaGreatZBHPU
import Derived.Test.YtolilbcpfdnkjaaGreatZBH3x
import Derived.Deep.RegionHeld3
import Derived.Deep.RegionLaw
import Derived.Deep.AppendLies
/- A heap of numbers behind *ids.back: Len, Less, Swap, Pop. -/
namespace Go.Proofs.YtolilbcpfdnkjaaGreat.Bk
open Go.RowKit
set_option linter.unusedSimpArgs false
theorem mth_Len (n : Nat) (a : Addr) (w : World) : (method (n + 1) 161 (.pointer (some a)) "Len").run Tryz.prog w = ((loadVar 138 a).run Tryz.prog w).andThen fun v w' => .ok (90, v) w' :=
  Eq.trans (b := ((loadVar 138 a >>= fun v => (pure (90, v) : Sem (FuncId × Value))) : Sem (FuncId × Value)).run Tryz.prog w) (by kernel_rfl) (by rw [Sem.run_bind]; rfl)
theorem mth_Less (n : Nat) (a : Addr) (w : World) : (method (n + 1) 161 (.pointer (some a)) "Less").run Tryz.prog w = ((loadVar 138 a).run Tryz.prog w).andThen fun v w' => .ok (162, v) w' :=
  Eq.trans (b := ((loadVar 138 a >>= fun v => (pure (162, v) : Sem (FuncId × Value))) : Sem (FuncId × Value)).run Tryz.prog w) (by kernel_rfl) (by rw [Sem.run_bind]; rfl)
theorem mth_Swap (n : Nat) (a : Addr) (w : World) : (method (n + 1) 161 (.pointer (some a)) "Swap").run Tryz.prog w = ((loadVar 138 a).run Tryz.prog w).andThen fun v w' => .ok (164, v) w' :=
  Eq.trans (b := ((loadVar 138 a >>= fun v => (pure (164, v) : Sem (FuncId × Value))) : Sem (FuncId × Value)).run Tryz.prog w) (by kernel_rfl) (by rw [Sem.run_bind]; rfl)
theorem mth_Pop (n : Nat) (a : Addr) (w : World) : (method (n + 1) 161 (.pointer (some a)) "Pop").run Tryz.prog w = .ok (165, .pointer (some a)) w := by kernel_rfl
set_option maxHeartbeats 400000 in
theorem less_any (B i j : Nat) (v : Value) (l : List Int) (w : World) (h : Ints w B v l) (hi : i < l.length) (hj : j < l.length) :
    Calls Tryz.prog 162 #[v, .int .i64 i, .int .i64 j] w fun e w' => e = .returned (.bool (decide (l.getD i 0 < l.getD j 0))) ∧ Qt w w' := by
  obtain ⟨g, cap, rfl, hB, hg, hn, hc, hcell, hfr⟩ := h.slice (by intro h; rw [h] at hi; simp at hi)
  have ci := hcell i hi
  have cj := hcell j hj
  clear hcell
  generalize l.getD i 0 = x at *
  generalize l.getD j 0 = y at *
  unfold maxLen at hc
  have i1 : (0 : Int) ≤ i := by omega
  have i2 : (i : Int) < l.length := by omega
  have j1 : (0 : Int) ≤ j := by omega
  have j2 : (j : Int) < l.length := by omega
  go_enter Tryz.func162, Tryz.ntmps162
  go_wp2
  go_quiet (fail)
  go_wp2
  go_ret
  exact ⟨rfl, Qt.drewN _ _⟩
set_option maxHeartbeats 1000000 in
theorem swap_any (B i j : Nat) (v : Value) (l : List Int) (w : World) (h : Ints w B v l) (hi : i < l.length) (hj : j < l.length) :
    Calls Tryz.prog 164 #[v, .int .i64 i, .int .i64 j] w fun e w' => e = .returned (.tuple #[]) ∧ Ints w' B v (swapL l i j) ∧ Keep (fun k => some k = v.ownBlock) w w' := by
  obtain ⟨g, cap, rfl, hB, hg, hn, hc, hcell, hfr⟩ := h.slice (by intro h; rw [h] at hi; simp at hi)
  have ci := hcell i hi
  have cj := hcell j hj
  have fi := hfr i
  have fj := hfr j
  clear hcell
  have hx : swapL l i j = (l.set i (l.getD j 0)).set j (l.getD i 0) := rfl
  have Hx := Lib.hid hx
  clear hx
  generalize l.getD i 0 = x at *
  generalize l.getD j 0 = y at *
  unfold maxLen at hc
  have i1 : (0 : Int) ≤ i := by omega
  have i2 : (i : Int) < l.length := by omega
  have j1 : (0 : Int) ≤ j := by omega
  have j2 : (j : Int) < l.length := by omega
  go_enter Tryz.func164, Tryz.ntmps164
  go_wp2
  obtain ⟨y', hy'⟩ := cell?_setCell_some (w := w) (p := ⟨g, i, none⟩) (x := .int .i64 y) (q := ⟨g, j, none⟩) (v := .int .i64 y) (by go_simp)
  go_region
  go_end0
  refine ⟨rfl, ?_, ?_⟩
  · rw [Hx.out]
    exact Ints.set (Ints.set h i y) j x
  · have : Keep (fun k => some k = some g) w ((w.setCell ⟨g, i, none⟩ (.int .i64 y)).setCell ⟨g, j, none⟩ (.int .i64 x)).drew := (((Keep.refl (fun k => some k = some g) w).set g _ _ (Or.inl rfl)).set g _ _ (Or.inl rfl)).drew
    exact this
set_option maxHeartbeats 1000000 in
theorem mpop_any (B g o : Nat) (cs : Array Value) (t : TypeId) (v : Value) (l : List Int) (x : Int) (w : World) (h : HAt w B g o cs t v (l ++ [x])) (hl : l.length < 1000000) :
    Calls Tryz.prog 165 #[.pointer (some ⟨g, o, none⟩)] w (PopPost w B g o cs t v l x) := by
  have hc := h.cell
  have hf := h.frozen
  obtain ⟨gb, cap, rfl, hB, hg, hn, hcap, hcell, hfr⟩ := h.row.slice (by simp)
  have hx : w.cell? ⟨gb, l.length, none⟩ = some (.int .i64 x) := by have := hcell l.length (by simp); simpa using this
  clear hcell
  have hlen : (l ++ [x]).length = l.length + 1 := by simp
  rw [hlen] at hc hn
  have hrow := h.row
  rw [hlen] at hrow
  have Hlen := Lib.hid hlen
  unfold maxLen at hcap
  clear hlen
  go_enter Tryz.func165, Tryz.ntmps165
  go_wp2
  go_ret
  have ho : o < cs.size := by
    have := h.slot
    rcases Nat.lt_or_ge o cs.size with h' | h'
    · exact h'
    · rw [Array.getElem?_eq_none h'] at this; cases this
  have hgb : gb ≠ g := by have := h.ne; simpa [Value.ownBlock] using this
  refine ⟨rfl, .slice (some ⟨gb, 0, none⟩) l.length cap, ⟨m_set h.blk _ _, by simp [ho], (Ints.shrink hrow).kept fun k hk => ?_, h.ne⟩, rfl, (Keep.refl _ w).set _ _ _ (Or.inl rfl)⟩
  simp only [Value.ownBlock, Option.some.injEq] at hk
  subst hk
  exact Below.heap_setCell _ _ _ _ hgb
end Go.Proofs.YtolilbcpfdnkjaaGreat.Bk

/- A heap of numbers behind *ids.back: down. -/
namespace Go.Proofs.YtolilbcpfdnkjaaGreat.Bk
open Go.RowKit
set_option linter.unusedSimpArgs false
theorem less_b (B i j : Nat) (v : Value) (l : List Int) (b : Bool) (w : World) (h : Ints w B v l) (hi : i < l.length) (hj : j < l.length) (hb : decide (l.getD i 0 < l.getD j 0) = b) :
    Calls Tryz.prog 162 #[v, .int .i64 i, .int .i64 j] w fun e w' => e = .returned (.bool b) ∧ Qt w w' := by rw [← hb]; exact less_any B i j v l w h hi hj
theorem less_i (B : Nat) (v : Value) (l : List Int) (b : Bool) (I J : Int) (i j : Nat) (w : World) (hI : I = i) (hJ : J = j) (h : Ints w B v l) (hi : i < l.length) (hj : j < l.length) (hb : decide (l.getD i 0 < l.getD j 0) = b) :
    Calls Tryz.prog 162 #[v, .int .i64 I, .int .i64 J] w fun e w' => e = .returned (.bool b) ∧ Qt w w' := by subst hI; subst hJ; exact less_b B i j v l b w h hi hj hb
theorem swap_i (B : Nat) (v : Value) (l : List Int) (I J : Int) (i j : Nat) (w : World) (hI : I = i) (hJ : J = j) (h : Ints w B v l) (hi : i < l.length) (hj : j < l.length) :
    Calls Tryz.prog 164 #[v, .int .i64 I, .int .i64 J] w fun e w' => e = .returned (.tuple #[]) ∧ Ints w' B v (swapL l i j) ∧ Keep (fun k => some k = v.ownBlock) w w' := by subst hI; subst hJ; exact swap_any B i j v l w h hi hj
set_option maxHeartbeats 2000000 in
theorem down_any (B g o i0 n : Nat) (cs : Array Value) (t : TypeId) (v : Value) (l : List Int) (w : World) (h : HAt w B g o cs t v l) (hn : n ≤ l.length) (hl : l.length ≤ 400000) (hi0 : i0 ≤ 400000) (hinv : ∀ k, i0 < k → HCond l n k) :
    Calls Tryz.prog 110 #[.iface 161 (.pointer (some ⟨g, o, none⟩)), .int .i64 i0, .int .i64 n] w (DownPost w B g o cs t v l i0 n) := by
  have m1 := mth_Less
  have m2 := mth_Swap
  go_enter Tryz.func110, Tryz.ntmps110
  go_wp2
  go_loopw [7, 8, 9, 10] (fun iv _ _ _ wr => DownRel w B g o cs t v l i0 n iv wr) (fun iv _ _ _ _ => n - (intOf iv).toNat)
  case atStart => exact ⟨i0, l, rfl, by omega, h, HInv.start l i0 n hinv, List.Perm.refl _, fun _ _ => rfl, Keep.refl _ _⟩
  case round =>
    obtain ⟨i, l1, rfl, hi, hat, hv, hperm, htail, hkeep⟩ := hrel
    have hlen := hperm.length_eq
    by_cases h1 : 2 * i + 1 < n
    · have Ht := Lib.hid htail
      have c0 := hat.cell
      have g1 : decide ((n : Int) ≤ 2 * (i : Int) + 1) = false := decide_eq_false (by omega)
      have g2 : decide (2 * (i : Int) + 1 < 0) = false := decide_eq_false (by omega)
      clear htail
      by_cases h2 : 2 * i + 2 < n
      · have g3 : decide (2 * (i : Int) + 1 + 1 < n) = true := decide_eq_true (by omega)
        by_cases h3 : l1.getD (2 * i + 2) 0 < l1.getD (2 * i + 1) 0
        · have H3 := Lib.hid (decide_eq_true h3)
          have hch : HChild l1 i n (2 * i + 2) := ⟨Or.inr rfl, h2, fun _ => by omega, fun _ => Int.le_refl _⟩
          have Hch := Lib.hid hch
          clear hch h3
          by_cases h4 : l1.getD (2 * i + 2) 0 < l1.getD i 0
          · have H4 := Lib.hid (decide_eq_true h4)
            have H5 := Lib.hid h4
            clear h4
            go_wp2_with fail
            refine (less_i B v l1 true _ _ (2 * i + 2) (2 * i + 1) _ (by omega) (by omega) hat.row (by omega) (by omega) H3.out).mono ?_
            rintro e w1 ⟨rfl, q1⟩
            have hat := hat.qt q1
            have c1 := hat.cell
            have hkeep := hkeep.trans (Keep.qt q1)
            go_wp2_with fail
            refine (less_i B v l1 true _ _ (2 * i + 2) i _ (by omega) (by omega) hat.row (by omega) (by omega) H4.out).mono ?_
            rintro e w2 ⟨rfl, q2⟩
            have hat := hat.qt q2
            have c2 := hat.cell
            have hkeep := hkeep.trans (Keep.qt q2)
            go_wp2_with fail
            refine (swap_i B v l1 _ _ i (2 * i + 2) _ (by omega) (by omega) hat.row (by omega) (by omega)).mono ?_
            rintro e w3 ⟨rfl, hr3, k3⟩
            go_wp2_with fail
            refine ⟨⟨2 * i + 2, swapL l1 i (2 * i + 2), by first | rfl | (congr 1; omega), by omega, hat.turned hr3 k3, HInv.step hv Hch.out H5.out (by omega), (swapL_perm l1 i (2 * i + 2) (by omega) (by omega)).trans hperm, fun k hk => ?_, hkeep.trans k3⟩, ?_⟩
            · rw [swapL_getD _ _ _ _ (by omega) (by omega), if_neg (by omega), if_neg (by omega)]; exact Ht.out k hk
            · simp [intOf]; omega
          · have H4 := Lib.hid (decide_eq_false h4)
            have hle : l1.getD i 0 ≤ l1.getD (2 * i + 2) 0 := by omega
            have H5 := Lib.hid (hv.stop Hch.out hle)
            clear h4 hle
            go_wp2_with fail
            refine (less_i B v l1 true _ _ (2 * i + 2) (2 * i + 1) _ (by omega) (by omega) hat.row (by omega) (by omega) H3.out).mono ?_
            rintro e w1 ⟨rfl, q1⟩
            have hat := hat.qt q1
            have c1 := hat.cell
            have hkeep := hkeep.trans (Keep.qt q1)
            go_wp2_with fail
            refine (less_i B v l1 false _ _ (2 * i + 2) i _ (by omega) (by omega) hat.row (by omega) (by omega) H4.out).mono ?_
            rintro e w2 ⟨rfl, q2⟩
            have hat := hat.qt q2
            have c2 := hat.cell
            have hkeep := hkeep.trans (Keep.qt q2)
            go_wp2_with fail
            go_ret
            exact ⟨_, l1, rfl, hat, ⟨hperm, Ht.out, H5.out⟩, hkeep⟩
        · have H3 := Lib.hid (decide_eq_false h3)
          have hch : HChild l1 i n (2 * i + 1) := ⟨Or.inl rfl, h1, fun _ => Int.le_refl _, fun _ => by omega⟩
          have Hch := Lib.hid hch
          clear hch h3
          by_cases h4 : l1.getD (2 * i + 1) 0 < l1.getD i 0
          · have H4 := Lib.hid (decide_eq_true h4)
            have H5 := Lib.hid h4
            clear h4
            go_wp2_with fail
            refine (less_i B v l1 false _ _ (2 * i + 2) (2 * i + 1) _ (by omega) (by omega) hat.row (by omega) (by omega) H3.out).mono ?_
            rintro e w1 ⟨rfl, q1⟩
            have hat := hat.qt q1
            have c1 := hat.cell
            have hkeep := hkeep.trans (Keep.qt q1)
            go_wp2_with fail
            refine (less_i B v l1 true _ _ (2 * i + 1) i _ (by omega) (by omega) hat.row (by omega) (by omega) H4.out).mono ?_
            rintro e w2 ⟨rfl, q2⟩
            have hat := hat.qt q2
            have c2 := hat.cell
            have hkeep := hkeep.trans (Keep.qt q2)
            go_wp2_with fail
            refine (swap_i B v l1 _ _ i (2 * i + 1) _ (by omega) (by omega) hat.row (by omega) (by omega)).mono ?_
            rintro e w3 ⟨rfl, hr3, k3⟩
            go_wp2_with fail
            refine ⟨⟨2 * i + 1, swapL l1 i (2 * i + 1), by first | rfl | (congr 1; omega), by omega, hat.turned hr3 k3, HInv.step hv Hch.out H5.out (by omega), (swapL_perm l1 i (2 * i + 1) (by omega) (by omega)).trans hperm, fun k hk => ?_, hkeep.trans k3⟩, ?_⟩
            · rw [swapL_getD _ _ _ _ (by omega) (by omega), if_neg (by omega), if_neg (by omega)]; exact Ht.out k hk
            · simp [intOf]; omega
          · have H4 := Lib.hid (decide_eq_false h4)
            have hle : l1.getD i 0 ≤ l1.getD (2 * i + 1) 0 := by omega
            have H5 := Lib.hid (hv.stop Hch.out hle)
            clear h4 hle
            go_wp2_with fail
            refine (less_i B v l1 false _ _ (2 * i + 2) (2 * i + 1) _ (by omega) (by omega) hat.row (by omega) (by omega) H3.out).mono ?_
            rintro e w1 ⟨rfl, q1⟩
            have hat := hat.qt q1
            have c1 := hat.cell
            have hkeep := hkeep.trans (Keep.qt q1)
            go_wp2_with fail
            refine (less_i B v l1 false _ _ (2 * i + 1) i _ (by omega) (by omega) hat.row (by omega) (by omega) H4.out).mono ?_
            rintro e w2 ⟨rfl, q2⟩
            have hat := hat.qt q2
            have c2 := hat.cell
            have hkeep := hkeep.trans (Keep.qt q2)
            go_wp2_with fail
            go_ret
            exact ⟨_, l1, rfl, hat, ⟨hperm, Ht.out, H5.out⟩, hkeep⟩
      · have g3 : decide (2 * (i : Int) + 1 + 1 < n) = false := decide_eq_false (by omega)
        have hch : HChild l1 i n (2 * i + 1) := ⟨Or.inl rfl, h1, fun _ => Int.le_refl _, fun q => absurd q h2⟩
        have Hch := Lib.hid hch
        clear hch
        by_cases h4 : l1.getD (2 * i + 1) 0 < l1.getD i 0
        · have H4 := Lib.hid (decide_eq_true h4)
          have H5 := Lib.hid h4
          clear h4
          go_wp2_with fail
          refine (less_i B v l1 true _ _ (2 * i + 1) i _ (by omega) (by omega) hat.row (by omega) (by omega) H4.out).mono ?_
          rintro e w2 ⟨rfl, q2⟩
          have hat := hat.qt q2
          have c2 := hat.cell
          have hkeep := hkeep.trans (Keep.qt q2)
          go_wp2_with fail
          refine (swap_i B v l1 _ _ i (2 * i + 1) _ (by omega) (by omega) hat.row (by omega) (by omega)).mono ?_
          rintro e w3 ⟨rfl, hr3, k3⟩
          go_wp2_with fail
          refine ⟨⟨2 * i + 1, swapL l1 i (2 * i + 1), by first | rfl | (congr 1; omega), by omega, hat.turned hr3 k3, HInv.step hv Hch.out H5.out (by omega), (swapL_perm l1 i (2 * i + 1) (by omega) (by omega)).trans hperm, fun k hk => ?_, hkeep.trans k3⟩, ?_⟩
          · rw [swapL_getD _ _ _ _ (by omega) (by omega), if_neg (by omega), if_neg (by omega)]; exact Ht.out k hk
          · simp [intOf]; omega
        · have H4 := Lib.hid (decide_eq_false h4)
          have hle : l1.getD i 0 ≤ l1.getD (2 * i + 1) 0 := by omega
          have H5 := Lib.hid (hv.stop Hch.out hle)
          clear h4 hle
          go_wp2_with fail
          refine (less_i B v l1 false _ _ (2 * i + 1) i _ (by omega) (by omega) hat.row (by omega) (by omega) H4.out).mono ?_
          rintro e w2 ⟨rfl, q2⟩
          have hat := hat.qt q2
          have c2 := hat.cell
          have hkeep := hkeep.trans (Keep.qt q2)
          go_wp2_with fail
          go_ret
          exact ⟨_, l1, rfl, hat, ⟨hperm, Ht.out, H5.out⟩, hkeep⟩
    · have hc := hv.leaf (by omega)
      have Hc := Lib.hid hc
      have Ht := Lib.hid htail
      have Hl := Lib.hid hlen
      clear hc htail hlen
      go_wp2
      go_ret
      exact ⟨_, l1, rfl, hat, ⟨hperm, Ht.out, Hc.out⟩, hkeep⟩
end Go.Proofs.YtolilbcpfdnkjaaGreat.Bk

/- A heap of numbers behind *ids.back: Pop. -/
namespace Go.Proofs.YtolilbcpfdnkjaaGreat.Bk
open Go.RowKit
set_option linter.unusedSimpArgs false
set_option maxHeartbeats 400000 in
theorem len_any (v : Value) (B : Nat) (l : List Int) (w : World) (h : Ints w B v l) :
    Calls Tryz.prog 90 #[v] w fun e w' => e = .returned (.int .i64 l.length) ∧ Qt w w' := by
  rcases h.2 with ⟨rfl, h0⟩ | ⟨g, cap, cur, rfl, _⟩
  · have : l = [] := List.eq_nil_of_length_eq_zero h0
    subst this
    go_enter Tryz.func90, Tryz.ntmps90
    go_wp2
    go_ret
    exact ⟨rfl, Qt.refl _⟩
  · go_enter Tryz.func90, Tryz.ntmps90
    go_wp2
    go_ret
    exact ⟨rfl, Qt.refl _⟩
set_option maxHeartbeats 1000000 in
theorem hpop_any (B g o : Nat) (cs : Array Value) (t : TypeId) (v : Value) (l : List Int) (w : World) (h : HAt w B g o cs t v l) (hl : l.length ≤ 400000) (h0 : l ≠ []) (hc : ∀ k, HCond l l.length k) :
    Calls Tryz.prog 91 #[.iface 161 (.pointer (some ⟨g, o, none⟩))] w (HPopPost w B g o cs t v l) := by
  have m1 := mth_Len
  have m2 := mth_Swap
  have m3 := mth_Pop
  have c0 := h.cell
  obtain ⟨n, hn⟩ : ∃ n, l.length = n + 1 := ⟨l.length - 1, by have := List.length_pos_iff.2 h0; omega⟩
  have Hn := Lib.hid hn
  have Hc := Lib.hid hc
  have len1 : (l.length : Int) - 1 = n := by omega
  have Hlen1 := Lib.hid len1
  have hn1 : n < l.length := by omega
  have hn2 : n < 400000 := by omega
  have hl0 : 0 < l.length := by omega
  clear hc hn h0 len1
  go_enter Tryz.func91, Tryz.ntmps91
  go_wp2_with fail
  refine (len_any v B l _ h.row).mono ?_
  rintro e w1 ⟨rfl, q1⟩
  have h1 := h.qt q1
  have k1 := Keep.qt (F := fun k => k = g ∨ some k = v.ownBlock) q1
  have c1 := h1.cell
  clear q1
  go_wp2_with fail
  try rw [Hlen1.out]
  refine (swap_i B v l _ _ 0 n _ rfl (by first | rfl | exact Hlen1.out) h1.row hl0 hn1).mono ?_
  rintro e w2 ⟨rfl, hr2, k2⟩
  have h2 := h1.turned hr2 k2
  have k2' := k1.trans' k2 (fun i hi => Or.inl (Or.inr hi))
  have c2 := h2.cell
  clear k2 hr2
  go_wp2_with fail
  have D := down_any B g o 0 n cs t v (swapL l 0 n) w2 h2 (by rw [swapL_length]; omega) (by rw [swapL_length]; omega) (by omega) (fun k hk => by
    have G := fun k => swapL_getD l 0 n k hl0 hn1
    refine ⟨fun q => ?_, fun q => ?_⟩
    · rw [G, G, if_neg (by omega), if_neg (by omega), if_neg (by omega), if_neg (by omega)]; exact (Hc.out k).1 (by omega)
    · rw [G, G, if_neg (by omega), if_neg (by omega), if_neg (by omega), if_neg (by omega)]; exact (Hc.out k).2 (by omega))
  refine D.mono ?_
  rintro e w3 ⟨b, l3, rfl, h3, hsift, k3⟩
  have k3' := k2'.trans' k3 (fun i hi => Or.inl (Or.inr hi))
  have hlen3 : l3.length = n + 1 := by rw [hsift.perm.length_eq, swapL_length]; exact Hn.out
  have hx : l3.getD n 0 = l.getD 0 0 := by
    rw [hsift.tail n (Nat.le_refl _), swapL_getD l 0 n n hl0 hn1, if_pos rfl]
  have hsplit := getD_dropLast l3 n hlen3
  rw [hx] at hsplit
  have hperm : (l.getD 0 0 :: l3.take n).Perm l := by
    have p1 : (l3.take n ++ [l.getD 0 0]).Perm l := by rw [← hsplit]; exact hsift.perm.trans (swapL_perm l 0 n hl0 hn1)
    exact (List.perm_append_comm (l₁ := [l.getD 0 0])).trans p1
  have hcond : ∀ k, HCond (l3.take n) (l3.take n).length k := by
    intro k
    have hl4 : (l3.take n).length = n := by rw [List.length_take]; omega
    rw [hl4]
    have := hsift.cond k (Nat.zero_le _)
    exact ⟨fun q => by rw [getD_take _ _ _ (by omega), getD_take _ _ _ q]; exact this.1 q, fun q => by rw [getD_take _ _ _ (by omega), getD_take _ _ _ q]; exact this.2 q⟩
  have h3' : HAt w3 B g o cs t v (l3.take n ++ [l.getD 0 0]) := by rw [← hsplit]; exact h3
  have P := mpop_any B g o cs t v (l3.take n) (l.getD 0 0) w3 h3' (by rw [List.length_take]; omega)
  have HP := Lib.hid P
  have HF := Lib.hid (And.intro hperm hcond)
  clear P hperm hcond hsplit hx hlen3 hsift h3' D h3
  go_wp2_with fail
  refine (HP.out).mono ?_
  rintro e w4 ⟨rfl, v', h4, e4, k4⟩
  go_wp2_with fail
  go_ret
  exact ⟨_, v', by simp [hl0], h4, HF.out.1, HF.out.2, e4, k3'.trans' k4 (fun i hi => Or.inl (Or.inl hi))⟩
end Go.Proofs.YtolilbcpfdnkjaaGreat.Bk

/- A heap of numbers behind *ids.back: Push. -/
namespace Go.Proofs.YtolilbcpfdnkjaaGreat.Bk
open Go.RowKit
set_option linter.unusedSimpArgs false
theorem mth_Push (n : Nat) (a : Addr) (w : World) : (method (n + 1) 161 (.pointer (some a)) "Push").run Tryz.prog w = .ok (166, .pointer (some a)) w := by kernel_rfl
def PushPost (w : World) (B g o : Nat) (cs : Array Value) (t : TypeId) (v : Value) (l : List Int) (x : Int) (e : Ending) (w' : World) : Prop :=
  e = .returned (.tuple #[]) ∧ ∃ v', HAt w' B g o (cs.setIfInBounds o v') t v' (l ++ [x]) ∧ (∀ k, v'.ownBlock = some k → v.ownBlock = some k ∨ w.heap.size ≤ k) ∧ Keep (fun k => k = g ∨ some k = v.ownBlock) w w'
set_option maxHeartbeats 1000000 in
theorem mpush_any (B g o : Nat) (cs : Array Value) (t : TypeId) (v : Value) (l : List Int) (x : Int) (w : World) (h : HAt w B g o cs t v l) (hl : l.length < 1000000) (hB : B ≤ w.heap.size) :
    Calls Tryz.prog 166 #[.pointer (some ⟨g, o, none⟩), .iface 3 (.int .i64 x)] w (PushPost w B g o cs t v l x) := by
  have hc := h.cell
  have hf := h.frozen
  have hta := assert_int
  go_enter Tryz.func166, Tryz.ntmps166
  obtain ⟨i0, hi, hz0, hz1, hz2⟩ := info_parts info_int
  have hrow := h.row
  obtain ⟨a0, n0, c0, rfl⟩ := hrow.isSlice
  have hlt := h.lt
  have hblk := h.blk
  have hX : ∀ X, (w.alloc X).heap[g]? = some (.cells cs t (0, 0)) := fun X => m_old X hblk
  have hslot := h.slot
  have HX := Lib.hid hX
  clear hX hblk
  go_wp2_with fail
  have hX0 := HX.out (.cells #[.int .i64 x] 3)
  obtain ⟨hXc, hXf⟩ := m_cells hX0
  have hXo := (hXc o).trans hslot
  have hXf := hXf o
  clear hXc
  go_region_law
    (refine step_append_lies _ (by rfl) _ _ _ (by rfl) B 3 i0 _ 1 8 Tryz.underlying138 hi hz0 hz1 hz2 rfl (by decide) (.slice a0 n0 c0) l.length (l.map (Value.int .i64)) (by rfl) ((World.ownsRow.alloc hrow _).drew)
        ⟨w.heap.size, 0, none⟩ 1 1 [.int .i64 x] (by rfl) (by rfl) (World.news_of_block (cs := #[.int .i64 x]) (t := 3) (fr := (0, 0)) (heap_alloc_new w _)) (by simp [Value.oneCell'])
        (by decide) (by unfold maxLen; omega) (by omega) (by simp; omega) (w.heap.size + 1) (by simp) ?_; intro gg cap w1 hown1 hgrow hat hlt1; have hb1 : w1.heap[g]? = some (.cells cs t (0, 0)) := (hgrow.block g (by simp; omega) (fun e => h.ne e.symm)).trans hX0; have hwc := ((m_cells hb1).1 o).trans hslot; have hwf := (m_cells hb1).2 o)
  all_goals
    go_end0
    have ho : o < cs.size := by
      rcases Nat.lt_or_ge o cs.size with h' | h'
      · exact h'
      · rw [Array.getElem?_eq_none h'] at hslot; cases hslot
    have hggne : gg ≠ g := by
      rcases hat with q | q
      · intro e; subst e; exact h.ne q
      · omega
    have hown1' : Ints w1 B (.slice (some ⟨gg, 0, none⟩) (l.length + 1) cap) (l ++ [x]) := by
      unfold Ints; rw [List.length_append, List.map_append]; exact hown1
    have hI : Ints (w1.setCell ⟨g, o, none⟩ (.slice (some ⟨gg, 0, none⟩) (l.length + 1) cap)) B (.slice (some ⟨gg, 0, none⟩) (l.length + 1) cap) (l ++ [x]) :=
      hown1'.kept (fun k hk => Below.heap_setCell _ _ _ _ (by simp only [Value.ownBlock, Option.some.injEq] at hk; subst hk; exact hggne))
    have hK0 : Keep (fun k => k = g ∨ some k = (Value.slice a0 n0 c0).ownBlock) w (w.alloc (.cells #[.int .i64 x] 3)).drew := ((Keep.refl _ w).alloc _).drew
    have hK : Keep (fun k => k = g ∨ some k = (Value.slice a0 n0 c0).ownBlock) w (w1.setCell ⟨g, o, none⟩ (.slice (some ⟨gg, 0, none⟩) (l.length + 1) cap)) :=
      (hK0.trans' (Keep.grown hgrow) (fun i hi => Or.inl (Or.inr hi))).set _ _ _ (Or.inl (Or.inl rfl))
    refine ⟨rfl, .slice (some ⟨gg, 0, none⟩) (l.length + 1) cap, ⟨m_set hb1 _ _, by simp [ho], hI, by simp only [Value.ownBlock, ne_eq, Option.some.injEq]; exact hggne⟩, fun k hk => ?_, hK⟩
    simp only [Value.ownBlock, Option.some.injEq] at hk
    subst hk
    rcases hat with q | q
    · exact Or.inl q
    · exact Or.inr (by omega)
def UpRel (w : World) (B g o : Nat) (cs : Array Value) (t : TypeId) (v : Value) (l : List Int) (jv : Value) (wr : World) : Prop :=
  ∃ (j : Nat) (l1 : List Int), jv = .int .i64 j ∧ j < l.length ∧ HAt wr B g o cs t v l1 ∧ UInv l1 j l.length ∧ l1.Perm l ∧ Keep (fun k => some k = v.ownBlock) w wr
def UpPost (w : World) (B g o : Nat) (cs : Array Value) (t : TypeId) (v : Value) (l : List Int) (e : Ending) (w' : World) : Prop :=
  ∃ l', e = .returned (.tuple #[]) ∧ HAt w' B g o cs t v l' ∧ l'.Perm l ∧ (∀ k, HCond l' l'.length k) ∧ Keep (fun k => some k = v.ownBlock) w w'
set_option maxHeartbeats 2000000 in
theorem up_any (B g o j : Nat) (cs : Array Value) (t : TypeId) (v : Value) (l : List Int) (w : World) (h : HAt w B g o cs t v l) (hj : j < l.length) (hl : l.length ≤ 400000) (hinv : UInv l j l.length) :
    Calls Tryz.prog 112 #[.iface 161 (.pointer (some ⟨g, o, none⟩)), .int .i64 j] w (UpPost w B g o cs t v l) := by
  have m1 := mth_Less
  have m2 := mth_Swap
  go_enter Tryz.func112, Tryz.ntmps112
  go_wp2
  go_loopw [1, 4] (fun jv _ wr => UpRel w B g o cs t v l jv wr) (fun jv _ _ => (intOf jv).toNat)
  case atStart => exact ⟨j, l, rfl, hj, h, hinv, List.Perm.refl _, Keep.refl _ _⟩
  case round =>
    obtain ⟨j, l1, rfl, hjl, hat, hv, hperm, hkeep⟩ := hrel
    have hlen := hperm.length_eq
    have Hlen := Lib.hid hlen
    have c0 := hat.cell
    by_cases h0 : j = 0
    · have hc := hv.stop (fun q => by omega)
      have Hc := Lib.hid hc
      subst h0
      clear hc hlen hv
      go_wp2
      refine bodyPost_ret (v := .tuple #[]) (by simp [results, Tryz.results112, go_sem]) rfl ⟨l1, rfl, hat, hperm, fun k => by rw [Hlen.out]; exact Hc.out k, hkeep⟩
    · have e1 : ((j : Int) - 1).tdiv 2 = (((j - 1) / 2 : Nat) : Int) := by
        rw [show ((j : Int) - 1) = ((j - 1 : Nat) : Int) by omega]; rfl
      have e2 : ((j : Int) - 1) / 2 = (((j - 1) / 2 : Nat) : Int) := by omega
      have g1 : ((((j - 1) / 2 : Nat) : Int) == (j : Int)) = false := by rw [beq_eq_false_iff_ne]; omega
      have g2 : (((j : Int) - 1) / 2 == (j : Int)) = false := by rw [beq_eq_false_iff_ne]; omega
      clear hlen
      by_cases h4 : l1.getD j 0 < l1.getD ((j - 1) / 2) 0
      · have H4 := Lib.hid (decide_eq_true h4)
        have H5 := Lib.hid h4
        clear h4 e1 e2
        go_wp2_with fail
        refine (less_i B v l1 true _ _ j ((j - 1) / 2) _ rfl (by omega) hat.row (by rw [Hlen.out]; exact hjl) (by rw [Hlen.out]; omega) H4.out).mono ?_
        rintro e w1 ⟨rfl, q1⟩
        have hat := hat.qt q1
        have c1 := hat.cell
        have hkeep := hkeep.trans (Keep.qt q1)
        go_wp2_with fail
        refine (swap_i B v l1 _ _ ((j - 1) / 2) j _ (by omega) rfl hat.row (by rw [Hlen.out]; omega) (by rw [Hlen.out]; exact hjl)).mono ?_
        rintro e w3 ⟨rfl, hr3, k3⟩
        go_wp2_with fail
        refine ⟨⟨(j - 1) / 2, swapL l1 ((j - 1) / 2) j, by first | rfl | (congr 1; omega), by omega, hat.turned hr3 k3, UInv.step hv rfl (by omega) hjl (by rw [Hlen.out]; exact Nat.le_refl _) H5.out, (swapL_perm l1 _ _ (by rw [Hlen.out]; omega) (by rw [Hlen.out]; omega)).trans hperm, hkeep.trans k3⟩, ?_⟩
        simp [intOf]; omega
      · have H4 := Lib.hid (decide_eq_false h4)
        have H5 := Lib.hid (hv.stop (fun _ => Int.not_lt.1 h4))
        clear h4 e1 e2
        go_wp2_with fail
        refine (less_i B v l1 false _ _ j ((j - 1) / 2) _ rfl (by omega) hat.row (by rw [Hlen.out]; exact hjl) (by rw [Hlen.out]; omega) H4.out).mono ?_
        rintro e w1 ⟨rfl, q1⟩
        have hat := hat.qt q1
        have hkeep := hkeep.trans (Keep.qt q1)
        go_wp2_with fail
        refine bodyPost_ret (v := .tuple #[]) (by simp [results, Tryz.results112, go_sem]) rfl ⟨l1, rfl, hat, hperm, fun k => by rw [Hlen.out]; exact H5.out k, hkeep⟩
end Go.Proofs.YtolilbcpfdnkjaaGreat.Bk

/- A heap of numbers behind *ids.back: heap.Push. -/
namespace Go.Proofs.YtolilbcpfdnkjaaGreat.Bk
open Go.RowKit
set_option linter.unusedSimpArgs false
def HPushPost (w : World) (B g o : Nat) (cs : Array Value) (t : TypeId) (v : Value) (l : List Int) (x : Int) (e : Ending) (w' : World) : Prop :=
  e = .returned (.tuple #[]) ∧ ∃ l' v', HAt w' B g o (cs.setIfInBounds o v') t v' l' ∧ l'.Perm (l ++ [x]) ∧ (∀ k, HCond l' l'.length k) ∧ (∀ k, v'.ownBlock = some k → v.ownBlock = some k ∨ w.heap.size ≤ k) ∧ Keep (fun k => k = g ∨ some k = v.ownBlock) w w'
set_option maxHeartbeats 1000000 in
theorem hpush_any (B g o : Nat) (cs : Array Value) (t : TypeId) (v : Value) (l : List Int) (x : Int) (w : World) (h : HAt w B g o cs t v l) (hl : l.length < 300000) (hB : B ≤ w.heap.size) (hc : ∀ k, HCond l l.length k) :
    Calls Tryz.prog 98 #[.iface 161 (.pointer (some ⟨g, o, none⟩)), .iface 3 (.int .i64 x)] w (HPushPost w B g o cs t v l x) := by
  have m1 := mth_Len
  have m2 := mth_Push
  have Hc := Lib.hid hc
  clear hc
  go_enter Tryz.func98, Tryz.ntmps98
  go_wp2_with fail
  refine (mpush_any B g o cs t v l x _ h (by omega) hB).mono ?_
  rintro e w1 ⟨rfl, v1, h1, hv1, k1⟩
  have c1 := h1.cell
  go_wp2_with fail
  refine (len_any v1 B (l ++ [x]) _ h1.row).mono ?_
  rintro e w2 ⟨rfl, q2⟩
  have h2 := h1.qt q2
  have k2 := k1.trans (Keep.qt q2)
  have hlen : (l ++ [x]).length = l.length + 1 := by simp
  have hb2 : (l ++ [x]).length ≤ 400000 := by omega
  have hs : UInv (l ++ [x]) l.length (l ++ [x]).length := by rw [hlen]; exact UInv.start l x Hc.out
  have U := up_any B g o l.length _ t v1 (l ++ [x]) w2 h2 (by omega) hb2 hs
  have HU := Lib.hid U
  have Hv1 := Lib.hid hv1
  rw [hlen]
  clear hs U hlen hv1 c1 h1 k1
  go_wp2_with fail
  refine HU.out.mono ?_
  rintro e w3 ⟨l3, rfl, h3, hp3, hc3, k3⟩
  go_wp2_with fail
  refine bodyPost_ret (v := .tuple #[]) (by simp [results, Tryz.results98, go_sem]) rfl ⟨rfl, l3, v1, h3, hp3, hc3, Hv1.out, k2.trans' k3 (fun i hi => ?_)⟩
  rcases Hv1.out i hi.symm with q | q
  · exact Or.inl (Or.inr q.symm)
  · exact Or.inr q
end Go.Proofs.YtolilbcpfdnkjaaGreat.Bk
