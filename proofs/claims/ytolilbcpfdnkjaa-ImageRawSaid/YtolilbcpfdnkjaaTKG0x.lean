/- A heap of numbers behind *ids.back: Len, Less, Swap, Pop. -/
import Derived.Test.YtolilbcpfdnkjaaTKH0x
namespace Go.Proofs.Ytolilbcpfdnkjaa.Bk
open Go.RowKit
set_option linter.unusedSimpArgs false
theorem mth_Len (n : Nat) (a : Addr) (w : World) : (method (n + 1) 128 (.pointer (some a)) "Len").run Try.prog w = ((loadVar 120 a).run Try.prog w).andThen fun v w' => .ok (68, v) w' :=
  Eq.trans (b := ((loadVar 120 a >>= fun v => (pure (68, v) : Sem (FuncId × Value))) : Sem (FuncId × Value)).run Try.prog w) (by kernel_rfl) (by rw [Sem.run_bind]; rfl)
theorem mth_Less (n : Nat) (a : Addr) (w : World) : (method (n + 1) 128 (.pointer (some a)) "Less").run Try.prog w = ((loadVar 120 a).run Try.prog w).andThen fun v w' => .ok (148, v) w' :=
  Eq.trans (b := ((loadVar 120 a >>= fun v => (pure (148, v) : Sem (FuncId × Value))) : Sem (FuncId × Value)).run Try.prog w) (by kernel_rfl) (by rw [Sem.run_bind]; rfl)
theorem mth_Swap (n : Nat) (a : Addr) (w : World) : (method (n + 1) 128 (.pointer (some a)) "Swap").run Try.prog w = ((loadVar 120 a).run Try.prog w).andThen fun v w' => .ok (150, v) w' :=
  Eq.trans (b := ((loadVar 120 a >>= fun v => (pure (150, v) : Sem (FuncId × Value))) : Sem (FuncId × Value)).run Try.prog w) (by kernel_rfl) (by rw [Sem.run_bind]; rfl)
theorem mth_Pop (n : Nat) (a : Addr) (w : World) : (method (n + 1) 128 (.pointer (some a)) "Pop").run Try.prog w = .ok (151, .pointer (some a)) w := by kernel_rfl
set_option maxHeartbeats 400000 in
theorem less_any (B i j : Nat) (v : Value) (l : List Int) (w : World) (h : Ints w B v l) (hi : i < l.length) (hj : j < l.length) :
    Calls Try.prog 148 #[v, .int .i64 i, .int .i64 j] w fun e w' => e = .returned (.bool (decide (l.getD i 0 < l.getD j 0))) ∧ Qt w w' := by
  obtain ⟨g, cap, rfl, hB, hg, hn, hc, hcell, hfr⟩ := h.slice (by intro h; rw [h] at hi; simp at hi)
  have ci := hcell i hi
  have cj := hcell j hj
  clear hcell
  generalize l.getD i 0 = x at *
  generalize l.getD j 0 = y at *
  unfold maxLen at hc
  have i1 : (0 : Int) ≤ i := by omega
  have i2 : (i : Int) < l.length := by omega
  have j1 : (0 : Int) ≤ j := by omega
  have j2 : (j : Int) < l.length := by omega
  go_enter Try.func148, Try.ntmps148
  go_wp2
  go_quiet (fail)
  go_wp2
  go_ret
  exact ⟨rfl, Qt.drewN _ _⟩
set_option maxHeartbeats 1000000 in
theorem swap_any (B i j : Nat) (v : Value) (l : List Int) (w : World) (h : Ints w B v l) (hi : i < l.length) (hj : j < l.length) :
    Calls Try.prog 150 #[v, .int .i64 i, .int .i64 j] w fun e w' => e = .returned (.tuple #[]) ∧ Ints w' B v (swapL l i j) ∧ Keep (fun k => some k = v.ownBlock) w w' := by
  obtain ⟨g, cap, rfl, hB, hg, hn, hc, hcell, hfr⟩ := h.slice (by intro h; rw [h] at hi; simp at hi)
  have ci := hcell i hi
  have cj := hcell j hj
  have fi := hfr i
  have fj := hfr j
  clear hcell
  have hx : swapL l i j = (l.set i (l.getD j 0)).set j (l.getD i 0) := rfl
  have Hx := Lib.hid hx
  clear hx
  generalize l.getD i 0 = x at *
  generalize l.getD j 0 = y at *
  unfold maxLen at hc
  have i1 : (0 : Int) ≤ i := by omega
  have i2 : (i : Int) < l.length := by omega
  have j1 : (0 : Int) ≤ j := by omega
  have j2 : (j : Int) < l.length := by omega
  go_enter Try.func150, Try.ntmps150
  go_wp2
  obtain ⟨y', hy'⟩ := cell?_setCell_some (w := w) (p := ⟨g, i, none⟩) (x := .int .i64 y) (q := ⟨g, j, none⟩) (v := .int .i64 y) (by go_simp)
  go_region
  go_end0
  refine ⟨rfl, ?_, ?_⟩
  · rw [Hx.out]
    exact Ints.set (Ints.set h i y) j x
  · have : Keep (fun k => some k = some g) w ((w.setCell ⟨g, i, none⟩ (.int .i64 y)).setCell ⟨g, j, none⟩ (.int .i64 x)).drew := (((Keep.refl (fun k => some k = some g) w).set g _ _ (Or.inl rfl)).set g _ _ (Or.inl rfl)).drew
    exact this
set_option maxHeartbeats 1000000 in
theorem mpop_any (B g o : Nat) (cs : Array Value) (t : TypeId) (v : Value) (l : List Int) (x : Int) (w : World) (h : HAt w B g o cs t v (l ++ [x])) (hl : l.length < 1000000) :
    Calls Try.prog 151 #[.pointer (some ⟨g, o, none⟩)] w (PopPost w B g o cs t v l x) := by
  have hc := h.cell
  have hf := h.frozen
  obtain ⟨gb, cap, rfl, hB, hg, hn, hcap, hcell, hfr⟩ := h.row.slice (by simp)
  have hx : w.cell? ⟨gb, l.length, none⟩ = some (.int .i64 x) := by have := hcell l.length (by simp); simpa using this
  clear hcell
  have hlen : (l ++ [x]).length = l.length + 1 := by simp
  rw [hlen] at hc hn
  have hrow := h.row
  rw [hlen] at hrow
  have Hlen := Lib.hid hlen
  unfold maxLen at hcap
  clear hlen
  go_enter Try.func151, Try.ntmps151
  go_wp2
  go_ret
  have ho : o < cs.size := by
    have := h.slot
    rcases Nat.lt_or_ge o cs.size with h' | h'
    · exact h'
    · rw [Array.getElem?_eq_none h'] at this; cases this
  have hgb : gb ≠ g := by have := h.ne; simpa [Value.ownBlock] using this
  refine ⟨rfl, .slice (some ⟨gb, 0, none⟩) l.length cap, ⟨m_set h.blk _ _, by simp [ho], (Ints.shrink hrow).kept fun k hk => ?_, h.ne⟩, rfl, (Keep.refl _ w).set _ _ _ (Or.inl rfl)⟩
  simp only [Value.ownBlock, Option.some.injEq] at hk
  subst hk
  exact Below.heap_setCell _ _ _ _ hgb
end Go.Proofs.Ytolilbcpfdnkjaa.Bk
