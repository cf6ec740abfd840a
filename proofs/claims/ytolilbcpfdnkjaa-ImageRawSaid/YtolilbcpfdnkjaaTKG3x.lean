/- A heap of numbers behind *ids.back: Push. -/
import Derived.Test.YtolilbcpfdnkjaaTKG2x
import Derived.Test.YtolilbcpfdnkjaaTKHPU
import Derived.Test.YtolilbcpfdnkjaaTKH3x
import Derived.Deep.RegionHeld3
import Derived.Deep.RegionLaw
import Derived.Deep.AppendLies
namespace Go.Proofs.Ytolilbcpfdnkjaa.Bk
open Go.RowKit
set_option linter.unusedSimpArgs false
theorem mth_Push (n : Nat) (a : Addr) (w : World) : (method (n + 1) 128 (.pointer (some a)) "Push").run Try.prog w = .ok (152, .pointer (some a)) w := by kernel_rfl
def PushPost (w : World) (B g o : Nat) (cs : Array Value) (t : TypeId) (v : Value) (l : List Int) (x : Int) (e : Ending) (w' : World) : Prop :=
  e = .returned (.tuple #[]) ∧ ∃ v', HAt w' B g o (cs.setIfInBounds o v') t v' (l ++ [x]) ∧ (∀ k, v'.ownBlock = some k → v.ownBlock = some k ∨ w.heap.size ≤ k) ∧ Keep (fun k => k = g ∨ some k = v.ownBlock) w w'
set_option maxHeartbeats 1000000 in
theorem mpush_any (B g o : Nat) (cs : Array Value) (t : TypeId) (v : Value) (l : List Int) (x : Int) (w : World) (h : HAt w B g o cs t v l) (hl : l.length < 1000000) (hB : B ≤ w.heap.size) :
    Calls Try.prog 152 #[.pointer (some ⟨g, o, none⟩), .iface 3 (.int .i64 x)] w (PushPost w B g o cs t v l x) := by
  have hc := h.cell
  have hf := h.frozen
  have hta := assert_int
  go_enter Try.func152, Try.ntmps152
  obtain ⟨i0, hi, hz0, hz1, hz2⟩ := info_parts info_int
  have hrow := h.row
  obtain ⟨a0, n0, c0, rfl⟩ := hrow.isSlice
  have hlt := h.lt
  have hblk := h.blk
  have hX : ∀ X, (w.alloc X).heap[g]? = some (.cells cs t (0, 0)) := fun X => m_old X hblk
  have hslot := h.slot
  have HX := Lib.hid hX
  clear hX hblk
  go_wp2_with fail
  have hX0 := HX.out (.cells #[.int .i64 x] 3)
  obtain ⟨hXc, hXf⟩ := m_cells hX0
  have hXo := (hXc o).trans hslot
  have hXf := hXf o
  clear hXc
  go_region_law
    (refine step_append_lies _ (by rfl) _ _ _ (by rfl) B 3 i0 _ 1 8 Try.underlying120 hi hz0 hz1 hz2 rfl (by decide) (.slice a0 n0 c0) l.length (l.map (Value.int .i64)) (by rfl) ((World.ownsRow.alloc hrow _).drew)
        ⟨w.heap.size, 0, none⟩ 1 1 [.int .i64 x] (by rfl) (by rfl) (World.news_of_block (cs := #[.int .i64 x]) (t := 3) (fr := (0, 0)) (heap_alloc_new w _)) (by simp [Value.oneCell'])
        (by decide) (by unfold maxLen; omega) (by omega) (by simp; omega) (w.heap.size + 1) (by simp) ?_; intro gg cap w1 hown1 hgrow hat hlt1; have hb1 : w1.heap[g]? = some (.cells cs t (0, 0)) := (hgrow.block g (by simp; omega) (fun e => h.ne e.symm)).trans hX0; have hwc := ((m_cells hb1).1 o).trans hslot; have hwf := (m_cells hb1).2 o)
  all_goals
    go_end0
    have ho : o < cs.size := by
      rcases Nat.lt_or_ge o cs.size with h' | h'
      · exact h'
      · rw [Array.getElem?_eq_none h'] at hslot; cases hslot
    have hggne : gg ≠ g := by
      rcases hat with q | q
      · intro e; subst e; exact h.ne q
      · omega
    have hown1' : Ints w1 B (.slice (some ⟨gg, 0, none⟩) (l.length + 1) cap) (l ++ [x]) := by
      unfold Ints; rw [List.length_append, List.map_append]; exact hown1
    have hI : Ints (w1.setCell ⟨g, o, none⟩ (.slice (some ⟨gg, 0, none⟩) (l.length + 1) cap)) B (.slice (some ⟨gg, 0, none⟩) (l.length + 1) cap) (l ++ [x]) :=
      hown1'.kept (fun k hk => Below.heap_setCell _ _ _ _ (by simp only [Value.ownBlock, Option.some.injEq] at hk; subst hk; exact hggne))
    have hK0 : Keep (fun k => k = g ∨ some k = (Value.slice a0 n0 c0).ownBlock) w (w.alloc (.cells #[.int .i64 x] 3)).drew := ((Keep.refl _ w).alloc _).drew
    have hK : Keep (fun k => k = g ∨ some k = (Value.slice a0 n0 c0).ownBlock) w (w1.setCell ⟨g, o, none⟩ (.slice (some ⟨gg, 0, none⟩) (l.length + 1) cap)) :=
      (hK0.trans' (Keep.grown hgrow) (fun i hi => Or.inl (Or.inr hi))).set _ _ _ (Or.inl (Or.inl rfl))
    refine ⟨rfl, .slice (some ⟨gg, 0, none⟩) (l.length + 1) cap, ⟨m_set hb1 _ _, by simp [ho], hI, by simp only [Value.ownBlock, ne_eq, Option.some.injEq]; exact hggne⟩, fun k hk => ?_, hK⟩
    simp only [Value.ownBlock, Option.some.injEq] at hk
    subst hk
    rcases hat with q | q
    · exact Or.inl q
    · exact Or.inr (by omega)
def UpRel (w : World) (B g o : Nat) (cs : Array Value) (t : TypeId) (v : Value) (l : List Int) (jv : Value) (wr : World) : Prop :=
  ∃ (j : Nat) (l1 : List Int), jv = .int .i64 j ∧ j < l.length ∧ HAt wr B g o cs t v l1 ∧ UInv l1 j l.length ∧ l1.Perm l ∧ Keep (fun k => some k = v.ownBlock) w wr
def UpPost (w : World) (B g o : Nat) (cs : Array Value) (t : TypeId) (v : Value) (l : List Int) (e : Ending) (w' : World) : Prop :=
  ∃ l', e = .returned (.tuple #[]) ∧ HAt w' B g o cs t v l' ∧ l'.Perm l ∧ (∀ k, HCond l' l'.length k) ∧ Keep (fun k => some k = v.ownBlock) w w'
set_option maxHeartbeats 2000000 in
theorem up_any (B g o j : Nat) (cs : Array Value) (t : TypeId) (v : Value) (l : List Int) (w : World) (h : HAt w B g o cs t v l) (hj : j < l.length) (hl : l.length ≤ 400000) (hinv : UInv l j l.length) :
    Calls Try.prog 90 #[.iface 128 (.pointer (some ⟨g, o, none⟩)), .int .i64 j] w (UpPost w B g o cs t v l) := by
  have m1 := mth_Less
  have m2 := mth_Swap
  go_enter Try.func90, Try.ntmps90
  go_wp2
  go_loopw [1, 4] (fun jv _ wr => UpRel w B g o cs t v l jv wr) (fun jv _ _ => (intOf jv).toNat)
  case atStart => exact ⟨j, l, rfl, hj, h, hinv, List.Perm.refl _, Keep.refl _ _⟩
  case round =>
    obtain ⟨j, l1, rfl, hjl, hat, hv, hperm, hkeep⟩ := hrel
    have hlen := hperm.length_eq
    have Hlen := Lib.hid hlen
    have c0 := hat.cell
    by_cases h0 : j = 0
    · have hc := hv.stop (fun q => by omega)
      have Hc := Lib.hid hc
      subst h0
      clear hc hlen hv
      go_wp2
      refine bodyPost_ret (v := .tuple #[]) (by simp [results, Try.results90, go_sem]) rfl ⟨l1, rfl, hat, hperm, fun k => by rw [Hlen.out]; exact Hc.out k, hkeep⟩
    · have e1 : ((j : Int) - 1).tdiv 2 = (((j - 1) / 2 : Nat) : Int) := by
        rw [show ((j : Int) - 1) = ((j - 1 : Nat) : Int) by omega]; rfl
      have e2 : ((j : Int) - 1) / 2 = (((j - 1) / 2 : Nat) : Int) := by omega
      have g1 : ((((j - 1) / 2 : Nat) : Int) == (j : Int)) = false := by rw [beq_eq_false_iff_ne]; omega
      have g2 : (((j : Int) - 1) / 2 == (j : Int)) = false := by rw [beq_eq_false_iff_ne]; omega
      clear hlen
      by_cases h4 : l1.getD j 0 < l1.getD ((j - 1) / 2) 0
      · have H4 := Lib.hid (decide_eq_true h4)
        have H5 := Lib.hid h4
        clear h4 e1 e2
        go_wp2_with fail
        refine (less_i B v l1 true _ _ j ((j - 1) / 2) _ rfl (by omega) hat.row (by rw [Hlen.out]; exact hjl) (by rw [Hlen.out]; omega) H4.out).mono ?_
        rintro e w1 ⟨rfl, q1⟩
        have hat := hat.qt q1
        have c1 := hat.cell
        have hkeep := hkeep.trans (Keep.qt q1)
        go_wp2_with fail
        refine (swap_i B v l1 _ _ ((j - 1) / 2) j _ (by omega) rfl hat.row (by rw [Hlen.out]; omega) (by rw [Hlen.out]; exact hjl)).mono ?_
        rintro e w3 ⟨rfl, hr3, k3⟩
        go_wp2_with fail
        refine ⟨⟨(j - 1) / 2, swapL l1 ((j - 1) / 2) j, by first | rfl | (congr 1; omega), by omega, hat.turned hr3 k3, UInv.step hv rfl (by omega) hjl (by rw [Hlen.out]; exact Nat.le_refl _) H5.out, (swapL_perm l1 _ _ (by rw [Hlen.out]; omega) (by rw [Hlen.out]; omega)).trans hperm, hkeep.trans k3⟩, ?_⟩
        simp [intOf]; omega
      · have H4 := Lib.hid (decide_eq_false h4)
        have H5 := Lib.hid (hv.stop (fun _ => Int.not_lt.1 h4))
        clear h4 e1 e2
        go_wp2_with fail
        refine (less_i B v l1 false _ _ j ((j - 1) / 2) _ rfl (by omega) hat.row (by rw [Hlen.out]; exact hjl) (by rw [Hlen.out]; omega) H4.out).mono ?_
        rintro e w1 ⟨rfl, q1⟩
        have hat := hat.qt q1
        have hkeep := hkeep.trans (Keep.qt q1)
        go_wp2_with fail
        refine bodyPost_ret (v := .tuple #[]) (by simp [results, Try.results90, go_sem]) rfl ⟨l1, rfl, hat, hperm, fun k => by rw [Hlen.out]; exact H5.out k, hkeep⟩
end Go.Proofs.Ytolilbcpfdnkjaa.Bk
