/- deed: Decode of whatever bytes; the reference's May and Bytes. -/
import Derived.Test.YtepjflepnkfboaaD7
namespace Go.Proofs.Ytepjflepnkfboaa
open Go.RowKit
set_option linter.unusedSimpArgs false
theorem decode_any (b : ByteArray) (w : World) (hb : b.size ≤ maxLen) :
    Calls Try.prog 15 #[.string b] w fun e w' => e = .returned (.tuple #[.agg (decD b).1.cells, .int .i64 (decD b).2]) ∧ Below w.heap.size w w' := by
  rcases h1 : (RD.mk b false).num 1 with ⟨k, r1⟩
  rcases h2 : r1.num 2 with ⟨d, r2⟩
  rcases h3 : r2.name with ⟨n, r3⟩
  by_cases hk : k = 3
  · rcases h4 : r3.num 2 with ⟨t, r4⟩
    rcases h5 : r4.name with ⟨a, r5⟩
    rcases h6 : r5.num 4 with ⟨s, r6⟩
    exact decode_move b w hb k d t s n a r1 r2 r3 r4 r5 r6 h1 h2 h3 h4 h5 h6 hk
  · have hk3 : ((k : Int) == 3) = false := by rw [beq_eq_false_iff_ne]; omega
    rcases h4 : r3.num 1 with ⟨f, r4⟩
    by_cases hk2 : k = 2
    · exact decode_unlink b w hb k d f n r1 r2 r3 r4 h1 h2 h3 h4 hk3 (by simp; omega)
    · rcases h5 : r4.num 4 with ⟨s, r5⟩
      exact decode_link b w hb k d f s n r1 r2 r3 r4 r5 h1 h2 h3 h4 h5 hk3 (by simp; omega)
theorem may_not (x : DD) (h : x.k < 1 ∨ 3 < x.k) : decide x.may = false := by
  rw [decide_eq_false_iff_not]
  intro hm
  obtain ⟨_, _, _, _, _, _, _, _, hk⟩ := hm
  rcases hk with ⟨e, _⟩ | ⟨e, _⟩ | ⟨e, _⟩ <;> omega
set_option maxHeartbeats 2000000 in
set_option maxRecDepth 100000 in
theorem refmay_any (k d t s : Int) (n a : ByteArray) (is : Bool) (w : World) :
    Calls Try.prog 14 #[.agg #[.int .i64 k, .int .i64 d, .int .i64 t, .string n, .string a, .bool is, .int .i64 s]] w fun e w' => e = .returned (.bool (decide (DD.mk k d t n a is s).may)) ∧ Below w.heap.size w w' := by
  have hk : k < 1 ∨ k = 1 ∨ k = 2 ∨ k = 3 ∨ 3 < k := by omega
  rcases hk with hk | rfl | rfl | rfl | hk
  all_goals
    go_enter Try.func14, Try.ntmps14
    go_wp2
  all_goals
    go_ret
    refine ⟨ret_bool ?_, (Below.refl _ _).alloc (Nat.le_refl _) _⟩
    first
    | exact (may_not _ (Or.inl hk)).symm
    | exact (may_not _ (Or.inr hk)).symm
    | (simp_all [DD.may]; done)
    | (simp_all [DD.may]; omega)
    | (simp_all [DD.may]; intros; omega)
    | (simp_all [DD.may]; rw [Bool.eq_iff_iff]; simp; omega)
end Go.Proofs.Ytepjflepnkfboaa
