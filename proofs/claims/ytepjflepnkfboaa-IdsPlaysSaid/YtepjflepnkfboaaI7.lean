/- ids: the law IdsSame for its row. -/
import Derived.Test.YtepjflepnkfboaaI6
namespace Go.Proofs.Ytepjflepnkfboaa
open Go.RowKit
theorem u8_range {n : Int} (h : (Lit.int .u8 n).wf = true) : 0 ≤ n ∧ n < 256 := by
  simp only [Lit.wf, Bool.and_eq_true, decide_eq_true_eq] at h
  have e1 : IntKind.u8.min = 0 := by decide
  have e2 : IntKind.u8.max = 255 := by decide
  omega
theorem idssame_row (n : Int) (tv : Value) (l : List Int) (w : World) (hn : (Lit.int .u8 n).wf = true) (h : ArgI w tv l) (hl : l.length ≤ maxLen) :
    Calls Try.prog 8 #[.int .u8 n, tv] w fun e w' => e = .returned (.bool true) ∧ Below w.heap.size w w' := by
  obtain ⟨h0, h1⟩ := u8_range hn
  obtain ⟨m, rfl⟩ := Int.eq_ofNat_of_zero_le h0
  exact idssame_any m tv l w h hl (by omega)
end Go.Proofs.Ytepjflepnkfboaa
