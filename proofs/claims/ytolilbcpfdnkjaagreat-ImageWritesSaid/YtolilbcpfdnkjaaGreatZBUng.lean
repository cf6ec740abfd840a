/- An operation whose guard holds, as one without a guard. -/
import Derived.Test.YtolilbcpfdnkjaaGreatZBByK
namespace Go.Proofs.YtolilbcpfdnkjaaGreat
open Go.RowKit
theorem wpList_unguard {ops : Array Oper} {rest : List Oper} {o : Oper} {a : Act} {w : World} {Q : Exit → Act → World → Prop} (hw : Region.wanted o (yielded ops a.tmps) = true)
    (h : wpList Tryz.prog ops Q ({ o with guard := none } :: rest) a w) : wpList Tryz.prog ops Q (o :: rest) a w := by
  unfold wpList at h ⊢
  rw [if_pos (by simp [Region.wanted])] at h
  rw [if_pos hw]
  exact h
end Go.Proofs.YtolilbcpfdnkjaaGreat
