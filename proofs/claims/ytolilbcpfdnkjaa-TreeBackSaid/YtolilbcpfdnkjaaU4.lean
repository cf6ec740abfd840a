/- tree: delete in a region that draws. -/
import Derived.Test.YtolilbcpfdnkjaaU3
namespace Go.Proofs.Ytolilbcpfdnkjaa
open Go.RowKit
set_option linter.unusedSimpArgs false
section
variable {V : Type} {enc : V → Value} {b : Nat} {L : List (Int × V)} {t tk te : TypeId} {ops : Array Oper} {rest : List Oper} {o : Oper} {a : Act} {w : World} {Q : Exit → Act → World → Prop}
theorem step_del {K : Act → World → Prop} {E1 : Prop} (hgd : o.guard = none) (m x : Operand) (ho : o.op = .call { callee := .builtin .delete, args := #[m, x], argTypes := #[t, tk] }) (ht : Try.prog.underlying t = some (.map tk te)) (hk : Try.prog.underlying tk = some (.int .i64))
    (k : Int) (hm : a.eval m = .map (some b)) (hx : a.eval x = .int .i64 k) (hmap : IMap enc w b L)
    (h : ∀ w', IMap enc w' b (mdel L k) → Keep (fun i => i = b) w w' → K (a.put o.dst (.tuple #[])) w') :
    if Region.wanted o (yielded ops a.tmps) = true then Oper.wp Try.prog o a w K Q else E1 := by
  have hw : Region.wanted o (yielded ops a.tmps) = true := by simp [Region.wanted, hgd]
  rw [if_pos hw]
  obtain ⟨w', hr, h1, h2⟩ := hmap.delete (P := Try.prog) ht hk k o.type
  unfold Oper.wp execOp
  simp only [ho, resolve, invoke, builtin, Sem.run_bind, Sem.run_pure, Result.andThen_ok, List.map_toArray, List.map_cons, List.map_nil, hm, hx, hr]
  exact h w' h1 h2
end
end Go.Proofs.Ytolilbcpfdnkjaa
