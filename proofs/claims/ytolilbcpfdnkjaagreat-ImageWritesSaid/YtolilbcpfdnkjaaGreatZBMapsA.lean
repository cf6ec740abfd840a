/- Maps with int keys: the operations' laws in a walk. -/
import Derived.Test.YtolilbcpfdnkjaaGreatZBMapsM
namespace Go.Proofs.YtolilbcpfdnkjaaGreat
open Go.RowKit
set_option linter.unusedSimpArgs false
section
variable {V : Type} {enc : V → Value} {b : Nat} {L : List (Int × V)} {t tk te : TypeId} {ops : Array Oper} {rest : List Oper} {o : Oper} {a : Act} {w : World} {Q : Exit → Act → World → Prop}
theorem map_del (hgd : o.guard = none) (m x : Operand) (ho : o.op = .call { callee := .builtin .delete, args := #[m, x], argTypes := #[t, tk] }) (ht : Tryz.prog.underlying t = some (.map tk te)) (hk : Tryz.prog.underlying tk = some (.int .i64))
    (k : Int) (hm : a.eval m = .map (some b)) (hx : a.eval x = .int .i64 k) (hmap : IMap enc w b L)
    (h : ∀ w', IMap enc w' b (mdel L k) → Keep (fun i => i = b) w w' → wpList Tryz.prog ops Q rest (a.put o.dst (.tuple #[])) w') : wpList Tryz.prog ops Q (o :: rest) a w := by
  refine wpList_plain hgd fun K hK => ?_
  obtain ⟨w', hr, h1, h2⟩ := hmap.delete (P := Tryz.prog) ht hk k o.type
  unfold Oper.wp execOp
  simp only [ho, resolve, invoke, builtin, Sem.run_bind, Sem.run_pure, Result.andThen_ok, List.map_toArray, List.map_cons, List.map_nil, hm, hx, hr]
  exact hK _ _ (h w' h1 h2)
theorem map_put (hgd : o.guard = none) (m x v : Operand) (ho : o.op = .mapUpdate t m x v) (ht : Tryz.prog.underlying t = some (.map tk te)) (hk : Tryz.prog.underlying tk = some (.int .i64))
    (k : Int) (y : V) (hm : a.eval m = .map (some b)) (hx : a.eval x = .int .i64 k) (hv : a.eval v = enc y) (hmap : IMap enc w b L)
    (h : ∀ w', IMap enc w' b (mput L k y) → Keep (fun i => i = b) w w' → wpList Tryz.prog ops Q rest (a.put o.dst undef) w') : wpList Tryz.prog ops Q (o :: rest) a w := by
  refine wpList_plain hgd fun K hK => ?_
  obtain ⟨w', hr, h1, h2⟩ := hmap.update (P := Tryz.prog) ht hk k y
  unfold Oper.wp execOp
  simp only [ho, Sem.run_bind, Sem.run_pure, Result.andThen_ok, hm, hx, hv, hr]
  exact hK _ _ (h w' h1 h2)
theorem wp_put {K : Act → World → Prop} (m x v : Operand) (ho : o.op = .mapUpdate t m x v) (ht : Tryz.prog.underlying t = some (.map tk te)) (hk : Tryz.prog.underlying tk = some (.int .i64))
    (k : Int) (y : V) (hm : a.eval m = .map (some b)) (hx : a.eval x = .int .i64 k) (hv : a.eval v = enc y) (hmap : IMap enc w b L)
    (h : ∀ w', IMap enc w' b (mput L k y) → Keep (fun i => i = b) w w' → K (a.put o.dst undef) w') : o.wp Tryz.prog a w K Q := by
  obtain ⟨w', hr, h1, h2⟩ := hmap.update (P := Tryz.prog) ht hk k y
  unfold Oper.wp execOp
  simp only [ho, Sem.run_bind, Sem.run_pure, Result.andThen_ok, hm, hx, hv, hr]
  exact h w' h1 h2
/-- At a step of a region that draws. -/
theorem step_put {K : Act → World → Prop} {E1 : Prop} (hgd : o.guard = none) (m x v : Operand) (ho : o.op = .mapUpdate t m x v) (ht : Tryz.prog.underlying t = some (.map tk te)) (hk : Tryz.prog.underlying tk = some (.int .i64))
    (k : Int) (y : V) (hm : a.eval m = .map (some b)) (hx : a.eval x = .int .i64 k) (hv : a.eval v = enc y) (hmap : IMap enc w b L)
    (h : ∀ w', IMap enc w' b (mput L k y) → Keep (fun i => i = b) w w' → K (a.put o.dst undef) w') :
    if Region.wanted o (yielded ops a.tmps) = true then Oper.wp Tryz.prog o a w K Q else E1 := by
  have hw : Region.wanted o (yielded ops a.tmps) = true := by simp [Region.wanted, hgd]
  rw [if_pos hw]
  exact wp_put m x v ho ht hk k y hm hx hv hmap h
end
end Go.Proofs.YtolilbcpfdnkjaaGreat
