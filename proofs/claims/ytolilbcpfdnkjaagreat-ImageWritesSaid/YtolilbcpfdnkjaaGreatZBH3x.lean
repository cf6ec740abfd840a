/- short: Free. -/
import Derived.Test.YtolilbcpfdnkjaaGreatZBH2x
namespace Go.Proofs.YtolilbcpfdnkjaaGreat
open Go.RowKit
set_option linter.unusedSimpArgs false
theorem info_int : (Tryz.prog.info? 3).map (fun i => (i.zero, i.size, i.bytes)) = some (some (.int .i64 0), 1, 8) := by kernel_rfl
theorem append_tx {P : Program} {t tx ty e e' : TypeId} {v x : Value} {w : World} (ht : P.underlying t = some (.slice e)) (hx : P.underlying tx = some (.slice e')) :
    (Builtin.append_ #[t, tx] ty #[v, x]).run P w = (Builtin.append_ #[t, t] ty #[v, x]).run P w := by
  unfold Builtin.append_
  cases v <;> simp [run_underlying ht, run_underlying hx]
/-- A slice of ints that came in. -/
def ArgI (w : World) (v : Value) (l : List Int) : Prop :=
  ∃ a cap, v = .slice a l.length cap ∧ ((a = none ∧ cap = 0 ∧ l = []) ∨ ∃ x, a = some x ∧ ∀ i, i < l.length → w.cell? (x.add i) = some (.int .i64 (l.getD i 0)))
section
variable {ops : Array Oper} {rest : List Oper} {o : Oper} {a : Act} {w : World} {Q : Exit → Act → World → Prop} {B : Nat}
theorem app_arg (hgd : o.guard = none) (s x : Operand) (ts tx : TypeId) (hts : Tryz.prog.underlying ts = some (.slice 3)) (htx : Tryz.prog.underlying tx = some (.slice 3)) (ho : o.op = .call { callee := .builtin .append, args := #[s, x], argTypes := #[ts, tx] })
    (v : Value) (l : List Int) (hs : a.eval s = v) (hown : Ints w B v l) (tv : Value) (news : List Int) (hx : a.eval x = tv) (harg : ArgI w tv news) (hbytes : (l.length + news.length) * 8 ≤ 140737488355328) (hbase : B ≤ w.heap.size)
    (h : ∀ v' w', Ints w' B v' (l ++ news) → w.grownBy w' v.ownBlock → wpList Tryz.prog ops Q rest (a.put o.dst v') w') : wpList Tryz.prog ops Q (o :: rest) a w := by
  obtain ⟨i0, hi, hz0, hz1, hz2⟩ := info_parts info_int
  obtain ⟨ad, cap, rfl, harg⟩ := harg
  rcases harg with ⟨rfl, rfl, rfl⟩ | ⟨ad, rfl, hc⟩
  · refine wpList_plain hgd fun K hK => ?_
    have hrun := run_append_owned_none (P := Tryz.prog) (w := w) B ts o.type 3 i0 1 hts hi v l.length (l.map (Value.int .i64)) hown
    unfold Oper.wp execOp
    simp only [ho, resolve, invoke, builtin, Sem.run_bind, Sem.run_pure, Result.andThen_ok, List.map_toArray, List.map_cons, List.map_nil, hs, hx, append_tx hts htx, List.length_nil, hrun]
    exact hK _ _ (h v w (by rw [List.append_nil]; exact hown) (grown_refl _ _))
  · refine wpList_plain hgd fun K hK => ?_
    obtain ⟨v', w', hr, h2, h3, _⟩ := run_append_own (P := Tryz.prog) w B ts o.type 3 i0 (.int .i64 0) 1 8 hts hi hz0 hz1 hz2 rfl (by decide) v l.length (l.map (Value.int .i64)) hown ad news.length cap (news.map (Value.int .i64)) (by simp)
      (fun j u hj => by
        have hjl : j < news.length := by
          rcases Nat.lt_or_ge j news.length with h | h
          · exact h
          · rw [List.getElem?_eq_none (by simpa using h)] at hj; cases hj
        rw [hc j hjl]; simp [hjl] at hj; simp [hjl, hj]) (fun u hu => by obtain ⟨c, _, rfl⟩ := List.mem_map.1 hu; rfl) (by unfold maxLen; omega) (by omega) hbase
    unfold Oper.wp execOp
    simp only [ho, resolve, invoke, builtin, Sem.run_bind, Sem.run_pure, Result.andThen_ok, List.map_toArray, List.map_cons, List.map_nil, hs, hx, append_tx hts htx, hr]
    refine hK _ _ (h v' w' ?_ h3)
    unfold Ints; rw [List.length_append, List.map_append]; exact h2
end
theorem Ints.new (w : World) (B : Nat) (cs : Array Value) (l : List Int) (hB : B ≤ w.heap.size) (e : cs.toList = l.map (Value.int .i64)) (hl : l.length ≤ maxLen) : Ints (w.alloc (.cells cs 3)) B (.slice (some ⟨w.heap.size, 0, none⟩) l.length l.length) l := by
  have := World.ownsRow_lit (base := B) (e := 3) (size := 1) w cs l.length hB hl (by rw [← Array.length_toList, e]; simp)
  rw [e] at this; exact this
theorem Ints.isSlice {w : World} {B : Nat} {v : Value} {l : List Int} (h : Ints w B v l) : ∃ a n c, v = .slice a n c := by
  rcases h.2 with ⟨rfl, _⟩ | ⟨_, _, _, rfl, _⟩
  · exact ⟨_, _, _, rfl⟩
  · exact ⟨_, _, _, rfl⟩
theorem ArgI.below {w w' : World} {v : Value} {l : List Int} (h : ArgI w v l) (hb : Below w.heap.size w w') : ArgI w' v l := by
  obtain ⟨a, cap, rfl, h⟩ := h
  refine ⟨a, cap, rfl, ?_⟩
  rcases h with h | ⟨x, rfl, hc⟩
  · exact Or.inl h
  · refine Or.inr ⟨x, rfl, fun i hi => ?_⟩
    have := hc i hi
    rw [hb.cell (World.block_lt_of_cell? _ _ this)]; exact this
/-- The length of the slice in a cell. -/
def lenAt (w : World) (g o : Nat) : Nat := match w.cell? ⟨g, o, none⟩ with | some (.slice _ n _) => n | _ => 0
theorem HAt.lenAt {w : World} {B g o : Nat} {cs : Array Value} {t : TypeId} {v : Value} {l : List Int} (h : HAt w B g o cs t v l) : lenAt w g o = l.length := by
  unfold Go.Proofs.YtolilbcpfdnkjaaGreat.lenAt
  rw [h.cell]
  rcases h.row.2 with ⟨rfl, h0⟩ | ⟨_, _, _, rfl, _⟩
  · exact h0.symm
  · rfl
/-- The least number from 1 on that isn't there. -/
def LeastFree (l : List Int) (n : Nat) : Prop := 1 ≤ n ∧ (n : Int) ∉ l ∧ (∀ m : Nat, 1 ≤ m → m < n → (m : Int) ∈ l)
theorem assert_int (x : Int) (w : World) : (Instr.typeAssert (.iface 3 (.int .i64 x)) 20 3 false).run Tryz.prog w = .ok (.int .i64 x) w := by kernel_rfl
def FreePost (w : World) (l : List Int) (e : Ending) (w' : World) : Prop := ∃ n : Nat, e = .returned (.int .i64 n) ∧ LeastFree l n ∧ n ≤ l.length + 1 ∧ Below w.heap.size w w'
end Go.Proofs.YtolilbcpfdnkjaaGreat
