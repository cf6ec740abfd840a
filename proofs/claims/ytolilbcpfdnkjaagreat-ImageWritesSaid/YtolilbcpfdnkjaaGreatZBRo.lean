/- Rows that begin anywhere in their block: what is left of a row whose first elements were cut off; appending one. -/
import Derived.Test.YtolilbcpfdnkjaaGreatZBRk
import Derived.Test.YtolilbcpfdnkjaaGreatZBUng
namespace Go.Proofs.YtolilbcpfdnkjaaGreat
open Go.RowKit
set_option linter.unusedSimpArgs false
set_option linter.unusedVariables false
/-- A slice of the call's own, wherever it begins. -/
def RowO {α : Type} (E : EK α) (w : World) (B : Nat) (v : Value) (l : List α) : Prop :=
  (v = .slice none 0 0 ∧ l = []) ∨ ∃ g off cap, v = .slice (some ⟨g, off, none⟩) l.length cap ∧ B ≤ g ∧ g < w.heap.size ∧ l.length ≤ cap ∧ cap ≤ maxLen ∧
    (∀ j u, (l.flatMap E.enc)[j]? = some u → w.cell? ⟨g, off + j, none⟩ = some u) ∧
    (∀ j, j < cap * E.size → (w.cell? ⟨g, off + j, none⟩).isSome = true ∧ w.frozen? ⟨g, off + j, none⟩ = false)
section
variable {α : Type} {E : EK α} {w w' : World} {B : Nat} {v : Value} {l : List α}
theorem RowO.nil (E : EK α) (w : World) (B : Nat) : RowO E w B (.slice none 0 0) [] := Or.inl ⟨rfl, rfl⟩
theorem RowO.of_row (h : Row E w B v l) : RowO E w B v l := by
  rcases h.2 with ⟨rfl, q⟩ | ⟨g, cap, cur, rfl, hg, hh, hn, hc, hz, ht⟩
  · exact Or.inl ⟨rfl, List.eq_nil_of_length_eq_zero q⟩
  · have hm := m_cells hh
    refine Or.inr ⟨g, 0, cap, rfl, hg, m_lt hh, hn, hc, fun j u hj => ?_, fun j hj => ?_⟩
    · rw [Nat.zero_add, hm.1 j]
      have hjl := (List.getElem?_eq_some_iff.1 hj).1
      rw [E.flat_len] at hjl
      rw [← ht, List.getElem?_take] at hj
      rw [if_pos hjl] at hj
      rw [← Array.getElem?_toList]; exact hj
    · rw [Nat.zero_add]
      refine ⟨?_, hm.2 j⟩
      rw [hm.1 j, Array.getElem?_eq_getElem (by omega)]; rfl
theorem RowO.kept (h : RowO E w B v l) (hs : w.heap.size ≤ w'.heap.size) (hk : ∀ k, v.ownBlock = some k → w'.heap[k]? = w.heap[k]?) : RowO E w' B v l := by
  rcases h with h | ⟨g, off, cap, rfl, h1, h2, h3, h4, h5, h6⟩
  · exact Or.inl h
  · have hb := hk g rfl
    exact Or.inr ⟨g, off, cap, rfl, h1, Nat.lt_of_lt_of_le h2 hs, h3, h4, fun j u hj => by rw [World.cell?_of_block (by exact hb)]; exact h5 j u hj,
      fun j hj => by rw [World.cell?_of_block (by exact hb), World.frozen?_of_block (by exact hb)]; exact h6 j hj⟩
theorem RowO.lt (h : RowO E w B v l) {k : Nat} (hk : v.ownBlock = some k) : k < w.heap.size := by
  rcases h with ⟨rfl, _⟩ | ⟨g, off, cap, rfl, h1, h2, _⟩
  · cases hk
  · simp only [Value.ownBlock, Option.some.injEq] at hk; subst hk; exact h2
theorem RowO.ge (h : RowO E w B v l) {k : Nat} (hk : v.ownBlock = some k) : B ≤ k := by
  rcases h with ⟨rfl, _⟩ | ⟨g, off, cap, rfl, h1, h2, _⟩
  · cases hk
  · simp only [Value.ownBlock, Option.some.injEq] at hk; subst hk; exact h1
theorem RowO.keep {F : Nat → Prop} (h : RowO E w B v l) (k : Keep F w w') (hd : ∀ i, v.ownBlock = some i → ¬ F i) : RowO E w' B v l := h.kept k.size fun j hj => k.block j (h.lt hj) (hd j hj)
theorem RowO.below (h : RowO E w B v l) (k : Below w.heap.size w w') : RowO E w' B v l := h.kept k.size fun j hj => k.block j (h.lt hj)
theorem RowO.shape (h : RowO E w B v l) : ∃ a c, v = .slice a l.length c := by
  rcases h with ⟨rfl, rfl⟩ | ⟨g, off, cap, rfl, _⟩
  · exact ⟨_, _, rfl⟩
  · exact ⟨_, _, rfl⟩
theorem RowO.arg (h : RowO E w B v l) : Arg E w v l := by
  rcases h with ⟨rfl, rfl⟩ | ⟨g, off, cap, rfl, h1, h2, h3, h4, h5, h6⟩
  · exact Arg.nil E w
  · exact ⟨_, _, rfl, Or.inr ⟨_, rfl, fun j u hj => by rw [Addr.add_lit]; exact h5 j u hj⟩⟩
/-- What is left behind the first. -/
theorem RowO.tail {g cap : Nat} {x : α} (h : Row E w B (.slice (some ⟨g, 0, none⟩) (x :: l).length cap) (x :: l)) :
    RowO E w B (.slice (if cap = 1 then some ⟨g, 0, none⟩ else some ⟨g, E.size, none⟩) l.length (cap - 1)) l := by
  rcases RowO.of_row h with ⟨_, q⟩ | ⟨g', off, cap', e, h1, h2, h3, h4, h5, h6⟩
  · cases q
  · simp only [Value.slice.injEq, Option.some.injEq, Addr.mk.injEq, and_true, true_and] at e
    obtain ⟨⟨rfl, rfl⟩, rfl⟩ := e
    simp only [List.length_cons] at h3
    by_cases hc : cap = 1
    · subst hc
      have : l = [] := List.eq_nil_of_length_eq_zero (by omega)
      subst this
      rw [if_pos rfl]
      exact Or.inr ⟨g, 0, 0, rfl, h1, h2, Nat.zero_le _, by unfold maxLen; omega, fun j u hj => by simp at hj, fun j hj => by simp at hj⟩
    · rw [if_neg hc]
      refine Or.inr ⟨g, E.size, cap - 1, rfl, h1, h2, by omega, by omega, fun j u hj => ?_, fun j hj => ?_⟩
      · have := h5 (E.size + j) u (by
          rw [List.flatMap_cons, List.getElem?_append_right (by rw [E.len]; omega), E.len, Nat.add_sub_cancel_left]; exact hj)
        rwa [Nat.zero_add] at this
      · have := h6 (E.size + j) (by
          have e : cap = cap - 1 + 1 := by omega
          rw [e, Nat.succ_mul]; omega)
        rwa [Nat.zero_add] at this
theorem heap_setCells (b : Nat) : ∀ (vs : List Value) (o : Nat) (w : World), Keep (fun k => k = b) w (w.setCells b o vs)
  | [], _, w => Keep.refl _ _
  | v :: r, o, w => by
    rw [World.setCells]
    exact ((Keep.refl (fun k => k = b) w).set b o v (Or.inl rfl)).trans (heap_setCells b r (o + 1) _)
theorem size_setCells (b : Nat) : ∀ (vs : List Value) (o : Nat) (w : World), (w.setCells b o vs).heap.size = w.heap.size
  | [], _, w => rfl
  | v :: r, o, w => by
    rw [World.setCells, size_setCells b r (o + 1)]
    simp [World.setCell]
end
section
variable {α : Type} {E : EK α} {ops : Array Oper} {rest : List Oper} {o : Oper} {a : Act} {w : World} {Q : Exit → Act → World → Prop} {B : Nat}
/-- One element behind a row, at the operation. -/
theorem wp_appO {K : Act → World → Prop} (L : E.Laid) (s x : Operand) (ts : TypeId) (hts : Tryz.prog.underlying ts = some (.slice E.t)) (ho : o.op = .call { callee := .builtin .append, args := #[s, x], argTypes := #[ts, ts] })
    (v : Value) (l : List α) (hs : a.eval s = v) (hown : RowO E w B v l) (ad : Addr) (y : α) (c : Nat) (hx : a.eval x = .slice (some ad) 1 c) (harg : ∀ j u, (E.enc y)[j]? = some u → w.cell? (ad.add j) = some u) (hbytes : (l.length + 1) * E.bytes ≤ 140737488355328) (h63 : l.length + 1 ≤ maxLen) (hbase : B ≤ w.heap.size)
    (h : ∀ v' w', RowO E w' B v' (l ++ [y]) → (∀ k, v'.ownBlock = some k → v.ownBlock = some k ∨ w.heap.size ≤ k) → Keep (fun k => some k = v.ownBlock) w w' → K (a.put o.dst v') w') : o.wp Tryz.prog a w K Q := by
  obtain ⟨i0, z, hi, hz, hs0, hby, hzs⟩ := L
  have hel : (E.enc y).length = 1 * E.size := by rw [E.len, Nat.one_mul]
  rcases hown with ⟨rfl, rfl⟩ | ⟨g, off, cap, rfl, h1, h2, h3, h4, h5, h6⟩
  · obtain ⟨v', w', hr, h2, h3, _, h5⟩ := run_append_own_at (P := Tryz.prog) w B ts o.type E.t i0 z E.size E.bytes hts hi hz hs0 hby hzs E.pos (.slice none 0 0) 0 [] (World.ownsRow_nil _ _ _ _) ad 1 c (E.enc y) hel
      harg (fun u hu => E.one y u hu) (by simpa using h63) (by simpa using hbytes) hbase
    unfold Oper.wp execOp
    simp only [ho, resolve, invoke, builtin, Sem.run_bind, Sem.run_pure, Result.andThen_ok, List.map_toArray, List.map_cons, List.map_nil, hs, hx, hr]
    refine h v' w' (RowO.of_row ?_) (fun k q => ?_) (Keep.grown h3)
    · unfold Row; simpa using h2
    · rcases h5 with h5 | h5
      · exact Or.inl (by rw [← h5]; exact q)
      · rw [h5] at q; exact Or.inr (Nat.le_of_eq (by simpa using q))
  · rcases Nat.lt_or_ge cap (l.length + 1) with hlt | hge
    · obtain ⟨v', w', hr, r1, r2⟩ := run_append_arg_grows (P := Tryz.prog) w ts o.type E.t i0 z E.size E.bytes hts hi hz hs0 hby hzs E.pos ⟨g, off, none⟩ l.length cap (l.flatMap E.enc) (E.flat_len l)
        (fun j u hj => by rw [Addr.add_lit]; exact h5 j u hj) ad 1 c (E.enc y) hel harg hlt h63 hbytes
      unfold Oper.wp execOp
      simp only [ho, resolve, invoke, builtin, Sem.run_bind, Sem.run_pure, Result.andThen_ok, List.map_toArray, List.map_cons, List.map_nil, hs, hx, hr]
      have hrow : Row E w' w.heap.size v' (l ++ [y]) := by
        unfold Row; rw [List.length_append, List.flatMap_append]; simpa using r1
      refine h v' w' (RowO.of_row (hrow.mono hbase)) (fun k q => ?_) ((Keep.grown r2).mono (fun i q => by cases q))
      exact Or.inr (hrow.ge q)
    · have hr := run_append_room_cells (P := Tryz.prog) w ts o.type E.t i0 hts hi g off l.length cap ad 1 c (E.enc y) (by rw [hs0]; exact hel) harg (fun u hu => E.one y u hu) hge
        (fun j hj => by
          rw [hs0]
          have := (h6 (l.length * E.size + j) (by rw [E.len] at hj; have : (l.length + 1) * E.size ≤ cap * E.size := Nat.mul_le_mul_right _ hge; rw [Nat.succ_mul] at this; omega)).1
          rwa [← Nat.add_assoc] at this)
        (fun j hj => by
          rw [hs0]
          have := (h6 (l.length * E.size + j) (by rw [E.len] at hj; have : (l.length + 1) * E.size ≤ cap * E.size := Nat.mul_le_mul_right _ hge; rw [Nat.succ_mul] at this; omega)).2
          rwa [← Nat.add_assoc] at this)
      rw [hs0] at hr
      unfold Oper.wp execOp
      simp only [ho, resolve, invoke, builtin, Sem.run_bind, Sem.run_pure, Result.andThen_ok, List.map_toArray, List.map_cons, List.map_nil, hs, hx, hr]
      refine h _ _ (Or.inr ⟨g, off, cap, by simp, h1, by rw [size_setCells]; exact h2, by simpa using hge, h4, fun j u hj => ?_, fun j hj => ?_⟩) (fun k q => Or.inl q) ((heap_setCells g _ _ w).mono (fun i q => Or.inl (by rw [q]; rfl)))
      · rw [List.flatMap_append] at hj
        by_cases hjl : j < l.length * E.size
        · rw [World.cell?_setCells_out _ _ _ _ _ (fun _ _ => Or.inl (by show off + j < off + l.length * E.size; omega))]
          rw [List.getElem?_append_left (by rw [E.flat_len]; exact hjl)] at hj
          exact h5 j u hj
        · rw [List.getElem?_append_right (by rw [E.flat_len]; omega), E.flat_len] at hj
          simp only [List.flatMap_cons, List.flatMap_nil, List.append_nil] at hj
          obtain ⟨q1, q2⟩ := List.getElem?_eq_some_iff.1 hj
          have := World.cell?_setCells_in g (E.enc y) (off + l.length * E.size) w (fun i hi => by
            have := (h6 (l.length * E.size + i) (by rw [E.len] at hi; have : (l.length + 1) * E.size ≤ cap * E.size := Nat.mul_le_mul_right _ hge; rw [Nat.succ_mul] at this; omega)).1
            rwa [← Nat.add_assoc] at this) _ q1
          rw [show off + j = off + l.length * E.size + (j - l.length * E.size) from by omega, this, q2]
      · refine ⟨?_, by rw [World.frozen?_setCells]; exact (h6 j hj).2⟩
        by_cases hin : off + l.length * E.size ≤ off + j ∧ off + j < off + l.length * E.size + (E.enc y).length
        · have := World.cell?_setCells_in g (E.enc y) (off + l.length * E.size) w (fun i hi => by
            have := (h6 (l.length * E.size + i) (by rw [E.len] at hi; have : (l.length + 1) * E.size ≤ cap * E.size := Nat.mul_le_mul_right _ hge; rw [Nat.succ_mul] at this; omega)).1
            rwa [← Nat.add_assoc] at this) (j - l.length * E.size) (by omega)
          rw [show off + j = off + l.length * E.size + (j - l.length * E.size) from by omega, this]; rfl
        · rw [World.cell?_setCells_out _ _ _ _ _ (fun _ _ => by show off + j < _ ∨ _ ≤ off + j; omega)]
          exact (h6 j hj).1
/-- At the list of a plain region's operations. -/
theorem app_rowO (L : E.Laid) (hgd : o.guard = none) (s x : Operand) (ts : TypeId) (hts : Tryz.prog.underlying ts = some (.slice E.t)) (ho : o.op = .call { callee := .builtin .append, args := #[s, x], argTypes := #[ts, ts] })
    (v : Value) (l : List α) (hs : a.eval s = v) (hown : RowO E w B v l) (ad : Addr) (y : α) (c : Nat) (hx : a.eval x = .slice (some ad) 1 c) (harg : ∀ j u, (E.enc y)[j]? = some u → w.cell? (ad.add j) = some u) (hbytes : (l.length + 1) * E.bytes ≤ 140737488355328) (h63 : l.length + 1 ≤ maxLen) (hbase : B ≤ w.heap.size)
    (h : ∀ v' w', RowO E w' B v' (l ++ [y]) → (∀ k, v'.ownBlock = some k → v.ownBlock = some k ∨ w.heap.size ≤ k) → Keep (fun k => some k = v.ownBlock) w w' → wpList Tryz.prog ops Q rest (a.put o.dst v') w') : wpList Tryz.prog ops Q (o :: rest) a w :=
  wpList_plain hgd fun _ hK => wp_appO L s x ts hts ho v l hs hown ad y c hx harg hbytes h63 hbase fun v' w' h1 h2 h3 => hK _ _ (h v' w' h1 h2 h3)
/-- At a step of a region that draws. -/
theorem step_appO {K : Act → World → Prop} {E1 : Prop} (L : E.Laid) (hgd : o.guard = none) (s x : Operand) (ts : TypeId) (hts : Tryz.prog.underlying ts = some (.slice E.t)) (ho : o.op = .call { callee := .builtin .append, args := #[s, x], argTypes := #[ts, ts] })
    (v : Value) (l : List α) (hs : a.eval s = v) (hown : RowO E w B v l) (ad : Addr) (y : α) (c : Nat) (hx : a.eval x = .slice (some ad) 1 c) (harg : ∀ j u, (E.enc y)[j]? = some u → w.cell? (ad.add j) = some u) (hbytes : (l.length + 1) * E.bytes ≤ 140737488355328) (h63 : l.length + 1 ≤ maxLen) (hbase : B ≤ w.heap.size)
    (h : ∀ v' w', RowO E w' B v' (l ++ [y]) → (∀ k, v'.ownBlock = some k → v.ownBlock = some k ∨ w.heap.size ≤ k) → Keep (fun k => some k = v.ownBlock) w w' → K (a.put o.dst v') w') :
    if Region.wanted o (yielded ops a.tmps) = true then Oper.wp Tryz.prog o a w K Q else E1 := by
  have hw : Region.wanted o (yielded ops a.tmps) = true := by simp [Region.wanted, hgd]
  rw [if_pos hw]
  exact wp_appO L s x ts hts ho v l hs hown ad y c hx harg hbytes h63 hbase h
end
end Go.Proofs.YtolilbcpfdnkjaaGreat
