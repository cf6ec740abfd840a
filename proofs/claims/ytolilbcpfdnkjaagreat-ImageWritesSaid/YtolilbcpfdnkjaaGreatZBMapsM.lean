/- Maps with int keys in memory: the laws of the operations. -/
import Derived.Test.YtolilbcpfdnkjaaGreatZBMaps
namespace Go.Proofs.YtolilbcpfdnkjaaGreat
open Go.RowKit
set_option linter.unusedSimpArgs false
/-- Block b is a map that reads as L, its values by enc. -/
def IMap {V : Type} (enc : V → Value) (w : World) (b : Nat) (L : List (Int × V)) : Prop :=
  ∃ (E : Array MapEntry) (clock : Nat), w.heap[b]? = some (.map E clock) ∧ E.toList.map (fun e => (e.key, e.val)) = L.map (fun p => (Value.int .i64 p.1, enc p.2)) ∧ (mkeys L).Nodup ∧ MapKept.Stamped E clock
section
variable {V : Type} {enc : V → Value} {w w' : World} {b : Nat} {L : List (Int × V)}
theorem IMap.lt (h : IMap enc w b L) : b < w.heap.size := by obtain ⟨E, c, hb, _⟩ := h; exact m_lt hb
theorem IMap.nodup (h : IMap enc w b L) : (mkeys L).Nodup := by obtain ⟨_, _, _, _, h, _⟩ := h; exact h
theorem IMap.blk (h : IMap enc w b L) (hb : w'.heap[b]? = w.heap[b]?) : IMap enc w' b L := by obtain ⟨E, c, h1, h2⟩ := h; exact ⟨E, c, by rw [hb]; exact h1, h2⟩
theorem IMap.keep {F : Nat → Prop} (h : IMap enc w b L) (k : Keep F w w') (hn : ¬ F b) : IMap enc w' b L := h.blk (k.block b h.lt hn)
theorem IMap.qt (h : IMap enc w b L) (q : Qt w w') : IMap enc w' b L := h.blk (by rw [q.heap])
theorem IMap.new (w : World) : IMap enc (w.alloc (.map #[] 0)) w.heap.size [] := ⟨#[], 0, heap_alloc_new w _, rfl, by simp [mkeys], MapKept.stamped_empty 0⟩
theorem findNow_int (k : Int) (q : IntKind) (hq : q = .i64) : ∀ (E : List MapEntry) (L : List (Int × V)) (i : Nat), E.map (fun e => (e.key, e.val)) = L.map (fun p => (Value.int .i64 p.1, enc p.2)) →
    (mget L k = none ∧ Instr.findNow (.int q) (.int .i64 k) E i = some none) ∨
    ∃ (j : Nat) (v : V), mget L k = some v ∧ Instr.findNow (.int q) (.int .i64 k) E i = some (some (i + j, enc v)) ∧ L[j]? = some (k, v) ∧ j < E.length := by
  subst hq
  intro E
  induction E with
  | nil =>
    intro L i h
    have : L = [] := by simpa using h.symm
    subst this
    exact Or.inl ⟨rfl, rfl⟩
  | cons e E ih =>
    intro L i h
    rcases L with _ | ⟨p, L⟩
    · simp at h
    · simp only [List.map_cons, List.cons.injEq, Prod.mk.injEq] at h
      obtain ⟨⟨hk, hv⟩, hr⟩ := h
      by_cases e1 : p.1 = k
      · refine Or.inr ⟨0, p.2, by rw [mget_cons, if_pos e1], ?_, by rw [← e1]; rfl, by simp⟩
        simp only [Instr.findNow, hk, Instr.sameNow, if_true, e1, beq_self_eq_true, hv, Nat.add_zero]
      · have hne : (k == p.1) = false := by simpa using Ne.symm e1
        rcases ih L (i + 1) hr with ⟨h1, h2⟩ | ⟨j, v, h1, h2, h3, h4⟩
        · refine Or.inl ⟨by rw [mget_cons, if_neg e1]; exact h1, ?_⟩
          simp only [Instr.findNow, hk, Instr.sameNow, if_true, hne]; exact h2
        · refine Or.inr ⟨j + 1, v, by rw [mget_cons, if_neg e1]; exact h1, ?_, by simpa using h3, by simp; exact h4⟩
          simp only [Instr.findNow, hk, Instr.sameNow, if_true, hne]; rw [h2]; congr 3; omega
end
section
variable {V : Type} {enc : V → Value} {w w' : World} {b : Nat} {L : List (Int × V)} {P : Program} {t tk te : TypeId}
theorem run_checkKey_int (hk : P.underlying tk = some (.int .i64)) (c : Bool) (n : Nat) (k : Int) (w : World) : (Instr.checkKey c (n + 1) tk (.int .i64 k)).run P w = .ok () w := by
  simp [Instr.checkKey, run_underlying hk]
theorem run_getObj {E : Array MapEntry} {clock : Nat} (hb : w.heap[b]? = some (.map E clock)) : (Sem.getObj b Sem.pure).run P w = .ok (.map E clock) w := by simp [Sem.run, hb]
theorem run_setObj {E : Array MapEntry} {clock : Nat} (hb : w.heap[b]? = some (.map E clock)) (o : Obj) : (Sem.setObj b o (Sem.pure ())).run P w = .ok () { w with heap := w.heap.setIfInBounds b o } := by simp [Sem.run, hb]
theorem IMap.lookup (h : IMap enc w b L) (ht : P.underlying t = some (.map tk te)) (hk : P.underlying tk = some (.int .i64)) {z : Value} (hz : ∀ w, (zeroValue te).run P w = .ok z w) (k : Int) (c : Bool) :
    (Instr.lookup t (.map (some b)) (.int .i64 k) c).run P w = .ok (match mget L k with
      | some v => (if c then .tuple #[enc v, .bool true] else enc v)
      | none => (if c then .tuple #[z, .bool false] else z)) w := by
  obtain ⟨E, clock, hb, hE, -, -⟩ := h
  have hg := run_getObj (P := P) hb
  rcases findNow_int (enc := enc) k .i64 rfl E.toList L 0 hE with ⟨h1, h2⟩ | ⟨j, v, h1, h2, _, _⟩
  · simp [Instr.lookup, run_underlying ht, getObj, run_getObj hb, run_checkKey_int hk, Instr.findKey, run_underlying hk, h2, h1, hz, Result.andThen]
  · simp [Instr.lookup, run_underlying ht, getObj, run_getObj hb, run_checkKey_int hk, Instr.findKey, run_underlying hk, h2, h1, hz, Result.andThen]
theorem IMap.len (h : IMap enc w b L) (ht : P.underlying t = some (.map tk te)) (ty : TypeId) : (Builtin.len_ #[t] ty #[.map (some b)]).run P w = .ok (.int .i64 L.length) w := by
  obtain ⟨E, clock, hb, hE, -, -⟩ := h
  have : E.size = L.length := by have := congrArg List.length hE; simpa using this
  simp [Builtin.len_, run_underlying ht, getObj, run_getObj hb, Result.andThen, goInt, this]
theorem IMap.update (h : IMap enc w b L) (ht : P.underlying t = some (.map tk te)) (hk : P.underlying tk = some (.int .i64)) (k : Int) (v : V) :
    ∃ w', (Instr.mapUpdate t (.map (some b)) (.int .i64 k) (enc v)).run P w = .ok () w' ∧ IMap enc w' b (mput L k v) ∧ Keep (fun i => i = b) w w' := by
  obtain ⟨E, clock, hb, hE, hn, hst⟩ := h
  have hlt := m_lt hb
  rcases findNow_int (enc := enc) k .i64 rfl E.toList L 0 hE with ⟨h1, h2⟩ | ⟨j, v0, h1, h2, h3, h4⟩
  · refine ⟨{ w with heap := w.heap.setIfInBounds b (.map (E.push { key := .int .i64 k, val := enc v, born := clock }) (clock + 1)) }, ?_, ?_, ?_⟩
    · simp [Instr.mapUpdate, run_underlying ht, getObj, setObj, run_getObj hb, run_setObj hb, run_checkKey_int hk, Instr.findKey, run_underlying hk, h2, Result.andThen]
    · have hk' := (mget_none_iff L k).1 h1
      refine ⟨_, _, by rw [Array.getElem?_setIfInBounds_self_of_lt hlt], ?_, nodup_put L k v hn, MapKept.stamped_push hst (fun x hx e => ?_)⟩
      rotate_left
      · have hm := List.mem_map_of_mem (f := fun e : MapEntry => (e.key, e.val)) hx
        rw [hE] at hm
        obtain ⟨p, hp, hpe⟩ := List.mem_map.1 hm
        simp only [Prod.mk.injEq] at hpe
        rw [e] at hpe
        have : p.1 = k := by simpa using hpe.1
        exact hk' (this ▸ List.mem_map_of_mem (f := Prod.fst) hp)
      unfold mput; rw [if_neg (by rw [any_false L k hk']; simp)]
      simp [hE]
    · exact ⟨rfl, rfl, rfl, by simp, fun i _ hi => by simp [Array.getElem?_setIfInBounds, Ne.symm hi]⟩
  · have hkey : E[j]?.map (·.key) = some (.int .i64 k) := by
      have := congrArg (fun l => l[j]?) hE
      simp only [List.getElem?_map, h3, Array.getElem?_toList, Option.map_some] at this
      cases hEj : E[j]? with
      | none => rw [hEj] at this; simp at this
      | some e => rw [hEj] at this; simp at this; simp [this.1]
    refine ⟨{ w with heap := w.heap.setIfInBounds b (.map (E.modify j fun e => { e with key := .int .i64 k, val := enc v }) clock) }, ?_, ?_, ?_⟩
    · simp [Instr.mapUpdate, run_underlying ht, getObj, setObj, run_getObj hb, run_setObj hb, run_checkKey_int hk, Instr.findKey, run_underlying hk, h2, Result.andThen, hkey, Instr.keyThatStays, Instr.sameBits]
    · refine ⟨_, _, by rw [Array.getElem?_setIfInBounds_self_of_lt hlt], ?_, nodup_put L k v hn, MapKept.stamped_modify hst j (fun e => { e with key := .int .i64 k, val := enc v }) (fun _ _ => rfl) (fun e _ he => by rw [he] at hkey; simpa using hkey.symm)⟩
      have hk' : k ∈ mkeys L := by
        have := List.mem_of_getElem? h3
        exact List.mem_map_of_mem (f := Prod.fst) this
      unfold mput; rw [if_pos ((any_iff L k).2 hk')]
      apply List.ext_getElem?
      intro i
      have hEi := congrArg (fun l => l[i]?) hE
      simp only [List.getElem?_map, Array.getElem?_toList] at hEi
      simp only [List.getElem?_map, Array.getElem?_toList, Array.getElem?_modify]
      by_cases e : j = i
      · subst e
        rw [if_pos rfl]
        rw [h3] at hEi ⊢
        cases hEj : E[j]? with
        | none => rw [hEj] at hkey; simp at hkey
        | some e => simp
      · rw [if_neg e]
        rw [hEi]
        cases hLi : L[i]? with
        | none => simp
        | some p =>
          have : p.1 ≠ k := by
            intro q
            apply e
            have a1 : (mkeys L)[j]? = some k := by simp [mkeys, h3]
            have a2 : (mkeys L)[i]? = some k := by simp [mkeys, hLi, q]
            have jl : j < (mkeys L).length := (List.getElem?_eq_some_iff.1 a1).1
            exact (List.getElem?_inj jl hn).1 (by rw [a1, a2])
          simp [this]
    · exact ⟨rfl, rfl, rfl, by simp, fun i _ hi => by simp [Array.getElem?_setIfInBounds, Ne.symm hi]⟩
theorem mdel_at (L : List (Int × V)) (k : Int) : ∀ (j : Nat) (v : V), (mkeys L).Nodup → L[j]? = some (k, v) → mdel L k = L.eraseIdx j := by
  induction L with
  | nil => intro j v _ h; simp at h
  | cons p L ih =>
    intro j v hn h
    unfold mdel at *
    have hn' : p.1 ∉ mkeys L ∧ (mkeys L).Nodup := by simpa [mkeys] using hn
    rcases j with _ | j
    · simp only [List.getElem?_cons_zero, Option.some.injEq] at h
      subst h
      rw [List.filter_cons_of_neg (by simp), List.eraseIdx_cons_zero, List.filter_eq_self]
      intro q hq
      have : q.1 ≠ k := fun e => hn'.1 (by have := List.mem_map_of_mem (f := Prod.fst) hq; rwa [e] at this)
      simp [this]
    · simp only [List.getElem?_cons_succ] at h
      have : p.1 ≠ k := fun e => hn'.1 (by rw [e]; exact List.mem_map_of_mem (f := Prod.fst) (List.mem_of_getElem? h))
      rw [List.filter_cons_of_pos (by simp [this]), List.eraseIdx_cons_succ, ih j v hn'.2 h]
theorem IMap.delete (h : IMap enc w b L) (ht : P.underlying t = some (.map tk te)) (hk : P.underlying tk = some (.int .i64)) (k : Int) (ty : TypeId) :
    ∃ w', (Builtin.delete_ #[t, tk] ty #[.map (some b), .int .i64 k]).run P w = .ok (.tuple #[]) w' ∧ IMap enc w' b (mdel L k) ∧ Keep (fun i => i = b) w w' := by
  obtain ⟨E, clock, hb, hE, hn, hst⟩ := h
  have hlt := m_lt hb
  rcases findNow_int (enc := enc) k .i64 rfl E.toList L 0 hE with ⟨h1, h2⟩ | ⟨j, v0, h1, h2, h3, h4⟩
  · refine ⟨{ w with heap := w.heap.setIfInBounds b (.map E clock) }, ?_, ?_, ?_⟩
    · simp [Builtin.delete_, run_underlying ht, getObj, setObj, run_getObj hb, run_setObj hb, run_checkKey_int hk, Instr.findKey, run_underlying hk, h2, Result.andThen]
    · have hk' := (mget_none_iff L k).1 h1
      refine ⟨_, _, by rw [Array.getElem?_setIfInBounds_self_of_lt hlt], ?_, nodup_del L k hn, hst⟩
      have : mdel L k = L := by
        unfold mdel; rw [List.filter_eq_self]
        intro p hp
        have : p.1 ≠ k := fun q => hk' (by rw [← q]; exact List.mem_map_of_mem hp)
        simp [this]
      rw [this]; exact hE
    · exact ⟨rfl, rfl, rfl, by simp, fun i _ hi => by simp [Array.getElem?_setIfInBounds, Ne.symm hi]⟩
  · refine ⟨{ w with heap := w.heap.setIfInBounds b (.map (E.eraseIdxIfInBounds j) clock) }, ?_, ?_, ?_⟩
    · simp [Builtin.delete_, run_underlying ht, getObj, setObj, run_getObj hb, run_setObj hb, run_checkKey_int hk, Instr.findKey, run_underlying hk, h2, Result.andThen]
    · refine ⟨_, _, by rw [Array.getElem?_setIfInBounds_self_of_lt hlt], ?_, nodup_del L k hn, MapKept.stamped_erase hst j⟩
      have e1 : (E.eraseIdxIfInBounds j).toList = E.toList.eraseIdx j := by simp
      rw [e1]
      have e2 := mdel_at L k j v0 hn h3
      have e3 : ∀ {α β : Type} (f : α → β) (l : List α) (i : Nat), (l.eraseIdx i).map f = (l.map f).eraseIdx i := by
        intro α β f l
        induction l with
        | nil => intro i; simp
        | cons a l ih => intro i; cases i <;> simp [ih]
      rw [e2, e3, e3, hE]
    · exact ⟨rfl, rfl, rfl, by simp, fun i _ hi => by simp [Array.getElem?_setIfInBounds, Ne.symm hi]⟩
end
end Go.Proofs.YtolilbcpfdnkjaaGreat
