/- Lemmas, texts MapsS MapsE MapsES; no condition beyond those that each states. -/
import Derived.Test.YtolilbcpfdnkjaaGreatZBMapsA
/- Maps with string keys: what is in memory as a list of pairs; the operations (printed out of Maps, MapsM, MapsA by tools/smaps.py). -/
namespace Go.Proofs.YtolilbcpfdnkjaaGreat
open Go.RowKit
set_option linter.unusedSimpArgs false
set_option linter.unusedVariables false
instance : LawfulBEq ByteArray where
  eq_of_beq {a b} h := by
    have : a.data = b.data := by
      have h2 : ByteArray.beq a b = true := h
      unfold ByteArray.beq at h2
      simpa using h2
    cases a; cases b; simp at this; rw [this]
  rfl {a} := by
    show ByteArray.beq a a = true
    unfold ByteArray.beq
    simp
/-- What a key leads to. -/
def sget {V : Type} (L : List (ByteArray × V)) (k : ByteArray) : Option V := (L.find? (fun p => p.1 == k)).map (·.2)
/-- A pair stored. -/
def sput {V : Type} (L : List (ByteArray × V)) (k : ByteArray) (v : V) : List (ByteArray × V) :=
  if L.any (fun p => p.1 == k) then L.map (fun p => if p.1 == k then (k, v) else p) else L ++ [(k, v)]
/-- A key struck. -/
def sdel {V : Type} (L : List (ByteArray × V)) (k : ByteArray) : List (ByteArray × V) := L.filter (fun p => !(p.1 == k))
def skeys {V : Type} (L : List (ByteArray × V)) : List ByteArray := L.map (·.1)
section plain
variable {V : Type}
theorem sget_nil (k : ByteArray) : sget ([] : List (ByteArray × V)) k = none := rfl
theorem sget_cons (p : ByteArray × V) (L : List (ByteArray × V)) (k : ByteArray) : sget (p :: L) k = if p.1 = k then some p.2 else sget L k := by
  unfold sget
  by_cases h : p.1 = k
  · simp [h]
  · simp [h]
theorem sget_none_iff (L : List (ByteArray × V)) (k : ByteArray) : sget L k = none ↔ k ∉ skeys L := by
  induction L with
  | nil => simp [sget_nil, skeys]
  | cons p L ih =>
    rw [sget_cons]
    by_cases h : p.1 = k
    · simp [h, skeys]
    · rw [if_neg h, ih]; simp [skeys, Ne.symm h]
theorem sany_iff (L : List (ByteArray × V)) (k : ByteArray) : L.any (fun p => p.1 == k) = true ↔ k ∈ skeys L := by
  simp [skeys]
theorem sany_false (L : List (ByteArray × V)) (k : ByteArray) (h : k ∉ skeys L) : L.any (fun p => p.1 == k) = false := by
  rw [Bool.eq_false_iff]; intro q; exact h ((sany_iff L k).1 q)
theorem skeys_put (L : List (ByteArray × V)) (k : ByteArray) (v : V) : skeys (sput L k v) = if k ∈ skeys L then skeys L else skeys L ++ [k] := by
  unfold sput
  by_cases h : k ∈ skeys L
  · rw [if_pos ((sany_iff L k).2 h), if_pos h]
    unfold skeys
    rw [List.map_map]
    apply List.map_congr_left
    intro p _
    by_cases e : p.1 = k <;> simp [e]
  · rw [if_neg (by rw [sany_false L k h]; simp), if_neg h]; simp [skeys]
theorem sget_put (L : List (ByteArray × V)) (k : ByteArray) (v : V) (k' : ByteArray) : sget (sput L k v) k' = if k' = k then some v else sget L k' := by
  unfold sput
  by_cases h : k ∈ skeys L
  · rw [if_pos ((sany_iff L k).2 h)]
    induction L with
    | nil => simp [skeys] at h
    | cons p L ih =>
      rw [List.map_cons, sget_cons]
      by_cases e : p.1 = k
      · simp only [e, beq_self_eq_true, if_true]
        by_cases e2 : k' = k
        · rw [if_pos e2.symm, if_pos e2]
        · rw [if_neg (fun q => e2 q.symm), if_neg e2, sget_cons, if_neg (by rw [e]; exact fun q => e2 q.symm)]
          by_cases h3 : k ∈ skeys L
          · rw [ih h3, if_neg e2]
          · have : L.map (fun p => if (p.1 == k) = true then (k, v) else p) = L := by
              rw [List.map_congr_left (g := id) (fun q hq => ?_), List.map_id]
              have : q.1 ≠ k := fun e3 => h3 (by rw [← e3]; exact List.mem_map_of_mem hq)
              simp [this]
            rw [this]
      · have hk : k ∈ skeys L := by simp [skeys] at h; rcases h with h | h; exact absurd h.symm e; simpa [skeys] using h
        simp only [e, beq_iff_eq, if_false]
        by_cases e2 : p.1 = k'
        · rw [if_pos e2, sget_cons, if_pos e2, if_neg (by rw [← e2]; exact e)]
        · rw [if_neg e2, sget_cons, if_neg e2]
          have := ih hk
          simpa using this
  · rw [if_neg (by rw [sany_false L k h]; simp)]
    induction L with
    | nil =>
      rw [List.nil_append, sget_cons, sget_nil]
      by_cases e : k' = k
      · simp [e]
      · simp [e, Ne.symm e]
    | cons p L ih =>
      have h1 : k ∉ skeys L := fun q => h (List.mem_cons_of_mem _ q)
      have h2 : p.1 ≠ k := fun q => h (by rw [← q]; exact List.mem_cons_self ..)
      rw [List.cons_append, sget_cons, sget_cons, ih h1]
      by_cases e : p.1 = k'
      · rw [if_pos e, if_pos e, if_neg (by rw [← e]; exact h2)]
      · rw [if_neg e, if_neg e]
theorem skeys_del (L : List (ByteArray × V)) (k : ByteArray) : skeys (sdel L k) = (skeys L).filter (fun q => !(q == k)) := by
  unfold skeys sdel
  rw [List.filter_map]; rfl
theorem sget_del (L : List (ByteArray × V)) (k k' : ByteArray) : sget (sdel L k) k' = if k' = k then none else sget L k' := by
  induction L with
  | nil => simp [sdel, sget_nil]
  | cons p L ih =>
    unfold sdel at *
    by_cases e : p.1 = k
    · rw [List.filter_cons_of_neg (by simp [e]), ih, sget_cons]
      by_cases e2 : k' = k
      · rw [if_pos e2, if_pos e2]
      · rw [if_neg e2, if_neg e2, if_neg (by rw [e]; exact fun q => e2 q.symm)]
    · rw [List.filter_cons_of_pos (by simp [e]), sget_cons, sget_cons, ih]
      by_cases e2 : p.1 = k'
      · rw [if_pos e2, if_pos e2, if_neg (by rw [← e2]; exact e)]
      · rw [if_neg e2, if_neg e2]
theorem snodup_put (L : List (ByteArray × V)) (k : ByteArray) (v : V) (h : (skeys L).Nodup) : (skeys (sput L k v)).Nodup := by
  rw [skeys_put]
  by_cases e : k ∈ skeys L
  · rw [if_pos e]; exact h
  · rw [if_neg e, List.nodup_append]
    exact ⟨h, by simp, fun a ha b hb => by simp at hb; rw [hb]; exact fun q => e (by rw [← q]; exact ha)⟩
theorem snodup_del (L : List (ByteArray × V)) (k : ByteArray) (h : (skeys L).Nodup) : (skeys (sdel L k)).Nodup := by
  rw [skeys_del]; exact h.filter _
theorem sput_length (L : List (ByteArray × V)) (k : ByteArray) (v : V) : (sput L k v).length = if k ∈ skeys L then L.length else L.length + 1 := by
  have := congrArg List.length (skeys_put L k v)
  rw [show (skeys (sput L k v)).length = (sput L k v).length from by simp [skeys]] at this
  rw [this]
  by_cases e : k ∈ skeys L
  · rw [if_pos e, if_pos e]; simp [skeys]
  · rw [if_neg e, if_neg e]; simp [skeys]
end plain

/-- Block b is a map that reads as L, its values by enc. -/
def SMap {V : Type} (enc : V → Value) (w : World) (b : Nat) (L : List (ByteArray × V)) : Prop :=
  ∃ (E : Array MapEntry) (clock : Nat), w.heap[b]? = some (.map E clock) ∧ E.toList.map (fun e => (e.key, e.val)) = L.map (fun p => (Value.string p.1, enc p.2)) ∧ (skeys L).Nodup ∧ MapKept.Stamped E clock
section
variable {V : Type} {enc : V → Value} {w w' : World} {b : Nat} {L : List (ByteArray × V)}
theorem SMap.lt (h : SMap enc w b L) : b < w.heap.size := by obtain ⟨E, c, hb, _⟩ := h; exact m_lt hb
theorem SMap.nodup (h : SMap enc w b L) : (skeys L).Nodup := by obtain ⟨_, _, _, _, h, _⟩ := h; exact h
theorem SMap.blk (h : SMap enc w b L) (hb : w'.heap[b]? = w.heap[b]?) : SMap enc w' b L := by obtain ⟨E, c, h1, h2⟩ := h; exact ⟨E, c, by rw [hb]; exact h1, h2⟩
theorem SMap.keep {F : Nat → Prop} (h : SMap enc w b L) (k : Keep F w w') (hn : ¬ F b) : SMap enc w' b L := h.blk (k.block b h.lt hn)
theorem SMap.qt (h : SMap enc w b L) (q : Qt w w') : SMap enc w' b L := h.blk (by rw [q.heap])
theorem SMap.new (w : World) : SMap enc (w.alloc (.map #[] 0)) w.heap.size [] := ⟨#[], 0, heap_alloc_new w _, rfl, by simp [skeys], MapKept.stamped_empty 0⟩
theorem findNow_str (k : ByteArray) : ∀ (E : List MapEntry) (L : List (ByteArray × V)) (i : Nat), E.map (fun e => (e.key, e.val)) = L.map (fun p => (Value.string p.1, enc p.2)) →
    (sget L k = none ∧ Instr.findNow .string (.string k) E i = some none) ∨
    ∃ (j : Nat) (v : V), sget L k = some v ∧ Instr.findNow .string (.string k) E i = some (some (i + j, enc v)) ∧ L[j]? = some (k, v) ∧ j < E.length := by
  intro E
  induction E with
  | nil =>
    intro L i h
    have : L = [] := by simpa using h.symm
    subst this
    exact Or.inl ⟨rfl, rfl⟩
  | cons e E ih =>
    intro L i h
    rcases L with _ | ⟨p, L⟩
    · simp at h
    · simp only [List.map_cons, List.cons.injEq, Prod.mk.injEq] at h
      obtain ⟨⟨hk, hv⟩, hr⟩ := h
      by_cases e1 : p.1 = k
      · refine Or.inr ⟨0, p.2, by rw [sget_cons, if_pos e1], ?_, by rw [← e1]; rfl, by simp⟩
        simp only [Instr.findNow, hk, Instr.sameNow, if_true, e1, beq_self_eq_true, hv, Nat.add_zero]
      · have hne : (k == p.1) = false := by simpa using Ne.symm e1
        rcases ih L (i + 1) hr with ⟨h1, h2⟩ | ⟨j, v, h1, h2, h3, h4⟩
        · refine Or.inl ⟨by rw [sget_cons, if_neg e1]; exact h1, ?_⟩
          simp only [Instr.findNow, hk, Instr.sameNow, if_true, hne]; exact h2
        · refine Or.inr ⟨j + 1, v, by rw [sget_cons, if_neg e1]; exact h1, ?_, by simpa using h3, by simp; exact h4⟩
          simp only [Instr.findNow, hk, Instr.sameNow, if_true, hne]; rw [h2]; congr 3; omega
end
section
variable {V : Type} {enc : V → Value} {w w' : World} {b : Nat} {L : List (ByteArray × V)} {P : Program} {t tk te : TypeId}
theorem run_checkKey_str (hk : P.underlying tk = some .string) (c : Bool) (n : Nat) (k : ByteArray) (w : World) : (Instr.checkKey c (n + 1) tk (.string k)).run P w = .ok () w := by
  simp [Instr.checkKey, run_underlying hk]
theorem srun_getObj {E : Array MapEntry} {clock : Nat} (hb : w.heap[b]? = some (.map E clock)) : (Sem.getObj b Sem.pure).run P w = .ok (.map E clock) w := by simp [Sem.run, hb]
theorem srun_setObj {E : Array MapEntry} {clock : Nat} (hb : w.heap[b]? = some (.map E clock)) (o : Obj) : (Sem.setObj b o (Sem.pure ())).run P w = .ok () { w with heap := w.heap.setIfInBounds b o } := by simp [Sem.run, hb]
theorem SMap.lookup (h : SMap enc w b L) (ht : P.underlying t = some (.map tk te)) (hk : P.underlying tk = some .string) {z : Value} (hz : ∀ w, (zeroValue te).run P w = .ok z w) (k : ByteArray) (c : Bool) :
    (Instr.lookup t (.map (some b)) (.string k) c).run P w = .ok (match sget L k with
      | some v => (if c then .tuple #[enc v, .bool true] else enc v)
      | none => (if c then .tuple #[z, .bool false] else z)) w := by
  obtain ⟨E, clock, hb, hE, -, -⟩ := h
  have hg := srun_getObj (P := P) hb
  rcases findNow_str (enc := enc) k E.toList L 0 hE with ⟨h1, h2⟩ | ⟨j, v, h1, h2, _, _⟩
  · simp [Instr.lookup, run_underlying ht, getObj, srun_getObj hb, run_checkKey_str hk, Instr.findKey, run_underlying hk, h2, h1, hz, Result.andThen]
  · simp [Instr.lookup, run_underlying ht, getObj, srun_getObj hb, run_checkKey_str hk, Instr.findKey, run_underlying hk, h2, h1, hz, Result.andThen]
theorem SMap.len (h : SMap enc w b L) (ht : P.underlying t = some (.map tk te)) (ty : TypeId) : (Builtin.len_ #[t] ty #[.map (some b)]).run P w = .ok (.int .i64 L.length) w := by
  obtain ⟨E, clock, hb, hE, -, -⟩ := h
  have : E.size = L.length := by have := congrArg List.length hE; simpa using this
  simp [Builtin.len_, run_underlying ht, getObj, srun_getObj hb, Result.andThen, goInt, this]
theorem SMap.update (h : SMap enc w b L) (ht : P.underlying t = some (.map tk te)) (hk : P.underlying tk = some .string) (k : ByteArray) (v : V) :
    ∃ w', (Instr.mapUpdate t (.map (some b)) (.string k) (enc v)).run P w = .ok () w' ∧ SMap enc w' b (sput L k v) ∧ Keep (fun i => i = b) w w' := by
  obtain ⟨E, clock, hb, hE, hn, hst⟩ := h
  have hlt := m_lt hb
  rcases findNow_str (enc := enc) k E.toList L 0 hE with ⟨h1, h2⟩ | ⟨j, v0, h1, h2, h3, h4⟩
  · refine ⟨{ w with heap := w.heap.setIfInBounds b (.map (E.push { key := .string k, val := enc v, born := clock }) (clock + 1)) }, ?_, ?_, ?_⟩
    · simp [Instr.mapUpdate, run_underlying ht, getObj, setObj, srun_getObj hb, srun_setObj hb, run_checkKey_str hk, Instr.findKey, run_underlying hk, h2, Result.andThen]
    · have hk' := (sget_none_iff L k).1 h1
      refine ⟨_, _, by rw [Array.getElem?_setIfInBounds_self_of_lt hlt], ?_, snodup_put L k v hn, MapKept.stamped_push hst (fun x hx e => ?_)⟩
      rotate_left
      · have hm := List.mem_map_of_mem (f := fun e : MapEntry => (e.key, e.val)) hx
        rw [hE] at hm
        obtain ⟨p, hp, hpe⟩ := List.mem_map.1 hm
        simp only [Prod.mk.injEq] at hpe
        rw [e] at hpe
        have : p.1 = k := by simpa using hpe.1
        exact hk' (this ▸ List.mem_map_of_mem (f := Prod.fst) hp)
      unfold sput; rw [if_neg (by rw [sany_false L k hk']; simp)]
      simp [hE]
    · exact ⟨rfl, rfl, rfl, by simp, fun i _ hi => by simp [Array.getElem?_setIfInBounds, Ne.symm hi]⟩
  · have hkey : E[j]?.map (·.key) = some (.string k) := by
      have := congrArg (fun l => l[j]?) hE
      simp only [List.getElem?_map, h3, Array.getElem?_toList, Option.map_some] at this
      cases hEj : E[j]? with
      | none => rw [hEj] at this; simp at this
      | some e => rw [hEj] at this; simp at this; simp [this.1]
    refine ⟨{ w with heap := w.heap.setIfInBounds b (.map (E.modify j fun e => { e with key := .string k, val := enc v }) clock) }, ?_, ?_, ?_⟩
    · simp [Instr.mapUpdate, run_underlying ht, getObj, setObj, srun_getObj hb, srun_setObj hb, run_checkKey_str hk, Instr.findKey, run_underlying hk, h2, Result.andThen, hkey, Instr.keyThatStays, Instr.sameBits]
    · refine ⟨_, _, by rw [Array.getElem?_setIfInBounds_self_of_lt hlt], ?_, snodup_put L k v hn, MapKept.stamped_modify hst j (fun e => { e with key := .string k, val := enc v }) (fun _ _ => rfl) (fun e _ he => by rw [he] at hkey; simpa using hkey.symm)⟩
      have hk' : k ∈ skeys L := by
        have := List.mem_of_getElem? h3
        exact List.mem_map_of_mem (f := Prod.fst) this
      unfold sput; rw [if_pos ((sany_iff L k).2 hk')]
      apply List.ext_getElem?
      intro i
      have hEi := congrArg (fun l => l[i]?) hE
      simp only [List.getElem?_map, Array.getElem?_toList] at hEi
      simp only [List.getElem?_map, Array.getElem?_toList, Array.getElem?_modify]
      by_cases e : j = i
      · subst e
        rw [if_pos rfl]
        rw [h3] at hEi ⊢
        cases hEj : E[j]? with
        | none => rw [hEj] at hkey; simp at hkey
        | some e => simp
      · rw [if_neg e]
        rw [hEi]
        cases hLi : L[i]? with
        | none => simp
        | some p =>
          have : p.1 ≠ k := by
            intro q
            apply e
            have a1 : (skeys L)[j]? = some k := by simp [skeys, h3]
            have a2 : (skeys L)[i]? = some k := by simp [skeys, hLi, q]
            have jl : j < (skeys L).length := (List.getElem?_eq_some_iff.1 a1).1
            exact (List.getElem?_inj jl hn).1 (by rw [a1, a2])
          simp [this]
    · exact ⟨rfl, rfl, rfl, by simp, fun i _ hi => by simp [Array.getElem?_setIfInBounds, Ne.symm hi]⟩
theorem sdel_at (L : List (ByteArray × V)) (k : ByteArray) : ∀ (j : Nat) (v : V), (skeys L).Nodup → L[j]? = some (k, v) → sdel L k = L.eraseIdx j := by
  induction L with
  | nil => intro j v _ h; simp at h
  | cons p L ih =>
    intro j v hn h
    unfold sdel at *
    have hn' : p.1 ∉ skeys L ∧ (skeys L).Nodup := by simpa [skeys] using hn
    rcases j with _ | j
    · simp only [List.getElem?_cons_zero, Option.some.injEq] at h
      subst h
      rw [List.filter_cons_of_neg (by simp), List.eraseIdx_cons_zero, List.filter_eq_self]
      intro q hq
      have : q.1 ≠ k := fun e => hn'.1 (by have := List.mem_map_of_mem (f := Prod.fst) hq; rwa [e] at this)
      simp [this]
    · simp only [List.getElem?_cons_succ] at h
      have : p.1 ≠ k := fun e => hn'.1 (by rw [e]; exact List.mem_map_of_mem (f := Prod.fst) (List.mem_of_getElem? h))
      rw [List.filter_cons_of_pos (by simp [this]), List.eraseIdx_cons_succ, ih j v hn'.2 h]
theorem SMap.delete (h : SMap enc w b L) (ht : P.underlying t = some (.map tk te)) (hk : P.underlying tk = some .string) (k : ByteArray) (ty : TypeId) :
    ∃ w', (Builtin.delete_ #[t, tk] ty #[.map (some b), .string k]).run P w = .ok (.tuple #[]) w' ∧ SMap enc w' b (sdel L k) ∧ Keep (fun i => i = b) w w' := by
  obtain ⟨E, clock, hb, hE, hn, hst⟩ := h
  have hlt := m_lt hb
  rcases findNow_str (enc := enc) k E.toList L 0 hE with ⟨h1, h2⟩ | ⟨j, v0, h1, h2, h3, h4⟩
  · refine ⟨{ w with heap := w.heap.setIfInBounds b (.map E clock) }, ?_, ?_, ?_⟩
    · simp [Builtin.delete_, run_underlying ht, getObj, setObj, srun_getObj hb, srun_setObj hb, run_checkKey_str hk, Instr.findKey, run_underlying hk, h2, Result.andThen]
    · have hk' := (sget_none_iff L k).1 h1
      refine ⟨_, _, by rw [Array.getElem?_setIfInBounds_self_of_lt hlt], ?_, snodup_del L k hn, hst⟩
      have : sdel L k = L := by
        unfold sdel; rw [List.filter_eq_self]
        intro p hp
        have : p.1 ≠ k := fun q => hk' (by rw [← q]; exact List.mem_map_of_mem hp)
        simp [this]
      rw [this]; exact hE
    · exact ⟨rfl, rfl, rfl, by simp, fun i _ hi => by simp [Array.getElem?_setIfInBounds, Ne.symm hi]⟩
  · refine ⟨{ w with heap := w.heap.setIfInBounds b (.map (E.eraseIdxIfInBounds j) clock) }, ?_, ?_, ?_⟩
    · simp [Builtin.delete_, run_underlying ht, getObj, setObj, srun_getObj hb, srun_setObj hb, run_checkKey_str hk, Instr.findKey, run_underlying hk, h2, Result.andThen]
    · refine ⟨_, _, by rw [Array.getElem?_setIfInBounds_self_of_lt hlt], ?_, snodup_del L k hn, MapKept.stamped_erase hst j⟩
      have e1 : (E.eraseIdxIfInBounds j).toList = E.toList.eraseIdx j := by simp
      rw [e1]
      have e2 := sdel_at L k j v0 hn h3
      have e3 : ∀ {α β : Type} (f : α → β) (l : List α) (i : Nat), (l.eraseIdx i).map f = (l.map f).eraseIdx i := by
        intro α β f l
        induction l with
        | nil => intro i; simp
        | cons a l ih => intro i; cases i <;> simp [ih]
      rw [e2, e3, e3, hE]
    · exact ⟨rfl, rfl, rfl, by simp, fun i _ hi => by simp [Array.getElem?_setIfInBounds, Ne.symm hi]⟩
end

section
variable {V : Type} {enc : V → Value} {b : Nat} {L : List (ByteArray × V)} {t tk te : TypeId} {ops : Array Oper} {rest : List Oper} {o : Oper} {a : Act} {w : World} {Q : Exit → Act → World → Prop}
theorem smap_del (hgd : o.guard = none) (m x : Operand) (ho : o.op = .call { callee := .builtin .delete, args := #[m, x], argTypes := #[t, tk] }) (ht : Tryz.prog.underlying t = some (.map tk te)) (hk : Tryz.prog.underlying tk = some .string)
    (k : ByteArray) (hm : a.eval m = .map (some b)) (hx : a.eval x = .string k) (hmap : SMap enc w b L)
    (h : ∀ w', SMap enc w' b (sdel L k) → Keep (fun i => i = b) w w' → wpList Tryz.prog ops Q rest (a.put o.dst (.tuple #[])) w') : wpList Tryz.prog ops Q (o :: rest) a w := by
  refine wpList_plain hgd fun K hK => ?_
  obtain ⟨w', hr, h1, h2⟩ := hmap.delete (P := Tryz.prog) ht hk k o.type
  unfold Oper.wp execOp
  simp only [ho, resolve, invoke, builtin, Sem.run_bind, Sem.run_pure, Result.andThen_ok, List.map_toArray, List.map_cons, List.map_nil, hm, hx, hr]
  exact hK _ _ (h w' h1 h2)
theorem smap_put (hgd : o.guard = none) (m x v : Operand) (ho : o.op = .mapUpdate t m x v) (ht : Tryz.prog.underlying t = some (.map tk te)) (hk : Tryz.prog.underlying tk = some .string)
    (k : ByteArray) (y : V) (hm : a.eval m = .map (some b)) (hx : a.eval x = .string k) (hv : a.eval v = enc y) (hmap : SMap enc w b L)
    (h : ∀ w', SMap enc w' b (sput L k y) → Keep (fun i => i = b) w w' → wpList Tryz.prog ops Q rest (a.put o.dst undef) w') : wpList Tryz.prog ops Q (o :: rest) a w := by
  refine wpList_plain hgd fun K hK => ?_
  obtain ⟨w', hr, h1, h2⟩ := hmap.update (P := Tryz.prog) ht hk k y
  unfold Oper.wp execOp
  simp only [ho, Sem.run_bind, Sem.run_pure, Result.andThen_ok, hm, hx, hv, hr]
  exact hK _ _ (h w' h1 h2)
theorem swp_put {K : Act → World → Prop} (m x v : Operand) (ho : o.op = .mapUpdate t m x v) (ht : Tryz.prog.underlying t = some (.map tk te)) (hk : Tryz.prog.underlying tk = some .string)
    (k : ByteArray) (y : V) (hm : a.eval m = .map (some b)) (hx : a.eval x = .string k) (hv : a.eval v = enc y) (hmap : SMap enc w b L)
    (h : ∀ w', SMap enc w' b (sput L k y) → Keep (fun i => i = b) w w' → K (a.put o.dst undef) w') : o.wp Tryz.prog a w K Q := by
  obtain ⟨w', hr, h1, h2⟩ := hmap.update (P := Tryz.prog) ht hk k y
  unfold Oper.wp execOp
  simp only [ho, Sem.run_bind, Sem.run_pure, Result.andThen_ok, hm, hx, hv, hr]
  exact h w' h1 h2
/-- At a step of a region that draws. -/
theorem sstep_put {K : Act → World → Prop} {E1 : Prop} (hgd : o.guard = none) (m x v : Operand) (ho : o.op = .mapUpdate t m x v) (ht : Tryz.prog.underlying t = some (.map tk te)) (hk : Tryz.prog.underlying tk = some .string)
    (k : ByteArray) (y : V) (hm : a.eval m = .map (some b)) (hx : a.eval x = .string k) (hv : a.eval v = enc y) (hmap : SMap enc w b L)
    (h : ∀ w', SMap enc w' b (sput L k y) → Keep (fun i => i = b) w w' → K (a.put o.dst undef) w') :
    if Region.wanted o (yielded ops a.tmps) = true then Oper.wp Tryz.prog o a w K Q else E1 := by
  have hw : Region.wanted o (yielded ops a.tmps) = true := by simp [Region.wanted, hgd]
  rw [if_pos hw]
  exact swp_put m x v ho ht hk k y hm hx hv hmap h
end
end Go.Proofs.YtolilbcpfdnkjaaGreat

/- Maps with int keys: an entry asked for (mapEntry), and written by its stamp (entryStore). -/
namespace Go.Proofs.YtolilbcpfdnkjaaGreat
open Go.RowKit
set_option linter.unusedSimpArgs false
set_option linter.unusedVariables false
/-- Block b is a map that reads as L, and the entry at k bears a stamp. -/
def IEnt {V : Type} (enc : V → Value) (w : World) (b : Nat) (L : List (Int × V)) (k : Int) (born : Nat) : Prop :=
  ∃ (E : Array MapEntry) (clock j : Nat) (v0 : V), w.heap[b]? = some (.map E clock) ∧ E.toList.map (fun e => (e.key, e.val)) = L.map (fun p => (Value.int .i64 p.1, enc p.2)) ∧ (mkeys L).Nodup ∧ MapKept.Stamped E clock ∧
    L[j]? = some (k, v0) ∧ E[j]?.map (·.born) = some born
section
variable {V : Type} {enc : V → Value} {w w' : World} {b : Nat} {L : List (Int × V)} {P : Program} {t tk te : TypeId} {k : Int} {born : Nat}
theorem IEnt.lt (h : IEnt enc w b L k born) : b < w.heap.size := by obtain ⟨E, c, j, v, hb, _⟩ := h; exact m_lt hb
theorem IEnt.keep {F : Nat → Prop} (h : IEnt enc w b L k born) (q : Keep F w w') (hn : ¬ F b) : IEnt enc w' b L k born := by
  obtain ⟨E, c, j, v, hb, r⟩ := h
  exact ⟨E, c, j, v, m_keep hb q hn, r⟩
theorem pairs_mod {E : Array MapEntry} {j : Nat} {v0 v : V} (hE : E.toList.map (fun e => (e.key, e.val)) = L.map (fun p => (Value.int .i64 p.1, enc p.2))) (hn : (mkeys L).Nodup) (hj : L[j]? = some (k, v0)) (f : MapEntry → MapEntry)
    (hf : ∀ e, E[j]? = some e → (f e).key = .int .i64 k ∧ (f e).val = enc v) : (E.modify j f).toList.map (fun e => (e.key, e.val)) = (mput L k v).map (fun p => (Value.int .i64 p.1, enc p.2)) := by
  have hk' : k ∈ mkeys L := List.mem_map_of_mem (f := Prod.fst) (List.mem_of_getElem? hj)
  unfold mput; rw [if_pos ((any_iff L k).2 hk')]
  apply List.ext_getElem?
  intro i
  have hEi := congrArg (fun l => l[i]?) hE
  simp only [List.getElem?_map, Array.getElem?_toList] at hEi
  simp only [List.getElem?_map, Array.getElem?_toList, Array.getElem?_modify]
  by_cases e : j = i
  · subst e
    rw [if_pos rfl]
    rw [hj] at hEi ⊢
    cases hEj : E[j]? with
    | none => rw [hEj] at hEi; simp at hEi
    | some x =>
      obtain ⟨a1, a2⟩ := hf x hEj
      simp [a1, a2]
  · rw [if_neg e, hEi]
    cases hLi : L[i]? with
    | none => simp
    | some p =>
      have : p.1 ≠ k := by
        intro q
        apply e
        have a1 : (mkeys L)[j]? = some k := by simp [mkeys, hj]
        have a2 : (mkeys L)[i]? = some k := by simp [mkeys, hLi, q]
        exact (List.getElem?_inj (List.getElem?_eq_some_iff.1 a1).1 hn).1 (by rw [a1, a2])
      simp [this]
theorem key_at {E : Array MapEntry} {j : Nat} {v0 : V} (hE : E.toList.map (fun e => (e.key, e.val)) = L.map (fun p => (Value.int .i64 p.1, enc p.2))) (hj : L[j]? = some (k, v0)) : ∃ e, E[j]? = some e ∧ e.key = .int .i64 k ∧ e.val = enc v0 := by
  have := congrArg (fun l => l[j]?) hE
  simp only [List.getElem?_map, hj, Array.getElem?_toList, Option.map_some] at this
  cases hEj : E[j]? with
  | none => rw [hEj] at this; simp at this
  | some e => rw [hEj] at this; simp at this; exact ⟨e, rfl, this.1, this.2⟩
theorem IMap.entry (h : IMap enc w b L) (ht : P.underlying t = some (.map tk te)) (hk : P.underlying tk = some (.int .i64)) {z : V} (hz : ∀ w, (zeroValue te).run P w = .ok (enc z) w) (k : Int) :
    ∃ w' v, ∃ born : Nat, (Instr.mapEntry t (.map (some b)) (.int .i64 k)).run P w = .ok (.tuple #[v, .int .i64 born]) w' ∧ IEnt enc w' b (mput L k ((mget L k).getD z)) k born ∧ Keep (fun i => i = b) w w' := by
  obtain ⟨E, clock, hb, hE, hn, hst⟩ := h
  have hlt := m_lt hb
  have hlen : E.size = L.length := by have := congrArg List.length hE; simpa using this
  rcases findNow_int (enc := enc) k .i64 rfl E.toList L 0 hE with ⟨h1, h2⟩ | ⟨j, v0, h1, h2, h3, h4⟩
  · have hk' := (mget_none_iff L k).1 h1
    refine ⟨{ w with heap := w.heap.setIfInBounds b (.map (E.push { key := .int .i64 k, val := enc z, born := clock }) (clock + 1)) }, enc z, clock, ?_, ?_, ?_⟩
    · simp [Instr.mapEntry, run_underlying ht, getObj, setObj, run_getObj hb, run_setObj hb, run_checkKey_int hk, Instr.findKey, run_underlying hk, h2, hz, Result.andThen, goInt]
    · refine ⟨_, _, L.length, z, by rw [Array.getElem?_setIfInBounds_self_of_lt hlt], ?_, nodup_put L k _ hn, MapKept.stamped_push hst (fun x hx e => ?_), ?_, ?_⟩
      · rw [h1]
        unfold mput; rw [if_neg (by rw [any_false L k hk']; simp)]
        simp [hE]
      · have hm := List.mem_map_of_mem (f := fun e : MapEntry => (e.key, e.val)) hx
        rw [hE] at hm
        obtain ⟨p, hp, hpe⟩ := List.mem_map.1 hm
        simp only [Prod.mk.injEq] at hpe
        rw [e] at hpe
        have : p.1 = k := by simpa using hpe.1
        exact hk' (this ▸ List.mem_map_of_mem (f := Prod.fst) hp)
      · rw [h1]
        unfold mput; rw [if_neg (by rw [any_false L k hk']; simp)]
        simp
      · rw [← hlen]; simp
    · exact ⟨rfl, rfl, rfl, by simp, fun i _ hi => by simp [Array.getElem?_setIfInBounds, Ne.symm hi]⟩
  · obtain ⟨e0, he0, hk0, hv0⟩ := key_at hE h3
    have hkey : E[j]?.map (·.key) = some (.int .i64 k) := by rw [he0]; simp [hk0]
    refine ⟨{ w with heap := w.heap.setIfInBounds b (.map (E.modify j fun e => { e with key := .int .i64 k }) clock) }, enc v0, e0.born, ?_, ?_, ?_⟩
    · simp [Instr.mapEntry, run_underlying ht, getObj, setObj, run_getObj hb, run_setObj hb, run_checkKey_int hk, Instr.findKey, run_underlying hk, h2, Result.andThen, hkey, he0, hk0, Instr.keyThatStays, Instr.sameBits, goInt]
    · rw [h1, Option.getD_some]
      refine ⟨_, _, j, v0, by rw [Array.getElem?_setIfInBounds_self_of_lt hlt], pairs_mod hE hn h3 _ (fun e he => ⟨rfl, ?_⟩), nodup_put L k _ hn, MapKept.stamped_modify hst j (fun e => { e with key := .int .i64 k }) (fun _ _ => rfl) (fun e _ he => by rw [he] at hkey; simpa using hkey.symm), ?_, ?_⟩
      · rw [he0] at he; cases he; exact hv0
      · have hk' : k ∈ mkeys L := List.mem_map_of_mem (f := Prod.fst) (List.mem_of_getElem? h3)
        unfold mput; rw [if_pos ((any_iff L k).2 hk'), List.getElem?_map, h3]; simp
      · rw [Array.getElem?_modify, if_pos rfl, he0]; rfl
    · exact ⟨rfl, rfl, rfl, by simp, fun i _ hi => by simp [Array.getElem?_setIfInBounds, Ne.symm hi]⟩
theorem IEnt.store (h : IEnt enc w b L k born) (v : V) : ∃ w', (Instr.entryStore t (.map (some b)) (.int .i64 born) (enc v)).run P w = .ok () w' ∧ IMap enc w' b (mput L k v) ∧ Keep (fun i => i = b) w w' := by
  obtain ⟨E, clock, j, v0, hb, hE, hn, hst, hj, hbj⟩ := h
  have hlt := m_lt hb
  obtain ⟨e0, he0, hk0, hv0⟩ := key_at hE hj
  rw [he0] at hbj
  have hb0 : e0.born = born := by simpa using hbj
  have hnd := ((MapKept.stamped_iff E clock).1 hst).2.1
  have hjl : j < E.size := (Array.getElem?_eq_some_iff.1 he0).1
  have hE0 : E[j] = e0 := (Array.getElem?_eq_some_iff.1 he0).2
  have hfi : E.findIdx? (fun e => (e.born : Int) == (born : Int)) = some j := by
    rw [Array.findIdx?_eq_some_iff_getElem]
    refine ⟨hjl, by rw [hE0, hb0]; simp, fun i hi q => ?_⟩
    have hq : E[i].born = born := by have : ((E[i].born : Nat) : Int) = born := by simpa using q
                                     omega
    have h1 : (E.toList.map (·.born))[i]? = some born := by simp [Nat.lt_trans hi hjl, hq]
    have h2 : (E.toList.map (·.born))[j]? = some born := by simp [hjl, hE0, hb0]
    have := (List.getElem?_inj (List.getElem?_eq_some_iff.1 h1).1 hnd).1 (h1.trans h2.symm)
    omega
  refine ⟨{ w with heap := w.heap.setIfInBounds b (.map (E.modify j fun e => { e with val := enc v }) clock) }, ?_, ?_, ?_⟩
  · simp [Instr.entryStore, getObj, setObj, run_getObj hb, run_setObj hb, asInt, asIntOf, Sem.run, hfi, Result.andThen]
  · exact ⟨_, _, by rw [Array.getElem?_setIfInBounds_self_of_lt hlt], pairs_mod hE hn hj _ (fun e he => by rw [he0] at he; cases he; exact ⟨hk0, rfl⟩), nodup_put L k _ hn, MapKept.stamped_modify hst j (fun e => { e with val := enc v }) (fun _ _ => rfl) (fun _ _ _ => rfl)⟩
  · exact ⟨rfl, rfl, rfl, by simp, fun i _ hi => by simp [Array.getElem?_setIfInBounds, Ne.symm hi]⟩
end
end Go.Proofs.YtolilbcpfdnkjaaGreat

/- Maps with string keys: an entry asked for, and written by its stamp (printed out of MapsE by tools/smaps.py). -/
namespace Go.Proofs.YtolilbcpfdnkjaaGreat
open Go.RowKit
set_option linter.unusedSimpArgs false
set_option linter.unusedVariables false
/-- Block b is a map that reads as L, and the entry at k bears a stamp. -/
def SEnt {V : Type} (enc : V → Value) (w : World) (b : Nat) (L : List (ByteArray × V)) (k : ByteArray) (born : Nat) : Prop :=
  ∃ (E : Array MapEntry) (clock j : Nat) (v0 : V), w.heap[b]? = some (.map E clock) ∧ E.toList.map (fun e => (e.key, e.val)) = L.map (fun p => (Value.string p.1, enc p.2)) ∧ (skeys L).Nodup ∧ MapKept.Stamped E clock ∧
    L[j]? = some (k, v0) ∧ E[j]?.map (·.born) = some born
section
variable {V : Type} {enc : V → Value} {w w' : World} {b : Nat} {L : List (ByteArray × V)} {P : Program} {t tk te : TypeId} {k : ByteArray} {born : Nat}
theorem SEnt.lt (h : SEnt enc w b L k born) : b < w.heap.size := by obtain ⟨E, c, j, v, hb, _⟩ := h; exact m_lt hb
theorem SEnt.keep {F : Nat → Prop} (h : SEnt enc w b L k born) (q : Keep F w w') (hn : ¬ F b) : SEnt enc w' b L k born := by
  obtain ⟨E, c, j, v, hb, r⟩ := h
  exact ⟨E, c, j, v, m_keep hb q hn, r⟩
theorem spairs_mod {E : Array MapEntry} {j : Nat} {v0 v : V} (hE : E.toList.map (fun e => (e.key, e.val)) = L.map (fun p => (Value.string p.1, enc p.2))) (hn : (skeys L).Nodup) (hj : L[j]? = some (k, v0)) (f : MapEntry → MapEntry)
    (hf : ∀ e, E[j]? = some e → (f e).key = .string k ∧ (f e).val = enc v) : (E.modify j f).toList.map (fun e => (e.key, e.val)) = (sput L k v).map (fun p => (Value.string p.1, enc p.2)) := by
  have hk' : k ∈ skeys L := List.mem_map_of_mem (f := Prod.fst) (List.mem_of_getElem? hj)
  unfold sput; rw [if_pos ((sany_iff L k).2 hk')]
  apply List.ext_getElem?
  intro i
  have hEi := congrArg (fun l => l[i]?) hE
  simp only [List.getElem?_map, Array.getElem?_toList] at hEi
  simp only [List.getElem?_map, Array.getElem?_toList, Array.getElem?_modify]
  by_cases e : j = i
  · subst e
    rw [if_pos rfl]
    rw [hj] at hEi ⊢
    cases hEj : E[j]? with
    | none => rw [hEj] at hEi; simp at hEi
    | some x =>
      obtain ⟨a1, a2⟩ := hf x hEj
      simp [a1, a2]
  · rw [if_neg e, hEi]
    cases hLi : L[i]? with
    | none => simp
    | some p =>
      have : p.1 ≠ k := by
        intro q
        apply e
        have a1 : (skeys L)[j]? = some k := by simp [skeys, hj]
        have a2 : (skeys L)[i]? = some k := by simp [skeys, hLi, q]
        exact (List.getElem?_inj (List.getElem?_eq_some_iff.1 a1).1 hn).1 (by rw [a1, a2])
      simp [this]
theorem skey_at {E : Array MapEntry} {j : Nat} {v0 : V} (hE : E.toList.map (fun e => (e.key, e.val)) = L.map (fun p => (Value.string p.1, enc p.2))) (hj : L[j]? = some (k, v0)) : ∃ e, E[j]? = some e ∧ e.key = .string k ∧ e.val = enc v0 := by
  have := congrArg (fun l => l[j]?) hE
  simp only [List.getElem?_map, hj, Array.getElem?_toList, Option.map_some] at this
  cases hEj : E[j]? with
  | none => rw [hEj] at this; simp at this
  | some e => rw [hEj] at this; simp at this; exact ⟨e, rfl, this.1, this.2⟩
theorem SMap.entry (h : SMap enc w b L) (ht : P.underlying t = some (.map tk te)) (hk : P.underlying tk = some .string) {z : V} (hz : ∀ w, (zeroValue te).run P w = .ok (enc z) w) (k : ByteArray) :
    ∃ w' v, ∃ born : Nat, (Instr.mapEntry t (.map (some b)) (.string k)).run P w = .ok (.tuple #[v, .int .i64 born]) w' ∧ SEnt enc w' b (sput L k ((sget L k).getD z)) k born ∧ Keep (fun i => i = b) w w' := by
  obtain ⟨E, clock, hb, hE, hn, hst⟩ := h
  have hlt := m_lt hb
  have hlen : E.size = L.length := by have := congrArg List.length hE; simpa using this
  rcases findNow_str (enc := enc) k E.toList L 0 hE with ⟨h1, h2⟩ | ⟨j, v0, h1, h2, h3, h4⟩
  · have hk' := (sget_none_iff L k).1 h1
    refine ⟨{ w with heap := w.heap.setIfInBounds b (.map (E.push { key := .string k, val := enc z, born := clock }) (clock + 1)) }, enc z, clock, ?_, ?_, ?_⟩
    · simp [Instr.mapEntry, run_underlying ht, getObj, setObj, srun_getObj hb, srun_setObj hb, run_checkKey_str hk, Instr.findKey, run_underlying hk, h2, hz, Result.andThen, goInt]
    · refine ⟨_, _, L.length, z, by rw [Array.getElem?_setIfInBounds_self_of_lt hlt], ?_, snodup_put L k _ hn, MapKept.stamped_push hst (fun x hx e => ?_), ?_, ?_⟩
      · rw [h1]
        unfold sput; rw [if_neg (by rw [sany_false L k hk']; simp)]
        simp [hE]
      · have hm := List.mem_map_of_mem (f := fun e : MapEntry => (e.key, e.val)) hx
        rw [hE] at hm
        obtain ⟨p, hp, hpe⟩ := List.mem_map.1 hm
        simp only [Prod.mk.injEq] at hpe
        rw [e] at hpe
        have : p.1 = k := by simpa using hpe.1
        exact hk' (this ▸ List.mem_map_of_mem (f := Prod.fst) hp)
      · rw [h1]
        unfold sput; rw [if_neg (by rw [sany_false L k hk']; simp)]
        simp
      · rw [← hlen]; simp
    · exact ⟨rfl, rfl, rfl, by simp, fun i _ hi => by simp [Array.getElem?_setIfInBounds, Ne.symm hi]⟩
  · obtain ⟨e0, he0, hk0, hv0⟩ := skey_at hE h3
    have hkey : E[j]?.map (·.key) = some (.string k) := by rw [he0]; simp [hk0]
    refine ⟨{ w with heap := w.heap.setIfInBounds b (.map (E.modify j fun e => { e with key := .string k }) clock) }, enc v0, e0.born, ?_, ?_, ?_⟩
    · simp [Instr.mapEntry, run_underlying ht, getObj, setObj, srun_getObj hb, srun_setObj hb, run_checkKey_str hk, Instr.findKey, run_underlying hk, h2, Result.andThen, hkey, he0, hk0, Instr.keyThatStays, Instr.sameBits, goInt]
    · rw [h1, Option.getD_some]
      refine ⟨_, _, j, v0, by rw [Array.getElem?_setIfInBounds_self_of_lt hlt], spairs_mod hE hn h3 _ (fun e he => ⟨rfl, ?_⟩), snodup_put L k _ hn, MapKept.stamped_modify hst j (fun e => { e with key := .string k }) (fun _ _ => rfl) (fun e _ he => by rw [he] at hkey; simpa using hkey.symm), ?_, ?_⟩
      · rw [he0] at he; cases he; exact hv0
      · have hk' : k ∈ skeys L := List.mem_map_of_mem (f := Prod.fst) (List.mem_of_getElem? h3)
        unfold sput; rw [if_pos ((sany_iff L k).2 hk'), List.getElem?_map, h3]; simp
      · rw [Array.getElem?_modify, if_pos rfl, he0]; rfl
    · exact ⟨rfl, rfl, rfl, by simp, fun i _ hi => by simp [Array.getElem?_setIfInBounds, Ne.symm hi]⟩
theorem SEnt.store (h : SEnt enc w b L k born) (v : V) : ∃ w', (Instr.entryStore t (.map (some b)) (.int .i64 born) (enc v)).run P w = .ok () w' ∧ SMap enc w' b (sput L k v) ∧ Keep (fun i => i = b) w w' := by
  obtain ⟨E, clock, j, v0, hb, hE, hn, hst, hj, hbj⟩ := h
  have hlt := m_lt hb
  obtain ⟨e0, he0, hk0, hv0⟩ := skey_at hE hj
  rw [he0] at hbj
  have hb0 : e0.born = born := by simpa using hbj
  have hnd := ((MapKept.stamped_iff E clock).1 hst).2.1
  have hjl : j < E.size := (Array.getElem?_eq_some_iff.1 he0).1
  have hE0 : E[j] = e0 := (Array.getElem?_eq_some_iff.1 he0).2
  have hfi : E.findIdx? (fun e => (e.born : Int) == (born : Int)) = some j := by
    rw [Array.findIdx?_eq_some_iff_getElem]
    refine ⟨hjl, by rw [hE0, hb0]; simp, fun i hi q => ?_⟩
    have hq : E[i].born = born := by have : ((E[i].born : Nat) : Int) = born := by simpa using q
                                     omega
    have h1 : (E.toList.map (·.born))[i]? = some born := by simp [Nat.lt_trans hi hjl, hq]
    have h2 : (E.toList.map (·.born))[j]? = some born := by simp [hjl, hE0, hb0]
    have := (List.getElem?_inj (List.getElem?_eq_some_iff.1 h1).1 hnd).1 (h1.trans h2.symm)
    omega
  refine ⟨{ w with heap := w.heap.setIfInBounds b (.map (E.modify j fun e => { e with val := enc v }) clock) }, ?_, ?_, ?_⟩
  · simp [Instr.entryStore, getObj, setObj, srun_getObj hb, srun_setObj hb, asInt, asIntOf, Sem.run, hfi, Result.andThen]
  · exact ⟨_, _, by rw [Array.getElem?_setIfInBounds_self_of_lt hlt], spairs_mod hE hn hj _ (fun e he => by rw [he0] at he; cases he; exact ⟨hk0, rfl⟩), snodup_put L k _ hn, MapKept.stamped_modify hst j (fun e => { e with val := enc v }) (fun _ _ => rfl) (fun _ _ _ => rfl)⟩
  · exact ⟨rfl, rfl, rfl, by simp, fun i _ hi => by simp [Array.getElem?_setIfInBounds, Ne.symm hi]⟩
end
end Go.Proofs.YtolilbcpfdnkjaaGreat
