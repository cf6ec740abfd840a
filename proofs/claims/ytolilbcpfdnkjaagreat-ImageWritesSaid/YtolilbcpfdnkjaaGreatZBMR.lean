/- Lemmas, texts MR MG; no condition beyond those that each states. -/
import Derived.Test.YtolilbcpfdnkjaaGreatZBMapsA
import Derived.Maps.RangeWalk
import Derived.Test.YtolilbcpfdnkjaaGreatZBMapsM
/- Maps with int keys: range over one that the loop does not write. -/
namespace Go.Proofs.YtolilbcpfdnkjaaGreat
open Go.RowKit
open Go.ChangeMaps (setBlock)
set_option linter.unusedSimpArgs false
set_option linter.unusedVariables false
/-- A range over the map in block b is under way, its iterator in block r; `left` are the keys still to come. -/
def IRange {V : Type} (enc : V → Value) (w : World) (b r : Nat) (L : List (Int × V)) (left : Int → Bool) : Prop :=
  ∃ (E : Array MapEntry) (clock since : Nat) (seen : Array Nat) (c0 : Nat), w.heap[b]? = some (.map E clock) ∧ E.toList.map (fun e => (e.key, e.val)) = L.map (fun p => (Value.int .i64 p.1, enc p.2)) ∧ (mkeys L).Nodup ∧ MapKept.Stamped E clock ∧
    w.heap[r]? = some (.mapIter (some b) since seen c0) ∧ (∀ x ∈ E.toList, x.born < since) ∧ since ≤ c0 ∧ since ≤ clock ∧
    (∀ x ∈ E.toList, ∀ k, x.key = .int .i64 k → left k = !seen.contains x.born) ∧ (∀ k, left k = true → k ∈ mkeys L)
section
variable {V : Type} {enc : V → Value} {w w' : World} {b r : Nat} {L : List (Int × V)} {left : Int → Bool}
theorem ent_key {E : Array MapEntry} (hE : E.toList.map (fun e => (e.key, e.val)) = L.map (fun p => (Value.int .i64 p.1, enc p.2))) (hn : (mkeys L).Nodup) {x : MapEntry} (hx : x ∈ E.toList) : ∃ k v, x.key = .int .i64 k ∧ x.val = enc v ∧ mget L k = some v ∧ k ∈ mkeys L := by
  have hm := List.mem_map_of_mem (f := fun e : MapEntry => (e.key, e.val)) hx
  rw [hE] at hm
  obtain ⟨p, hp, hpe⟩ := List.mem_map.1 hm
  simp only [Prod.mk.injEq] at hpe
  refine ⟨p.1, p.2, hpe.1.symm, hpe.2.symm, ?_, List.mem_map_of_mem (f := Prod.fst) hp⟩
  clear hm hE hx hpe
  induction L with
  | nil => cases hp
  | cons q L ih =>
    rw [mget_cons]
    rcases List.mem_cons.1 hp with e | hp
    · subst e; rw [if_pos rfl]
    · have hne : q.1 ≠ p.1 := fun e => by
        have h1 : q.1 ∉ mkeys L := by
          have : (q.1 :: mkeys L).Nodup := hn
          exact (List.nodup_cons.1 this).1
        exact h1 (e ▸ List.mem_map_of_mem (f := Prod.fst) hp)
      rw [if_neg hne]
      exact ih ((List.nodup_cons.1 (show (q.1 :: mkeys L).Nodup from hn)).2) hp
theorem key_ent {E : Array MapEntry} (hE : E.toList.map (fun e => (e.key, e.val)) = L.map (fun p => (Value.int .i64 p.1, enc p.2))) {k : Int} (hk : k ∈ mkeys L) : ∃ x ∈ E.toList, x.key = .int .i64 k := by
  obtain ⟨p, hp, rfl⟩ := List.mem_map.1 hk
  have hm := List.mem_map_of_mem (f := fun p : Int × V => (Value.int .i64 p.1, enc p.2)) hp
  rw [← hE] at hm
  obtain ⟨x, hx, e⟩ := List.mem_map.1 hm
  simp only [Prod.mk.injEq] at e
  exact ⟨x, hx, e.1⟩
theorem IRange.imap (h : IRange enc w b r L left) : IMap enc w b L := by
  obtain ⟨E, clock, since, seen, c0, h1, h2, h3, h4, _⟩ := h
  exact ⟨E, clock, h1, h2, h3, h4⟩
theorem IRange.lt (h : IRange enc w b r L left) : r < w.heap.size := by
  obtain ⟨E, clock, since, seen, c0, _, _, _, _, h5, _⟩ := h
  exact m_lt h5
theorem IRange.ne (h : IRange enc w b r L left) : r ≠ b := by
  obtain ⟨E, clock, since, seen, c0, h1, _, _, _, h5, _⟩ := h
  intro e; rw [e, h1] at h5; cases h5
theorem IRange.keep {F : Nat → Prop} (h : IRange enc w b r L left) (k : Keep F w w') (hb : ¬ F b) (hr : ¬ F r) : IRange enc w' b r L left ∧ w'.rangeLeft b r = w.rangeLeft b r := by
  obtain ⟨E, clock, since, seen, c0, h1, h2, h3, h4, h5, h6⟩ := h
  have e1 := k.block b (m_lt h1) hb
  have e2 := k.block r (m_lt h5) hr
  refine ⟨⟨E, clock, since, seen, c0, e1.trans h1, h2, h3, h4, e2.trans h5, h6⟩, ?_⟩
  unfold World.rangeLeft; rw [e1, e2]
theorem IMap.range {P : Program} {t tk te : TypeId} (h : IMap enc w b L) (ht : P.underlying t = some (.map tk te)) :
    ∃ w', (Instr.range t (.map (some b))).run P w = .ok (.pointer (some ⟨w.heap.size, 0, none⟩)) w' ∧ IRange enc w' b w.heap.size L (fun k => decide (k ∈ mkeys L)) ∧ (∃ o, w' = w.alloc o) := by
  have hlt := h.lt
  obtain ⟨E, clock, hb, hE, hn, hst⟩ := h
  refine ⟨_, run_range_map w t tk te b E clock ht hb, ⟨E, clock, clock, #[], clock, m_old _ hb, hE, hn, hst, m_alloc _ _ _ rfl, ((MapKept.stamped_iff E clock).1 hst).1, Nat.le_refl _, Nat.le_refl _, fun x hx k e => ?_, fun k q => by simpa using q⟩, _, rfl⟩
  obtain ⟨k', v, e1, _, _, e2⟩ := ent_key hE hn hx
  rw [e1] at e
  have : k' = k := by simpa using e
  subst this
  simpa using e2
theorem IRange.next {P : Program} (h : IRange enc w b r L left) (ty : TypeId) :
    ((∀ k, left k = false) ∧ (Instr.next (.pointer (some ⟨r, 0, none⟩)) false ty).run P w = .ok (.tuple #[.bool false]) w) ∨
    ∃ k v w', mget L k = some v ∧ left k = true ∧ (Instr.next (.pointer (some ⟨r, 0, none⟩)) false ty).run P w = .ok (.tuple #[.bool true, .int .i64 k, enc v]) w' ∧
      IRange enc w' b r L (fun j => left j && !decide (j = k)) ∧ w'.rangeLeft b r < w.rangeLeft b r ∧ Keep (fun i => i = r) w w' ∧ (Instr.entry (.pointer (some ⟨r, 0, none⟩))).run P w' = .ok (.tuple #[.int .i64 k, enc v]) w' := by
  have hne := h.ne
  obtain ⟨E, clock, since, seen, c0, hb, hE, hn, hst, hr, hold, hsc, hsk, hl1, hl2⟩ := h
  have hst' := (MapKept.stamped_iff E clock).1 hst
  rcases run_next_at (P := P) w ty r b since c0 seen E clock hr hb hold hsc with ⟨h0, hrun⟩ | ⟨e, he, w1, hal, hrun⟩
  · refine Or.inl ⟨fun k => ?_, hrun⟩
    cases hk : left k
    · rfl
    · obtain ⟨x, hx, hxk⟩ := key_ent hE (hl2 k hk)
      have := hl1 x hx k hxk
      rw [hk, all_seen E seen h0 x hx] at this
      cases this
  · obtain ⟨hem, hes⟩ := mem_left he
    obtain ⟨k, v, ek, ev, hg, hmk⟩ := ent_key hE hn hem
    have hr1 : w1.heap[r]? = some (.mapIter (some b) since seen c0) := by rcases hal with rfl | rfl <;> exact hr
    have hb1 : w1.heap[b]? = some (.map E clock) := by rcases hal with rfl | rfl <;> exact hb
    have hset := MapKept.heap_set (o' := .mapIter (some b) since (seen.push e.born) clock) hr1
    have hb' : (setBlock w1 r (.mapIter (some b) since (seen.push e.born) clock)).heap[b]? = some (.map E clock) := (hset.2 b (fun e1 => hne e1.symm)).trans hb1
    have hent := run_entry_at (P := P) _ r b since seen E clock e hset.1 hb' hem hst'.2.1
    rw [ek, ev] at hrun hent
    refine Or.inr ⟨k, v, _, hg, by rw [hl1 e hem k ek, hes]; rfl, hrun, ⟨E, clock, since, seen.push e.born, clock, hb', hE, hn, hst, hset.1, hold, hsk, hsk, fun x hx j hj => ?_, fun j hj => hl2 j (by simp at hj; exact hj.1)⟩, ?_, ?_, hent⟩
    · show (left j && !decide (j = k)) = _
      rw [hl1 x hx j hj, contains_push]
      have : decide (j = k) = (x.born == e.born) := by
        by_cases hjk : j = k
        · subst hjk
          have := entry_eq_of_key hst'.2.2 hx hem (hj.trans ek.symm)
          subst this; simp
        · have : x.born ≠ e.born := fun q => hjk (by
            have := born_inj hst'.2.1 hx hem q
            subst this
            rw [hj] at ek; simpa using ek)
          simp [hjk, this]
      rw [this]
      cases seen.contains x.born <;> cases (x.born == e.born) <;> rfl
    · have h1 := left_shrinks E seen e he
      unfold World.rangeLeft
      rw [hb', hb, hr, show (setBlock w1 r (.mapIter (some b) since (seen.push e.born) clock)).heap[r]? = _ from hset.1]
      exact h1
    · rcases hal with rfl | rfl <;> exact ⟨rfl, rfl, rfl, by simp [setBlock], fun i _ hi => hset.2 i hi⟩
end
section
variable {V : Type} {enc : V → Value} {b r : Nat} {L : List (Int × V)} {left : Int → Bool} {ops : Array Oper} {rest : List Oper} {o : Oper} {a : Act} {w : World} {Q : Exit → Act → World → Prop}
theorem map_range (hg : o.guard = none) (m : Operand) (t : TypeId) (hop : o.op = Op.range t m) (tk te : TypeId) (ht : Tryz.prog.underlying t = some (.map tk te)) (hm : a.eval m = .map (some b)) (h : IMap enc w b L)
    (hK : ∀ w', IRange enc w' b w.heap.size L (fun k => decide (k ∈ mkeys L)) → Below w.heap.size w w' → w'.heap.size = w.heap.size + 1 → wpList Tryz.prog ops Q rest (a.put o.dst (.pointer (some ⟨w.heap.size, 0, none⟩))) w') :
    wpList Tryz.prog ops Q (o :: rest) a w := by
  refine wpList_plain hg fun K' hK' => ?_
  obtain ⟨w', hrun, h1, o', rfl⟩ := h.range (P := Tryz.prog) ht
  unfold Oper.wp
  simp only [execOp, hop, hm, Sem.run_bind, Sem.run_pure, Result.andThen_ok, hrun]
  exact hK' _ _ (hK _ h1 ((Below.refl _ w).alloc (Nat.le_refl _) _) (by simp))
theorem map_next (hg : o.guard = none) (it : Operand) (hop : o.op = Op.next it false) (hit : a.eval it = .pointer (some ⟨r, 0, none⟩)) (h : IRange enc w b r L left)
    (hDone : (∀ k, left k = false) → wpList Tryz.prog ops Q rest (a.put o.dst (.tuple #[.bool false])) w)
    (hMore : ∀ (k : Int) (v : V) (w' : World), mget L k = some v → left k = true → IRange enc w' b r L (fun j => left j && !decide (j = k)) → w'.rangeLeft b r < w.rangeLeft b r → Keep (fun i => i = r) w w' →
      (Instr.entry (.pointer (some ⟨r, 0, none⟩))).run Tryz.prog w' = .ok (.tuple #[.int .i64 k, enc v]) w' → wpList Tryz.prog ops Q rest (a.put o.dst (.tuple #[.bool true, .int .i64 k, enc v])) w') :
    wpList Tryz.prog ops Q (o :: rest) a w := by
  refine wpList_plain hg fun K' hK' => ?_
  unfold Oper.wp
  rcases h.next (P := Tryz.prog) o.type with ⟨hl, hrun⟩ | ⟨k, v, w', h1, h2, hrun, h3, h4, h5, h6⟩
  · simp only [execOp, hop, hit, Sem.run_bind, Sem.run_pure, Result.andThen_ok, hrun]
    exact hK' _ _ (hDone hl)
  · simp only [execOp, hop, hit, Sem.run_bind, Sem.run_pure, Result.andThen_ok, hrun]
    exact hK' _ _ (hMore k v w' h1 h2 h3 h4 h5 h6)
end
end Go.Proofs.YtolilbcpfdnkjaaGreat

/- An int map's own entries are found. -/
namespace Go.Proofs.YtolilbcpfdnkjaaGreat
open Go.RowKit
set_option linter.unusedSimpArgs false
set_option linter.unusedVariables false
theorem mget_of_mem {V : Type} {L : List (Int × V)} (hn : (mkeys L).Nodup) {p : Int × V} (hp : p ∈ L) : mget L p.1 = some p.2 := by
  induction L with
  | nil => cases hp
  | cons q L ih =>
    rw [mget_cons]
    have hn' : q.1 ∉ mkeys L ∧ (mkeys L).Nodup := List.nodup_cons.1 (show (q.1 :: mkeys L).Nodup from hn)
    rcases List.mem_cons.1 hp with e | hp
    · subst e; rw [if_pos rfl]
    · have hne : q.1 ≠ p.1 := fun e => hn'.1 (e ▸ List.mem_map_of_mem (f := Prod.fst) hp)
      rw [if_neg hne]
      exact ih hn'.2 hp
end Go.Proofs.YtolilbcpfdnkjaaGreat
