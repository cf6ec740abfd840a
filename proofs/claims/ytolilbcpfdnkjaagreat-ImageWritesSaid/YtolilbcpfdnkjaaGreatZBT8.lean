/- tree: slices.Delete of one entry. -/
import Derived.Test.YtolilbcpfdnkjaaGreatZBT7
import Derived.Lib.SliceRun
import Derived.Deep.RegionLaw
namespace Go.Proofs.YtolilbcpfdnkjaaGreat
open Go.RowKit
set_option linter.unusedSimpArgs false
set_option linter.unusedVariables false
theorem zero_entry (w : World) : (zeroValue 84).run Tryz.prog w = .ok (.agg #[.string ⟨#[]⟩, .int .i64 0, .bool false, .int .i64 0, .int .i64 0]) w := by kernel_rfl
def zcs (m : Nat) : List Value := (Builtin.zeroCells #[.string ⟨#[]⟩, .int .i64 0, .bool false, .int .i64 0, .int .i64 0] m).toList
theorem zcs_len (m : Nat) : (zcs m).length = m * 5 := by unfold zcs Builtin.zeroCells; simp
theorem zcs_one (m : Nat) : ∀ u ∈ zcs m, u.oneCell' = true := by
  intro u hu
  unfold zcs Builtin.zeroCells at hu
  obtain ⟨a, _, rfl⟩ := List.mem_map.1 (by simpa using hu : u ∈ (List.range (m * 5)).map fun i => (#[Value.string ⟨#[]⟩, .int .i64 0, .bool false, .int .i64 0, .int .i64 0])[i % 5]!)
  have h5 : a % 5 < 5 := Nat.mod_lt _ (by decide)
  generalize a % 5 = q at h5
  match q, h5 with
  | 0, _ => rfl
  | 1, _ => rfl
  | 2, _ => rfl
  | 3, _ => rfl
  | 4, _ => rfl
theorem clear_ents (w : World) (b o n c : Nat) (ty : TypeId) (hn : 0 < n) (hc : ∀ j, j < n * 5 → (w.cell? ⟨b, o + j, none⟩).isSome = true ∧ w.frozen? ⟨b, o + j, none⟩ = false) :
    (Builtin.clear_ #[49] ty #[.slice (some ⟨b, o, none⟩) n c]).run Tryz.prog w = .ok (.tuple #[]) (w.setCells b o (zcs n)) := by
  have hst := run_storeCells_cells (P := Tryz.prog) b o (zcs n) 0 w (by simpa [zcs_len] using fun j hj => (hc j hj).1) (by simpa [zcs_len] using fun j hj => (hc j hj).2) (zcs_one n)
  simp only [Nat.add_zero] at hst
  obtain ⟨m, rfl⟩ : ∃ m, n = m + 1 := ⟨n - 1, by omega⟩
  have hz : (Value.agg #[.string ⟨#[]⟩, .int .i64 0, .bool false, .int .i64 0, .int .i64 0]).cells = #[.string ⟨#[]⟩, .int .i64 0, .bool false, .int .i64 0, .int .i64 0] := by kernel_rfl
  unfold zcs at hst
  simp only [Builtin.clear_, run_underlying Tryz.underlying49, zero_entry, Sem.run_bind, Sem.run_pure, Result.andThen_ok, hz, hst, zcs]
  simp [run_underlying Tryz.underlying49, zero_entry, hz, hst]
set_option maxRecDepth 100000 in
set_option maxHeartbeats 2000000 in
theorem edelete_any {w : World} {B : Nat} {v : Value} {l : List Ent} (h : RowO EEnt w B v l) (i j : Nat) (hij : j = i + 1) (hi : i < l.length) (hl : l.length ≤ 1000000) :
    Calls Tryz.prog 97 #[v, .int .i64 i, .int .i64 j] w fun e w' => ∃ v', e = .returned v' ∧ RowO EEnt w' B v' (l.eraseIdx i) ∧ v'.ownBlock = v.ownBlock ∧ Keep (fun k => some k = v.ownBlock) w w' := by
  rcases h with ⟨rfl, rfl⟩ | ⟨g, off, cap, rfl, h1, h2, h3, h4, h5, h6⟩
  · simp at hi
  obtain ⟨i0, z0, hi0, -, hz1, -, -⟩ := EEnt.laid
  obtain ⟨n, hn⟩ : ∃ n, n = l.length := ⟨_, rfl⟩
  rw [← hn] at hi hl h3 ⊢
  have hcm : cap ≤ 9223372036854775807 := by unfold maxLen at h4; omega
  have hic : i ≤ cap := by omega
  have hjc : j ≤ cap := by omega
  have hlt : i < j := by omega
  have hjn : j ≤ n := by omega
  have hin : i ≤ n := by omega
  obtain ⟨news, hnews⟩ : ∃ news, news = (l.drop j).flatMap Ent.cells := ⟨_, rfl⟩
  have hlen : news.length = (n - j) * 5 := by have := EK.flat_len (E := EEnt) (l.drop j); rw [List.length_drop] at this; rw [hnews, hn]; exact this
  have hold : ∀ q u, ((l.take i).flatMap Ent.cells)[q]? = some u → q < i * 5 ∧ w.cell? ⟨g, off + q, none⟩ = some u := by
    intro q u hq
    have hql := (List.getElem?_eq_some_iff.1 hq).1
    have htl : ((l.take i).flatMap Ent.cells).length = i * 5 := by have := EK.flat_len (E := EEnt) (l.take i); rw [List.length_take, Nat.min_eq_left (by omega)] at this; exact this
    refine ⟨by omega, h5 q u ?_⟩
    show (l.flatMap Ent.cells)[q]? = some u
    rw [← List.take_append_drop i l, List.flatMap_append, List.getElem?_append_left (by rw [htl]; omega)]
    exact hq
  have hsrc0 : ∀ t u, news[t]? = some u → w.cell? ⟨g, off + j * 5 + t, none⟩ = some u := by
    intro t u ht
    have htl : ((l.take j).flatMap Ent.cells).length = j * 5 := by have := EK.flat_len (E := EEnt) (l.take j); rw [List.length_take, Nat.min_eq_left (by omega)] at this; exact this
    rw [Nat.add_assoc]
    refine h5 (j * 5 + t) u ?_
    show (l.flatMap Ent.cells)[j * 5 + t]? = some u
    rw [← List.take_append_drop j l, List.flatMap_append, List.getElem?_append_right (by omega), htl, show j * 5 + t - j * 5 = t by omega, ← hnews]
    exact ht
  have hone : ∀ u ∈ news, u.oneCell' = true := by rw [hnews]; exact EK.flat_one (E := EEnt) _
  have hel : (l.eraseIdx i).flatMap Ent.cells = (l.take i).flatMap Ent.cells ++ news := by rw [hnews, hij, List.eraseIdx_eq_take_drop_succ, List.flatMap_append]
  have hell : (l.eraseIdx i).length = i + (n - j) := by rw [List.length_eraseIdx, if_pos (by omega)]; omega
  obtain ⟨A, hA, hsrc⟩ : ∃ A : Addr, (if cap = j then some (⟨g, off, none⟩ : Addr) else some ⟨g, off + j * 5, none⟩) = some A ∧ (∀ t u, news[t]? = some u → w.drew.cell? (A.add t) = some u) := by
    by_cases h : cap = j
    · refine ⟨⟨g, off, none⟩, by simp [h], fun t u hu => ?_⟩
      have h0 : news.length = 0 := by rw [hlen]; omega
      rw [List.length_eq_zero_iff.1 h0] at hu
      simp at hu
    · exact ⟨⟨g, off + j * 5, none⟩, by simp [h], fun t u hu => by rw [Addr.add_lit]; exact hsrc0 t u hu⟩
  have hspare : ∀ t, t < news.length → (w.drew.cell? ⟨g, off + i * 5 + t, none⟩).isSome = true ∧ w.drew.frozen? ⟨g, off + i * 5 + t, none⟩ = false := by
    intro t ht
    rw [hlen] at ht
    rw [Nat.add_assoc]
    exact h6 (i * 5 + t) (by show _ < cap * 5; omega)
  obtain ⟨W1, hW1⟩ : ∃ W1, W1 = w.drew.setCells g (off + i * 5) news := ⟨_, rfl⟩
  have c1 : ∀ q u, ((l.eraseIdx i).flatMap Ent.cells)[q]? = some u → q < (i + (n - j)) * 5 ∧ W1.cell? ⟨g, off + q, none⟩ = some u := by
    intro q u hq
    have hql := (List.getElem?_eq_some_iff.1 hq).1
    have htl : ((l.take i).flatMap Ent.cells).length = i * 5 := by have := EK.flat_len (E := EEnt) (l.take i); rw [List.length_take, Nat.min_eq_left (by omega)] at this; exact this
    rw [hel, List.length_append, htl, hlen] at hql
    refine ⟨by omega, ?_⟩
    rw [hel] at hq
    rw [hW1]
    by_cases hc : q < i * 5
    · rw [List.getElem?_append_left (by omega)] at hq
      rw [World.cell?_setCells_out _ _ _ _ _ (fun _ _ => Or.inl (by show off + q < off + i * 5; omega))]
      exact (hold q u hq).2
    · rw [List.getElem?_append_right (by omega), htl] at hq
      obtain ⟨q1, q2⟩ := List.getElem?_eq_some_iff.1 hq
      have := World.cell?_setCells_in g news (off + i * 5) w.drew (fun t ht => (hspare t ht).1) _ q1
      rw [show off + q = off + i * 5 + (q - i * 5) by omega, this, q2]
  have c2 : ∀ q, q < cap * 5 → (W1.cell? ⟨g, off + q, none⟩).isSome = true ∧ W1.frozen? ⟨g, off + q, none⟩ = false := by
    intro q hq
    rw [hW1]
    refine ⟨?_, by rw [World.frozen?_setCells]; exact (h6 q hq).2⟩
    by_cases hc : i * 5 ≤ q ∧ q < i * 5 + news.length
    · have := World.cell?_setCells_in g news (off + i * 5) w.drew (fun t ht => (hspare t ht).1) (q - i * 5) (by omega)
      rw [show off + q = off + i * 5 + (q - i * 5) by omega, this]; rfl
    · rw [World.cell?_setCells_out _ _ _ _ _ (fun _ _ => by show off + q < _ ∨ _ ≤ off + q; omega)]
      exact (h6 q hq).1
  have hcl : ∀ ty, (Builtin.clear_ #[49] ty #[.slice (some ⟨g, off + (i + (n - j)) * 5, none⟩) (n - (i + (n - j))) (cap - (i + (n - j)))]).run Tryz.prog W1 = .ok (.tuple #[]) (W1.setCells g (off + (i + (n - j)) * 5) (zcs (n - (i + (n - j))))) :=
    fun ty => clear_ents W1 g _ _ _ ty (by omega) (fun t ht => by rw [Nat.add_assoc]; exact c2 _ (by omega))
  have hend : RowO EEnt (W1.setCells g (off + (i + (n - j)) * 5) (zcs (n - (i + (n - j))))) B (.slice (some ⟨g, off, none⟩) (i + (n - j)) cap) (l.eraseIdx i) := by
    refine Or.inr ⟨g, off, cap, by rw [hell], h1, by rw [size_setCells, hW1, size_setCells]; exact h2, by rw [hell]; omega, h4, fun q u hq => ?_, fun q hq => ?_⟩
    · obtain ⟨q1, q2⟩ := c1 q u hq
      rw [World.cell?_setCells_out _ _ _ _ _ (fun _ _ => Or.inl (by show off + q < off + (i + (n - j)) * 5; omega))]
      exact q2
    · refine ⟨?_, by rw [World.frozen?_setCells]; exact (c2 q hq).2⟩
      by_cases hc : (i + (n - j)) * 5 ≤ q ∧ q < (i + (n - j)) * 5 + (zcs (n - (i + (n - j)))).length
      · have := World.cell?_setCells_in g (zcs (n - (i + (n - j)))) (off + (i + (n - j)) * 5) W1 (fun t ht => by rw [zcs_len] at ht; rw [Nat.add_assoc]; exact (c2 _ (by omega)).1) (q - (i + (n - j)) * 5) (by omega)
        rw [show off + q = off + (i + (n - j)) * 5 + (q - (i + (n - j)) * 5) by omega, this]; rfl
      · rw [World.cell?_setCells_out _ _ _ _ _ (fun _ _ => by show off + q < _ ∨ _ ≤ off + q; omega)]
        exact (c2 q hq).1
  have hkeep : Keep (fun k => k = g) w (W1.setCells g (off + (i + (n - j)) * 5) (zcs (n - (i + (n - j))))) := by
    rw [hW1]
    exact (((Keep.refl _ w).drew).trans (heap_setCells g _ _ _)).trans (heap_setCells g _ _ _)
  have HEND := Lib.hid hend
  have HKEEP := Lib.hid hkeep
  have HW := Lib.hid hW1
  have s1 := Lib.hid hlen
  have s2 := Lib.hid hone
  have s3 := Lib.hid hspare
  have HSRC := Lib.hid hsrc
  clear hsrc hn
  clear hend hkeep c1 c2 hold hsrc0 hel hell hlen hone hspare hnews hW1 hij h1 h2 h4 h5 h6
  go_enter Tryz.func97, Tryz.ntmps97
  go_wp2_with fail
  go_region_law
    (refine step_append_room rfl _ _ 49 rfl 84 i0 5 Tryz.underlying49 hi0 hz1 g off i cap (by simp [Act.eval, Act.put]) A (n - j) (cap - j) news (by simp [Act.eval, Act.put]) s1.out HSRC.out s2.out (by omega) s3.out ?_; rw [← HW.out])
  go_wp2_with fail
  go_ret
  exact ⟨_, rfl, HEND.out, rfl, HKEEP.out.mono (fun i q => Or.inl (by rw [q]; rfl))⟩
end Go.Proofs.YtolilbcpfdnkjaaGreat
