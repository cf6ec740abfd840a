/- tree, in plain Lean: an item is moved. -/
import Derived.Test.YtolilbcpfdnkjaaU7
namespace Go.Proofs.Ytolilbcpfdnkjaa
open Go.RowKit
set_option linter.unusedSimpArgs false
set_option linter.unusedVariables false
section
variable {L : List Itm} {next : Int}
theorem Under.rank {r : Int → Nat} (ri : ∀ i ∈ L, r i.e.node = r i.d + 1) {a n : Int} (h : Under L a n) : r a ≤ r n := by
  induction h with
  | refl => exact Nat.le_refl _
  | step i hi _ ih => rw [ri i hi]; omega
/-- The tree in which x stands elsewhere. -/
def movedT (L : List Itm) (dir : Int) (x : Ent) (to : Int) (y : Ent) : List Itm := dropT L dir x.name ++ [⟨to, y⟩]
theorem isDirB_moved (h : TInv L next) {d : Int} {x y : Ent} (hx : (⟨d, x⟩ : Itm) ∈ L) (e1 : y.node = x.node) (e2 : y.dir = x.dir) (to k : Int) : isDirB (movedT L d x to y) k = isDirB L k := by
  unfold movedT
  rw [isDirB_snoc, isDirB_dropT h hx, e1, e2]
  by_cases e : k = x.node
  · subst e
    have : isDirB L x.node = x.dir := by
      rw [Bool.eq_iff_iff, isDirB_iff]
      constructor
      · rintro (q | ⟨i, hi, q1, q2⟩)
        · have h0 : 1 ≤ x.node := (h.rg _ hx).1; omega
        · have := node_inj h hi hx q1; rw [this] at q2; exact q2
      · intro q; exact Or.inr ⟨_, hx, rfl, q⟩
    rw [this]; simp
  · have e' : ¬ x.node = k := fun q => e q.symm
    simp [e, e']
theorem isFileB_moved (h : TInv L next) {d : Int} {x y : Ent} (hx : (⟨d, x⟩ : Itm) ∈ L) (e1 : y.node = x.node) (e2 : y.dir = x.dir) (to k : Int) : isFileB (movedT L d x to y) k = isFileB L k := by
  unfold movedT
  rw [isFileB_snoc, isFileB_dropT h hx, e1, e2]
  by_cases e : k = x.node
  · subst e
    have : isFileB L x.node = !x.dir := by
      rw [Bool.eq_iff_iff, isFileB_iff]
      constructor
      · rintro ⟨i, hi, q1, q2⟩
        have := node_inj h hi hx q1; rw [this] at q2; simpa using q2
      · intro q; exact ⟨_, hx, rfl, by simpa using q⟩
    rw [this]; simp
  · have e' : ¬ x.node = k := fun q => e q.symm
    simp [e, e']
theorem nodes_moved (h : TInv L next) {d : Int} {x y : Ent} (hx : (⟨d, x⟩ : Itm) ∈ L) (e1 : y.node = x.node) (to : Int) (n : Int) : n ∈ nodes (movedT L d x to y) ↔ n ∈ nodes L := by
  unfold movedT
  rw [nodes_snoc, List.mem_append, mem_nodes, mem_nodes]
  constructor
  · rintro (⟨i, hi, e⟩ | e)
    · exact ⟨i, ((mem_dropT' h hx).1 hi).1, e⟩
    · simp at e; exact ⟨_, hx, by rw [e, e1]⟩
  · rintro ⟨i, hi, e⟩
    by_cases q : i.e.node = x.node
    · exact Or.inr (by simp; rw [e1, ← e, q])
    · exact Or.inl ⟨i, (mem_dropT' h hx).2 ⟨hi, q⟩, e⟩
theorem TInv.moved (h : TInv L next) {d : Int} {x y : Ent} (hx : (⟨d, x⟩ : Itm) ∈ L) {to : Int} (e1 : y.node = x.node) (e2 : y.dir = x.dir) (ec : y.cookie = next) (hto : isDirB L to = true) (hnu : ¬ Under L x.node to)
    (hu : y.name ∉ (entries L to).map (·.name)) (hg : mayErr y.name y.short = 0) : TInv (movedT L d x to y) (next + 1) := by
  have hs : (dropT L d x.name).Sublist L := List.filter_sublist ..
  have hnx := h.nx
  have hxr := h.rg _ hx
  have hmem : ∀ i ∈ movedT L d x to y, i ∈ dropT L d x.name ∨ i = ⟨to, y⟩ := fun i hi => by
    unfold movedT at hi
    rcases List.mem_append.1 hi with q | q
    · exact Or.inl q
    · simp at q; exact Or.inr q
  refine ⟨?_, fun i hi => ?_, fun i hi => ?_, fun k => ?_, ?_, fun i hi => ?_, by omega, ?_, fun i hi => ?_⟩
  · unfold movedT
    rw [nodes_snoc, List.nodup_append]
    refine ⟨h.nd.sublist (hs.map _), by simp, fun a ha b hb e => ?_⟩
    simp at hb
    obtain ⟨i, hi, q⟩ := mem_nodes.1 ha
    exact ((mem_dropT' h hx).1 hi).2 (by rw [q, e, hb, e1])
  · rcases hmem i hi with q | q
    · exact h.rg i (hs.subset q)
    · subst q; show 1 ≤ y.node ∧ y.node ≤ 200; rw [e1]; exact hxr
  · rw [isDirB_moved h hx e1 e2]
    rcases hmem i hi with q | q
    · exact h.pa i (hs.subset q)
    · subst q; exact hto
  · unfold movedT
    have hsub : (entries (dropT L d x.name) k).Sublist (entries L k) := by
      rw [entries_dropT]
      split
      · rename_i e; subst e; exact List.filter_sublist ..
      · exact List.Sublist.refl _
    rw [entries_snoc, List.map_append]
    by_cases e : to = k
    · subst e
      rw [if_pos rfl, List.nodup_append]
      exact ⟨(h.un _).sublist (hsub.map _), by simp, fun a ha b hb e => by simp at hb; subst hb; subst e; exact hu ((hsub.map _).subset ha)⟩
    · rw [if_neg e]; simpa using (h.un k).sublist (hsub.map _)
  · unfold movedT
    rw [List.map_append, List.pairwise_append]
    refine ⟨h.ck.sublist (hs.map _), by simp, fun a ha b hb => ?_⟩
    obtain ⟨i, hi, rfl⟩ := List.mem_map.1 ha
    simp at hb
    rw [hb, ec]
    exact (h.cb i (hs.subset hi)).2
  · rcases hmem i hi with q | q
    · have := h.cb i (hs.subset q); omega
    · subst q; show 1 ≤ y.cookie ∧ y.cookie < _; omega
  · obtain ⟨r, r0, ri⟩ := h.ac
    classical
    refine ⟨fun n => if Under L x.node n then r to + 1 + (r n - r x.node) else r n, ?_, fun i hi => ?_⟩
    · have : ¬ Under L x.node 0 := fun q => by
        have hr := q.rank ri
        have h1 : r x.node = r d + 1 := ri _ hx
        omega
      show (if Under L x.node 0 then r to + 1 + (r 0 - r x.node) else r 0) = 0
      rw [if_neg this]; exact r0
    · show (if Under L x.node i.e.node then r to + 1 + (r i.e.node - r x.node) else r i.e.node) = (if Under L x.node i.d then r to + 1 + (r i.d - r x.node) else r i.d) + 1
      rcases hmem i hi with q | q
      · obtain ⟨q1, q2⟩ := (mem_dropT' h hx).1 q
        have hr := ri i q1
        by_cases c : Under L x.node i.d
        · have := c.rank ri
          rw [if_pos (.step i q1 c), if_pos c]; omega
        · have c2 : ¬ Under L x.node i.e.node := fun z => by
            generalize hn : i.e.node = n at z
            cases z with
            | refl => exact q2 hn
            | step j hj k =>
              have := node_inj h q1 hj hn
              subst this; exact c k
          rw [if_neg c2, if_neg c, hr]
      · subst q
        show (if Under L x.node y.node then r to + 1 + (r y.node - r x.node) else r y.node) = (if Under L x.node to then _ else r to) + 1
        rw [e1, if_pos .refl, if_neg hnu]; omega
  · rcases hmem i hi with q | q
    · exact h.gd i (hs.subset q)
    · subst q; exact hg
theorem TRep.moved {D : List (Int × DE)} {F : List (Int × Int)} {p : PD} (h : TRep D F p L) (hi : TInv L next) {d : Int} {x y : Ent} (hx : (⟨d, x⟩ : Itm) ∈ L) {to : Int} (e1 : y.node = x.node) (e2 : y.dir = x.dir) (hto : isDirB L to = true)
    (v1 v2 : Value) {l1 : List Ent} (hl : l1 = (entries L d).filter (fun z => !hasName x.name z)) : TRep (mput (mput D d (v1, l1)) to (v2, (if to = d then l1 else entries L to) ++ [y])) F p (movedT L d x to y) := by
  have hd := hi.pa _ hx
  refine ⟨fun k hk => ?_, fun k hk => ?_, fun k => ?_, fun k => ?_⟩
  · rw [isDirB_moved hi hx e1 e2] at hk
    unfold movedT
    rw [mget_put, mget_put, entries_snoc, entries_dropT]
    by_cases c : k = to
    · subst c
      rw [if_pos rfl, if_pos rfl, ← hl]; exact ⟨v2, rfl⟩
    · rw [if_neg c, if_neg (show ¬ to = k from fun q => c q.symm), List.append_nil]
      by_cases c2 : k = d
      · rw [if_pos c2, if_pos c2, hl]; exact ⟨v1, rfl⟩
      · rw [if_neg c2, if_neg c2]; exact h.r1 k hk
  · rw [isDirB_moved hi hx e1 e2] at hk
    rw [mget_put, mget_put, if_neg (fun q => by rw [q, hto] at hk; cases hk), if_neg (fun q => by rw [q] at hk; rw [hk] at hd; cases hd)]
    exact h.r2 k hk
  · rw [isFileB_moved hi hx e1 e2]; exact h.r3 k
  · rw [h.r4 k, ← mem_nodes, ← mem_nodes, nodes_moved hi hx e1]
end
noncomputable def moveErr (L : List Itm) (dir : Int) (name : ByteArray) (to : Int) (as_ : ByteArray) (short : Int) : Int :=
  if (findRes L dir name).2 ≠ 0 then (findRes L dir name).2 else if listErr L to ≠ 0 then listErr L to else if mayErr as_ short ≠ 0 then mayErr as_ short
  else if underB L (findRes L dir name).1.node to = true then 10 else if (findE L to as_).isSome = true then 6 else 0
noncomputable def moveT (L : List Itm) (next : Int) (dir : Int) (name : ByteArray) (to : Int) (as_ : ByteArray) (short : Int) : LR :=
  if moveErr L dir name to as_ short ≠ 0 then ⟨L, next, 0, moveErr L dir name to as_ short⟩
  else ⟨dropT L dir name ++ [⟨to, ⟨as_, (findRes L dir name).1.node, (findRes L dir name).1.dir, next, short⟩⟩], next + 1, 0, 0⟩
end Go.Proofs.Ytolilbcpfdnkjaa
