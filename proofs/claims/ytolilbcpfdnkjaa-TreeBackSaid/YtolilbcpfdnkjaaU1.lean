/- tree, in plain Lean: the items of a tree, what holds of them; an item more. -/
import Derived.Test.YtolilbcpfdnkjaaT9
namespace Go.Proofs.Ytolilbcpfdnkjaa
open Go.RowKit
set_option linter.unusedSimpArgs false
set_option linter.unusedVariables false
def nodes (L : List Itm) : List Int := L.map (·.e.node)
/-- What holds of each tree. -/
structure TInv (L : List Itm) (next : Int) : Prop where
  nd : (nodes L).Nodup
  rg : ∀ i ∈ L, 1 ≤ i.e.node ∧ i.e.node ≤ 200
  pa : ∀ i ∈ L, isDirB L i.d = true
  un : ∀ d, ((entries L d).map (·.name)).Nodup
  ck : (L.map (·.e.cookie)).Pairwise (· < ·)
  cb : ∀ i ∈ L, 1 ≤ i.e.cookie ∧ i.e.cookie < next
  nx : 1 ≤ next
  ac : ∃ r : Int → Nat, r 0 = 0 ∧ ∀ i ∈ L, r i.e.node = r i.d + 1
  gd : ∀ i ∈ L, mayErr i.e.name i.e.short = 0
theorem isDirB_iff (L : List Itm) (d : Int) : isDirB L d = true ↔ d = 0 ∨ ∃ i ∈ L, i.e.node = d ∧ i.e.dir = true := by
  unfold isDirB; simp
theorem isFileB_iff (L : List Itm) (d : Int) : isFileB L d = true ↔ ∃ i ∈ L, i.e.node = d ∧ i.e.dir = false := by
  unfold isFileB; simp
theorem isDirB_snoc (L : List Itm) (x : Itm) (d : Int) : isDirB (L ++ [x]) d = (isDirB L d || (decide (x.e.node = d) && x.e.dir)) := by
  unfold isDirB; simp [Bool.or_assoc]
theorem isFileB_snoc (L : List Itm) (x : Itm) (d : Int) : isFileB (L ++ [x]) d = (isFileB L d || (decide (x.e.node = d) && !x.e.dir)) := by
  unfold isFileB; simp
theorem entries_snoc (L : List Itm) (x : Itm) (d : Int) : entries (L ++ [x]) d = entries L d ++ if x.d = d then [x.e] else [] := by
  unfold entries
  rw [List.filter_append, List.map_append]
  by_cases h : x.d = d <;> simp [h]
theorem nodes_snoc (L : List Itm) (x : Itm) : nodes (L ++ [x]) = nodes L ++ [x.e.node] := by unfold nodes; simp
theorem mem_nodes {L : List Itm} {n : Int} : n ∈ nodes L ↔ ∃ i ∈ L, i.e.node = n := by unfold nodes; simp
theorem mem_entries {L : List Itm} {d : Int} {x : Ent} : x ∈ entries L d ↔ ∃ i ∈ L, i.d = d ∧ i.e = x := by
  unfold entries; simp
  constructor
  · rintro ⟨a, ⟨h1, h2⟩, h3⟩; exact ⟨a, h1, h2, h3⟩
  · rintro ⟨a, h1, h2, h3⟩; exact ⟨a, ⟨h1, h2⟩, h3⟩
theorem dir_of_free {L : List Itm} {n : Int} (hn : n ∉ nodes L) (h1 : 1 ≤ n) : isDirB L n = false ∧ isFileB L n = false := by
  constructor
  · cases h : isDirB L n with
    | false => rfl
    | true =>
      rcases (isDirB_iff L n).1 h with h | ⟨i, hi, h, _⟩
      · omega
      · exact absurd (mem_nodes.2 ⟨i, hi, h⟩) hn
  · cases h : isFileB L n with
    | false => rfl
    | true =>
      obtain ⟨i, hi, h, _⟩ := (isFileB_iff L n).1 h
      exact absurd (mem_nodes.2 ⟨i, hi, h⟩) hn
theorem TInv.len {L : List Itm} {next : Int} (h : TInv L next) : L.length ≤ 200 := by
  have := nodup_bound 200 (nodes L) h.nd (fun x hx => by obtain ⟨i, hi, e⟩ := mem_nodes.1 hx; subst e; exact h.rg i hi)
  simpa [nodes] using this
theorem entries_none {L : List Itm} {next : Int} (h : TInv L next) {n : Int} (hd : isDirB L n = false) : entries L n = [] := by
  rw [List.eq_nil_iff_forall_not_mem]
  intro x hx
  obtain ⟨i, hi, e, _⟩ := mem_entries.1 hx
  have := h.pa i hi
  rw [e, hd] at this
  cases this
section
variable {D : List (Int × DE)} {F : List (Int × Int)} {p p' : PD} {L : List Itm} {next : Int}
theorem TRep.linkedD (h : TRep D F p L) (hi : TInv L next) {x : Itm} (hn : x.e.node ∉ nodes L) (h1 : 1 ≤ x.e.node) (hx : x.e.dir = true) (hd : isDirB L x.d = true)
    (hk : ∀ k, k ∈ mkeys p'.out ↔ k ∈ mkeys p.out ∨ k = x.e.node) (vn v' : Value) : TRep (mput (mput D x.e.node (vn, [])) x.d (v', entries L x.d ++ [x.e])) F p' (L ++ [x]) := by
  obtain ⟨q1, q2⟩ := dir_of_free hn h1
  have hne : x.d ≠ x.e.node := fun e => by rw [e, q1] at hd; cases hd
  refine ⟨fun d hd' => ?_, fun d hd' => ?_, fun d => ?_, fun k => ?_⟩
  · rw [mget_put, mget_put, entries_snoc]
    by_cases e : d = x.d
    · rw [if_pos e, if_pos e.symm, e]; exact ⟨v', rfl⟩
    · rw [if_neg e, if_neg (show ¬ x.d = d from fun q => e q.symm), List.append_nil]
      by_cases e2 : d = x.e.node
      · rw [if_pos e2, e2, entries_none hi q1]; exact ⟨vn, rfl⟩
      · rw [if_neg e2]
        rw [isDirB_snoc] at hd'
        refine h.r1 d ?_
        rcases Bool.or_eq_true _ _ |>.mp hd' with q | q
        · exact q
        · simp at q; exact absurd q.1.symm e2
  · rw [isDirB_snoc] at hd'
    obtain ⟨a, b⟩ := Bool.or_eq_false_iff.1 hd'
    rw [mget_put, mget_put, if_neg (fun q => by rw [q, hd] at a; cases a), if_neg (fun q => by rw [q, hx] at b; simp at b)]
    exact h.r2 d a
  · rw [isFileB_snoc, hx]; simp; exact h.r3 d
  · rw [hk k, h.r4 k]
    constructor
    · rintro (⟨i, hi, e⟩ | e)
      · exact ⟨i, List.mem_append_left _ hi, e⟩
      · exact ⟨x, by simp, e.symm⟩
    · rintro ⟨i, hi, e⟩
      rcases List.mem_append.1 hi with q | q
      · exact Or.inl ⟨i, q, e⟩
      · simp at q; subst q; exact Or.inr e.symm
theorem TRep.linkedF (h : TRep D F p L) (hi : TInv L next) {x : Itm} (hn : x.e.node ∉ nodes L) (h1 : 1 ≤ x.e.node) (hx : x.e.dir = false) (hd : isDirB L x.d = true)
    (hk : ∀ k, k ∈ mkeys p'.out ↔ k ∈ mkeys p.out ∨ k = x.e.node) (v' : Value) : TRep (mput D x.d (v', entries L x.d ++ [x.e])) (mput F x.e.node 1) p' (L ++ [x]) := by
  obtain ⟨q1, q2⟩ := dir_of_free hn h1
  refine ⟨fun d hd' => ?_, fun d hd' => ?_, fun d => ?_, fun k => ?_⟩
  · rw [mget_put, entries_snoc]
    by_cases e : d = x.d
    · rw [if_pos e, if_pos e.symm, e]; exact ⟨v', rfl⟩
    · rw [if_neg e, if_neg (show ¬ x.d = d from fun q => e q.symm), List.append_nil]
      rw [isDirB_snoc, hx] at hd'
      exact h.r1 d (by simpa using hd')
  · rw [isDirB_snoc, hx] at hd'
    have a : isDirB L d = false := by simpa using hd'
    rw [mget_put, if_neg (fun q => by rw [q, hd] at a; cases a)]
    exact h.r2 d a
  · rw [isFileB_snoc, hx, mget_put]
    by_cases e : d = x.e.node
    · rw [if_pos e]; simp [e]
    · rw [if_neg e, h.r3 d]; simp [show ¬ x.e.node = d from fun q => e q.symm]
  · rw [hk k, h.r4 k]
    constructor
    · rintro (⟨i, hi, e⟩ | e)
      · exact ⟨i, List.mem_append_left _ hi, e⟩
      · exact ⟨x, by simp, e.symm⟩
    · rintro ⟨i, hi, e⟩
      rcases List.mem_append.1 hi with q | q
      · exact Or.inl ⟨i, q, e⟩
      · simp at q; subst q; exact Or.inr e.symm
end
theorem TInv.linked {L : List Itm} {next : Int} (h : TInv L next) {x : Itm} (hn : x.e.node ∉ nodes L) (h1 : 1 ≤ x.e.node) (h2 : x.e.node ≤ 200) (hd : isDirB L x.d = true) (hu : x.e.name ∉ (entries L x.d).map (·.name))
    (hc : x.e.cookie = next) (hg : mayErr x.e.name x.e.short = 0) : TInv (L ++ [x]) (next + 1) := by
  obtain ⟨q1, q2⟩ := dir_of_free hn h1
  have hnx := h.nx
  refine ⟨?_, ?_, ?_, ?_, ?_, ?_, by omega, ?_, ?_⟩
  · rw [nodes_snoc, List.nodup_append]
    exact ⟨h.nd, by simp, fun a ha b hb e => by simp at hb; subst hb; subst e; exact hn ha⟩
  · intro i hi
    rcases List.mem_append.1 hi with q | q
    · exact h.rg i q
    · simp at q; subst q; exact ⟨h1, h2⟩
  · intro i hi
    rw [isDirB_snoc]
    rcases List.mem_append.1 hi with q | q
    · rw [h.pa i q]; rfl
    · simp at q; subst q; rw [hd]; rfl
  · intro d
    rw [entries_snoc, List.map_append]
    by_cases e : x.d = d
    · subst e
      rw [if_pos rfl, List.nodup_append]
      exact ⟨h.un _, by simp, fun a ha b hb e => by simp at hb; subst hb; subst e; exact hu ha⟩
    · rw [if_neg e]; simpa using h.un d
  · rw [List.map_append, List.pairwise_append]
    refine ⟨h.ck, by simp, fun a ha b hb => ?_⟩
    obtain ⟨i, hi, rfl⟩ := List.mem_map.1 ha
    simp at hb
    rw [hb, hc]
    exact (h.cb i hi).2
  · intro i hi
    rcases List.mem_append.1 hi with q | q
    · have := h.cb i q; omega
    · simp at q; subst q; omega
  · obtain ⟨r, r0, ri⟩ := h.ac
    refine ⟨fun d => if d = x.e.node then r x.d + 1 else r d, ?_, fun i hi => ?_⟩
    · show (if (0 : Int) = x.e.node then r x.d + 1 else r 0) = 0
      rw [if_neg (by omega)]; exact r0
    · show (if i.e.node = x.e.node then r x.d + 1 else r i.e.node) = (if i.d = x.e.node then r x.d + 1 else r i.d) + 1
      rcases List.mem_append.1 hi with q | q
      · rw [if_neg (fun e => hn (mem_nodes.2 ⟨i, q, e⟩)), if_neg (fun e => by have := h.pa i q; rw [e, q1] at this; cases this)]
        exact ri i q
      · simp at q; subst q
        rw [if_pos rfl, if_neg (fun e => by rw [e, q1] at hd; cases hd)]
  · intro i hi
    rcases List.mem_append.1 hi with q | q
    · exact h.gd i q
    · simp at q; subst q; exact hg
noncomputable def freeN (S : List Int) : Nat := by classical exact if h : ∃ n, LeastFree S n then h.choose else 0
theorem freeN_eq {S : List Int} {n : Nat} (h : LeastFree S n) : freeN S = n := by
  have hs : ∃ n, LeastFree S n := ⟨n, h⟩
  have h2 : LeastFree S (freeN S) := by unfold freeN; rw [dif_pos hs]; exact hs.choose_spec
  obtain ⟨a1, a2, a3⟩ := h
  obtain ⟨b1, b2, b3⟩ := h2
  rcases Nat.lt_trichotomy (freeN S) n with q | q | q
  · exact absurd (a3 _ b1 q) b2
  · exact q
  · exact absurd (b3 _ a1 q) a2
theorem LeastFree.congr {S T : List Int} {n : Nat} (h : LeastFree S n) (e : ∀ k, k ∈ S ↔ k ∈ T) : LeastFree T n :=
  ⟨h.1, fun q => h.2.1 ((e _).2 q), fun m q1 q2 => (e _).1 (h.2.2 m q1 q2)⟩
/-- What a call leaves, and answers. -/
structure LR where
  L : List Itm
  next : Int
  node : Int
  err : Int
def linkErr (L : List Itm) (dir : Int) (name : ByteArray) (short : Int) : Int :=
  if listErr L dir ≠ 0 then listErr L dir else if mayErr name short ≠ 0 then mayErr name short else if (findE L dir name).isSome = true then 6 else 0
noncomputable def linkT (L : List Itm) (next : Int) (dir : Int) (name : ByteArray) (isDir : Bool) (short : Int) : LR :=
  if linkErr L dir name short ≠ 0 then ⟨L, next, 0, linkErr L dir name short⟩
  else if freeN (nodes L) ≤ 200 then ⟨L ++ [⟨dir, ⟨name, freeN (nodes L), isDir, next, short⟩⟩], next + 1, freeN (nodes L), 0⟩
  else ⟨L, next, 0, 12⟩
theorem find_none {L : List Itm} {d : Int} {name : ByteArray} (h : (findE L d name).isSome = false) : name ∉ (entries L d).map (·.name) := by
  intro hm
  obtain ⟨x, hx, rfl⟩ := List.mem_map.1 hm
  have : findE L d x.name = none := by simpa using h
  unfold findE at this
  rw [List.find?_eq_none] at this
  exact this x hx (by simp [hasName])
end Go.Proofs.Ytolilbcpfdnkjaa
