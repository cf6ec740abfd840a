/- tree, in plain Lean: an item less. -/
import Derived.Test.YtolilbcpfdnkjaaU2
namespace Go.Proofs.Ytolilbcpfdnkjaa
open Go.RowKit
set_option linter.unusedSimpArgs false
set_option linter.unusedVariables false
def isAt (d : Int) (name : ByteArray) (i : Itm) : Bool := decide (i.d = d) && decide (i.e.name = name)
def dropT (L : List Itm) (d : Int) (name : ByteArray) : List Itm := L.filter (fun i => !isAt d name i)
theorem mem_dropT {L : List Itm} {d : Int} {name : ByteArray} {i : Itm} : i ∈ dropT L d name ↔ i ∈ L ∧ ¬ (i.d = d ∧ i.e.name = name) := by
  unfold dropT isAt
  rw [List.mem_filter]
  by_cases h : i.d = d <;> simp [h]
theorem inj_of_nodup {α β : Type} {f : α → β} : ∀ {l : List α}, (l.map f).Nodup → ∀ {a b : α}, a ∈ l → b ∈ l → f a = f b → a = b
  | [], _, _, _, h, _, _ => by cases h
  | x :: t, hn, a, b, ha, hb, e => by
    rw [List.map_cons, List.nodup_cons] at hn
    rcases List.mem_cons.1 ha with h1 | h1 <;> rcases List.mem_cons.1 hb with h2 | h2
    · rw [h1, h2]
    · exact absurd (List.mem_map.2 ⟨b, h2, by rw [← e, h1]⟩) hn.1
    · exact absurd (List.mem_map.2 ⟨a, h1, by rw [e, h2]⟩) hn.1
    · exact inj_of_nodup hn.2 h1 h2 e
theorem erase_filter (name : ByteArray) : ∀ (l : List Ent) (i : Nat), (l.map (·.name)).Nodup → l.findIdx? (hasName name) = some i → l.eraseIdx i = l.filter (fun y => !hasName name y)
  | [], i, _, h => by simp at h
  | a :: t, i, hn, h => by
    rw [List.map_cons, List.nodup_cons] at hn
    rw [List.findIdx?_cons] at h
    by_cases ha : hasName name a = true
    · rw [ha] at h
      simp at h
      subst h
      have : t.filter (fun y => !hasName name y) = t := by
        rw [List.filter_eq_self]
        intro y hy
        have hy2 : hasName name y = false := by
          cases e : hasName name y with
          | false => rfl
          | true =>
            have e1 : y.name = name := by simpa [hasName] using e
            have e2 : a.name = name := by simpa [hasName] using ha
            exact absurd (List.mem_map.2 ⟨y, hy, by rw [e1, e2]⟩) hn.1
        rw [hy2]; rfl
      simp [ha, this]
    · have ha' : hasName name a = false := by simpa using ha
      rw [ha'] at h
      simp at h
      obtain ⟨j, hj, rfl⟩ := h
      rw [List.eraseIdx_cons_succ, erase_filter name t j hn.2 hj]
      simp [ha']
theorem entries_dropT (L : List Itm) (d : Int) (name : ByteArray) (d' : Int) : entries (dropT L d name) d' = if d' = d then (entries L d).filter (fun y => !hasName name y) else entries L d' := by
  unfold dropT entries isAt hasName
  induction L with
  | nil => simp
  | cons a t ih =>
    by_cases e : d' = d
    · subst e
      rw [if_pos rfl] at ih ⊢
      by_cases h1 : a.d = d' <;> by_cases h2 : a.e.name = name <;> simp_all [List.filter_cons]
    · rw [if_neg e] at ih ⊢
      by_cases h1 : a.d = d'
      · have h3 : ¬ a.d = d := fun q => e (h1.symm.trans q)
        simp_all [List.filter_cons]
      · by_cases h3 : a.d = d <;> by_cases h2 : a.e.name = name <;> simp_all [List.filter_cons]
section
variable {L : List Itm} {next : Int}
/-- The item of a name. -/
theorem item_of {d : Int} {name : ByteArray} {x : Ent} (h : findE L d name = some x) : (⟨d, x⟩ : Itm) ∈ L ∧ x.name = name := by
  unfold findE at h
  have h1 := List.find?_some h
  have h2 := List.mem_of_find?_eq_some h
  obtain ⟨i, hi, e1, e2⟩ := mem_entries.1 h2
  refine ⟨?_, by simpa [hasName] using h1⟩
  rw [← e1, ← e2]; exact hi
theorem node_inj (h : TInv L next) {i j : Itm} (hi : i ∈ L) (hj : j ∈ L) (e : i.e.node = j.e.node) : i = j := by
  have := h.nd
  unfold nodes at this
  exact inj_of_nodup this hi hj e
theorem name_inj (h : TInv L next) {i j : Itm} (hi : i ∈ L) (hj : j ∈ L) (e : i.d = j.d) (e2 : i.e.name = j.e.name) : i.e = j.e := by
  have := h.un i.d
  exact inj_of_nodup this (mem_entries.2 ⟨i, hi, rfl, rfl⟩) (mem_entries.2 ⟨j, hj, e.symm, rfl⟩) e2
/-- What stays are the items of the other nodes. -/
theorem mem_dropT' (h : TInv L next) {d : Int} {x : Ent} (hx : (⟨d, x⟩ : Itm) ∈ L) {i : Itm} : i ∈ dropT L d x.name ↔ i ∈ L ∧ i.e.node ≠ x.node := by
  rw [mem_dropT]
  refine ⟨fun ⟨a, b⟩ => ⟨a, fun e => b ?_⟩, fun ⟨a, b⟩ => ⟨a, fun ⟨e1, e2⟩ => b ?_⟩⟩
  · have := node_inj h a hx e
    rw [this]; exact ⟨rfl, rfl⟩
  · rw [name_inj h a hx e1 e2]
theorem isDirB_dropT (h : TInv L next) {d : Int} {x : Ent} (hx : (⟨d, x⟩ : Itm) ∈ L) (k : Int) : isDirB (dropT L d x.name) k = (isDirB L k && !decide (k = x.node)) := by
  have hx0 := h.rg _ hx
  rw [Bool.eq_iff_iff, Bool.and_eq_true, isDirB_iff, isDirB_iff]
  constructor
  · rintro (e | ⟨i, hi, e1, e2⟩)
    · exact ⟨Or.inl e, by simp; intro q; have : 1 ≤ x.node := hx0.1; omega⟩
    · obtain ⟨a, b⟩ := (mem_dropT' h hx).1 hi
      exact ⟨Or.inr ⟨i, a, e1, e2⟩, by simp; intro q; exact b (e1.trans q)⟩
  · rintro ⟨e | ⟨i, hi, e1, e2⟩, q⟩
    · exact Or.inl e
    · exact Or.inr ⟨i, (mem_dropT' h hx).2 ⟨hi, fun e => by simp at q; exact q (e1.symm.trans e)⟩, e1, e2⟩
theorem isFileB_dropT (h : TInv L next) {d : Int} {x : Ent} (hx : (⟨d, x⟩ : Itm) ∈ L) (k : Int) : isFileB (dropT L d x.name) k = (isFileB L k && !decide (k = x.node)) := by
  rw [Bool.eq_iff_iff, Bool.and_eq_true, isFileB_iff, isFileB_iff]
  constructor
  · rintro ⟨i, hi, e1, e2⟩
    obtain ⟨a, b⟩ := (mem_dropT' h hx).1 hi
    exact ⟨⟨i, a, e1, e2⟩, by simp; intro q; exact b (e1.trans q)⟩
  · rintro ⟨⟨i, hi, e1, e2⟩, q⟩
    exact ⟨i, (mem_dropT' h hx).2 ⟨hi, fun e => by simp at q; exact q (e1.symm.trans e)⟩, e1, e2⟩
theorem TInv.dropped (h : TInv L next) {d : Int} {x : Ent} (hx : (⟨d, x⟩ : Itm) ∈ L) (he : entries L x.node = []) : TInv (dropT L d x.name) next := by
  have hs : (dropT L d x.name).Sublist L := List.filter_sublist ..
  refine ⟨h.nd.sublist (hs.map _), fun i hi => h.rg i (hs.subset hi), fun i hi => ?_, fun k => ?_, h.ck.sublist (hs.map _), fun i hi => h.cb i (hs.subset hi), h.nx, ?_, fun i hi => h.gd i (hs.subset hi)⟩
  · rw [isDirB_dropT h hx, h.pa i (hs.subset hi)]
    simp
    intro e
    have : i.e ∈ entries L x.node := mem_entries.2 ⟨i, hs.subset hi, e, rfl⟩
    rw [he] at this; cases this
  · rw [entries_dropT]
    split
    · exact (h.un d).sublist ((List.filter_sublist ..).map _)
    · exact h.un k
  · obtain ⟨r, r0, ri⟩ := h.ac
    exact ⟨r, r0, fun i hi => ri i (hs.subset hi)⟩
theorem TInv.not_self (h : TInv L next) {i : Itm} (hi : i ∈ L) : i.d ≠ i.e.node := by
  obtain ⟨r, r0, ri⟩ := h.ac
  intro e
  have := ri i hi
  rw [e] at this; omega
/-- A node that is a file has no entries. -/
theorem entries_file (h : TInv L next) {i : Itm} (hi : i ∈ L) (hf : i.e.dir = false) : entries L i.e.node = [] := by
  refine entries_none h ?_
  cases e : isDirB L i.e.node with
  | false => rfl
  | true =>
    rcases (isDirB_iff L _).1 e with q | ⟨j, hj, e1, e2⟩
    · have := (h.rg i hi).1; omega
    · rw [node_inj h hj hi e1, hf] at e2; cases e2
end
def unlinkErr (L : List Itm) (dir : Int) (name : ByteArray) (isDir : Bool) : Int :=
  if (findRes L dir name).2 ≠ 0 then (findRes L dir name).2 else if isDir = true ∧ (findRes L dir name).1.dir = false then 8 else if isDir = false ∧ (findRes L dir name).1.dir = true then 7
  else if entries L (findRes L dir name).1.node ≠ [] then 9 else 0
def unlinkT (L : List Itm) (dir : Int) (name : ByteArray) (isDir : Bool) : List Itm × Int :=
  if unlinkErr L dir name isDir ≠ 0 then (L, unlinkErr L dir name isDir) else (dropT L dir name, 0)
end Go.Proofs.Ytolilbcpfdnkjaa
