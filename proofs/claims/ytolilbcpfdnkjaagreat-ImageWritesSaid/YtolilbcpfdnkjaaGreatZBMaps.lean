/- Maps with int keys: what is in memory as a list of pairs; look-up, store, delete, length. -/
import Derived.Test.YtolilbcpfdnkjaaGreatZBLib1
namespace Go.Proofs.YtolilbcpfdnkjaaGreat
open Go.RowKit
set_option linter.unusedSimpArgs false
/-- What a key leads to. -/
def mget {V : Type} (L : List (Int × V)) (k : Int) : Option V := (L.find? (fun p => p.1 == k)).map (·.2)
/-- A pair stored. -/
def mput {V : Type} (L : List (Int × V)) (k : Int) (v : V) : List (Int × V) :=
  if L.any (fun p => p.1 == k) then L.map (fun p => if p.1 == k then (k, v) else p) else L ++ [(k, v)]
/-- A key struck. -/
def mdel {V : Type} (L : List (Int × V)) (k : Int) : List (Int × V) := L.filter (fun p => !(p.1 == k))
def mkeys {V : Type} (L : List (Int × V)) : List Int := L.map (·.1)
section plain
variable {V : Type}
theorem mget_nil (k : Int) : mget ([] : List (Int × V)) k = none := rfl
theorem mget_cons (p : Int × V) (L : List (Int × V)) (k : Int) : mget (p :: L) k = if p.1 = k then some p.2 else mget L k := by
  unfold mget
  by_cases h : p.1 = k
  · simp [h]
  · simp [h]
theorem mget_none_iff (L : List (Int × V)) (k : Int) : mget L k = none ↔ k ∉ mkeys L := by
  induction L with
  | nil => simp [mget_nil, mkeys]
  | cons p L ih =>
    rw [mget_cons]
    by_cases h : p.1 = k
    · simp [h, mkeys]
    · rw [if_neg h, ih]; simp [mkeys, Ne.symm h]
theorem any_iff (L : List (Int × V)) (k : Int) : L.any (fun p => p.1 == k) = true ↔ k ∈ mkeys L := by
  simp [mkeys]
theorem any_false (L : List (Int × V)) (k : Int) (h : k ∉ mkeys L) : L.any (fun p => p.1 == k) = false := by
  rw [Bool.eq_false_iff]; intro q; exact h ((any_iff L k).1 q)
theorem mkeys_put (L : List (Int × V)) (k : Int) (v : V) : mkeys (mput L k v) = if k ∈ mkeys L then mkeys L else mkeys L ++ [k] := by
  unfold mput
  by_cases h : k ∈ mkeys L
  · rw [if_pos ((any_iff L k).2 h), if_pos h]
    unfold mkeys
    rw [List.map_map]
    apply List.map_congr_left
    intro p _
    by_cases e : p.1 = k <;> simp [e]
  · rw [if_neg (by rw [any_false L k h]; simp), if_neg h]; simp [mkeys]
theorem mget_put (L : List (Int × V)) (k : Int) (v : V) (k' : Int) : mget (mput L k v) k' = if k' = k then some v else mget L k' := by
  unfold mput
  by_cases h : k ∈ mkeys L
  · rw [if_pos ((any_iff L k).2 h)]
    induction L with
    | nil => simp [mkeys] at h
    | cons p L ih =>
      rw [List.map_cons, mget_cons]
      by_cases e : p.1 = k
      · simp only [e, beq_self_eq_true, if_true]
        by_cases e2 : k' = k
        · rw [if_pos e2.symm, if_pos e2]
        · rw [if_neg (fun q => e2 q.symm), if_neg e2, mget_cons, if_neg (by rw [e]; exact fun q => e2 q.symm)]
          by_cases h3 : k ∈ mkeys L
          · rw [ih h3, if_neg e2]
          · have : L.map (fun p => if (p.1 == k) = true then (k, v) else p) = L := by
              rw [List.map_congr_left (g := id) (fun q hq => ?_), List.map_id]
              have : q.1 ≠ k := fun e3 => h3 (by rw [← e3]; exact List.mem_map_of_mem hq)
              simp [this]
            rw [this]
      · have hk : k ∈ mkeys L := by simp [mkeys] at h; rcases h with h | h; exact absurd h.symm e; simpa [mkeys] using h
        simp only [e, beq_iff_eq, if_false]
        by_cases e2 : p.1 = k'
        · rw [if_pos e2, mget_cons, if_pos e2, if_neg (by rw [← e2]; exact e)]
        · rw [if_neg e2, mget_cons, if_neg e2]
          have := ih hk
          simpa using this
  · rw [if_neg (by rw [any_false L k h]; simp)]
    induction L with
    | nil =>
      rw [List.nil_append, mget_cons, mget_nil]
      by_cases e : k' = k
      · simp [e]
      · simp [e, Ne.symm e]
    | cons p L ih =>
      have h1 : k ∉ mkeys L := fun q => h (List.mem_cons_of_mem _ q)
      have h2 : p.1 ≠ k := fun q => h (by rw [← q]; exact List.mem_cons_self ..)
      rw [List.cons_append, mget_cons, mget_cons, ih h1]
      by_cases e : p.1 = k'
      · rw [if_pos e, if_pos e, if_neg (by rw [← e]; exact h2)]
      · rw [if_neg e, if_neg e]
theorem mkeys_del (L : List (Int × V)) (k : Int) : mkeys (mdel L k) = (mkeys L).filter (fun q => !(q == k)) := by
  unfold mkeys mdel
  rw [List.filter_map]; rfl
theorem mget_del (L : List (Int × V)) (k k' : Int) : mget (mdel L k) k' = if k' = k then none else mget L k' := by
  induction L with
  | nil => simp [mdel, mget_nil]
  | cons p L ih =>
    unfold mdel at *
    by_cases e : p.1 = k
    · rw [List.filter_cons_of_neg (by simp [e]), ih, mget_cons]
      by_cases e2 : k' = k
      · rw [if_pos e2, if_pos e2]
      · rw [if_neg e2, if_neg e2, if_neg (by rw [e]; exact fun q => e2 q.symm)]
    · rw [List.filter_cons_of_pos (by simp [e]), mget_cons, mget_cons, ih]
      by_cases e2 : p.1 = k'
      · rw [if_pos e2, if_pos e2, if_neg (by rw [← e2]; exact e)]
      · rw [if_neg e2, if_neg e2]
theorem nodup_put (L : List (Int × V)) (k : Int) (v : V) (h : (mkeys L).Nodup) : (mkeys (mput L k v)).Nodup := by
  rw [mkeys_put]
  by_cases e : k ∈ mkeys L
  · rw [if_pos e]; exact h
  · rw [if_neg e, List.nodup_append]
    exact ⟨h, by simp, fun a ha b hb => by simp at hb; rw [hb]; exact fun q => e (by rw [← q]; exact ha)⟩
theorem nodup_del (L : List (Int × V)) (k : Int) (h : (mkeys L).Nodup) : (mkeys (mdel L k)).Nodup := by
  rw [mkeys_del]; exact h.filter _
theorem mput_length (L : List (Int × V)) (k : Int) (v : V) : (mput L k v).length = if k ∈ mkeys L then L.length else L.length + 1 := by
  have := congrArg List.length (mkeys_put L k v)
  rw [show (mkeys (mput L k v)).length = (mput L k v).length from by simp [mkeys]] at this
  rw [this]
  by_cases e : k ∈ mkeys L
  · rw [if_pos e, if_pos e]; simp [mkeys]
  · rw [if_neg e, if_neg e]; simp [mkeys]
end plain
end Go.Proofs.YtolilbcpfdnkjaaGreat
