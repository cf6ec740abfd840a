/- A heap's laws, in plain Lean: sifting down. -/
import Derived.Test.YtolilbcpfdnkjaaGreatZBLib0
namespace Go.Proofs.YtolilbcpfdnkjaaGreat
/-- Two places exchanged. -/
def swapL (l : List Int) (i j : Nat) : List Int := (l.set i (l.getD j 0)).set j (l.getD i 0)
theorem swapL_length (l : List Int) (i j : Nat) : (swapL l i j).length = l.length := by simp [swapL]
theorem swapL_getD (l : List Int) (i j k : Nat) (hi : i < l.length) (hj : j < l.length) :
    (swapL l i j).getD k 0 = if k = j then l.getD i 0 else if k = i then l.getD j 0 else l.getD k 0 := by
  unfold swapL
  simp only [List.getD_eq_getElem?_getD, List.getElem?_set, List.length_set]
  by_cases h1 : k = j
  · subst h1; simp [hj]
  · rw [if_neg (fun h => h1 h.symm), if_neg h1]
    by_cases h2 : k = i
    · subst h2; simp [hi]
    · rw [if_neg (fun h => h2 h.symm), if_neg h2]
theorem swapL_perm (l : List Int) (i j : Nat) (hi : i < l.length) (hj : j < l.length) : (swapL l i j).Perm l := by
  unfold swapL
  rw [List.getD_eq_getElem?_getD, List.getD_eq_getElem?_getD, List.getElem?_eq_getElem hi, List.getElem?_eq_getElem hj]
  exact List.set_set_perm hi hj
def HCond (l : List Int) (n k : Nat) : Prop := (2 * k + 1 < n → l.getD k 0 ≤ l.getD (2 * k + 1) 0) ∧ (2 * k + 2 < n → l.getD k 0 ≤ l.getD (2 * k + 2) 0)
/-- All is well from i0 on but at i; and what stands above i is below i's children. -/
def HInv (l : List Int) (i0 i n : Nat) : Prop :=
  i0 ≤ i ∧ (∀ k, i0 ≤ k → k ≠ i → HCond l n k) ∧ (i0 < i → i0 ≤ (i - 1) / 2 ∧ (2 * i + 1 < n → l.getD ((i - 1) / 2) 0 ≤ l.getD (2 * i + 1) 0) ∧ (2 * i + 2 < n → l.getD ((i - 1) / 2) 0 ≤ l.getD (2 * i + 2) 0))
theorem HInv.start (l : List Int) (i0 n : Nat) (h : ∀ k, i0 < k → HCond l n k) : HInv l i0 i0 n :=
  ⟨Nat.le_refl _, fun k h1 h2 => h k (by omega), fun h => by omega⟩
theorem HInv.leaf {l : List Int} {i0 i n : Nat} (h : HInv l i0 i n) (hl : n ≤ 2 * i + 1) : ∀ k, i0 ≤ k → HCond l n k := by
  intro k hk
  by_cases e : k = i
  · subst e; exact ⟨fun h => by omega, fun h => by omega⟩
  · exact h.2.1 k hk e
/-- The lesser child's number. -/
def HChild (l : List Int) (i n j : Nat) : Prop :=
  (j = 2 * i + 1 ∨ j = 2 * i + 2) ∧ j < n ∧ (2 * i + 1 < n → l.getD j 0 ≤ l.getD (2 * i + 1) 0) ∧ (2 * i + 2 < n → l.getD j 0 ≤ l.getD (2 * i + 2) 0)
theorem HInv.stop {l : List Int} {i0 i n j : Nat} (h : HInv l i0 i n) (hj : HChild l i n j) (hle : l.getD i 0 ≤ l.getD j 0) : ∀ k, i0 ≤ k → HCond l n k := by
  intro k hk
  by_cases e : k = i
  · subst e
    exact ⟨fun q => Int.le_trans hle (hj.2.2.1 q), fun q => Int.le_trans hle (hj.2.2.2 q)⟩
  · exact h.2.1 k hk e
theorem HInv.step {l : List Int} {i0 i n j : Nat} (h : HInv l i0 i n) (hj : HChild l i n j) (hlt : l.getD j 0 < l.getD i 0) (hn : n ≤ l.length) : HInv (swapL l i j) i0 j n := by
  obtain ⟨h0, hk, hp⟩ := h
  obtain ⟨hc, hjn, hc1, hc2⟩ := hj
  have hi : i < l.length := by omega
  have hjl : j < l.length := by omega
  have G := fun k => swapL_getD l i j k hi hjl
  have par : (j - 1) / 2 = i := by omega
  refine ⟨by omega, ?_, ?_⟩
  · intro k hk0 hkj
    by_cases e : k = i
    · subst e
      refine ⟨fun q => ?_, fun q => ?_⟩
      · rw [G, G, if_neg hkj, if_pos rfl]
        by_cases e1 : 2 * k + 1 = j
        · rw [if_pos e1]; omega
        · rw [if_neg e1, if_neg (by omega)]; exact hc1 q
      · rw [G, G, if_neg hkj, if_pos rfl]
        by_cases e1 : 2 * k + 2 = j
        · rw [if_pos e1]; omega
        · rw [if_neg e1, if_neg (by omega)]; exact hc2 q
    · have hck := hk k hk0 e
      have gk : (swapL l i j).getD k 0 = l.getD k 0 := by rw [G, if_neg hkj, if_neg e]
      refine ⟨fun q => ?_, fun q => ?_⟩
      · rw [gk, G]
        by_cases e2 : 2 * k + 1 = i
        · have : i0 < i := by omega
          have h3 := (hp this).2
          have pk : (i - 1) / 2 = k := by omega
          rw [pk] at h3
          rw [if_neg (by omega), if_pos e2]
          rcases hc with hc | hc
          · rw [hc]; exact h3.1 (by omega)
          · rw [hc]; exact h3.2 (by omega)
        · rw [if_neg (by omega), if_neg e2]; exact hck.1 q
      · rw [gk, G]
        by_cases e2 : 2 * k + 2 = i
        · have : i0 < i := by omega
          have h3 := (hp this).2
          have pk : (i - 1) / 2 = k := by omega
          rw [pk] at h3
          rw [if_neg (by omega), if_pos e2]
          rcases hc with hc | hc
          · rw [hc]; exact h3.1 (by omega)
          · rw [hc]; exact h3.2 (by omega)
        · rw [if_neg (by omega), if_neg e2]; exact hck.2 q
  · intro _
    rw [par]
    refine ⟨h0, fun q => ?_, fun q => ?_⟩
    · rw [G, G, if_neg (by omega), if_pos rfl, if_neg (by omega), if_neg (by omega)]
      exact (hk j (by omega) (by omega)).1 q
    · rw [G, G, if_neg (by omega), if_pos rfl, if_neg (by omega), if_neg (by omega)]
      exact (hk j (by omega) (by omega)).2 q
/-- The first one of a heap is the least. -/
theorem heap_least {l : List Int} {n : Nat} (h : ∀ k, HCond l n k) : ∀ k, k < n → l.getD 0 0 ≤ l.getD k 0 := by
  intro k
  induction k using Nat.strongRecOn with
  | _ k ih =>
    intro hk
    rcases Nat.eq_zero_or_pos k with rfl | hp
    · exact Int.le_refl _
    · have hpk := ih ((k - 1) / 2) (by omega) (by omega)
      have hc := h ((k - 1) / 2)
      rcases (show k = 2 * ((k - 1) / 2) + 1 ∨ k = 2 * ((k - 1) / 2) + 2 by omega) with e | e
      · exact Int.le_trans hpk (by have := hc.1 (by omega); rwa [← e] at this)
      · exact Int.le_trans hpk (by have := hc.2 (by omega); rwa [← e] at this)
/-- What sifting down gives. -/
structure Sifted (l l' : List Int) (i0 n : Nat) : Prop where
  perm : l'.Perm l
  tail : ∀ k, n ≤ k → l'.getD k 0 = l.getD k 0
  cond : ∀ k, i0 ≤ k → HCond l' n k
end Go.Proofs.YtolilbcpfdnkjaaGreat
