/- A heap's laws, in plain Lean: sifting up. -/
import Derived.Test.YtolilbcpfdnkjaaGreatZBHP
namespace Go.Proofs.YtolilbcpfdnkjaaGreat
def HEdge (l : List Int) (c : Nat) : Prop := 0 < c → l.getD ((c - 1) / 2) 0 ≤ l.getD c 0
theorem edges_of_cond {l : List Int} {n : Nat} (h : ∀ k, HCond l n k) : ∀ c, c < n → HEdge l c := by
  intro c hc hp
  rcases (show c = 2 * ((c - 1) / 2) + 1 ∨ c = 2 * ((c - 1) / 2) + 2 by omega) with e | e
  · have := (h ((c - 1) / 2)).1 (by omega); rwa [← e] at this
  · have := (h ((c - 1) / 2)).2 (by omega); rwa [← e] at this
theorem cond_of_edges {l : List Int} {n : Nat} (h : ∀ c, c < n → HEdge l c) : ∀ k, HCond l n k := by
  intro k
  refine ⟨fun q => ?_, fun q => ?_⟩
  · have := h (2 * k + 1) q (by omega); rwa [show (2 * k + 1 - 1) / 2 = k by omega] at this
  · have := h (2 * k + 2) q (by omega); rwa [show (2 * k + 2 - 1) / 2 = k by omega] at this
def UInv (l : List Int) (j n : Nat) : Prop := (∀ c, c < n → c ≠ j → HEdge l c) ∧ (∀ c, c < n → 0 < c → (c - 1) / 2 = j → 0 < j → l.getD ((j - 1) / 2) 0 ≤ l.getD c 0)
theorem UInv.stop {l : List Int} {j n : Nat} (h : UInv l j n) (he : 0 < j → l.getD ((j - 1) / 2) 0 ≤ l.getD j 0) : ∀ k, HCond l n k :=
  cond_of_edges fun c hc => by
    by_cases e : c = j
    · subst e; exact he
    · exact h.1 c hc e
theorem UInv.step {l : List Int} {j p n : Nat} (h : UInv l j n) (hp : p = (j - 1) / 2) (hj : 0 < j) (hjn : j < n) (hn : n ≤ l.length) (hlt : l.getD j 0 < l.getD p 0) : UInv (swapL l p j) p n := by
  obtain ⟨h1, h2⟩ := h
  have G := fun k => swapL_getD l p j k (by omega) (by omega)
  refine ⟨fun c hc hcp hc0 => ?_, fun c hc hc0 hcp hp0 => ?_⟩
  · by_cases e1 : c = j
    · subst e1
      rw [← hp, G, G, if_neg (by omega), if_pos rfl, if_pos rfl]; omega
    · by_cases e2 : (c - 1) / 2 = p
      · have := h1 c hc e1 hc0
        rw [e2] at this
        rw [e2, G, G, if_neg (by omega), if_pos rfl, if_neg e1, if_neg hcp]; omega
      · by_cases e3 : (c - 1) / 2 = j
        · have := h2 c hc hc0 e3 hj
          rw [← hp] at this
          rw [e3, G, G, if_pos rfl, if_neg e1, if_neg hcp]; exact this
        · have := h1 c hc e1 hc0
          rw [G, G, if_neg e3, if_neg e2, if_neg e1, if_neg hcp]; exact this
  · have hpe := h1 p (by omega) (by omega) hp0
    rw [G, G, if_neg (by omega), if_neg (by omega)]
    by_cases e1 : c = j
    · rw [if_pos e1]; exact hpe
    · rw [if_neg e1, if_neg (by omega)]
      have := h1 c hc e1 hc0
      rw [hcp] at this
      omega
/-- Behind an append the last one alone may be out of place. -/
theorem UInv.start (l : List Int) (x : Int) (h : ∀ k, HCond l l.length k) : UInv (l ++ [x]) l.length (l.length + 1) := by
  have g : ∀ k, k < l.length → (l ++ [x]).getD k 0 = l.getD k 0 := fun k hk => by
    rw [List.getD_eq_getElem?_getD, List.getD_eq_getElem?_getD, List.getElem?_append_left hk]
  refine ⟨fun c hc hne hc0 => ?_, fun c hc _ hcp hp0 => by omega⟩
  have := edges_of_cond h c (by omega) hc0
  rw [g _ (by omega), g _ (by omega)]; exact this
end Go.Proofs.YtolilbcpfdnkjaaGreat
