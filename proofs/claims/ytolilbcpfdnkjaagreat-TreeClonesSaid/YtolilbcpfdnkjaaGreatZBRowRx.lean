/- Slices that are arguments: of numbers, of texts, of pairs. -/
import Derived.Test.YtolilbcpfdnkjaaGreatZBRk
import Derived.Test.YtolilbcpfdnkjaaGreatZBRowU
import Derived.ProofKit
import Derived.OpenShut
import Derived.Deep.Slices
namespace Go.Proofs.YtolilbcpfdnkjaaGreat
open Go.ChangeShapes Go.WideShapes Go.RowKit
set_option maxRecDepth 100000
section
variable {H : Type} {enc : TypeId × Value → H} {w : World} {base : Nat} {spare : Nat → Bool} {held : Bool}
theorem open_arg {α : Type} {E : EK α} (good : α → Prop) {t : TypeId} (ht : Tryz.prog.underlying t = some (.slice E.t)) (hcell : Tryz.prog.cellsOf E.t = E.size)
    (hel : ∀ n cs x, DataW.trod enc Tryz.prog w base spare held n E.t cs = some x → ∃ y, cs = E.enc y ∧ good y)
    {r : Reach} {b0 : Nat} {v : Value} {d : DataW H} {p : List MemPlace} (hv : Value.okWide Tryz.prog w r b0 t v) (h : DataW.Trod enc Tryz.prog w base spare held t v d p) :
    ∃ l : List α, Arg E w v l ∧ l.length ≤ maxLen ∧ ∀ y ∈ l, good y := by
  obtain ⟨a0, len0, cap0, rfl⟩ := okWide_slice ht hv
  obtain ⟨fuel, hf⟩ := h
  rcases Go.Deep.open_slice ht hf with ⟨hcs, _⟩ | ⟨a, len, cap, m, n, D, Pl, hcs, _, hl, hm, hmm, _, hx⟩
  · simp [Value.cells] at hcs
    obtain ⟨rfl, rfl, rfl⟩ := hcs
    exact ⟨[], ⟨none, 0, rfl, Or.inl ⟨rfl, rfl, rfl⟩⟩, by simp, by simp⟩
  · simp [Value.cells] at hcs
    obtain ⟨rfl, rfl, rfl⟩ := hcs
    have hlm : len0 ≤ m := by rw [hmm]; split <;> omega
    have key : ∀ k, k ≤ len0 → ∃ l : List α, l.length = k ∧ (∀ y ∈ l, good y) ∧ ∀ i y, l[i]? = some y → ∀ j, j < E.size → w.cell? (a.add (i * E.size + j)) = (E.enc y)[j]? := by
      intro k
      induction k with
      | zero => intro _; exact ⟨[], rfl, by simp, by simp⟩
      | succ k ih =>
        intro hk
        obtain ⟨l, h1, h2, h3⟩ := ih (by omega)
        obtain ⟨cs', hc, ht'⟩ := hx k (by omega)
        obtain ⟨y, rfl, hy⟩ := hel _ _ _ ht'
        rw [hcell] at hc
        obtain ⟨_, _, hcc⟩ := World.cells?_some hc
        refine ⟨l ++ [y], by simp [h1], fun z hz => ?_, fun i z hz j hj => ?_⟩
        · rcases List.mem_append.1 hz with q | q
          · exact h2 z q
          · simp at q; subst q; exact hy
        · by_cases hi : i < l.length
          · rw [List.getElem?_append_left hi] at hz
            exact h3 i z hz j hj
          · have hi2 : i = l.length := by
              have := (List.getElem?_eq_some_iff.1 hz).1
              simp at this; omega
            subst hi2
            rw [List.getElem?_append_right (Nat.le_refl _)] at hz
            simp at hz
            subst hz
            rw [← hcc j hj, h1, Go.Deep.add_add]
    obtain ⟨l, h1, h2, h3⟩ := key len0 (Nat.le_refl _)
    refine ⟨l, ⟨some a, cap0, by rw [h1], Or.inr ⟨a, rfl, fun j u hj => ?_⟩⟩, by omega, h2⟩
    have hjl : j < l.length * E.size := by
      have := (List.getElem?_eq_some_iff.1 hj).1
      rwa [E.flat_len] at this
    have hpos := E.pos
    have hd : j / E.size < l.length := by rw [Nat.div_lt_iff_lt_mul hpos]; exact hjl
    have hmd := Nat.mod_lt j hpos
    have e1 : j = j / E.size * E.size + j % E.size := by rw [Nat.mul_comm]; exact (Nat.div_add_mod _ _).symm
    have e2 := E.flat_get l (j / E.size) (j % E.size) hmd
    rw [← e1, hj, List.getElem?_eq_getElem hd] at e2
    have := h3 (j / E.size) _ (List.getElem?_eq_getElem hd) (j % E.size) hmd
    rw [← e1] at this
    rw [this]; simpa using e2.symm
end
end Go.Proofs.YtolilbcpfdnkjaaGreat
