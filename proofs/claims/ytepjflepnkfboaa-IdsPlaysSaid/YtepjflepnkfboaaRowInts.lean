/- Opening a slice of ints that is an argument. -/
import Derived.Test.YtepjflepnkfboaaH3
import Derived.ProofKit
namespace Go.Proofs.Ytepjflepnkfboaa
open Go.ChangeShapes Go.WideShapes Go.RowKit
variable {H : Type} {enc : TypeId × Value → H} {w : World} {base : Nat} {spare : Nat → Bool} {held : Bool}
theorem open_argI {r : Reach} {b0 : Nat} {v : Value} {d : DataW H} {p : List MemPlace} (hv : Value.okWide Try.prog w r b0 29 v) (h : DataW.Trod enc Try.prog w base spare held 29 v d p) :
    ∃ l : List Int, ArgI w v l ∧ l.length ≤ maxLen := by
  obtain ⟨a0, len0, cap0, rfl⟩ := okWide_slice Try.underlying29 hv
  obtain ⟨fuel, hf⟩ := h
  rcases open_ints Try.underlying29 Try.underlying3 (by kernel_rfl) hf with ⟨hcs, _⟩ | ⟨x, l, c, zs, hcs, _, hl, hm, hz, _, hcell, hwz⟩
  · simp [Value.cells] at hcs
    obtain ⟨rfl, rfl, rfl⟩ := hcs
    exact ⟨[], ⟨none, 0, rfl, Or.inl ⟨rfl, rfl, rfl⟩⟩, by simp [maxLen]⟩
  · simp [Value.cells] at hcs
    obtain ⟨rfl, rfl, rfl⟩ := hcs
    have hl' : (zs.take len0).length = len0 := by rw [List.length_take]; first | omega | (split at hz <;> omega)
    refine ⟨zs.take len0, ⟨some x, cap0, by rw [hl'], Or.inr ⟨x, rfl, fun i hi => ?_⟩⟩, by rw [hl']; omega⟩
    rw [hl'] at hi
    rw [hcell i (by first | omega | (split at hz <;> omega))]
    congr 2
    simp [List.getD_eq_getElem?_getD, hi]
end Go.Proofs.Ytepjflepnkfboaa
