/- Slices of pairs of bytes that are arguments. -/
import Derived.Test.YtncbojocglcieaaS7
namespace Go.Proofs.Ytncbojocglcieaa
open Go.ChangeShapes Go.WideShapes Go.RowKit
set_option maxRecDepth 100000
section
variable {H : Type} {enc : TypeId × Value → H} {w : World} {base : Nat} {spare : Nat → Bool} {held : Bool}
theorem open_pairs {r : Reach} {b0 : Nat} {v : Value} {d : DataW H} {p : List MemPlace} (hv : Value.okWide Try.prog w r b0 22 v) (h : DataW.Trod enc Try.prog w base spare held 22 v d p) :
    ∃ l : List (UInt8 × UInt8), Arg EPair w v l ∧ l.length ≤ maxLen := by
  obtain ⟨l, h1, h2, _⟩ := open_arg (E := EPair) (fun _ => True) Try.underlying22 (by kernel_rfl) (fun n cs x hx => by
    obtain ⟨xs, m, _, _, hlen, hxl, hg⟩ := DataW.trod_array (n := 2) (e := 5) Try.underlying30 hx
    have hC : Try.prog.cellsOf 30 = 2 := by kernel_rfl
    have hC1 : Try.prog.cellsOf 5 = 1 := by kernel_rfl
    rw [hC] at hlen
    match cs, hlen, xs, hxl with
    | [c0, c1], _, [y0, y1], _ =>
      have g0 := hg 0 (by decide)
      have g1 := hg 1 (by decide)
      rw [hC1] at g0 g1
      obtain ⟨k0, e0, _, w0⟩ := DataW.trod_int Try.underlying5 (show DataW.trod enc Try.prog w base spare held m 5 [c0] = some y0 from g0)
      obtain ⟨k1, e1, _, w1⟩ := DataW.trod_int Try.underlying5 (show DataW.trod enc Try.prog w base spare held m 5 [c1] = some y1 from g1)
      simp only [List.cons.injEq, and_true] at e0 e1
      subst e0; subst e1
      obtain ⟨a, rfl⟩ := u8_of w0
      obtain ⟨b, rfl⟩ := u8_of w1
      exact ⟨(a, b), rfl, trivial⟩) hv h
  exact ⟨l, h1, h2⟩
end
end Go.Proofs.Ytncbojocglcieaa
