/- Pairs of bytes that are arguments. -/
import Derived.Test.YtncbojocglcieaaRowA
import Derived.Test.YtncbojocglcieaaRowU
namespace Go.Proofs.Ytncbojocglcieaa
open Go.Joins Go.ChangeShapes Go.WideShapes Go.RowKit Go.Deep
variable {H : Type} {enc : TypeId × Value → H} {w : World} {base : Nat} {spare : Nat → Bool} {held : Bool}
set_option maxRecDepth 10000 in
theorem open_two {r : Reach} {b0 : Nat} {v : Value} {d : DataW H} {p : List MemPlace}
    (hv : Value.okWide Try.prog w r b0 30 v) (h : DataW.Trod enc Try.prog w base spare held 30 v d p) :
    ∃ x y : UInt8, v = .agg #[.int .u8 x.toNat, .int .u8 y.toNat] := by
  obtain ⟨cs, rfl, hsz⟩ := okWide_array (n := 2) (e := 5) Try.underlying30 hv
  obtain ⟨l⟩ := cs
  have hC : Try.prog.cellsOf 30 = 2 := by kernel_rfl
  have hC1 : Try.prog.cellsOf 5 = 1 := by kernel_rfl
  match l, hsz.trans hC with
  | [c0, c1], _ =>
    obtain ⟨fuel, hf⟩ := h
    obtain ⟨xs, n, _, _, hlen, hxl, hg⟩ := DataW.trod_array (n := 2) (e := 5) Try.underlying30 hf
    match xs, hxl with
    | [y0, y1], _ =>
      have g0 := hg 0 (by decide)
      have g1 := hg 1 (by decide)
      rw [hC1] at g0 g1
      obtain ⟨k0, e0, _, w0⟩ := DataW.trod_int Try.underlying5 (show DataW.trod enc Try.prog w base spare held n 5 [c0] = some y0 from g0)
      obtain ⟨k1, e1, _, w1⟩ := DataW.trod_int Try.underlying5 (show DataW.trod enc Try.prog w base spare held n 5 [c1] = some y1 from g1)
      simp only [List.cons.injEq, and_true] at e0 e1
      subst e0; subst e1
      obtain ⟨a, rfl⟩ := u8_of w0
      obtain ⟨b, rfl⟩ := u8_of w1
      exact ⟨a, b, rfl⟩
end Go.Proofs.Ytncbojocglcieaa
