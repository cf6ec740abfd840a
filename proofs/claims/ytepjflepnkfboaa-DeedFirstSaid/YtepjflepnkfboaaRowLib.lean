/- Opening a deed that is an argument. -/
import Derived.Test.YtepjflepnkfboaaD2
import Derived.ProofKit
import Derived.Lib.SmallJoins
import Derived.Deep.Slices
import Derived.Deep.Fields
import Derived.ChangeSame
namespace Go.Proofs.Ytepjflepnkfboaa
open Go.Joins Go.ChangeShapes Go.WideShapes Go.RowKit Go.Deep
variable {H : Type} {enc : TypeId × Value → H} {w : World} {base : Nat} {spare : Nat → Bool} {held : Bool}
theorem deed_fields : ∃ f0 f1 f2 f3 f4 f5 f6 : Field, Try.prog.underlying 23 = some (.struct #[f0, f1, f2, f3, f4, f5, f6]) ∧ oneCellFields Try.prog #[f0, f1, f2, f3, f4, f5, f6] = true ∧
    f0.type = 3 ∧ f1.type = 3 ∧ f2.type = 3 ∧ f3.type = 9 ∧ f4.type = 9 ∧ f5.type = 4 ∧ f6.type = 3 :=
  ⟨_, _, _, _, _, _, _, Try.underlying23, by kernel_rfl, rfl, rfl, rfl, rfl, rfl, rfl, rfl⟩
theorem open_deed {r : Reach} {b0 : Nat} {v : Value} {d : DataW H} {p : List MemPlace} 
    (hv : Value.okWide Try.prog w r b0 23 v) (h : DataW.Trod enc Try.prog w base spare held 23 v d p) :
    ∃ x : DD, v = .agg #[.int .i64 x.k, .int .i64 x.d, .int .i64 x.t, .string x.n, .string x.a, .bool x.is, .int .i64 x.s] ∧ x.n.size ≤ maxLen ∧ x.a.size ≤ maxLen := by
  obtain ⟨f0, f1, f2, f3, f4, f5, f6, hs, hone, t0, t1, t2, t3, t4, t5, t6⟩ := deed_fields
  obtain ⟨cs, rfl, hsz⟩ := okWide_struct hs hv
  obtain ⟨l⟩ := cs
  have hC : Try.prog.cellsOf 23 = 7 := by kernel_rfl
  match l, hsz.trans hC with
  | [c0, c1, c2, c3, c4, c5, c6], _ =>
    obtain ⟨fuel, hf⟩ := h
    obtain ⟨xs, n, _, hx, _, hlen, hg⟩ := DataW.trod_struct hs hf
    obtain ⟨o0, k0⟩ := hone_of hone 0 f0 rfl
    obtain ⟨o1, k1⟩ := hone_of hone 1 f1 rfl
    obtain ⟨o2, k2⟩ := hone_of hone 2 f2 rfl
    obtain ⟨o3, k3⟩ := hone_of hone 3 f3 rfl
    obtain ⟨o4, k4⟩ := hone_of hone 4 f4 rfl
    obtain ⟨o5, k5⟩ := hone_of hone 5 f5 rfl
    obtain ⟨o6, k6⟩ := hone_of hone 6 f6 rfl
    match xs, hlen with
    | [y0, y1, y2, y3, y4, y5, y6], _ =>
      have g0 : DataW.trod enc Try.prog w base spare held n f0.type [c0] = some y0 := by simpa [Value.cells, o0, k0] using hg 0 f0 rfl
      have g1 : DataW.trod enc Try.prog w base spare held n f1.type [c1] = some y1 := by simpa [Value.cells, o1, k1] using hg 1 f1 rfl
      have g2 : DataW.trod enc Try.prog w base spare held n f2.type [c2] = some y2 := by simpa [Value.cells, o2, k2] using hg 2 f2 rfl
      have g3 : DataW.trod enc Try.prog w base spare held n f3.type [c3] = some y3 := by simpa [Value.cells, o3, k3] using hg 3 f3 rfl
      have g4 : DataW.trod enc Try.prog w base spare held n f4.type [c4] = some y4 := by simpa [Value.cells, o4, k4] using hg 4 f4 rfl
      have g5 : DataW.trod enc Try.prog w base spare held n f5.type [c5] = some y5 := by simpa [Value.cells, o5, k5] using hg 5 f5 rfl
      have g6 : DataW.trod enc Try.prog w base spare held n f6.type [c6] = some y6 := by simpa [Value.cells, o6, k6] using hg 6 f6 rfl
      rw [t0] at g0; rw [t1] at g1; rw [t2] at g2; rw [t3] at g3; rw [t4] at g4; rw [t5] at g5; rw [t6] at g6
      obtain ⟨k, e0, _⟩ := DataW.trod_int Try.underlying3 g0
      obtain ⟨d', e1, _⟩ := DataW.trod_int Try.underlying3 g1
      obtain ⟨t, e2, _⟩ := DataW.trod_int Try.underlying3 g2
      obtain ⟨nn, e3, _, s3⟩ := DataW.trod_string Try.underlying9 g3
      obtain ⟨a, e4, _, s4⟩ := DataW.trod_string Try.underlying9 g4
      obtain ⟨is, e5, _⟩ := DataW.trod_bool Try.underlying4 g5
      obtain ⟨s, e6, _⟩ := DataW.trod_int Try.underlying3 g6
      simp only [List.cons.injEq, and_true] at e0 e1 e2 e3 e4 e5 e6
      subst e0; subst e1; subst e2; subst e3; subst e4; subst e5; subst e6
      exact ⟨⟨k, d', t, nn, a, is, s⟩, rfl, s3, s4⟩
end Go.Proofs.Ytepjflepnkfboaa
