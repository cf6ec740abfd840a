/- Lemmas, texts RowU RowRx RowN RowTop; no condition beyond those that each states. -/
import Derived.Test.YtolilbcpfdnkjaaGreatZBLib0
import Derived.ProofKit
import Derived.Test.YtolilbcpfdnkjaaGreatZBRk
import Derived.OpenShut
import Derived.Deep.Slices
import Derived.Test.YtolilbcpfdnkjaaGreatZBUB
import Derived.Lib.SmallJoins
import Derived.Deep.Fields
import Derived.ChangeSame
import Derived.ChangeArms
/- Small numbers that are arguments. -/
namespace Go.Proofs.YtolilbcpfdnkjaaGreat
open Go.RowKit
theorem u8_of {n : Int} (h : (Lit.int .u8 n).wf = true) : ∃ c : UInt8, n = c.toNat := by
  simp only [Lit.wf, Bool.and_eq_true, decide_eq_true_eq] at h
  have e1 : IntKind.u8.min = 0 := by decide
  have e2 : IntKind.u8.max = 255 := by decide
  refine ⟨UInt8.ofNat n.toNat, ?_⟩
  simp only [UInt8.toNat_ofNat']
  omega
end Go.Proofs.YtolilbcpfdnkjaaGreat

/- Slices that are arguments: of numbers, of texts, of pairs. -/
namespace Go.Proofs.YtolilbcpfdnkjaaGreat
open Go.ChangeShapes Go.WideShapes Go.RowKit
set_option maxRecDepth 100000
section
variable {H : Type} {enc : TypeId × Value → H} {w : World} {base : Nat} {spare : Nat → Bool} {held : Bool}
theorem open_arg {α : Type} {E : EK α} (good : α → Prop) {t : TypeId} (ht : Tryz.prog.underlying t = some (.slice E.t)) (hcell : Tryz.prog.cellsOf E.t = E.size)
    (hel : ∀ n cs x, DataW.trod enc Tryz.prog w base spare held n E.t cs = some x → ∃ y, cs = E.enc y ∧ good y)
    {r : Reach} {b0 : Nat} {v : Value} {d : DataW H} {p : List MemPlace} (hv : Value.okWide Tryz.prog w r b0 t v) (h : DataW.Trod enc Tryz.prog w base spare held t v d p) :
    ∃ l : List α, Arg E w v l ∧ l.length ≤ maxLen ∧ ∀ y ∈ l, good y := by
  obtain ⟨a0, len0, cap0, rfl⟩ := okWide_slice ht hv
  obtain ⟨fuel, hf⟩ := h
  rcases Go.Deep.open_slice ht hf with ⟨hcs, _⟩ | ⟨a, len, cap, m, n, D, Pl, hcs, _, hl, hm, hmm, _, hx⟩
  · simp [Value.cells] at hcs
    obtain ⟨rfl, rfl, rfl⟩ := hcs
    exact ⟨[], ⟨none, 0, rfl, Or.inl ⟨rfl, rfl, rfl⟩⟩, by simp, by simp⟩
  · simp [Value.cells] at hcs
    obtain ⟨rfl, rfl, rfl⟩ := hcs
    have hlm : len0 ≤ m := by rw [hmm]; split <;> omega
    have key : ∀ k, k ≤ len0 → ∃ l : List α, l.length = k ∧ (∀ y ∈ l, good y) ∧ ∀ i y, l[i]? = some y → ∀ j, j < E.size → w.cell? (a.add (i * E.size + j)) = (E.enc y)[j]? := by
      intro k
      induction k with
      | zero => intro _; exact ⟨[], rfl, by simp, by simp⟩
      | succ k ih =>
        intro hk
        obtain ⟨l, h1, h2, h3⟩ := ih (by omega)
        obtain ⟨cs', hc, ht'⟩ := hx k (by omega)
        obtain ⟨y, rfl, hy⟩ := hel _ _ _ ht'
        rw [hcell] at hc
        obtain ⟨_, _, hcc⟩ := World.cells?_some hc
        refine ⟨l ++ [y], by simp [h1], fun z hz => ?_, fun i z hz j hj => ?_⟩
        · rcases List.mem_append.1 hz with q | q
          · exact h2 z q
          · simp at q; subst q; exact hy
        · by_cases hi : i < l.length
          · rw [List.getElem?_append_left hi] at hz
            exact h3 i z hz j hj
          · have hi2 : i = l.length := by
              have := (List.getElem?_eq_some_iff.1 hz).1
              simp at this; omega
            subst hi2
            rw [List.getElem?_append_right (Nat.le_refl _)] at hz
            simp at hz
            subst hz
            rw [← hcc j hj, h1, Go.Deep.add_add]
    obtain ⟨l, h1, h2, h3⟩ := key len0 (Nat.le_refl _)
    refine ⟨l, ⟨some a, cap0, by rw [h1], Or.inr ⟨a, rfl, fun j u hj => ?_⟩⟩, by omega, h2⟩
    have hjl : j < l.length * E.size := by
      have := (List.getElem?_eq_some_iff.1 hj).1
      rwa [E.flat_len] at this
    have hpos := E.pos
    have hd : j / E.size < l.length := by rw [Nat.div_lt_iff_lt_mul hpos]; exact hjl
    have hmd := Nat.mod_lt j hpos
    have e1 : j = j / E.size * E.size + j % E.size := by rw [Nat.mul_comm]; exact (Nat.div_add_mod _ _).symm
    have e2 := E.flat_get l (j / E.size) (j % E.size) hmd
    rw [← e1, hj, List.getElem?_eq_getElem hd] at e2
    have := h3 (j / E.size) _ (List.getElem?_eq_getElem hd) (j % E.size) hmd
    rw [← e1] at this
    rw [this]; simpa using e2.symm
end
end Go.Proofs.YtolilbcpfdnkjaaGreat

/- Numbers that are arguments. -/
namespace Go.Proofs.YtolilbcpfdnkjaaGreat
open Go.RowKit
theorem u64_of {n : Int} (h : (Lit.int .u64 n).wf = true) : ∃ c : Nat, n = c ∧ c < 18446744073709551616 := by
  simp only [Lit.wf, Bool.and_eq_true, decide_eq_true_eq] at h
  have e1 : IntKind.u64.min = 0 := by decide
  have e2 : IntKind.u64.max = 18446744073709551615 := by decide
  exact ⟨n.toNat, by omega, by omega⟩
theorem u16_of {n : Int} (h : (Lit.int .u16 n).wf = true) : ∃ c : Nat, n = c ∧ c < 65536 := by
  simp only [Lit.wf, Bool.and_eq_true, decide_eq_true_eq] at h
  have e1 : IntKind.u16.min = 0 := by decide
  have e2 : IntKind.u16.max = 65535 := by decide
  exact ⟨n.toNat, by omega, by omega⟩
theorem i64_of {n : Int} (h : (Lit.int .i64 n).wf = true) : -9223372036854775808 ≤ n ∧ n ≤ 9223372036854775807 := by
  simp only [Lit.wf, Bool.and_eq_true, decide_eq_true_eq] at h
  have e1 : IntKind.i64.min = -9223372036854775808 := by decide
  have e2 : IntKind.i64.max = 9223372036854775807 := by decide
  omega
theorem i8_of {n : Int} (h : (Lit.int .i8 n).wf = true) : -128 ≤ n ∧ n ≤ 127 := by
  simp only [Lit.wf, Bool.and_eq_true, decide_eq_true_eq] at h
  have e1 : IntKind.i8.min = -128 := by decide
  have e2 : IntKind.i8.max = 127 := by decide
  omega
end Go.Proofs.YtolilbcpfdnkjaaGreat

/- Slices of a tree's calls that are arguments. -/
namespace Go.Proofs.YtolilbcpfdnkjaaGreat
open Go.Joins Go.ChangeShapes Go.WideShapes Go.RowKit Go.Deep
set_option linter.unusedVariables false
set_option maxRecDepth 100000
variable {H : Type} {enc : TypeId × Value → H} {w : World} {base : Nat} {spare : Nat → Bool} {held : Bool}
theorem top_fields : ∃ f0 f1 f2 f3 f4 f5 f6 : Field, Tryz.prog.underlying 35 = some (.struct #[f0, f1, f2, f3, f4, f5, f6]) ∧ oneCellFields Tryz.prog #[f0, f1, f2, f3, f4, f5, f6] = true ∧
    f0.type = 5 ∧ f1.type = 3 ∧ f2.type = 3 ∧ f3.type = 9 ∧ f4.type = 9 ∧ f5.type = 4 ∧ f6.type = 3 :=
  ⟨_, _, _, _, _, _, _, Tryz.underlying35, by kernel_rfl, rfl, rfl, rfl, rfl, rfl, rfl, rfl⟩
theorem open_tops {r : Reach} {b0 : Nat} {v : Value} {d : DataW H} {p : List MemPlace} (hv : Value.okWide Tryz.prog w r b0 22 v) (h : DataW.Trod enc Tryz.prog w base spare held 22 v d p) :
    ∃ l : List Op1, Arg EOp w v l ∧ l.length ≤ maxLen ∧ ∀ o ∈ l, (o.name.size ≤ maxLen ∧ o.as_.size ≤ maxLen) ∧ o.kind < 256 :=
  open_arg (E := EOp) (fun o => (o.name.size ≤ maxLen ∧ o.as_.size ≤ maxLen) ∧ o.kind < 256) Tryz.underlying22 (by kernel_rfl) (fun fuel cs x hf => by
    obtain ⟨f0, f1, f2, f3, f4, f5, f6, hs, hone, t0, t1, t2, t3, t4, t5, t6⟩ := top_fields
    have hC : Tryz.prog.cellsOf 35 = 7 := by kernel_rfl
    obtain ⟨xs, n, _, hx, hcl, hlen, hg⟩ := DataW.trod_struct hs hf
    obtain ⟨o0, k0⟩ := hone_of hone 0 f0 rfl
    obtain ⟨o1, k1⟩ := hone_of hone 1 f1 rfl
    obtain ⟨o2, k2⟩ := hone_of hone 2 f2 rfl
    obtain ⟨o3, k3⟩ := hone_of hone 3 f3 rfl
    obtain ⟨o4, k4⟩ := hone_of hone 4 f4 rfl
    obtain ⟨o5, k5⟩ := hone_of hone 5 f5 rfl
    obtain ⟨o6, k6⟩ := hone_of hone 6 f6 rfl
    rw [hC] at hcl
    match cs, hcl, xs, hlen with
    | [c0, c1, c2, c3, c4, c5, c6], _, [y0, y1, y2, y3, y4, y5, y6], _ =>
      have g0 : DataW.trod enc Tryz.prog w base spare held n f0.type [c0] = some y0 := by simpa [o0, k0] using hg 0 f0 rfl
      have g1 : DataW.trod enc Tryz.prog w base spare held n f1.type [c1] = some y1 := by simpa [o1, k1] using hg 1 f1 rfl
      have g2 : DataW.trod enc Tryz.prog w base spare held n f2.type [c2] = some y2 := by simpa [o2, k2] using hg 2 f2 rfl
      have g3 : DataW.trod enc Tryz.prog w base spare held n f3.type [c3] = some y3 := by simpa [o3, k3] using hg 3 f3 rfl
      have g4 : DataW.trod enc Tryz.prog w base spare held n f4.type [c4] = some y4 := by simpa [o4, k4] using hg 4 f4 rfl
      have g5 : DataW.trod enc Tryz.prog w base spare held n f5.type [c5] = some y5 := by simpa [o5, k5] using hg 5 f5 rfl
      have g6 : DataW.trod enc Tryz.prog w base spare held n f6.type [c6] = some y6 := by simpa [o6, k6] using hg 6 f6 rfl
      rw [t0] at g0; rw [t1] at g1; rw [t2] at g2; rw [t3] at g3; rw [t4] at g4; rw [t5] at g5; rw [t6] at g6
      obtain ⟨a0, e0, _, w0⟩ := DataW.trod_int Tryz.underlying5 g0
      obtain ⟨a1, e1, _, w1⟩ := DataW.trod_int Tryz.underlying3 g1
      obtain ⟨a2, e2, _, w2⟩ := DataW.trod_int Tryz.underlying3 g2
      obtain ⟨s3, e3, _, w3⟩ := DataW.trod_string Tryz.underlying9 g3
      obtain ⟨s4, e4, _, w4⟩ := DataW.trod_string Tryz.underlying9 g4
      obtain ⟨b5, e5, _⟩ := DataW.trod_bool Tryz.underlying4 g5
      obtain ⟨a6, e6, _, w6⟩ := DataW.trod_int Tryz.underlying3 g6
      simp only [List.cons.injEq, and_true] at e0 e1 e2 e3 e4 e5 e6
      subst e0; subst e1; subst e2; subst e3; subst e4; subst e5; subst e6
      obtain ⟨kd, rfl⟩ := u8_of w0
      exact ⟨⟨kd.toNat, a1, a2, s3, s4, b5, a6⟩, rfl, ⟨w3, w4⟩, kd.toNat_lt⟩) hv h
end Go.Proofs.YtolilbcpfdnkjaaGreat
