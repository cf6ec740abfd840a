/- Slices of calls that are arguments. -/
import Derived.Test.YtncbojocglcieaaR1
import Derived.Test.YtncbojocglcieaaRowN
import Derived.Lib.SmallJoins
import Derived.Deep.Slices
import Derived.Deep.Fields
import Derived.ChangeSame
namespace Go.Proofs.Ytncbojocglcieaa
open Go.Joins Go.ChangeShapes Go.WideShapes Go.RowKit Go.Deep
set_option maxRecDepth 100000
variable {H : Type} {enc : TypeId × Value → H} {w : World} {base : Nat} {spare : Nat → Bool} {held : Bool}
/-- A slice that lies in a cell. -/
theorem open_cells {α : Type} {E : EK α} (good : α → Prop) {t : TypeId} (ht : Try.prog.underlying t = some (.slice E.t)) (hcell : Try.prog.cellsOf E.t = E.size)
    (hel : ∀ n cs x, DataW.trod enc Try.prog w base spare held n E.t cs = some x → ∃ y, cs = E.enc y ∧ good y)
    {fuel : Nat} {cs : List Value} {z : DataW H × List MemPlace} (hf : DataW.trod enc Try.prog w base spare held fuel t cs = some z) :
    ∃ a n c, cs = [.slice a n c] ∧ n ≤ maxLen ∧ ∃ l : List α, l.length = n ∧ Arg E w (.slice a n c) l ∧ ∀ y ∈ l, good y := by
  rcases Go.Deep.open_slice ht hf with ⟨hcs, _⟩ | ⟨a, len, cap, m, n, D, Pl, hcs, _, hl, hm, hmm, _, hx⟩
  · exact ⟨none, 0, 0, hcs, by unfold maxLen; omega, [], rfl, ⟨none, 0, rfl, Or.inl ⟨rfl, rfl, rfl⟩⟩, by simp⟩
  · have hlm : len ≤ m := by rw [hmm]; split <;> omega
    have key : ∀ k, k ≤ len → ∃ l : List α, l.length = k ∧ (∀ y ∈ l, good y) ∧ ∀ i y, l[i]? = some y → ∀ j, j < E.size → w.cell? (a.add (i * E.size + j)) = (E.enc y)[j]? := by
      intro k
      induction k with
      | zero => intro _; exact ⟨[], rfl, by simp, by simp⟩
      | succ k ih =>
        intro hk
        obtain ⟨l, h1, h2, h3⟩ := ih (by omega)
        obtain ⟨cs', hc, ht'⟩ := hx k (by omega)
        obtain ⟨y, rfl, hy⟩ := hel _ _ _ ht'
        rw [hcell] at hc
        obtain ⟨_, _, hcc⟩ := World.cells?_some hc
        refine ⟨l ++ [y], by simp [h1], fun z hz => ?_, fun i z hz j hj => ?_⟩
        · rcases List.mem_append.1 hz with q | q
          · exact h2 z q
          · simp at q; subst q; exact hy
        · by_cases hi : i < l.length
          · rw [List.getElem?_append_left hi] at hz
            exact h3 i z hz j hj
          · have hi2 : i = l.length := by
              have := (List.getElem?_eq_some_iff.1 hz).1
              simp at this; omega
            subst hi2
            rw [List.getElem?_append_right (Nat.le_refl _)] at hz
            simp at hz
            subst hz
            rw [← hcc j hj, h1, Go.Deep.add_add]
    obtain ⟨l, h1, h2, h3⟩ := key len (Nat.le_refl _)
    refine ⟨some a, len, cap, hcs, by omega, l, h1, ⟨some a, cap, by rw [h1], Or.inr ⟨a, rfl, fun j u hj => ?_⟩⟩, h2⟩
    have hjl : j < l.length * E.size := by
      have := (List.getElem?_eq_some_iff.1 hj).1
      rwa [E.flat_len] at this
    have hpos := E.pos
    have hd : j / E.size < l.length := by rw [Nat.div_lt_iff_lt_mul hpos]; exact hjl
    have hmd := Nat.mod_lt j hpos
    have e1 : j = j / E.size * E.size + j % E.size := by rw [Nat.mul_comm]; exact (Nat.div_add_mod _ _).symm
    have e2 := E.flat_get l (j / E.size) (j % E.size) hmd
    rw [← e1, hj, List.getElem?_eq_getElem hd] at e2
    have := h3 (j / E.size) _ (List.getElem?_eq_getElem hd) (j % E.size) hmd
    rw [← e1] at this
    rw [this]; simpa using e2.symm
theorem op_fields : ∃ f0 f1 f2 f3 f4 : Field, Try.prog.underlying 46 = some (.struct #[f0, f1, f2, f3, f4]) ∧ oneCellFields Try.prog #[f0, f1, f2, f3, f4] = true ∧
    f0.type = 5 ∧ f1.type = 3 ∧ f2.type = 3 ∧ f3.type = 9 ∧ f4.type = 23 :=
  ⟨_, _, _, _, _, Try.underlying46, by kernel_rfl, rfl, rfl, rfl, rfl, rfl⟩
theorem open_ops {r : Reach} {b0 : Nat} {v : Value} {d : DataW H} {p : List MemPlace} (hv : Value.okWide Try.prog w r b0 41 v) (h : DataW.Trod enc Try.prog w base spare held 41 v d p) :
    ∃ l : List OpD, Arg EOp w v l ∧ l.length ≤ maxLen ∧ ∀ o ∈ l, o.Ok w :=
  open_arg (E := EOp) (fun o => o.Ok w) Try.underlying41 (by kernel_rfl) (fun fuel cs x hf => by
    obtain ⟨f0, f1, f2, f3, f4, hs, hone, t0, t1, t2, t3, t4⟩ := op_fields
    have hC : Try.prog.cellsOf 46 = 5 := by kernel_rfl
    obtain ⟨xs, n, _, hx, hcl, hlen, hg⟩ := DataW.trod_struct hs hf
    obtain ⟨o0, k0⟩ := hone_of hone 0 f0 rfl
    obtain ⟨o1, k1⟩ := hone_of hone 1 f1 rfl
    obtain ⟨o2, k2⟩ := hone_of hone 2 f2 rfl
    obtain ⟨o3, k3⟩ := hone_of hone 3 f3 rfl
    obtain ⟨o4, k4⟩ := hone_of hone 4 f4 rfl
    rw [hC] at hcl
    match cs, hcl, xs, hlen with
    | [c0, c1, c2, c3, c4], _, [y0, y1, y2, y3, y4], _ =>
      have g0 : DataW.trod enc Try.prog w base spare held n f0.type [c0] = some y0 := by simpa [o0, k0] using hg 0 f0 rfl
      have g1 : DataW.trod enc Try.prog w base spare held n f1.type [c1] = some y1 := by simpa [o1, k1] using hg 1 f1 rfl
      have g2 : DataW.trod enc Try.prog w base spare held n f2.type [c2] = some y2 := by simpa [o2, k2] using hg 2 f2 rfl
      have g3 : DataW.trod enc Try.prog w base spare held n f3.type [c3] = some y3 := by simpa [o3, k3] using hg 3 f3 rfl
      have g4 : DataW.trod enc Try.prog w base spare held n f4.type [c4] = some y4 := by simpa [o4, k4] using hg 4 f4 rfl
      rw [t0] at g0; rw [t1] at g1; rw [t2] at g2; rw [t3] at g3; rw [t4] at g4
      obtain ⟨a0, e0, _, w0⟩ := DataW.trod_int Try.underlying5 g0
      obtain ⟨a1, e1, _, w1⟩ := DataW.trod_int Try.underlying3 g1
      obtain ⟨a2, e2, _, w2⟩ := DataW.trod_int Try.underlying3 g2
      obtain ⟨s, e3, _, s3⟩ := DataW.trod_string Try.underlying9 g3
      obtain ⟨ka, kn, kc, e4, hkn, kl, hkl, harg, _⟩ := open_cells (E := EInt) (fun _ => True) Try.underlying23 (by kernel_rfl) (fun n cs x hx => by
        obtain ⟨k, e, _, hw⟩ := DataW.trod_int Try.underlying3 hx
        exact ⟨k, e, trivial⟩) g4
      simp only [List.cons.injEq, and_true] at e0 e1 e2 e3 e4
      subst e0; subst e1; subst e2; subst e3; subst e4
      obtain ⟨kd, rfl⟩ := u8_of w0
      exact ⟨⟨kd, a1, a2, s, ka, kn, kc⟩, rfl, s3, i64_of w1, i64_of w2, hkn, kl, harg, hkl⟩) hv h
end Go.Proofs.Ytncbojocglcieaa
