/- A directory's entries, and arrays of four bytes, that are arguments. -/
import Derived.Test.YtolilbcpfdnkjaaGreatZBT1
import Derived.Test.YtolilbcpfdnkjaaGreatZBRowU
import Derived.Lib.SmallJoins
import Derived.Deep.Slices
import Derived.Deep.Fields
import Derived.ChangeSame
import Derived.ChangeArms
namespace Go.Proofs.YtolilbcpfdnkjaaGreat
open Go.Joins Go.ChangeShapes Go.WideShapes Go.RowKit Go.Deep
set_option linter.unusedVariables false
set_option maxRecDepth 100000
variable {H : Type} {enc : TypeId × Value → H} {w : World} {base : Nat} {spare : Nat → Bool} {held : Bool}
theorem open_cells {α : Type} {E : EK α} (good : α → Prop) {t : TypeId} (ht : Tryz.prog.underlying t = some (.slice E.t)) (hcell : Tryz.prog.cellsOf E.t = E.size)
    (hel : ∀ n cs x, DataW.trod enc Tryz.prog w base spare held n E.t cs = some x → ∃ y, cs = E.enc y ∧ good y)
    {fuel : Nat} {cs : List Value} {z : DataW H × List MemPlace} (hf : DataW.trod enc Tryz.prog w base spare held fuel t cs = some z) :
    ∃ a n c, cs = [.slice a n c] ∧ n ≤ maxLen ∧ ∃ l : List α, l.length = n ∧ Arg E w (.slice a n c) l ∧ ∀ y ∈ l, good y := by
  rcases Go.Deep.open_slice ht hf with ⟨hcs, _⟩ | ⟨a, len, cap, m, n, D, Pl, hcs, _, hl, hm, hmm, _, hx⟩
  · exact ⟨none, 0, 0, hcs, by unfold maxLen; omega, [], rfl, ⟨none, 0, rfl, Or.inl ⟨rfl, rfl, rfl⟩⟩, by simp⟩
  · have hlm : len ≤ m := by rw [hmm]; split <;> omega
    have key : ∀ k, k ≤ len → ∃ l : List α, l.length = k ∧ (∀ y ∈ l, good y) ∧ ∀ i y, l[i]? = some y → ∀ j, j < E.size → w.cell? (a.add (i * E.size + j)) = (E.enc y)[j]? := by
      intro k
      induction k with
      | zero => intro _; exact ⟨[], rfl, by simp, by simp⟩
      | succ k ih =>
        intro hk
        obtain ⟨l, h1, h2, h3⟩ := ih (by omega)
        obtain ⟨cs', hc, ht'⟩ := hx k (by omega)
        obtain ⟨y, rfl, hy⟩ := hel _ _ _ ht'
        rw [hcell] at hc
        obtain ⟨_, _, hcc⟩ := World.cells?_some hc
        refine ⟨l ++ [y], by simp [h1], fun z hz => ?_, fun i z hz j hj => ?_⟩
        · rcases List.mem_append.1 hz with q | q
          · exact h2 z q
          · simp at q; subst q; exact hy
        · by_cases hi : i < l.length
          · rw [List.getElem?_append_left hi] at hz
            exact h3 i z hz j hj
          · have hi2 : i = l.length := by
              have := (List.getElem?_eq_some_iff.1 hz).1
              simp at this; omega
            subst hi2
            rw [List.getElem?_append_right (Nat.le_refl _)] at hz
            simp at hz
            subst hz
            rw [← hcc j hj, h1, Go.Deep.add_add]
    obtain ⟨l, h1, h2, h3⟩ := key len (Nat.le_refl _)
    refine ⟨some a, len, cap, hcs, by omega, l, h1, ⟨some a, cap, by rw [h1], Or.inr ⟨a, rfl, fun j u hj => ?_⟩⟩, h2⟩
    have hjl : j < l.length * E.size := by
      have := (List.getElem?_eq_some_iff.1 hj).1
      rwa [E.flat_len] at this
    have hpos := E.pos
    have hd : j / E.size < l.length := by rw [Nat.div_lt_iff_lt_mul hpos]; exact hjl
    have hmd := Nat.mod_lt j hpos
    have e1 : j = j / E.size * E.size + j % E.size := by rw [Nat.mul_comm]; exact (Nat.div_add_mod _ _).symm
    have e2 := E.flat_get l (j / E.size) (j % E.size) hmd
    rw [← e1, hj, List.getElem?_eq_getElem hd] at e2
    have := h3 (j / E.size) _ (List.getElem?_eq_getElem hd) (j % E.size) hmd
    rw [← e1] at this
    rw [this]; simpa using e2.symm
theorem ent_fields : ∃ f0 f1 f2 f3 f4 : Field, Tryz.prog.underlying 84 = some (.struct #[f0, f1, f2, f3, f4]) ∧ oneCellFields Tryz.prog #[f0, f1, f2, f3, f4] = true ∧
    f0.type = 9 ∧ f1.type = 3 ∧ f2.type = 4 ∧ f3.type = 2 ∧ f4.type = 3 :=
  ⟨_, _, _, _, _, Tryz.underlying84, by kernel_rfl, rfl, rfl, rfl, rfl, rfl⟩
theorem ent_trod (fuel : Nat) (cs : List Value) (x : DataW H × List MemPlace) (hf : DataW.trod enc Tryz.prog w base spare held fuel EEnt.t cs = some x) : ∃ y, cs = EEnt.enc y ∧ y.name.size ≤ maxLen := by
  obtain ⟨f0, f1, f2, f3, f4, hs, hone, t0, t1, t2, t3, t4⟩ := ent_fields
  have hC : Tryz.prog.cellsOf 84 = 5 := by kernel_rfl
  obtain ⟨xs, n, _, hx, hcl, hlen, hg⟩ := DataW.trod_struct hs hf
  obtain ⟨o0, k0⟩ := hone_of hone 0 f0 rfl
  obtain ⟨o1, k1⟩ := hone_of hone 1 f1 rfl
  obtain ⟨o2, k2⟩ := hone_of hone 2 f2 rfl
  obtain ⟨o3, k3⟩ := hone_of hone 3 f3 rfl
  obtain ⟨o4, k4⟩ := hone_of hone 4 f4 rfl
  rw [hC] at hcl
  match cs, hcl, xs, hlen with
  | [c0, c1, c2, c3, c4], _, [y0, y1, y2, y3, y4], _ =>
    have g0 : DataW.trod enc Tryz.prog w base spare held n f0.type [c0] = some y0 := by simpa [o0, k0] using hg 0 f0 rfl
    have g1 : DataW.trod enc Tryz.prog w base spare held n f1.type [c1] = some y1 := by simpa [o1, k1] using hg 1 f1 rfl
    have g2 : DataW.trod enc Tryz.prog w base spare held n f2.type [c2] = some y2 := by simpa [o2, k2] using hg 2 f2 rfl
    have g3 : DataW.trod enc Tryz.prog w base spare held n f3.type [c3] = some y3 := by simpa [o3, k3] using hg 3 f3 rfl
    have g4 : DataW.trod enc Tryz.prog w base spare held n f4.type [c4] = some y4 := by simpa [o4, k4] using hg 4 f4 rfl
    rw [t0] at g0; rw [t1] at g1; rw [t2] at g2; rw [t3] at g3; rw [t4] at g4
    obtain ⟨s0, e0, _, w0⟩ := DataW.trod_string Tryz.underlying9 g0
    obtain ⟨a1, e1, _, w1⟩ := DataW.trod_int Tryz.underlying3 g1
    obtain ⟨b2, e2, _⟩ := DataW.trod_bool Tryz.underlying4 g2
    obtain ⟨a3, e3, _, w3⟩ := DataW.trod_int Tryz.underlying2 g3
    obtain ⟨a4, e4, _, w4⟩ := DataW.trod_int Tryz.underlying3 g4
    simp only [List.cons.injEq, and_true] at e0 e1 e2 e3 e4
    subst e0; subst e1; subst e2; subst e3; subst e4
    exact ⟨⟨s0, a1, b2, a3, a4⟩, rfl, w0⟩
theorem dir10_fields : ∃ f0 f1 : Field, Tryz.prog.underlying 51 = some (.struct #[f0, f1]) ∧ oneCellFields Tryz.prog #[f0, f1] = true ∧ f0.type = 3 ∧ f1.type = 49 :=
  ⟨_, _, Tryz.underlying51, by kernel_rfl, rfl, rfl⟩
theorem open_dir {r : Reach} {b0 : Nat} {v : Value} {d : DataW H} {p : List MemPlace} (hv : Value.okWide Tryz.prog w r b0 51 v) (h : DataW.Trod enc Tryz.prog w base spare held 51 v d p) :
    ∃ (n : Int) (va : Value) (l : List Ent), v = .agg #[.int .i64 n, va] ∧ Arg EEnt w va l ∧ l.length ≤ maxLen ∧ ∀ e ∈ l, e.name.size ≤ maxLen := by
  obtain ⟨f0, f1, hs, hone, t0, t1⟩ := dir10_fields
  obtain ⟨cs, rfl, hsz⟩ := okWide_struct hs hv
  obtain ⟨fuel, hf⟩ := h
  obtain ⟨l⟩ := cs
  have hC : Tryz.prog.cellsOf 51 = 2 := by kernel_rfl
  obtain ⟨xs, n, _, hx, hcl, hlen, hg⟩ := DataW.trod_struct hs hf
  obtain ⟨o0, k0⟩ := hone_of hone 0 f0 rfl
  obtain ⟨o1, k1⟩ := hone_of hone 1 f1 rfl
  match l, hsz.trans hC, xs, hlen with
  | [c0, c1], _, [y0, y1], _ =>
    have g0 : DataW.trod enc Tryz.prog w base spare held n f0.type [c0] = some y0 := by simpa [o0, k0, Value.cells] using hg 0 f0 rfl
    have g1 : DataW.trod enc Tryz.prog w base spare held n f1.type [c1] = some y1 := by simpa [o1, k1, Value.cells] using hg 1 f1 rfl
    rw [t0] at g0; rw [t1] at g1
    obtain ⟨a0, e0, _, w0⟩ := DataW.trod_int Tryz.underlying3 g0
    obtain ⟨a1, n1, c1', e1, hn1, l1, hl1, q1, p1⟩ := open_cells (E := EEnt) (fun y => y.name.size ≤ maxLen) Tryz.underlying49 (by kernel_rfl) ent_trod g1
    simp only [List.cons.injEq, and_true] at e0 e1
    subst e0; subst e1
    exact ⟨a0, _, l1, rfl, q1, by omega, p1⟩
theorem okWide_array4 {P : Program} {w : World} {r : Reach} {b0 : Nat} {t e : TypeId} {n : Nat} {v : Value} (ht : P.underlying t = some (.array n e)) (h : Value.okWide P w r b0 t v) : ∃ cs, v = .agg cs ∧ cs.size = P.cellsOf t := by
  simp only [Value.okWide, ht] at h
  obtain ⟨cs, h1, h2, _⟩ := h
  exact ⟨cs, h1, h2⟩
theorem open_four {r : Reach} {b0 : Nat} {v : Value} {d : DataW H} {p : List MemPlace}
    (hv : Value.okWide Tryz.prog w r b0 52 v) (h : DataW.Trod enc Tryz.prog w base spare held 52 v d p) :
    ∃ x y z u : UInt8, v = .agg #[.int .u8 x.toNat, .int .u8 y.toNat, .int .u8 z.toNat, .int .u8 u.toNat] := by
  obtain ⟨cs, rfl, hsz⟩ := okWide_array4 (n := 4) (e := 5) Tryz.underlying52 hv
  obtain ⟨l⟩ := cs
  have hC : Tryz.prog.cellsOf 52 = 4 := by kernel_rfl
  have hC1 : Tryz.prog.cellsOf 5 = 1 := by kernel_rfl
  match l, hsz.trans hC with
  | [c0, c1, c2, c3], _ =>
    obtain ⟨fuel, hf⟩ := h
    obtain ⟨xs, n, _, _, hlen, hxl, hg⟩ := DataW.trod_array (n := 4) (e := 5) Tryz.underlying52 hf
    match xs, hxl with
    | [y0, y1, y2, y3], _ =>
      have g0 := hg 0 (by decide)
      have g1 := hg 1 (by decide)
      have g2 := hg 2 (by decide)
      have g3 := hg 3 (by decide)
      rw [hC1] at g0 g1 g2 g3
      obtain ⟨k0, e0, _, w0⟩ := DataW.trod_int Tryz.underlying5 (show DataW.trod enc Tryz.prog w base spare held n 5 [c0] = some y0 from g0)
      obtain ⟨k1, e1, _, w1⟩ := DataW.trod_int Tryz.underlying5 (show DataW.trod enc Tryz.prog w base spare held n 5 [c1] = some y1 from g1)
      obtain ⟨k2, e2, _, w2⟩ := DataW.trod_int Tryz.underlying5 (show DataW.trod enc Tryz.prog w base spare held n 5 [c2] = some y2 from g2)
      obtain ⟨k3, e3, _, w3⟩ := DataW.trod_int Tryz.underlying5 (show DataW.trod enc Tryz.prog w base spare held n 5 [c3] = some y3 from g3)
      simp only [List.cons.injEq, and_true] at e0 e1 e2 e3
      subst e0; subst e1; subst e2; subst e3
      obtain ⟨a, rfl⟩ := u8_of w0
      obtain ⟨b, rfl⟩ := u8_of w1
      obtain ⟨c, rfl⟩ := u8_of w2
      obtain ⟨d, rfl⟩ := u8_of w3
      exact ⟨a, b, c, d, rfl⟩
end Go.Proofs.YtolilbcpfdnkjaaGreat
