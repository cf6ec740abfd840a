/- Lemmas for the laws of one seat, texts RowA RowT C9; no condition beyond those that each states. -/
import Derived.Test.YtncbojocglcieaaVV11
import Derived.Lib.SmallJoins
import Derived.Deep.Slices
import Derived.Deep.Fields
import Derived.ChangeSame
/- Arrays of three ints that are arguments. -/
namespace Go.Proofs.Ytncbojocglcieaa
open Go.Joins Go.ChangeShapes Go.WideShapes Go.RowKit Go.Deep
variable {H : Type} {enc : TypeId × Value → H} {w : World} {base : Nat} {spare : Nat → Bool} {held : Bool}
theorem okWide_array {P : Program} {w : World} {r : Reach} {b0 : Nat} {t e : TypeId} {n : Nat} {v : Value} (ht : P.underlying t = some (.array n e)) (h : Value.okWide P w r b0 t v) : ∃ cs, v = .agg cs ∧ cs.size = P.cellsOf t := by
  simp only [Value.okWide, ht] at h
  obtain ⟨cs, h1, h2, _⟩ := h
  exact ⟨cs, h1, h2⟩
set_option maxRecDepth 10000 in
theorem open_three {r : Reach} {b0 : Nat} {v : Value} {d : DataW H} {p : List MemPlace}
    (hv : Value.okWide Try.prog w r b0 74 v) (h : DataW.Trod enc Try.prog w base spare held 74 v d p) :
    ∃ x y z : Int, v = .agg #[.int .i64 x, .int .i64 y, .int .i64 z] ∧ (Lit.int .i64 x).wf = true ∧ (Lit.int .i64 y).wf = true ∧ (Lit.int .i64 z).wf = true := by
  obtain ⟨cs, rfl, hsz⟩ := okWide_array (n := 3) (e := 3) Try.underlying74 hv
  obtain ⟨l⟩ := cs
  have hC : Try.prog.cellsOf 74 = 3 := by kernel_rfl
  have hC1 : Try.prog.cellsOf 3 = 1 := by kernel_rfl
  match l, hsz.trans hC with
  | [c0, c1, c2], _ =>
    obtain ⟨fuel, hf⟩ := h
    obtain ⟨xs, n, _, _, hlen, hxl, hg⟩ := DataW.trod_array (n := 3) (e := 3) Try.underlying74 hf
    match xs, hxl with
    | [y0, y1, y2], _ =>
      have g0 := hg 0 (by decide)
      have g1 := hg 1 (by decide)
      have g2 := hg 2 (by decide)
      rw [hC1] at g0 g1 g2
      obtain ⟨k0, e0, _, w0⟩ := DataW.trod_int Try.underlying3 (show DataW.trod enc Try.prog w base spare held n 3 [c0] = some y0 from g0)
      obtain ⟨k1, e1, _, w1⟩ := DataW.trod_int Try.underlying3 (show DataW.trod enc Try.prog w base spare held n 3 [c1] = some y1 from g1)
      obtain ⟨k2, e2, _, w2⟩ := DataW.trod_int Try.underlying3 (show DataW.trod enc Try.prog w base spare held n 3 [c2] = some y2 from g2)
      simp only [List.cons.injEq, and_true] at e0 e1 e2
      subst e0; subst e1; subst e2
      exact ⟨k0, k1, k2, rfl, w0, w1, w2⟩
end Go.Proofs.Ytncbojocglcieaa

/- Pairs of bytes that are arguments. -/
namespace Go.Proofs.Ytncbojocglcieaa
open Go.Joins Go.ChangeShapes Go.WideShapes Go.RowKit Go.Deep
variable {H : Type} {enc : TypeId × Value → H} {w : World} {base : Nat} {spare : Nat → Bool} {held : Bool}
set_option maxRecDepth 10000 in
theorem open_two {r : Reach} {b0 : Nat} {v : Value} {d : DataW H} {p : List MemPlace}
    (hv : Value.okWide Try.prog w r b0 30 v) (h : DataW.Trod enc Try.prog w base spare held 30 v d p) :
    ∃ x y : UInt8, v = .agg #[.int .u8 x.toNat, .int .u8 y.toNat] := by
  obtain ⟨cs, rfl, hsz⟩ := okWide_array (n := 2) (e := 5) Try.underlying30 hv
  obtain ⟨l⟩ := cs
  have hC : Try.prog.cellsOf 30 = 2 := by kernel_rfl
  have hC1 : Try.prog.cellsOf 5 = 1 := by kernel_rfl
  match l, hsz.trans hC with
  | [c0, c1], _ =>
    obtain ⟨fuel, hf⟩ := h
    obtain ⟨xs, n, _, _, hlen, hxl, hg⟩ := DataW.trod_array (n := 2) (e := 5) Try.underlying30 hf
    match xs, hxl with
    | [y0, y1], _ =>
      have g0 := hg 0 (by decide)
      have g1 := hg 1 (by decide)
      rw [hC1] at g0 g1
      obtain ⟨k0, e0, _, w0⟩ := DataW.trod_int Try.underlying5 (show DataW.trod enc Try.prog w base spare held n 5 [c0] = some y0 from g0)
      obtain ⟨k1, e1, _, w1⟩ := DataW.trod_int Try.underlying5 (show DataW.trod enc Try.prog w base spare held n 5 [c1] = some y1 from g1)
      simp only [List.cons.injEq, and_true] at e0 e1
      subst e0; subst e1
      obtain ⟨a, rfl⟩ := u8_of w0
      obtain ⟨b, rfl⟩ := u8_of w1
      exact ⟨a, b, rfl⟩
end Go.Proofs.Ytncbojocglcieaa

/- the bank's law: all. -/
namespace Go.Proofs.Ytncbojocglcieaa
open Go.RowKit
set_option linter.unusedSimpArgs false
set_option linter.unusedVariables false
def AllRel (w0 w : World) (R : Nat → Prop) (g : Nat) (d : DevD) (f : Int) (n B : Nat) (ov iv : Value) (wr : World) : Prop :=
  ∃ i : Nat, iv = .int .i64 (f + i) ∧ i ≤ n ∧ Row EStr wr B ov (d.secs f i) ∧ Below B w wr
set_option maxRecDepth 100000 in
set_option maxHeartbeats 2000000 in
theorem all_ok {w0 w : World} {R : Nat → Prop} {g : Nat} {d : DevD} (f : Int) (n : Nat) (h : OwnR w0 w R g d) (hl : d.left ≠ 0) (hf : 0 ≤ f) (hn : f + n ≤ d.size) (hd : d.size ≤ 4096) (h64 : ∀ i, (d.sec i).size = 64) :
    Calls Try.prog 39 #[.pointer (some ⟨g, 0, none⟩), .int .i64 f, .int .i64 n] w fun e w' => ∃ v, e = .returned v ∧ Row EStr w' w.heap.size v (d.secs f n) ∧ OwnR w0 w' R g d ∧ Below w.heap.size w w' := by
  have H := Lib.hid h
  obtain ⟨B, hB⟩ : ∃ B, w.heap.size = B := ⟨_, rfl⟩
  rw [hB]
  have HB := Lib.hid hB
  clear h hB
  go_enter Try.func39, Try.ntmps39
  go_wp2_with fail
  go_loopw [7, 8] (fun ov iv wr => AllRel w0 w R g d f n B ov iv wr) (fun _ iv _ => (f + n - intOf iv).toNat)
  case atStart => exact ⟨0, by simp, Nat.zero_le _, Row.nil _ _ _, Below.refl _ _⟩
  case round =>
    obtain ⟨i, rfl, hi, hr, hb⟩ := hrel
    have ho := H.out.below (w' := wr) (by rw [HB.out]; exact hb)
    have HR := Lib.hid hr
    have HO := Lib.hid ho
    have HBW := Lib.hid hb
    have hBl : B ≤ wr.heap.size := by have := hb.size; rw [HB.out] at this; exact this
    obtain ⟨oa, oc, rfl⟩ := hr.shape
    rw [secs_length]
    rw [secs_length] at HR
    clear hr ho hb
    by_cases hlt : i < n
    · have i1 : f + (i : Int) < f + n := by omega
      have h6 := h64 (f + i)
      have ha : d.ask (f + i) = 0 := by unfold DevD.ask; rw [if_neg hl, if_neg (by omega)]
      have hg : d.get (f + i) = d.sec (f + i) := by unfold DevD.get; rw [if_pos ha]
      have HA := Lib.hid ha
      have HG := Lib.hid hg
      have HS := Lib.hid (secs_succ d f i)
      clear ha hg
      go_wp2_with fail
      refine (ownr_get HO.out (f + i)).mono ?_
      rintro e w1 ⟨rfl, h1, hb1⟩
      rw [HA.out, HG.out]
      have HR1 := Lib.hid (HR.out.below hb1)
      have HO1 := Lib.hid h1
      have HB1 := Lib.hid (HBW.out.trans (hb1.mono hBl))
      have hBl1 : B ≤ w1.heap.size := Nat.le_trans hBl hb1.size
      clear hb1 h1
      generalize d.sec (f + i) = x at *
      have n1 : ((x.size : Int) != 64) = false := by rw [h6]; rfl
      go_wp2_with (first
        | (refine app_row EStr.laid rfl _ _ 49 49 Try.underlying49 Try.underlying49 rfl _ (d.secs f i) rfl (HR1.out.alloc _) _ [x] rfl ?c1 ?c2 ?c3 (by simp; omega) ?_
           case c1 => exact Arg.blk (m_alloc _ _ _ rfl) [x] rfl 1
           case c2 => rw [secs_length]; show (i + 1) * 16 ≤ _; omega
           case c3 => rw [secs_length]; show i + 1 ≤ maxLen; unfold maxLen; omega
           intro v3 w3 hr3 hv3 k3
           rw [← HS.out] at hr3))
      have hb3 : Below B w w3 := (HB1.out.alloc (by omega) _).trans (k3.toBelow (by simp; omega) (fun k q => HR1.out.ge q.symm))
      exact ⟨⟨i + 1, by go_num, hlt, hr3, hb3⟩, by simp [intOf]; omega⟩
    · have ei : i = n := by omega
      subst ei
      have i1 : ¬ (f + (i : Int) < f + i) := by omega
      go_wp2_with fail
      go_ret
      exact ⟨_, rfl, HR.out, HO.out, HBW.out⟩
end Go.Proofs.Ytncbojocglcieaa
