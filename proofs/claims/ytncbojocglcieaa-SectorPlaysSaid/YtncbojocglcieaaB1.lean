/- bank: Frames, on, power, frame. -/
import Derived.Test.YtncbojocglcieaaS6
import Derived.Deep.RegionHeld3
namespace Go.Proofs.Ytncbojocglcieaa
open Go.RowKit
set_option linter.unusedSimpArgs false
set_option linter.unusedVariables false
/-- How many frames. -/
def nframes (n : Nat) : Nat := (n + 61) / 62
set_option maxRecDepth 100000 in
theorem frames_any (n : Int) (w : World) (h : n ≤ 9223372036854775807) : Calls Try.prog 24 #[.int .i64 n] w fun e w' => e = .returned (.int .i64 (if n < 1 then 0 else (n - 1) / 62 + 1)) ∧ w' = w := by
  by_cases h1 : n < 1
  · rw [if_pos h1]
    go_enter Try.func24, Try.ntmps24
    go_wp2
    go_ret
    exact ⟨rfl, rfl⟩
  · rw [if_neg h1]
    have h2 : 1 ≤ n := by omega
    have h3 : (0 : Int) ≤ n - 1 := by omega
    have h4 : (n - 1) / 62 < 9223372036854775807 := by omega
    have h5 : 0 ≤ (n - 1) / 62 := by omega
    have h6 : (n - 1).tdiv 62 = (n - 1) / 62 := Int.tdiv_eq_ediv_of_nonneg h3
    clear h1
    go_enter Try.func24, Try.ntmps24
    go_wp2
    go_ret
    exact ⟨rfl, rfl⟩
theorem frames_nat (n : Nat) : (if (n : Int) < 1 then (0 : Int) else ((n : Int) - 1) / 62 + 1) = (nframes n : Nat) := by
  unfold nframes; split <;> omega
def DevD.pow (d : DevD) : Int := if d.left = 0 then 13 else 0
theorem power_any {w0 w : World} {R : Nat → Prop} {g : Nat} {d : DevD} (h : OwnR w0 w R g d) :
    Calls Try.prog 60 #[.pointer (some ⟨g, 0, none⟩)] w fun e w' => e = .returned (.int .i64 d.pow) ∧ OwnR w0 w' R g d ∧ Below w.heap.size w w' := by
  have H := Lib.hid h
  obtain ⟨r, hr⟩ : ∃ r, d.ask (-1) = r := ⟨_, rfl⟩
  have hp : (r = 13 ∧ d.pow = 13) ∨ (r = 1 ∧ d.pow = 0) := by
    rw [← hr]; unfold DevD.ask DevD.pow
    by_cases q : d.left = 0
    · rw [if_pos q, if_pos q]; simp
    · rw [if_neg q, if_neg q]; simp
  have HR := Lib.hid hr
  clear h hr
  rcases hp with ⟨rfl, hp⟩ | ⟨rfl, hp⟩
  all_goals
    rw [hp]
    clear hp
    go_enter Try.func60, Try.ntmps60
    go_wp2_with fail
    refine (ownr_get H.out (-1)).mono ?_
    rintro e w1 ⟨rfl, h1, hb1⟩
    rw [HR.out]
    have H1 := Lib.hid h1
    go_wp2_with fail
    go_ret
    exact ⟨rfl, H1.out, hb1⟩
/-- Whether a bank is on a device. -/
def DevD.on (d : DevD) (f s : Int) : Bool := decide (1 ≤ s ∧ 0 ≤ f ∧ f + s ≤ d.size)
theorem on_any {w0 w : World} {R : Nat → Prop} {g : Nat} {d : DevD} (f s : Int) (h : OwnR w0 w R g d) (hs : s ≤ 9223372036854775807) (hd : d.size ≤ 4096) :
    Calls Try.prog 61 #[.pointer (some ⟨g, 0, none⟩), .int .i64 f, .int .i64 s] w fun e w' => e = .returned (.bool (d.on f s)) ∧ w' = w := by
  have H := Lib.hid h
  clear h
  obtain ⟨r, hr⟩ : ∃ r, d.on f s = r := ⟨_, rfl⟩
  rw [hr]
  have HR := Lib.hid hr
  clear hr
  by_cases h1 : 1 ≤ s
  · by_cases h2 : 0 ≤ f
    · go_enter Try.func61, Try.ntmps61
      go_wp2_with fail
      refine (ownr_size H.out).mono ?_
      rintro e w1 ⟨rfl, rfl⟩
      go_wp2_with fail
      go_ret
      refine ⟨ret_bool ?_, rfl⟩
      rw [← HR.out]; unfold DevD.on
      rw [decide_eq_decide]; omega
    · have e : r = false := by rw [← HR.out]; unfold DevD.on; rw [decide_eq_false_iff_not]; omega
      subst e
      go_enter Try.func61, Try.ntmps61
      go_wp2_with fail
      go_ret
      exact ⟨rfl, rfl⟩
  · have e : r = false := by rw [← HR.out]; unfold DevD.on; rw [decide_eq_false_iff_not]; omega
    subst e
    go_enter Try.func61, Try.ntmps61
    go_wp2_with fail
    go_ret
    exact ⟨rfl, rfl⟩
end Go.Proofs.Ytncbojocglcieaa
