/- bank's laws: awake; BankFrames. -/
import Derived.Test.YtncbojocglcieaaB3
namespace Go.Proofs.Ytncbojocglcieaa
open Go.RowKit
set_option linter.unusedSimpArgs false
set_option linter.unusedVariables false
theorem awake_wrote : ((DevD.mk 5 [] [] [] (-1)).write 0 5 1 ⟨#[97, 98]⟩).2 = (2, 0) := by kernel_rfl
set_option maxRecDepth 100000 in
set_option maxHeartbeats 1000000 in
theorem awake07_any (w : World) : Calls Try.prog 25 #[] w fun e w' => e = .returned (.bool true) ∧ Below w.heap.size w w' := by
  have hfr := fun w => frames_any 63 w (by decide)
  rw [show (if (63 : Int) < 1 then (0 : Int) else (63 - 1) / 62 + 1) = 2 from by decide] at hfr
  go_enter Try.func25, Try.ntmps25
  go_wp2_with fail
  refine (own_new w w 5 (Below.refl _ _)).mono ?_
  rintro e w1 ⟨g, rfl, h1⟩
  have H1 := Lib.hid (show OwnR w w1 (fun _ => False) g ⟨5, [], [], [], -1⟩ from h1.r)
  clear h1
  go_wp2_with fail
  refine (write_any 0 5 1 ⟨#[97, 98]⟩ H1.out (by decide) (by decide) (by decide) (by decide) (by decide) (by decide)).mono ?_
  rintro e w2 ⟨rfl, h2, hh2⟩
  rw [awake_wrote]
  have H2 := Lib.hid h2.bel
  clear h2 hh2
  go_wp2_with fail
  refine (hfr _).mono ?_
  rintro e w3 ⟨rfl, rfl⟩
  go_wp2_with fail
  go_ret
  exact ⟨rfl, H2.out⟩
set_option maxRecDepth 100000 in
set_option maxHeartbeats 1000000 in
theorem bankframes_any (n : Int) (w : World) (hn : n ≤ 9223372036854775807) : Calls Try.prog 4 #[.int .i64 n] w fun e w' => e = .returned (.bool true) ∧ Below w.heap.size w w' := by
  have hfr := fun w => frames_any n w hn
  by_cases h1 : n < 1
  · simp only [if_pos h1] at hfr
    go_enter Try.func4, Try.ntmps4
    go_wp2_with fail
    refine (hfr _).mono ?_
    rintro e w1 ⟨rfl, rfl⟩
    go_wp2_with fail
    refine (awake07_any _).mono ?_
    rintro e w2 ⟨rfl, hb2⟩
    go_wp2_with fail
    go_ret
    exact ⟨rfl, hb2⟩
  · simp only [if_neg h1] at hfr
    have h2 : 1 ≤ n := by omega
    have h3 : (0 : Int) ≤ n - 1 := by omega
    have h4 : (n - 1) / 62 < 9223372036854775807 := by omega
    have h5 : 0 ≤ (n - 1) / 62 := by omega
    have h6 : (n - 1).tdiv 62 = (n - 1) / 62 := Int.tdiv_eq_ediv_of_nonneg h3
    have d1 : decide (n < 1) = false := decide_eq_false h1
    obtain ⟨q, hq⟩ : ∃ q, (n - 1) / 62 = q := ⟨_, rfl⟩
    rw [hq] at h4 h5 h6
    simp only [hq] at hfr
    clear h1
    go_enter Try.func4, Try.ntmps4
    go_wp2_with fail
    refine (hfr _).mono ?_
    rintro e w1 ⟨rfl, rfl⟩
    go_wp2_with fail
    refine (awake07_any _).mono ?_
    rintro e w2 ⟨rfl, hb2⟩
    go_wp2_with fail
    all_goals first
      | (exfalso; omega)
      | (go_ret; refine ⟨ret_bool ?_, hb2⟩; simp; omega)
      | (go_ret; exact ⟨rfl, hb2⟩)
end Go.Proofs.Ytncbojocglcieaa
