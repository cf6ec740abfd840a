/- tree: what is wrong with a new entry. -/
import Derived.Test.YtolilbcpfdnkjaaT4
import Derived.Test.YtolilbcpfdnkjaaUng
namespace Go.Proofs.Ytolilbcpfdnkjaa
open Go.RowKit
set_option linter.unusedSimpArgs false
set_option linter.unusedVariables false
def dot1 : ByteArray := ⟨#[46]⟩
def dot2 : ByteArray := ⟨#[46, 46]⟩
theorem dot_ne (s d : ByteArray) (l : List UInt8) (hd : d.toList = l) : decide (s ≠ d) = !(s.toList == l) := by
  rw [← hd]
  by_cases e : s = d
  · rw [decide_eq_false (fun q => q e), (bstr_eq_iff s d).2 e]; rfl
  · rw [decide_eq_true e, Bool.eq_false_iff.2 (fun q => e ((bstr_eq_iff s d).1 q))]; rfl
def goodB (s : ByteArray) : Bool := decide (1 ≤ s.size) && (decide (s.size ≤ 255) && (!hasBad s && (decide (s ≠ dot1) && decide (s ≠ dot2))))
set_option maxRecDepth 100000 in
set_option maxHeartbeats 1000000 in
theorem containsany_any (s : ByteArray) (w : World) (hs : s.size ≤ 100000) :
    Calls Try.prog 88 #[.string s, .string zs2] w fun e w' => e = .returned (.bool (hasBad s)) ∧ Below w.heap.size w w' := by
  go_enter Try.func88, Try.ntmps88
  go_wp2_with fail
  refine (indexany_any s w hs).mono ?_
  rintro e w1 ⟨i, rfl, hi, hb⟩
  have HI := Lib.hid hi
  have HB := Lib.hid hb
  clear hi hb
  go_wp2_with fail
  go_ret
  exact ⟨ret_bool HI.out, HB.out⟩
set_option maxRecDepth 100000 in
set_option maxHeartbeats 2000000 in
theorem good_any (s : ByteArray) (w : World) (hs : s.size ≤ maxLen) :
    Calls Try.prog 65 #[.string s] w fun e w' => e = .returned (.bool (goodB s)) ∧ Below w.heap.size w w' := by
  unfold maxLen at hs
  by_cases h1 : 1 ≤ s.size
  · have d1 : decide ((1 : Int) ≤ s.size) = true := decide_eq_true (by omega)
    by_cases h2 : s.size ≤ 255
    · have d2 : decide ((s.size : Int) ≤ 255) = true := decide_eq_true (by omega)
      have hc := fun w => containsany_any s w (by omega)
      obtain ⟨hb, hhb⟩ : ∃ b, hasBad s = b := ⟨_, rfl⟩
      rw [hhb] at hc
      have HC := Lib.hid hc
      have e1 : decide (s ≠ dot1) = !(s.toList == [46]) := dot_ne s dot1 [46] (by decide +kernel)
      have e2 : decide (s ≠ dot2) = !(s.toList == [46, 46]) := dot_ne s dot2 [46, 46] (by decide +kernel)
      obtain ⟨b1, hb1⟩ : ∃ b, (s.toList == [46]) = b := ⟨_, rfl⟩
      obtain ⟨b2, hb2⟩ : ∃ b, (s.toList == [46, 46]) = b := ⟨_, rfl⟩
      rw [hb1] at e1
      rw [hb2] at e2
      have HG := Lib.hid (show goodB s = (!hb && (!b1 && !b2)) by unfold goodB; rw [decide_eq_true h1, decide_eq_true h2, hhb, e1, e2]; rfl)
      clear hc hhb e1 e2
      go_enter Try.func65, Try.ntmps65
      go_wp2_with fail
      refine (HC.out _).mono ?_
      rintro e w1 ⟨rfl, hbw⟩
      have HB1 := Lib.hid hbw
      clear hbw
      cases hb <;> cases b1 <;> cases b2
      all_goals
        go_wp2_with fail
        go_ret
        exact ⟨ret_bool HG.out.symm, HB1.out⟩
    · have d2 : decide ((s.size : Int) ≤ 255) = false := decide_eq_false (by omega)
      have HG := Lib.hid (show goodB s = false by unfold goodB; rw [decide_eq_false h2, Bool.and_comm]; rfl)
      go_enter Try.func65, Try.ntmps65
      go_wp2_with fail
      go_ret
      exact ⟨ret_bool HG.out.symm, Below.refl _ _⟩
  · have d1 : decide ((1 : Int) ≤ s.size) = false := decide_eq_false (by omega)
    have HG := Lib.hid (show goodB s = false by unfold goodB; rw [decide_eq_false h1]; rfl)
    go_enter Try.func65, Try.ntmps65
    go_wp2_with fail
    go_ret
    exact ⟨ret_bool HG.out.symm, Below.refl _ _⟩
/-- What is wrong with a new entry, but that there is one already. -/
def mayErr (name : ByteArray) (short : Int) : Int := if goodB name = false then 3 else if short < 0 ∨ 1000000 < short then 1 else 0
set_option maxRecDepth 100000 in
set_option maxHeartbeats 1000000 in
theorem tmay_any (name : ByteArray) (short : Int) (w : World) (hs : name.size ≤ maxLen) :
    Calls Try.prog 40 #[.string name, .int .i64 short] w fun e w' => e = .returned (.int .i64 (mayErr name short)) ∧ Below w.heap.size w w' := by
  have hg := fun w => good_any name w hs
  obtain ⟨b, hb⟩ : ∃ b, goodB name = b := ⟨_, rfl⟩
  rw [hb] at hg
  have HG := Lib.hid hg
  have HM := Lib.hid (show mayErr name short = if b = false then 3 else if short < 0 ∨ 1000000 < short then 1 else 0 by unfold mayErr; rw [hb])
  clear hg hb
  go_enter Try.func40, Try.ntmps40
  go_wp2_with fail
  refine (HG.out _).mono ?_
  rintro e w1 ⟨rfl, hb1⟩
  have HB1 := Lib.hid hb1
  clear hb1
  cases b
  · go_wp2_with fail
    go_ret
    exact ⟨ret_int HM.out.symm, HB1.out⟩
  · by_cases h1 : short < 0
    · have d1 : decide (short < 0) = true := decide_eq_true h1
      go_wp2_with fail
      go_ret
      exact ⟨ret_int (by rw [HM.out, if_neg (by decide), if_pos (Or.inl h1)]), HB1.out⟩
    · have d1 : decide (short < 0) = false := decide_eq_false h1
      by_cases h2 : 1000000 < short
      · have d2 : decide (1000000 < short) = true := decide_eq_true h2
        go_wp2_with fail
        go_ret
        exact ⟨ret_int (by rw [HM.out, if_neg (by decide), if_pos (Or.inr h2)]), HB1.out⟩
      · have d2 : decide (1000000 < short) = false := decide_eq_false h2
        go_wp2_with fail
        go_ret
        exact ⟨ret_int (by rw [HM.out, if_neg (by decide), if_neg (by omega)]), HB1.out⟩
end Go.Proofs.Ytolilbcpfdnkjaa
