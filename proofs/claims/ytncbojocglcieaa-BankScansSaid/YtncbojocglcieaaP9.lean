/- bank: what is answered of arguments, in plain Lean. -/
import Derived.Test.YtncbojocglcieaaP8
namespace Go.Proofs.Ytncbojocglcieaa
open Go.RowKit
set_option linter.unusedSimpArgs false
set_option linter.unusedVariables false
theorem wipes_zero : ∀ (n : Nat) (d : DevD) (pos : Int), d.left ≠ 0 → (∀ i : Nat, i < n → d.sec (pos + i) = zsec) → d.wipes pos n = (d, 0) := by
  intro n
  induction n with
  | zero => intro d pos _ _; rfl
  | succ n ih =>
    intro d pos h1 h2
    rw [DevD.wipes, if_neg h1, if_pos (by have := h2 0 (by omega); simpa using this)]
    exact ih d (pos + 1) h1 (fun i hi => by have := h2 (i + 1) (by omega); rw [← this]; congr 1; omega)
def dev0 (n : Nat) : DevD := ⟨n, [], [], [], -1⟩
theorem args_on (n : Nat) (f s : Int) : (dev0 n).on f s = decide (1 ≤ s ∧ 0 ≤ f ∧ f + s ≤ n) := rfl
theorem args_scan (n : Nat) (f s : Int) : ((dev0 n).scan f s).2.2 = if 1 ≤ s ∧ 0 ≤ f ∧ f + s ≤ n then 0 else 1 := by
  unfold DevD.scan
  rw [if_neg (show ¬ (dev0 n).left = 0 by show ¬ ((-1 : Int) = 0); decide), args_on]
  by_cases h : 1 ≤ s ∧ 0 ≤ f ∧ f + s ≤ n
  · rw [if_neg (by rw [decide_eq_true h]; decide), if_pos h]
  · rw [if_pos (decide_eq_false h), if_neg h]
theorem args_wipe (n : Nat) (f s a : Int) : (dev0 n).wipe f s a = (dev0 n, if 1 ≤ s ∧ 0 ≤ f ∧ f + s ≤ n then 0 else 1) := by
  unfold DevD.wipe
  rw [if_neg (show ¬ (dev0 n).left = 0 by show ¬ ((-1 : Int) = 0); decide), args_on]
  by_cases h : 1 ≤ s ∧ 0 ≤ f ∧ f + s ≤ n
  · rw [if_neg (by rw [decide_eq_true h]; decide), if_pos h]
    exact wipes_zero _ _ _ (by show ¬ ((-1 : Int) = 0); decide) (fun _ _ => rfl)
  · rw [if_pos (decide_eq_false h), if_neg h]
theorem args_write (n : Nat) (f s a : Int) (x : ByteArray) (hx : x.size = 1) : ∃ D NX, (dev0 n).write f s a x = (D, NX, if ¬ (1 ≤ s ∧ 0 ≤ f ∧ f + s ≤ n) ∨ a < 1 then 1 else if s ≤ a then 11 else 0) ∧ D.left = -1 ∧ D.size = n ∧ D.queue.length ≤ 1 ∧ ∀ i, (D.sec i).size = 64 := by
  have h0 : (dev0 n).left = -1 := rfl
  have e : (dev0 n).wErr f s a x.size = if ¬ (1 ≤ s ∧ 0 ≤ f ∧ f + s ≤ n) ∨ a < 1 then 1 else if s ≤ a then 11 else 0 := by
    unfold DevD.wErr
    rw [h0, args_on, hx, if_neg (by decide)]
    by_cases h : ¬ (1 ≤ s ∧ 0 ≤ f ∧ f + s ≤ n) ∨ a < 1
    · rw [if_pos h, if_pos (by rcases h with h | h; exact Or.inl (decide_eq_false h); exact Or.inr h)]
    · rw [if_neg h, if_neg (by simp at h ⊢; omega), if_neg (by decide)]
      by_cases h2 : s ≤ a
      · rw [if_pos h2, if_pos (by show s - (nframes 1 : Int) < a; have : nframes 1 = 1 := rfl; rw [this]; omega)]
      · rw [if_neg h2, if_neg (by show ¬ s - (nframes 1 : Int) < a; have : nframes 1 = 1 := rfl; rw [this]; omega)]
  unfold DevD.write
  rw [e]
  by_cases h : ¬ (1 ≤ s ∧ 0 ≤ f ∧ f + s ≤ n) ∨ a < 1
  · rw [if_pos h, if_pos (by decide)]
    exact ⟨_, _, rfl, rfl, rfl, Nat.zero_le _, fun _ => zsec_size⟩
  · rw [if_neg h]
    by_cases h2 : s ≤ a
    · rw [if_pos h2, if_pos (by decide)]
      exact ⟨_, _, rfl, rfl, rfl, Nat.zero_le _, fun _ => zsec_size⟩
    · rw [if_neg h2, if_neg (by decide)]
      have hcl : (cutL x.data.toList).length = 1 := by rw [cutL_length, Array.length_toList]; show nframes x.size = 1; rw [hx]; rfl
      obtain ⟨i1, i2, i3, i4, i5, i6⟩ := puts_ok (cutL x.data.toList) (dev0 n) (f + a) h0 (by omega) (by rw [hcl]; show f + a + 1 ≤ (n : Int); omega) (cutL_64 _)
      rw [if_pos i1]
      refine ⟨_, _, rfl, i2, i3, ?_, fun i => ?_⟩
      · rw [i5]; show ([] ++ enumPos (f + a) _).length ≤ 1; rw [List.nil_append, enumPos_length, hcl]; exact Nat.le_refl _
      · rw [i6]
        split
        · rename_i q
          have hlt : (i - (f + a)).toNat < (cutL x.data.toList).length := by omega
          simp only [List.getD, List.getElem?_eq_getElem hlt, Option.getD_some]
          exact cutL_64 _ _ (List.getElem_mem hlt)
        · exact zsec_size
theorem cut_lost {d : DevD} (h : d.left = -1) : (d.cut 0).left = 0 ∧ (d.cut 0).size = d.size ∧ (d.cut 0).queue = d.queue ∧ ∀ i, (d.cut 0).sec i = d.sec i := by
  unfold DevD.cut
  rw [if_neg (by rw [h]; decide)]
  exact ⟨rfl, rfl, rfl, fun _ => rfl⟩
theorem lost_all {d : DevD} (h : d.left = 0) (f s a : Int) (x : ByteArray) : d.scan f s = ([], 0, 13) ∧ d.write f s a x = (d, 0, 13) ∧ d.wipe f s a = (d, 13) := by
  refine ⟨by unfold DevD.scan; rw [if_pos h], ?_, by unfold DevD.wipe; rw [if_pos h]⟩
  have e : d.wErr f s a x.size = 13 := by unfold DevD.wErr; rw [if_pos h]
  unfold DevD.write
  rw [e]; rfl
end Go.Proofs.Ytncbojocglcieaa
