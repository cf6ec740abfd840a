/- tree: what holds of each tree stays; New, Cookie, Nodes. -/
import Derived.Test.YtolilbcpfdnkjaaU9
namespace Go.Proofs.Ytolilbcpfdnkjaa
open Go.RowKit
set_option linter.unusedSimpArgs false
set_option linter.unusedVariables false
theorem max_of (S : List Int) : ∃ M : Nat, ∀ x ∈ S, x ≤ M := by
  induction S with
  | nil => exact ⟨0, fun x h => by cases h⟩
  | cons a t ih =>
    obtain ⟨M, hM⟩ := ih
    exact ⟨M + a.toNat, fun x h => by
      rcases List.mem_cons.1 h with e | q
      · subst e; omega
      · have := hM x q; omega⟩
theorem free_exists (S : List Int) : ∃ n, LeastFree S n := by
  have key : ∀ k : Nat, (∃ n, LeastFree S n) ∨ ∀ m : Nat, 1 ≤ m → m ≤ k → (m : Int) ∈ S := by
    intro k
    induction k with
    | zero => exact Or.inr (fun m a b => by omega)
    | succ k ih =>
      rcases ih with h | h
      · exact Or.inl h
      · by_cases c : ((k + 1 : Nat) : Int) ∈ S
        · exact Or.inr (fun m a b => by
            rcases Nat.lt_or_ge k m with q | q
            · have : m = k + 1 := by omega
              subst this; exact c
            · exact h m a q)
        · exact Or.inl ⟨k + 1, by omega, c, fun m a b => h m a (by omega)⟩
  obtain ⟨M, hM⟩ := max_of S
  rcases key (M + 1) with h | h
  · exact h
  · have := hM _ (h (M + 1) (by omega) (Nat.le_refl _)); omega
theorem freeN_spec (S : List Int) : LeastFree S (freeN S) := by
  obtain ⟨n, h⟩ := free_exists S
  rw [freeN_eq h]; exact h
theorem dir_of_list {L : List Itm} {d : Int} (h : listErr L d = 0) : isDirB L d = true := by
  cases hd : isDirB L d with
  | true => rfl
  | false => unfold listErr at h; rw [hd] at h; simp at h; split at h <;> cases h
theorem TInv.new : TInv [] 1 := ⟨by simp [nodes], by simp, by simp, by simp [entries], by simp, by simp, by decide, ⟨fun _ => 0, rfl, by simp⟩, by simp⟩
theorem TInv.link {L : List Itm} {next : Int} (h : TInv L next) (dir : Int) (name : ByteArray) (isDir : Bool) (short : Int) : TInv (linkT L next dir name isDir short).L (linkT L next dir name isDir short).next := by
  unfold linkT
  split
  · exact h
  · rename_i hz
    have hz' : linkErr L dir name short = 0 := by simpa using hz
    split
    · rename_i hf
      unfold linkErr at hz'
      split at hz'
      · rename_i q; exact absurd hz' q
      · rename_i q1
        split at hz'
        · rename_i q; exact absurd hz' q
        · rename_i q2
          split at hz'
          · cases hz'
          · rename_i q3
            have hs := freeN_spec (nodes L)
            exact h.linked hs.2.1 (by have := hs.1; show (1 : Int) ≤ (freeN (nodes L) : Int); omega) (by show (freeN (nodes L) : Int) ≤ 200; omega) (dir_of_list (by simpa using q1)) (find_none (by simpa using q3)) rfl (by simpa using q2)
    · exact h
theorem TInv.unlink {L : List Itm} {next : Int} (h : TInv L next) (dir : Int) (name : ByteArray) (isDir : Bool) : TInv (unlinkT L dir name isDir).1 next := by
  unfold unlinkT
  split
  · exact h
  · rename_i hz
    have hz' : unlinkErr L dir name isDir = 0 := by simpa using hz
    unfold unlinkErr at hz'
    split at hz'
    · rename_i q; exact absurd hz' q
    · rename_i q1
      obtain ⟨x, i, e1, hit, enm, -, -, -, -⟩ := find_spec (by simpa using q1)
      rw [e1] at hz'
      split at hz'
      · cases hz'
      · split at hz'
        · cases hz'
        · split at hz'
          · cases hz'
          · rename_i q4
            rw [← enm]
            exact h.dropped hit (by simpa using q4)
theorem TInv.move {L : List Itm} {next : Int} (h : TInv L next) (dir : Int) (name : ByteArray) (to : Int) (as_ : ByteArray) (short : Int) : TInv (moveT L next dir name to as_ short).L (moveT L next dir name to as_ short).next := by
  unfold moveT
  split
  · exact h
  · rename_i hz
    have hz' : moveErr L dir name to as_ short = 0 := by simpa using hz
    unfold moveErr at hz'
    split at hz'
    · rename_i q; exact absurd hz' q
    · rename_i q1
      obtain ⟨x, i, e1, hit, enm, -, -, -, -⟩ := find_spec (by simpa using q1)
      split at hz'
      · rename_i q; exact absurd hz' q
      · rename_i q2
        split at hz'
        · rename_i q; exact absurd hz' q
        · rename_i q3
          split at hz'
          · cases hz'
          · rename_i q4
            split at hz'
            · cases hz'
            · rename_i q5
              rw [e1] at q4 ⊢
              have := h.moved hit (to := to) (y := ⟨as_, x.node, x.dir, next, short⟩) rfl rfl rfl (dir_of_list (by simpa using q2)) (fun u => q4 (underB_iff.2 u)) (find_none (by simpa using q5)) (by simpa using q3)
              unfold movedT at this
              rw [enm] at this
              exact this
set_option maxHeartbeats 1000000 in
theorem tcookie_any {w : World} {F : Nat → Prop} {g : Nat} {L : List Itm} {next : Int} (h : TreeM w F g L next) : Calls Try.prog 20 #[.pointer (some ⟨g, 0, none⟩)] w fun e w' => e = .returned (.int .i64 next) ∧ w = w' := by
  obtain ⟨bd, bf, gp, bp, vp, D, Fm, p, rfl, hm, -⟩ := h
  have c3 : w.cell? ⟨g, 3, none⟩ = some (.int .i64 next) := (m_cells hm.blk).1 3
  clear hm
  go_enter Try.func20, Try.ntmps20
  go_wp2_with fail
  go_ret
  exact ⟨rfl, rfl⟩
end Go.Proofs.Ytolilbcpfdnkjaa
