/- short: Hash; the reference's Free. -/
import Derived.Test.YtolilbcpfdnkjaaGreatZBH3x
namespace Go.Proofs.YtolilbcpfdnkjaaGreat
open Go.RowKit
set_option linter.unusedSimpArgs false
/-- A name's hash. -/
def hashL (l : List UInt8) : Nat := l.foldl (fun h c => (h ^^^ c.toNat) * 16777619 % 4294967296) 2166136261
theorem hashL_snoc (l : List UInt8) (c : UInt8) : hashL (l ++ [c]) = (hashL l ^^^ c.toNat) * 16777619 % 4294967296 := by
  unfold hashL; rw [List.foldl_append, List.foldl_cons, List.foldl_nil]
theorem hashL_lt (l : List UInt8) : hashL l < 4294967296 := by
  rcases List.eq_nil_or_concat l with rfl | ⟨l, c, rfl⟩
  · decide
  · rw [List.concat_eq_append, hashL_snoc]; exact Nat.mod_lt _ (by decide)
theorem u32_step (h c : Nat) (hh : h < 4294967296) (hc : c < 256) : bits .xor .u32 (h : Int) (c : Int) * 16777619 % 4294967296 = (((h ^^^ c) * 16777619 % 4294967296 : Nat) : Int) := by
  rw [u32_xor_nat h c hh (by omega)]
  omega
/-- Is a number among the first ones? -/
def foundB (l : List Int) (k n : Nat) : Bool := decide ((n : Int) ∈ l.take k)
theorem foundB_zero (l : List Int) (n : Nat) : foundB l 0 n = false := by simp [foundB]
theorem foundB_yes (l : List Int) (k n : Nat) (h : foundB l k n = true) : foundB l (k + 1) n = true := by
  unfold foundB at *
  rw [decide_eq_true_eq] at *
  exact List.take_subset_take_left l (Nat.le_succ k) h
theorem foundB_no (l : List Int) (k n : Nat) (hk : k < l.length) (h : foundB l k n = false) : foundB l (k + 1) n = (l.getD k 0 == (n : Int)) := by
  unfold foundB at *
  rw [decide_eq_false_iff_not] at h
  rw [List.take_succ_eq_append_getElem hk, List.getD_eq_getElem?_getD, List.getElem?_eq_getElem hk, Option.getD_some, Bool.eq_iff_iff]
  simp only [decide_eq_true_eq, List.mem_append, List.mem_singleton, beq_iff_eq]
  exact ⟨fun q => q.elim (fun q => absurd q h) (fun q => q.symm), fun q => Or.inr q.symm⟩
theorem ArgI.cells {w : World} {v : Value} {l : List Int} (h : ArgI w v l) (h0 : l ≠ []) : ∃ b off cap, v = .slice (some ⟨b, off, none⟩) l.length cap ∧ ∀ i, i < l.length → w.cell? ⟨b, off + i, none⟩ = some (.int .i64 (l.getD i 0)) := by
  obtain ⟨a, cap, rfl, h⟩ := h
  rcases h with ⟨_, _, e⟩ | ⟨x, rfl, hc⟩
  · exact absurd e h0
  · obtain ⟨b, off, spot⟩ := x
    have hc0 := hc 0 (List.length_pos_iff.2 h0)
    have hspot : spot = none := by simpa [Addr.add] using World.cell?_spot hc0
    subst hspot
    exact ⟨b, off, cap, rfl, fun i hi => by have := hc i hi; rwa [Addr.add_lit] at this⟩
theorem pigeon (n : Nat) : ∀ l : List Int, (∀ m : Nat, 1 ≤ m → m ≤ n → (m : Int) ∈ l) → n ≤ l.length := by
  induction n with
  | zero => intro l _; exact Nat.zero_le _
  | succ n ih =>
    intro l h
    have h1 := h (n + 1) (by omega) (Nat.le_refl _)
    have h2 := ih (l.erase ((n + 1 : Nat) : Int)) (fun m q1 q2 => (List.mem_erase_of_ne (by omega)).2 (h m q1 (by omega)))
    rw [List.length_erase_of_mem h1] at h2
    have := List.length_pos_of_mem h1
    omega
theorem LeastFree.unique {l : List Int} {n m : Nat} (h : LeastFree l n) (k : LeastFree l m) : n = m := by
  rcases Nat.lt_trichotomy n m with q | q | q
  · exact absurd (k.2.2 n h.1 q) h.2.1
  · exact q
  · exact absurd (h.2.2 m k.1 q) k.2.1
end Go.Proofs.YtolilbcpfdnkjaaGreat
