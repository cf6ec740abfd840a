/- bank: an epoch's head, in plain Lean; label, Head. -/
import Derived.Test.YtncbojocglcieaaB4
namespace Go.Proofs.Ytncbojocglcieaa
open Go.RowKit
set_option linter.unusedSimpArgs false
set_option linter.unusedVariables false
/-- Byte i of a number of eight, the greatest first. -/
def nbyte (n i : Nat) : UInt8 := UInt8.ofNat (n / 256 ^ (7 - i) % 256)
/-- What byte j of an epoch's head is. -/
def hbyte (n j : Nat) : UInt8 := if n = 0 then 0 else if j < 8 then nbyte n j else if j < 16 then 255 - nbyte n (j - 8) else 0
def hdr (n : Nat) : List UInt8 := (List.range 64).map (hbyte n)
theorem hdr_length (n : Nat) : (hdr n).length = 64 := by simp [hdr]
theorem hdr_get (n j : Nat) (h : j < 64) : (hdr n)[j]? = some (hbyte n j) := by simp [hdr, h]
/-- A head of which i bytes are written. -/
def Part (n i : Nat) (l : List UInt8) : Prop := l.length = 64 ∧ ∀ j, j < 64 → l[j]? = some (if j < i then nbyte n j else if 8 ≤ j ∧ j < 8 + i then 255 - nbyte n (j - 8) else 0)
theorem Part.start (n : Nat) : Part n 0 (List.replicate 64 0) := ⟨by simp, fun j hj => by rw [List.getElem?_replicate, if_pos hj, if_neg (by omega), if_neg (by omega)]⟩
theorem Part.step {n i : Nat} {l : List UInt8} (h : Part n i l) (hi : i < 8) : Part n (i + 1) ((l.set i (nbyte n i)).set (8 + i) (255 - nbyte n i)) := by
  refine ⟨by simp [h.1], fun j hj => ?_⟩
  rw [List.getElem?_set, List.length_set, List.getElem?_set, h.1]
  by_cases e1 : 8 + i = j
  · subst e1
    rw [if_pos rfl, if_pos (by omega), if_neg (by omega), if_pos (by omega), Nat.add_sub_cancel_left]
  · rw [if_neg e1]
    by_cases e2 : i = j
    · subst e2
      rw [if_pos rfl, if_pos (by omega), if_pos (by omega)]
    · rw [if_neg e2, h.2 j hj]
      by_cases e3 : j < i
      · rw [if_pos e3, if_pos (by omega)]
      · by_cases e4 : 8 ≤ j ∧ j < 8 + i
        · rw [if_neg e3, if_pos e4, if_neg (show ¬ j < i + 1 by omega), if_pos (by omega)]
        · rw [if_neg e3, if_neg e4, if_neg (show ¬ j < i + 1 by omega), if_neg (by omega)]
theorem Part.done {n : Nat} {l : List UInt8} (h : Part n 8 l) (hn : n ≠ 0) : l = hdr n := by
  apply List.ext_getElem?
  intro j
  by_cases hj : j < 64
  · rw [h.2 j hj, hdr_get n j hj]
    unfold hbyte
    rw [if_neg hn]
    by_cases e1 : j < 8
    · rw [if_pos e1, if_pos e1]
    · rw [if_neg e1, if_neg e1]
      by_cases e2 : j < 16
      · rw [if_pos (by omega), if_pos e2]
      · rw [if_neg (by omega), if_neg e2]
  · rw [List.getElem?_eq_none (by rw [h.1]; omega), List.getElem?_eq_none (by rw [hdr_length]; omega)]
theorem hdr_zero : hdr 0 = List.replicate 64 0 := by decide
end Go.Proofs.Ytncbojocglcieaa
