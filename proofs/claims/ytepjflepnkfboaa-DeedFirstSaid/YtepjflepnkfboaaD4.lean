/- deed: the reader's number and name. -/
import Derived.Test.YtepjflepnkfboaaD3
namespace Go.Proofs.Ytepjflepnkfboaa
open Go.RowKit
set_option linter.unusedSimpArgs false
/-- The number of some bytes, the first one the greatest. -/
def numOf (l : List UInt8) : Nat := l.foldl (fun n c => n * 256 + c.toNat) 0
theorem numOf_snoc (l : List UInt8) (c : UInt8) : numOf (l ++ [c]) = numOf l * 256 + c.toNat := by simp [numOf]
theorem numOf_lt (l : List UInt8) : numOf l < 256 ^ l.length := by
  suffices h : ∀ (l : List UInt8) (n : Nat), l.foldl (fun n c => n * 256 + c.toNat) n < (n + 1) * 256 ^ l.length by have := h l 0; simpa [numOf] using this
  intro l
  induction l with
  | nil => intro n; simp
  | cons c l ih =>
    intro n
    rw [List.foldl_cons, List.length_cons]
    refine Nat.lt_of_lt_of_le (ih _) ?_
    rw [Nat.pow_succ, Nat.mul_comm (256 ^ l.length) 256, ← Nat.mul_assoc]
    refine Nat.mul_le_mul_right _ ?_
    have := c.toNat_lt
    omega
theorem numOf_lt3 (l : List UInt8) (h : l.length < 4) : numOf l < 16777216 := by
  refine Nat.lt_of_lt_of_le (numOf_lt l) ?_
  have : 256 ^ l.length ≤ 256 ^ 3 := Nat.pow_le_pow_right (by decide) (by omega)
  exact this
set_option maxHeartbeats 1000000 in
theorem rnum_any (r : RD) (g n : Nat) (w : World) (hr : RDAt w g r) (hn : n ≤ 4) (hb : r.b.size ≤ maxLen) :
    Calls Try.prog 33 #[.pointer (some ⟨g, 0, none⟩), .int .i64 n] w fun e w' => e = .returned (.int .i64 (numOf (r.take n).1.data.toList)) ∧ RDAt w' g (r.take n).2 ∧ w.grownBy w' (some g) := by
  have hs : (r.take n).1.size ≤ 4 := by
    unfold RD.take; split
    · simp [ByteArray.size_extract]; omega
    · simp [zeros, ByteArray.size]; omega
  go_enter Try.func33, Try.ntmps33
  go_wp2_with (go_at_call 42; refine (take_any r g n _ hr (by omega) hb).mono ?_; rintro e w1 ⟨rfl, hr1, hg1⟩; have cv := Lib.run_convert_string_bytes (P := Try.prog) w1 9 63 5 (r.take n).1 Try.underlying9 Try.underlying63 Try.underlying5)
  generalize hS : (r.take n).1 = S at *
  have hcell := Lib.bytesWorld_cell w1 5 S
  have Hcell := Lib.hid hcell
  clear hcell cv
  generalize hW : Lib.bytesWorld w1 5 S = W at *
  have HW := Lib.hid hW
  clear hW
  go_loop [5, 13] (fun nv iv => ∃ k : Nat, k ≤ S.size ∧ iv = .int .i64 k ∧ nv = .int .i64 (numOf (S.data.toList.take k))) (fun _ iv => S.size - (intOf iv).toNat)
  case atStart => exact ⟨0, Nat.zero_le _, rfl, rfl⟩
  case round =>
    obtain ⟨k, hk, rfl, rfl⟩ := hrel
    by_cases hlt : k < S.size
    · have hc := Hcell.out k hlt
      have hsn : numOf (S.data.toList.take (k + 1)) = numOf (S.data.toList.take k) * 256 + (S.data.toList.getD k 0).toNat := by
        rw [← numOf_snoc, List.getD_eq_getElem?_getD, List.getElem?_eq_getElem (by simpa using hlt), Option.getD_some, List.take_succ_eq_append_getElem (by simpa using hlt)]
      have hm32 : numOf (S.data.toList.take k) < 16777216 := numOf_lt3 _ (by rw [List.length_take]; omega)
      have Hsn := Lib.hid hsn
      clear hsn
      generalize S.data.toList.getD k 0 = c at *
      generalize hm : numOf (S.data.toList.take k) = m at *
      have Hm := Lib.hid hm
      clear hm
      have hcb : c.toNat < 256 := c.toNat_lt
      go_wp2
      exact ⟨⟨k + 1, hlt, by go_num, by rw [or_byte _ _ (by omega) hcb, ← Hsn.out]⟩, by simp [intOf]; omega⟩
    · go_wp2
      go_ret
      have e : List.take k S.data.toList = S.data.toList := List.take_of_length_le (by show S.size ≤ k; omega)
      refine ⟨by show Ending.returned (.int .i64 _) = _; rw [e], ?_, ?_⟩
      · rw [← HW.out]; exact hr1.kept (Lib.bytesWorld_at_old _ _ _ _ hr1.lt)
      · rw [← HW.out]; exact grown_trans hg1 ⟨rfl, rfl, rfl, by rw [Lib.bytesWorld_size]; omega, fun k hk _ => Lib.bytesWorld_at_old _ _ _ _ hk⟩
end Go.Proofs.Ytepjflepnkfboaa
