/- deed: the laws' walks. -/
import Derived.Test.YtepjflepnkfboaaDP
namespace Go.Proofs.Ytepjflepnkfboaa
open Go.RowKit
set_option linter.unusedSimpArgs false
theorem enc_a : (DD.mk 1 0 0 ⟨#[97]⟩ ⟨#[]⟩ false 0).enc = (⟨#[1, 0, 0, 1, 97, 0, 0, 0, 0, 0]⟩, 0) := by
  have hm : (DD.mk 1 0 0 ⟨#[97]⟩ ⟨#[]⟩ false 0).may := by unfold DD.may; simp [ByteArray.size, ByteArray.toList_eq]
  unfold DD.enc; rw [if_pos hm]
  have e : (DD.mk 1 0 0 ⟨#[97]⟩ ⟨#[]⟩ false 0).bytes = [1, 0, 0, 1, 97, 0, 0, 0, 0, 0] := by decide
  rw [e]
set_option maxHeartbeats 1000000 in
theorem awake_any (w : World) : Calls Try.prog 10 #[] w fun e w' => e = .returned (.bool true) ∧ Below w.heap.size w w' := by
  have h := fun w => encode_any (DD.mk 1 0 0 ⟨#[97]⟩ ⟨#[]⟩ false 0) w
  rw [enc_a] at h
  have H := Lib.hid h
  clear h
  go_enter Try.func10, Try.ntmps10
  go_wp2_with (go_at_call 9; refine (H.out _).mono ?_; rintro e w1 ⟨rfl, hb1⟩)
  go_ret
  exact ⟨rfl, hb1⟩
set_option maxHeartbeats 1000000 in
theorem reads_any (b : ByteArray) (w : World) (hb : b.size ≤ maxLen) : Calls Try.prog 6 #[.string b] w fun e w' => e = .returned (.bool true) ∧ Below w.heap.size w w' := by
  have hb' := hb
  unfold maxLen at hb'
  have hd := fun w => decode_any b w hb
  by_cases hn : (decD b).2 = 0
  · have hx : (decD b).1.may ∧ (decD b).1.bytes = b.data.toList := by
      unfold decD at *
      by_cases h : (dec b).2.bad = false ∧ (dec b).1.may ∧ (dec b).1.bytes = b.data.toList
      · rw [if_pos h]; exact h.2
      · rw [if_neg h] at hn; cases hn
    obtain ⟨hm, he⟩ := hx
    rw [hn] at hd
    have hrb := fun w => refbytes_any (decD b).1 hm w
    rw [he] at hrb
    generalize (decD b).1 = x at *
    obtain ⟨k, d, t, n, a, is, s⟩ := x
    have hrm := fun w => refmay_any k d t s n a is w
    rw [decide_eq_true hm] at hrm
    have Hd := Lib.hid hd
    have Hrb := Lib.hid hrb
    have Hrm := Lib.hid hrm
    clear hd hrb hrm he hn hm
    by_cases hlen : b.size ≤ 700
    · go_enter Try.func6, Try.ntmps6
      go_wp2_with (first
        | (go_at_call 10; refine (awake_any _).mono ?_; rintro e w1 ⟨rfl, hb1⟩)
        | (go_at_call 15; refine (Hd.out _).mono ?_; rintro e w2 ⟨rfl, hb2⟩)
        | (go_at_call 14; refine (Hrm.out _).mono ?_; rintro e w3 ⟨rfl, hb3⟩; obtain ⟨x3, y3⟩ := bcell hb3)
        | (go_at_call 16; refine (Hrb.out _).mono ?_; rintro e w4 ⟨rfl, hb4⟩))
      go_ret
      exact ⟨rfl, hb1.trans ((hb2.mono hb1.size).trans (((Below.refl _ _).alloc (Nat.le_trans hb1.size hb2.size) _).trans ((hb3.mono (by have := hb1.size; have := hb2.size; simp; omega)).trans (hb4.mono (by have := hb1.size; have := hb2.size; have := hb3.size; simp at *; omega)))))⟩
    · go_enter Try.func6, Try.ntmps6
      go_wp2_with fail
      refine (awake_any _).mono ?_
      rintro e w1 ⟨rfl, hb1⟩
      go_wp2_with fail
      refine (awake_any _).mono ?_
      rintro e w2 ⟨rfl, hb2⟩
      go_wp2
      go_ret
      exact ⟨rfl, hb1.trans (hb2.mono hb1.size)⟩
  · have hx : decD b = (⟨0, 0, 0, ⟨#[]⟩, ⟨#[]⟩, false, 0⟩, 2) := by
      unfold decD at *
      by_cases h : (dec b).2.bad = false ∧ (dec b).1.may ∧ (dec b).1.bytes = b.data.toList
      · rw [if_pos h] at hn; exact (hn rfl).elim
      · rw [if_neg h]
    rw [hx] at hd
    have Hd := Lib.hid hd
    clear hd hx hn
    by_cases hlen : b.size ≤ 700
    · go_enter Try.func6, Try.ntmps6
      go_wp2_with (first
        | (go_at_call 10; refine (awake_any _).mono ?_; rintro e w1 ⟨rfl, hb1⟩)
        | (go_at_call 15; refine (Hd.out _).mono ?_; rintro e w2 ⟨rfl, hb2⟩))
      go_ret
      exact ⟨rfl, hb1.trans ((hb2.mono hb1.size).trans (((Below.refl _ _).alloc (Nat.le_trans hb1.size hb2.size) _)))⟩
    · go_enter Try.func6, Try.ntmps6
      go_wp2_with fail
      refine (awake_any _).mono ?_
      rintro e w1 ⟨rfl, hb1⟩
      go_wp2_with fail
      refine (awake_any _).mono ?_
      rintro e w2 ⟨rfl, hb2⟩
      go_wp2
      go_ret
      exact ⟨rfl, hb1.trans (hb2.mono hb1.size)⟩
set_option maxHeartbeats 2000000 in
theorem writes_any (k d t s : Int) (n a : ByteArray) (is : Bool) (w : World) (hn0 : n.size ≤ maxLen) (ha0 : a.size ≤ maxLen) :
    Calls Try.prog 5 #[.agg #[.int .i64 k, .int .i64 d, .int .i64 t, .string n, .string a, .bool is, .int .i64 s]] w fun e w' => e = .returned (.bool true) ∧ Below w.heap.size w w' := by
  unfold maxLen at hn0 ha0
  have hen := fun w => encode_any (DD.mk k d t n a is s) w
  have hrm := fun w => refmay_any k d t s n a is w
  have Hen := Lib.hid hen
  have Hrm := Lib.hid hrm
  clear hen hrm
  by_cases hl : n.size ≤ 300
  · have dl : decide ((300 : Int) < n.size) = false := decide_eq_false (by omega)
    by_cases hl2 : a.size ≤ 300
    · have dl2 : decide ((300 : Int) < a.size) = false := decide_eq_false (by omega)
      by_cases hm : (DD.mk k d t n a is s).may
      · have Hm := Lib.hid hm
        have hen := Hen.out
        have hrm := Hrm.out
        have hbs := bytes_len (DD.mk k d t n a is s) hm
        have hdec := fun w => decode_any ⟨(DD.mk k d t n a is s).bytes.toArray⟩ w (by simp [ByteArray.size, maxLen]; omega)
        have hback := decD_bytes (DD.mk k d t n a is s) hm
        rw [hback] at hdec
        have hrb := fun w => refbytes_any (DD.mk k d t n a is s) hm w
        rw [decide_eq_true hm] at hrm
        simp only [DD.enc, if_pos hm] at hen
        clear Hen Hrm
        generalize (DD.mk k d t n a is s).bytes = bs at *
        have Hen := Lib.hid hen
        have Hrm := Lib.hid hrm
        have Hrb := Lib.hid hrb
        have Hdec := Lib.hid hdec
        clear hen hrm hrb hdec hm hback hbs
        go_enter Try.func5, Try.ntmps5
        go_wp2_with (first
          | (go_at_call 10; refine (awake_any _).mono ?_; rintro e w1 ⟨rfl, hb1⟩; obtain ⟨x1, y1⟩ := bcell hb1; have z1 : w.heap.size < w1.heap.size := (by have := hb1.size; simp at this; omega))
          | (go_at_call 9; refine (Hen.out _).mono ?_; rintro e w2 ⟨rfl, hb2⟩; obtain ⟨x2, y2⟩ := bcell hb2; have z2 : w.heap.size < w2.heap.size := (by have := hb2.size; omega))
          | (go_at_call 14; refine (Hrm.out _).mono ?_; rintro e w3 ⟨rfl, hb3⟩; obtain ⟨x3, y3⟩ := bcell hb3; have z3 : w.heap.size < w3.heap.size := (by have := hb3.size; omega))
          | (go_at_call 15; refine (Hdec.out _).mono ?_; rintro e w4 ⟨rfl, hb4⟩; obtain ⟨x4, y4⟩ := bcell hb4; have z4 : w.heap.size < w4.heap.size := (by have := hb4.size; omega))
          | (go_at_call 16; refine (Hrb.out _).mono ?_; rintro e w5 ⟨rfl, hb5⟩; obtain ⟨x5, y5⟩ := bcell hb5; have z5 : w.heap.size < w5.heap.size := (by have := hb5.size; simp at this; omega)))
        go_ret
        have B1 := ((Below.refl w.heap.size w).alloc (Nat.le_refl _) _).trans (hb1.mono (by simp))
        have B2 := B1.trans (hb2.mono (by omega))
        have B3 := B2.trans (hb3.mono (by omega))
        have B4 := B3.trans (hb4.mono (by omega))
        exact ⟨rfl, (B4.alloc (by omega) _).trans (hb5.mono (by simp; omega))⟩
      · have hen := Hen.out
        have hrm := Hrm.out
        rw [decide_eq_false hm] at hrm
        simp only [DD.enc, if_neg hm] at hen
        clear Hen Hrm
        have Hen := Lib.hid hen
        have Hrm := Lib.hid hrm
        clear hen hrm hm
        go_enter Try.func5, Try.ntmps5
        go_wp2_with (first
          | (go_at_call 10; refine (awake_any _).mono ?_; rintro e w1 ⟨rfl, hb1⟩; obtain ⟨x1, y1⟩ := bcell hb1; have z1 : w.heap.size < w1.heap.size := (by have := hb1.size; simp at this; omega))
          | (go_at_call 9; refine (Hen.out _).mono ?_; rintro e w2 ⟨rfl, hb2⟩; obtain ⟨x2, y2⟩ := bcell hb2; have z2 : w.heap.size < w2.heap.size := (by have := hb2.size; omega))
          | (go_at_call 14; refine (Hrm.out _).mono ?_; rintro e w3 ⟨rfl, hb3⟩; obtain ⟨x3, y3⟩ := bcell hb3; have z3 : w.heap.size < w3.heap.size := (by have := hb3.size; omega)))
        go_ret
        have B1 := ((Below.refl w.heap.size w).alloc (Nat.le_refl _) _).trans (hb1.mono (by simp))
        have B2 := B1.trans (hb2.mono (by omega))
        exact ⟨rfl, B2.trans (hb3.mono (by omega))⟩
    · have dl2 : decide ((300 : Int) < a.size) = true := decide_eq_true (by omega)
      go_enter Try.func5, Try.ntmps5
      go_wp2_with fail
      refine (awake_any _).mono ?_
      rintro e w1 ⟨rfl, hb1⟩
      obtain ⟨x1, y1⟩ := bcell hb1
      have z1 : w.heap.size < w1.heap.size := by have := hb1.size; simp at this; omega
      go_wp2_with fail
      refine (awake_any _).mono ?_
      rintro e w2 ⟨rfl, hb2⟩
      go_wp2
      go_ret
      have B1 := ((Below.refl w.heap.size w).alloc (Nat.le_refl _) _).trans (hb1.mono (by simp))
      exact ⟨rfl, B1.trans (hb2.mono (by omega))⟩
  · have dl : decide ((300 : Int) < n.size) = true := decide_eq_true (by omega)
    go_enter Try.func5, Try.ntmps5
    go_wp2_with fail
    refine (awake_any _).mono ?_
    rintro e w1 ⟨rfl, hb1⟩
    obtain ⟨x1, y1⟩ := bcell hb1
    have z1 : w.heap.size < w1.heap.size := by have := hb1.size; simp at this; omega
    go_wp2_with fail
    refine (awake_any _).mono ?_
    rintro e w2 ⟨rfl, hb2⟩
    go_wp2
    go_ret
    have B1 := ((Below.refl w.heap.size w).alloc (Nat.le_refl _) _).trans (hb1.mono (by simp))
    exact ⟨rfl, B1.trans (hb2.mono (by omega))⟩
end Go.Proofs.Ytepjflepnkfboaa
