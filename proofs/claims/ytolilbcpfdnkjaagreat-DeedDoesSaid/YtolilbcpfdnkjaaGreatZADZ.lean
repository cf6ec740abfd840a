/- deed without its reader: Encode, May, awake (D3, D8, DA cut down for a seat that reaches no reader; printed from them). -/
import Derived.Test.YtolilbcpfdnkjaaGreatZAD2
namespace Go.Proofs.YtolilbcpfdnkjaaGreat
open Go.RowKit
set_option maxRecDepth 100000
set_option linter.unusedSimpArgs false
/-- What Encode answers. -/
def DD.enc (x : DD) : ByteArray × Int := if x.may then (⟨x.bytes.toArray⟩, 0) else (⟨#[]⟩, 1)
set_option maxHeartbeats 1000000 in
theorem encode_any (x : DD) (w : World) :
    Calls Tryz.prog 48 #[.agg x.cells] w fun e w' => e = .returned (.tuple #[.string x.enc.1, .int .i64 x.enc.2]) ∧ Below w.heap.size w w' := by
  by_cases hm : x.may
  · obtain ⟨k, d, t, n, a, is, s⟩ := x
    have Hm := Lib.hid hm
    have hf : ∀ w, Calls Tryz.prog 49 #[.agg #[.int .i64 k, .int .i64 d, .int .i64 t, .string n, .string a, .bool is, .int .i64 s]] w fun e w' => e = .returned (.bool true) ∧ Below w.heap.size w w' := fun w => (formed_any k d t s n a is w).mono fun e w' ⟨h1, h2⟩ => ⟨by rw [h1, decide_eq_true hm], h2⟩
    have Hf := Lib.hid hf
    clear hf hm
    show Calls _ _ #[.agg #[.int .i64 k, .int .i64 d, .int .i64 t, .string n, .string a, .bool is, .int .i64 s]] w _
    go_enter Tryz.func48, Tryz.ntmps48
    go_wp2_with (first
      | (go_at_call 49; refine (Hf.out _).mono ?_; rintro e w1 ⟨rfl, hb1⟩; obtain ⟨hc, hfz⟩ := bcell hb1)
      | (go_at_call 80; refine (bytes_any ⟨k, d, t, n, a, is, s⟩ Hm.out _).mono ?_; rintro e w2 ⟨rfl, hb2⟩))
    go_ret2
    exact ⟨by simp [DD.enc, Hm.out], (((Below.refl _ _).alloc (Nat.le_refl _) _).trans (hb1.mono (by simp))).trans (hb2.mono (by have := hb1.size; simp at this; omega))⟩
  · obtain ⟨k, d, t, n, a, is, s⟩ := x
    have Hm := Lib.hid hm
    have hf : ∀ w, Calls Tryz.prog 49 #[.agg #[.int .i64 k, .int .i64 d, .int .i64 t, .string n, .string a, .bool is, .int .i64 s]] w fun e w' => e = .returned (.bool false) ∧ Below w.heap.size w w' := fun w => (formed_any k d t s n a is w).mono fun e w' ⟨h1, h2⟩ => ⟨by rw [h1, decide_eq_false hm], h2⟩
    have Hf := Lib.hid hf
    clear hf hm
    show Calls _ _ #[.agg #[.int .i64 k, .int .i64 d, .int .i64 t, .string n, .string a, .bool is, .int .i64 s]] w _
    go_enter Tryz.func48, Tryz.ntmps48
    go_wp2_with (go_at_call 49; refine (Hf.out _).mono ?_; rintro e w1 ⟨rfl, hb1⟩)
    go_ret2
    exact ⟨by simp [DD.enc, Hm.out], (((Below.refl _ _).alloc (Nat.le_refl _) _).trans (hb1.mono (by simp)))⟩
theorem may_not (x : DD) (h : x.k < 1 ∨ 3 < x.k) : decide x.may = false := by
  rw [decide_eq_false_iff_not]
  intro hm
  obtain ⟨_, _, _, _, _, _, _, _, hk⟩ := hm
  rcases hk with ⟨e, _⟩ | ⟨e, _⟩ | ⟨e, _⟩ <;> omega
set_option maxHeartbeats 2000000 in
set_option maxRecDepth 100000 in
theorem refmay_any (k d t s : Int) (n a : ByteArray) (is : Bool) (w : World) :
    Calls Tryz.prog 20 #[.agg #[.int .i64 k, .int .i64 d, .int .i64 t, .string n, .string a, .bool is, .int .i64 s]] w fun e w' => e = .returned (.bool (decide (DD.mk k d t n a is s).may)) ∧ Below w.heap.size w w' := by
  have hk : k < 1 ∨ k = 1 ∨ k = 2 ∨ k = 3 ∨ 3 < k := by omega
  rcases hk with hk | rfl | rfl | rfl | hk
  all_goals
    go_enter Tryz.func20, Tryz.ntmps20
    go_wp2
  all_goals
    go_ret
    refine ⟨ret_bool ?_, (Below.refl _ _).alloc (Nat.le_refl _) _⟩
    first
    | exact (may_not _ (Or.inl hk)).symm
    | exact (may_not _ (Or.inr hk)).symm
    | (simp_all [DD.may]; done)
    | (simp_all [DD.may]; omega)
    | (simp_all [DD.may]; intros; omega)
    | (simp_all [DD.may]; rw [Bool.eq_iff_iff]; simp; omega)
theorem enc_a : (DD.mk 1 0 0 ⟨#[97]⟩ ⟨#[]⟩ false 0).enc = (⟨#[1, 0, 0, 1, 97, 0, 0, 0, 0, 0]⟩, 0) := by
  have hm : (DD.mk 1 0 0 ⟨#[97]⟩ ⟨#[]⟩ false 0).may := by unfold DD.may; simp [ByteArray.size, ByteArray.toList_eq]
  unfold DD.enc; rw [if_pos hm]
  have e : (DD.mk 1 0 0 ⟨#[97]⟩ ⟨#[]⟩ false 0).bytes = [1, 0, 0, 1, 97, 0, 0, 0, 0, 0] := by decide
  rw [e]
set_option maxHeartbeats 1000000 in
theorem awake11_any (w : World) : Calls Tryz.prog 17 #[] w fun e w' => e = .returned (.bool true) ∧ Below w.heap.size w w' := by
  have h := fun w => encode_any (DD.mk 1 0 0 ⟨#[97]⟩ ⟨#[]⟩ false 0) w
  rw [enc_a] at h
  have H := Lib.hid h
  clear h
  go_enter Tryz.func17, Tryz.ntmps17
  go_wp2_with (go_at_call 48; refine (H.out _).mono ?_; rintro e w1 ⟨rfl, hb1⟩)
  go_ret
  exact ⟨rfl, hb1⟩
end Go.Proofs.YtolilbcpfdnkjaaGreat
