/- deed: DeedFirst's walk. -/
import Derived.Test.YtepjflepnkfboaaDA
namespace Go.Proofs.Ytepjflepnkfboaa
open Go.RowKit
set_option linter.unusedSimpArgs false
theorem pre_not (y x : List UInt8) (h : ∀ rest, y = x ++ rest → False) : (!((ByteArray.mk y.toArray).extract 0 x.length).toList == x) = true := by
  rw [Bool.not_eq_true', beq_eq_false_iff_ne]
  intro e
  rw [ByteArray.toList_eq, Lib.extract_data] at e
  simp only [List.drop_zero, Nat.sub_zero] at e
  refine h (y.drop x.length) ?_
  have e2 := List.take_append_drop x.length y
  rw [show List.take x.length y = x from e] at e2
  exact e2.symm
set_option maxHeartbeats 4000000 in
theorem first_any (k d t s k' d' t' s' : Int) (n a n' a' : ByteArray) (is is' : Bool) (w : World) :
    Calls Try.prog 3 #[.agg #[.int .i64 k, .int .i64 d, .int .i64 t, .string n, .string a, .bool is, .int .i64 s], .agg #[.int .i64 k', .int .i64 d', .int .i64 t', .string n', .string a', .bool is', .int .i64 s']] w fun e w' => e = .returned (.bool true) ∧ Below w.heap.size w w' := by
  have h1 := fun w => encode_any (DD.mk k d t n a is s) w
  have h2 := fun w => encode_any (DD.mk k' d' t' n' a' is' s') w
  by_cases hx : (DD.mk k d t n a is s).may
  · by_cases hy : (DD.mk k' d' t' n' a' is' s').may
    · have hF := fun rest => bytes_first _ _ hx hy rest
      have l1 := bytes_len _ hx
      have l2 := bytes_len _ hy
      simp only [DD.enc, if_pos hx] at h1
      simp only [DD.enc, if_pos hy] at h2
      generalize (DD.mk k d t n a is s).bytes = bx at *
      generalize (DD.mk k' d' t' n' a' is' s').bytes = by' at *
      have H1 := Lib.hid h1
      have H2 := Lib.hid h2
      have HF := Lib.hid hF
      clear h1 h2 hF hx hy
      go_enter Try.func3, Try.ntmps3
      go_wp2_with fail
      refine (H1.out _).mono ?_
      rintro e w1 ⟨rfl, hb1⟩
      obtain ⟨x1, y1⟩ := bcell hb1
      have z1 : w.heap.size < w1.heap.size := by have := hb1.size; simp at this; omega
      have z1' : w.heap.size + 1 < w1.heap.size := by have := hb1.size; simp at this; omega
      go_wp2_with fail
      refine (H2.out _).mono ?_
      rintro e w2 ⟨rfl, hb2⟩
      obtain ⟨x2, y2⟩ := bcell hb2
      have z2 : w.heap.size < w2.heap.size := by have := hb2.size; omega
      have z2' : w.heap.size + 1 < w2.heap.size := by have := hb2.size; omega
      go_wp2_with fail
      refine (awake_any _).mono ?_
      rintro e w3 ⟨rfl, hb3⟩
      obtain ⟨x3, y3⟩ := bcell hb3
      have z3 : w.heap.size < w3.heap.size := by have := hb3.size; omega
      have z3' : w.heap.size + 1 < w3.heap.size := by have := hb3.size; omega
      have BB : Below w.heap.size w w3 := by
        have B0 := ((Below.refl w.heap.size w).alloc (Nat.le_refl _) (.cells #[.int .i64 k, .int .i64 d, .int .i64 t, .string n, .string a, .bool is, .int .i64 s] 23)).alloc (by simp) (.cells #[.int .i64 k', .int .i64 d', .int .i64 t', .string n', .string a', .bool is', .int .i64 s'] 23)
        have B1 := B0.trans (hb1.mono (by simp; omega))
        exact (B1.trans (hb2.mono (by omega))).trans (hb3.mono (by omega))
      have HBB := Lib.hid BB
      clear BB hb1 hb2 hb3
      go_wp2_with fail
      all_goals
        go_ret
        refine ⟨ret_bool ?_, HBB.out⟩
      all_goals first | rfl | skip
      all_goals
        refine pre_not _ _ (fun rest e => ?_)
        have q := HF.out rest e
        simp only [DD.mk.injEq] at q
        obtain ⟨q1, q2, q3, q4, q5, q6, q7⟩ := q
        clear HF HBB H1 H2
        first | contradiction | (subst q4; contradiction) | (subst q5; contradiction)
    · simp only [DD.enc, if_pos hx] at h1
      simp only [DD.enc, if_neg hy] at h2
      generalize (DD.mk k d t n a is s).bytes = bx at *
      have H1 := Lib.hid h1
      have H2 := Lib.hid h2
      clear h1 h2 hx hy
      go_enter Try.func3, Try.ntmps3
      go_wp2_with fail
      refine (H1.out _).mono ?_
      rintro e w1 ⟨rfl, hb1⟩
      obtain ⟨x1, y1⟩ := bcell hb1
      have z1 : w.heap.size < w1.heap.size := by have := hb1.size; simp at this; omega
      have z1' : w.heap.size + 1 < w1.heap.size := by have := hb1.size; simp at this; omega
      go_wp2_with fail
      refine (H2.out _).mono ?_
      rintro e w2 ⟨rfl, hb2⟩
      go_wp2_with fail
      refine (awake_any _).mono ?_
      rintro e w3 ⟨rfl, hb3⟩
      go_wp2_with fail
      refine (awake_any _).mono ?_
      rintro e w4 ⟨rfl, hb4⟩
      go_wp2_with fail
      go_ret
      have B0 := ((Below.refl w.heap.size w).alloc (Nat.le_refl _) (.cells #[.int .i64 k, .int .i64 d, .int .i64 t, .string n, .string a, .bool is, .int .i64 s] 23)).alloc (by simp) (.cells #[.int .i64 k', .int .i64 d', .int .i64 t', .string n', .string a', .bool is', .int .i64 s'] 23)
      have B1 := B0.trans (hb1.mono (by simp; omega))
      exact ⟨rfl, ((B1.trans (hb2.mono (by omega))).trans (hb3.mono (by have := hb2.size; omega))).trans (hb4.mono (by have := hb2.size; have := hb3.size; omega))⟩
  · simp only [DD.enc, if_neg hx] at h1
    have h3 : ∃ q : ByteArray × Int, ∀ w, Calls Try.prog 9 #[.agg #[.int .i64 k', .int .i64 d', .int .i64 t', .string n', .string a', .bool is', .int .i64 s']] w fun e w' => e = .returned (.tuple #[.string q.1, .int .i64 q.2]) ∧ Below w.heap.size w w' := ⟨_, h2⟩
    obtain ⟨⟨q1, q2⟩, h3⟩ := h3
    have H1 := Lib.hid h1
    have H2 := Lib.hid h3
    clear h1 h2 h3 hx
    go_enter Try.func3, Try.ntmps3
    go_wp2_with fail
    refine (H1.out _).mono ?_
    rintro e w1 ⟨rfl, hb1⟩
    obtain ⟨x1, y1⟩ := bcell hb1
    have z1 : w.heap.size < w1.heap.size := by have := hb1.size; simp at this; omega
    have z1' : w.heap.size + 1 < w1.heap.size := by have := hb1.size; simp at this; omega
    go_wp2_with fail
    refine (H2.out _).mono ?_
    rintro e w2 ⟨rfl, hb2⟩
    go_wp2_with fail
    refine (awake_any _).mono ?_
    rintro e w3 ⟨rfl, hb3⟩
    go_wp2_with fail
    refine (awake_any _).mono ?_
    rintro e w4 ⟨rfl, hb4⟩
    go_wp2_with fail
    go_ret
    have B0 := ((Below.refl w.heap.size w).alloc (Nat.le_refl _) (.cells #[.int .i64 k, .int .i64 d, .int .i64 t, .string n, .string a, .bool is, .int .i64 s] 23)).alloc (by simp) (.cells #[.int .i64 k', .int .i64 d', .int .i64 t', .string n', .string a', .bool is', .int .i64 s'] 23)
    have B1 := B0.trans (hb1.mono (by simp; omega))
    exact ⟨rfl, ((B1.trans (hb2.mono (by omega))).trans (hb3.mono (by have := hb2.size; omega))).trans (hb4.mono (by have := hb2.size; have := hb3.size; omega))⟩
end Go.Proofs.Ytepjflepnkfboaa
