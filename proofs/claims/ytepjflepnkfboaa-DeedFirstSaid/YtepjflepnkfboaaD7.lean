/- deed: Decode, of what is no move. -/
import Derived.Test.YtepjflepnkfboaaD6
namespace Go.Proofs.Ytepjflepnkfboaa
open Go.RowKit
set_option linter.unusedSimpArgs false
set_option maxHeartbeats 2000000 in
theorem decode_link (b : ByteArray) (w : World) (hb : b.size ≤ maxLen) (k d f s : Nat) (n : ByteArray) (r1 r2 r3 r4 r5 : RD)
    (h1 : (RD.mk b false).num 1 = (k, r1)) (h2 : r1.num 2 = (d, r2)) (h3 : r2.name = (n, r3)) (h4 : r3.num 1 = (f, r4)) (h5 : r4.num 4 = (s, r5)) (hk3 : ((k : Int) == 3) = false) (hk2 : ((k : Int) != 2) = true) :
    Calls Try.prog 15 #[.string b] w fun e w' => e = .returned (.tuple #[.agg (decD b).1.cells, .int .i64 (decD b).2]) ∧ Below w.heap.size w w' := by
  have z1 := RD.num_size (RD.mk b false) 1
  have z2 := RD.num_size r1 2
  have z3 := RD.name_size r2
  have z4 := RD.num_size r3 1
  rw [h1] at z1; rw [h2] at z2; rw [h3] at z3; rw [h4] at z4
  have hdec : dec b = (⟨k, d, 0, n, ⟨#[]⟩, ((f : Int) == 1), s⟩, r5) := by
    have e3 : k ≠ 3 := by intro h; subst h; simp at hk3
    have e2 : k ≠ 2 := by intro h; subst h; simp at hk2
    have ef : decide (f = 1) = ((f : Int) == 1) := by rw [Bool.eq_iff_iff]; simp; omega
    unfold dec; simp only [h1, h2, h3, h4, h5, if_neg e3, if_neg e2, ef]
  have Hdec := Lib.hid hdec
  have bd : d ≤ 4294967295 := by have := RD.num_le r1 2 (by decide); rw [h2] at this; exact this
  have bk : k ≤ 4294967295 := by have := RD.num_le (RD.mk b false) 1 (by decide); rw [h1] at this; exact this
  have bf : f ≤ 4294967295 := by have := RD.num_le r3 1 (by decide); rw [h4] at this; exact this
  have bs : s ≤ 4294967295 := by have := RD.num_le r4 4 (by decide); rw [h5] at this; exact this
  have H1 := Lib.hid (num_of _ _ 1 _ h1 (by decide) hb)
  have H2 := Lib.hid (num_of _ _ 2 _ h2 (by decide) (by dsimp only at z1; omega))
  have H3 := Lib.hid (name_of _ _ _ h3 (by dsimp only at *; omega))
  have H4 := Lib.hid (num_of _ _ 1 _ h4 (by decide) (by dsimp only at *; omega))
  have H5 := Lib.hid (num_of _ _ 4 _ h5 (by decide) (by dsimp only at *; omega))
  clear h1 h2 h3 h4 h5 z1 z2 z3 z4 hdec
  go_enter Try.func15, Try.ntmps15
  go_wp2_with fail
  refine (H1.out (w.heap.size + 1) _ (alloc_at _ _ _ (by simp))).mono ?_
  rintro e w1 ⟨rfl, hr1, hg1⟩
  go_wp2_with fail
  refine (H2.out (w.heap.size + 1) _ hr1).mono ?_
  rintro e w2 ⟨rfl, hr2, hg2⟩
  go_wp2_with fail
  refine (H3.out (w.heap.size + 1) _ hr2).mono ?_
  rintro e w3 ⟨rfl, hr3, hg3⟩
  have hg := grown_trans (grown_trans hg1 hg2) hg3
  have hz3 := hg.size
  simp only [World.size_alloc] at hz3
  have hres : w3.heap[w.heap.size]? = some (.cells dzero 23 (0, 0)) := grown_blk hg (alloc_old _ (alloc_at _ _ _ rfl)) (by omega)
  have hb0 : Below w.heap.size w w3 := Below.trans (((Below.refl _ _).alloc (Nat.le_refl _) _).alloc (by simp) _) (grown_lift hg (by omega) (by simp; omega))
  clear hg hg1 hg2 hg3 hr1 hr2
  go_wp2_with fail
  generalize hW : w3.alloc (Obj.cells #[.int .i64 k, .int .i64 d, .int .i64 0, .string n, .string ⟨#[]⟩, .bool false, .int .i64 0] 23) = W4
  have hd4 : W4.heap[w3.heap.size]? = some (.cells #[.int .i64 k, .int .i64 d, .int .i64 0, .string n, .string ⟨#[]⟩, .bool false, .int .i64 0] 23 (0, 0)) := by rw [← hW]; exact alloc_at _ _ _ rfl
  have hres4 : W4.heap[w.heap.size]? = some (.cells dzero 23 (0, 0)) := by rw [← hW]; exact alloc_old _ hres
  have hr4 : RDAt W4 (w.heap.size + 1) r3 := by rw [← hW]; exact alloc_old _ hr3
  have hb4 : Below w.heap.size w W4 := by rw [← hW]; exact hb0.alloc (by omega) _
  have hz4 : w3.heap.size < W4.heap.size := by rw [← hW]; simp
  clear hres hr3 hb0 hW
  refine (H4.out (w.heap.size + 1) _ hr4).mono ?_
  rintro e w5 ⟨rfl, hr5, hg5⟩
  have hd6 := grown_blk hg5 hd4 (by omega)
  have hres6 := grown_blk hg5 hres4 (by omega)
  have hb6 := hb4.trans (grown_lift hg5 (B := w.heap.size) (by omega) (by omega))
  have hz6 : w3.heap.size < w5.heap.size := by have := hg5.size; omega
  obtain ⟨hc6, hf6⟩ := blk_cells hd6
  clear hg5 hd4 hres4 hb4 hr4
  go_wp2_with fail
  generalize hW : w5.setCell ⟨w3.heap.size, 5, none⟩ (.bool (((f : Int) == 1))) = W7
  have hd7 : W7.heap[w3.heap.size]? = some (.cells #[.int .i64 k, .int .i64 d, .int .i64 0, .string n, .string ⟨#[]⟩, .bool (((f : Int) == 1)), .int .i64 0] 23 (0, 0)) := by rw [← hW]; exact blk_set hd6 _ _
  have hres7 : W7.heap[w.heap.size]? = some (.cells dzero 23 (0, 0)) := by rw [← hW]; exact blk_set_ne hres6 _ _ _ (by omega)
  have hr7 : RDAt W7 (w.heap.size + 1) r4 := by rw [← hW]; exact blk_set_ne hr5 _ _ _ (by omega)
  have hb7 : Below w.heap.size w W7 := by rw [← hW]; exact hb6.setCell (by simp; omega) _
  have hz7 : w3.heap.size < W7.heap.size := by rw [← hW]; simpa [World.setCell] using hz6
  clear hW hd6 hc6 hf6 hres6 hr5 hb6
  refine (H5.out (w.heap.size + 1) _ hr7).mono ?_
  rintro e w8 ⟨rfl, hr8, hg8⟩
  have hd8 := grown_blk hg8 hd7 (by omega)
  have hres8 := grown_blk hg8 hres7 (by omega)
  have hb8 := hb7.trans (grown_lift hg8 (B := w.heap.size) (by omega) (by omega))
  have hz8 : w3.heap.size < w8.heap.size := by have := hg8.size; omega
  obtain ⟨hc8, hf8⟩ := blk_cells hd8
  clear hg8 hr7 hd7 hres7 hb7
  go_upto_region 8 with (fail)
  generalize hW : w8.setCell ⟨w3.heap.size, 6, none⟩ (.int .i64 s) = W9
  have hd9 : W9.heap[w3.heap.size]? = some (.cells #[.int .i64 k, .int .i64 d, .int .i64 0, .string n, .string ⟨#[]⟩, .bool (((f : Int) == 1)), .int .i64 s] 23 (0, 0)) := by rw [← hW]; exact blk_set hd8 _ _
  have hres9 : W9.heap[w.heap.size]? = some (.cells dzero 23 (0, 0)) := by rw [← hW]; exact blk_set_ne hres8 _ _ _ (by omega)
  have hr9 : RDAt W9 (w.heap.size + 1) r5 := by rw [← hW]; exact blk_set_ne hr8 _ _ _ (by omega)
  have hb9 : Below w.heap.size w W9 := by rw [← hW]; exact hb8.setCell (by simp; omega) _
  have hz9 : w3.heap.size < W9.heap.size := by rw [← hW]; simpa [World.setCell] using hz8
  have hlow : w.heap.size < W9.heap.size := by omega
  clear hW hd8 hc8 hf8 hres8 hr8 hb8 hz8 hz7 hz6 hz4 H1 H2 H3 H4 H5
  obtain ⟨rb, rbad⟩ := r5
  have hbad := hr9.c1
  dsimp only at hbad
  obtain ⟨hc9, hf9⟩ := blk_cells hd9
  obtain ⟨hcr, hfr⟩ := blk_cells hres9
  cases rbad
  · by_cases hm : (DD.mk k d 0 n ⟨#[]⟩ (((f : Int) == 1)) s).may
    · have hf : ∀ w, Calls Try.prog 27 #[.agg #[.int .i64 k, .int .i64 d, .int .i64 0, .string n, .string ⟨#[]⟩, .bool (((f : Int) == 1)), .int .i64 s]] w fun e w' => e = .returned (.bool true) ∧ Below w.heap.size w w' := fun w => (formed_any k d 0 s n ⟨#[]⟩ (((f : Int) == 1)) w).mono fun e w' ⟨h1, h2⟩ => ⟨by rw [h1, decide_eq_true hm], h2⟩
      have Hf := Lib.hid hf
      have Hm := Lib.hid hm
      clear hf hm
      by_cases he : (⟨(DD.mk k d 0 n ⟨#[]⟩ (((f : Int) == 1)) s).bytes.toArray⟩ : ByteArray) = b
      · have hans : decD b = (⟨k, d, 0, n, ⟨#[]⟩, ((f : Int) == 1), s⟩, 0) := by
          unfold decD; rw [Hdec.out, if_pos ⟨rfl, Hm.out, by rw [← he]⟩]
        subst he
        have Hans := Lib.hid hans
        clear hans
        go_wp2_with (first
          | (go_at_call 27; refine (Hf.out _).mono ?_; rintro e v1 ⟨rfl, q1⟩; obtain ⟨x1, y1⟩ := bcell q1; have l1 : w3.heap.size < v1.heap.size := (by have := q1.size; omega); have l2 : w.heap.size < v1.heap.size := (by have := q1.size; omega))
          | (go_at_call 28; refine (bytes_any ⟨k, d, 0, n, ⟨#[]⟩, ((f : Int) == 1), s⟩ Hm.out _).mono ?_; rintro e v2 ⟨rfl, q2⟩; obtain ⟨x2, y2⟩ := bcell q2))
        refine bodyPost_ret (v := .tuple #[.agg #[.int .i64 k, .int .i64 d, .int .i64 0, .string n, .string ⟨#[]⟩, .bool (((f : Int) == 1)), .int .i64 s], .int .i64 0]) ?_ rfl ⟨?_, ?_⟩
        · simp [results, Try.results15, go_sem, x2, x1, hcr, l2, hlow]
        · rw [Hans.out]
        · refine ((((((Below.trans hb9 (q1.mono (by omega))).trans (q2.mono (by omega))).setCell ?_ _).setCell ?_ _).setCell ?_ _).setCell ?_ _ |>.setCell ?_ _ |>.setCell ?_ _).setCell ?_ _ <;> exact Nat.le_refl _
      · have hne : (!(DD.mk k d 0 n ⟨#[]⟩ (((f : Int) == 1)) s).bytes == b.toList) = true := by
          rw [Bool.not_eq_true', beq_eq_false_iff_ne]; intro h; exact he (by rw [h, ByteArray.toList_eq])
        have hans : decD b = (⟨0, 0, 0, ⟨#[]⟩, ⟨#[]⟩, false, 0⟩, 2) := by
          unfold decD; rw [Hdec.out, if_neg]; rintro ⟨_, _, h⟩; exact he (by rw [h])
        have Hans := Lib.hid hans
        clear hans
        go_wp2_with (first
          | (go_at_call 27; refine (Hf.out _).mono ?_; rintro e v1 ⟨rfl, q1⟩; obtain ⟨x1, y1⟩ := bcell q1; have l1 : w3.heap.size < v1.heap.size := (by have := q1.size; omega); have l2 : w.heap.size < v1.heap.size := (by have := q1.size; omega))
          | (go_at_call 28; refine (bytes_any ⟨k, d, 0, n, ⟨#[]⟩, ((f : Int) == 1), s⟩ Hm.out _).mono ?_; rintro e v2 ⟨rfl, q2⟩; obtain ⟨x2, y2⟩ := bcell q2))
        refine bodyPost_ret (v := .tuple #[.agg #[.int .i64 0, .int .i64 0, .int .i64 0, .string ⟨#[]⟩, .string ⟨#[]⟩, .bool false, .int .i64 0], .int .i64 2]) ?_ rfl ⟨?_, ?_⟩
        · simp [results, Try.results15, go_sem, x2, x1, hcr, l2, hlow]
        · rw [Hans.out]
        · refine ((((((((hb9.trans (q1.mono (by omega))).trans (q2.mono (by omega))).setCell ?_ _).setCell ?_ _).setCell ?_ _).setCell ?_ _).setCell ?_ _).setCell ?_ _).setCell ?_ _ <;> exact Nat.le_refl _
    · have hf : ∀ w, Calls Try.prog 27 #[.agg #[.int .i64 k, .int .i64 d, .int .i64 0, .string n, .string ⟨#[]⟩, .bool (((f : Int) == 1)), .int .i64 s]] w fun e w' => e = .returned (.bool false) ∧ Below w.heap.size w w' := fun w => (formed_any k d 0 s n ⟨#[]⟩ (((f : Int) == 1)) w).mono fun e w' ⟨h1, h2⟩ => ⟨by rw [h1, decide_eq_false hm], h2⟩
      have Hf := Lib.hid hf
      have hans : decD b = (⟨0, 0, 0, ⟨#[]⟩, ⟨#[]⟩, false, 0⟩, 2) := by
        unfold decD; rw [Hdec.out, if_neg]; rintro ⟨_, h, _⟩; exact hm h
      have Hans := Lib.hid hans
      clear hans hf hm
      go_wp2_with (go_at_call 27; refine (Hf.out _).mono ?_; rintro e v1 ⟨rfl, q1⟩; obtain ⟨x1, y1⟩ := bcell q1; have l1 : w3.heap.size < v1.heap.size := (by have := q1.size; omega); have l2 : w.heap.size < v1.heap.size := (by have := q1.size; omega))
      refine bodyPost_ret (v := .tuple #[.agg #[.int .i64 0, .int .i64 0, .int .i64 0, .string ⟨#[]⟩, .string ⟨#[]⟩, .bool false, .int .i64 0], .int .i64 2]) ?_ rfl ⟨?_, ?_⟩
      · simp [results, Try.results15, go_sem, x1, hcr, hlow]
      · rw [Hans.out]
      · refine (((((((hb9.trans (q1.mono (by omega))).setCell ?_ _).setCell ?_ _).setCell ?_ _).setCell ?_ _).setCell ?_ _).setCell ?_ _).setCell ?_ _ <;> exact Nat.le_refl _
  · have hans : decD b = (⟨0, 0, 0, ⟨#[]⟩, ⟨#[]⟩, false, 0⟩, 2) := by
      unfold decD; rw [Hdec.out, if_neg]; rintro ⟨h, _, _⟩; cases h
    have Hans := Lib.hid hans
    clear hans
    go_wp2
    refine bodyPost_ret (v := .tuple #[.agg #[.int .i64 0, .int .i64 0, .int .i64 0, .string ⟨#[]⟩, .string ⟨#[]⟩, .bool false, .int .i64 0], .int .i64 2]) ?_ rfl ⟨?_, ?_⟩
    · simp [results, Try.results15, go_sem, hcr]
    · rw [Hans.out]
    · refine (((((((hb9).setCell ?_ _).setCell ?_ _).setCell ?_ _).setCell ?_ _).setCell ?_ _).setCell ?_ _).setCell ?_ _ <;> exact Nat.le_refl _
set_option maxHeartbeats 2000000 in
theorem decode_unlink (b : ByteArray) (w : World) (hb : b.size ≤ maxLen) (k d f : Nat) (n : ByteArray) (r1 r2 r3 r4 : RD)
    (h1 : (RD.mk b false).num 1 = (k, r1)) (h2 : r1.num 2 = (d, r2)) (h3 : r2.name = (n, r3)) (h4 : r3.num 1 = (f, r4)) (hk3 : ((k : Int) == 3) = false) (hk2 : ((k : Int) != 2) = false) :
    Calls Try.prog 15 #[.string b] w fun e w' => e = .returned (.tuple #[.agg (decD b).1.cells, .int .i64 (decD b).2]) ∧ Below w.heap.size w w' := by
  have z1 := RD.num_size (RD.mk b false) 1
  have z2 := RD.num_size r1 2
  have z3 := RD.name_size r2
  have z4 := RD.num_size r3 1
  rw [h1] at z1; rw [h2] at z2; rw [h3] at z3; rw [h4] at z4
  have hdec : dec b = (⟨k, d, 0, n, ⟨#[]⟩, ((f : Int) == 1), 0⟩, r4) := by
    have e2 : k = 2 := by have : (k : Int) = 2 := by simpa using hk2
                          omega
    have ef : decide (f = 1) = ((f : Int) == 1) := by rw [Bool.eq_iff_iff]; simp; omega
    unfold dec; simp only [h1, h2, h3, h4, if_neg (show ¬ k = 3 by omega), if_pos e2, ef]
  have Hdec := Lib.hid hdec
  have bd : d ≤ 4294967295 := by have := RD.num_le r1 2 (by decide); rw [h2] at this; exact this
  have bk : k ≤ 4294967295 := by have := RD.num_le (RD.mk b false) 1 (by decide); rw [h1] at this; exact this
  have bf : f ≤ 4294967295 := by have := RD.num_le r3 1 (by decide); rw [h4] at this; exact this
  have H1 := Lib.hid (num_of _ _ 1 _ h1 (by decide) hb)
  have H2 := Lib.hid (num_of _ _ 2 _ h2 (by decide) (by dsimp only at z1; omega))
  have H3 := Lib.hid (name_of _ _ _ h3 (by dsimp only at *; omega))
  have H4 := Lib.hid (num_of _ _ 1 _ h4 (by decide) (by dsimp only at *; omega))
  clear h1 h2 h3 h4 z1 z2 z3 z4 hdec
  go_enter Try.func15, Try.ntmps15
  go_wp2_with fail
  refine (H1.out (w.heap.size + 1) _ (alloc_at _ _ _ (by simp))).mono ?_
  rintro e w1 ⟨rfl, hr1, hg1⟩
  go_wp2_with fail
  refine (H2.out (w.heap.size + 1) _ hr1).mono ?_
  rintro e w2 ⟨rfl, hr2, hg2⟩
  go_wp2_with fail
  refine (H3.out (w.heap.size + 1) _ hr2).mono ?_
  rintro e w3 ⟨rfl, hr3, hg3⟩
  have hg := grown_trans (grown_trans hg1 hg2) hg3
  have hz3 := hg.size
  simp only [World.size_alloc] at hz3
  have hres : w3.heap[w.heap.size]? = some (.cells dzero 23 (0, 0)) := grown_blk hg (alloc_old _ (alloc_at _ _ _ rfl)) (by omega)
  have hb0 : Below w.heap.size w w3 := Below.trans (((Below.refl _ _).alloc (Nat.le_refl _) _).alloc (by simp) _) (grown_lift hg (by omega) (by simp; omega))
  clear hg hg1 hg2 hg3 hr1 hr2
  go_wp2_with fail
  generalize hW : w3.alloc (Obj.cells #[.int .i64 k, .int .i64 d, .int .i64 0, .string n, .string ⟨#[]⟩, .bool false, .int .i64 0] 23) = W4
  have hd4 : W4.heap[w3.heap.size]? = some (.cells #[.int .i64 k, .int .i64 d, .int .i64 0, .string n, .string ⟨#[]⟩, .bool false, .int .i64 0] 23 (0, 0)) := by rw [← hW]; exact alloc_at _ _ _ rfl
  have hres4 : W4.heap[w.heap.size]? = some (.cells dzero 23 (0, 0)) := by rw [← hW]; exact alloc_old _ hres
  have hr4 : RDAt W4 (w.heap.size + 1) r3 := by rw [← hW]; exact alloc_old _ hr3
  have hb4 : Below w.heap.size w W4 := by rw [← hW]; exact hb0.alloc (by omega) _
  have hz4 : w3.heap.size < W4.heap.size := by rw [← hW]; simp
  clear hres hr3 hb0 hW
  refine (H4.out (w.heap.size + 1) _ hr4).mono ?_
  rintro e w5 ⟨rfl, hr5, hg5⟩
  have hd8 := grown_blk hg5 hd4 (by omega)
  have hres8 := grown_blk hg5 hres4 (by omega)
  have hb8 := hb4.trans (grown_lift hg5 (B := w.heap.size) (by omega) (by omega))
  have hz8 : w3.heap.size < w5.heap.size := by have := hg5.size; omega
  obtain ⟨hc8, hf8⟩ := blk_cells hd8
  have hr8 := hr5
  clear hg5 hd4 hres4 hb4 hr4 hr5
  go_upto_region 8 with (fail)
  generalize hW : w5.setCell ⟨w3.heap.size, 5, none⟩ (.bool (((f : Int) == 1))) = W9
  have hd9 : W9.heap[w3.heap.size]? = some (.cells #[.int .i64 k, .int .i64 d, .int .i64 0, .string n, .string ⟨#[]⟩, .bool (((f : Int) == 1)), .int .i64 0] 23 (0, 0)) := by rw [← hW]; exact blk_set hd8 _ _
  have hres9 : W9.heap[w.heap.size]? = some (.cells dzero 23 (0, 0)) := by rw [← hW]; exact blk_set_ne hres8 _ _ _ (by omega)
  have hr9 : RDAt W9 (w.heap.size + 1) r4 := by rw [← hW]; exact blk_set_ne hr8 _ _ _ (by omega)
  have hb9 : Below w.heap.size w W9 := by rw [← hW]; exact hb8.setCell (by simp; omega) _
  have hz9 : w3.heap.size < W9.heap.size := by rw [← hW]; simpa [World.setCell] using hz8
  have hlow : w.heap.size < W9.heap.size := by omega
  clear hW hd8 hc8 hf8 hres8 hr8 hb8 hz8 hz4 H1 H2 H3 H4
  obtain ⟨rb, rbad⟩ := r4
  have hbad := hr9.c1
  dsimp only at hbad
  obtain ⟨hc9, hf9⟩ := blk_cells hd9
  obtain ⟨hcr, hfr⟩ := blk_cells hres9
  cases rbad
  · by_cases hm : (DD.mk k d 0 n ⟨#[]⟩ (((f : Int) == 1)) 0).may
    · have hf : ∀ w, Calls Try.prog 27 #[.agg #[.int .i64 k, .int .i64 d, .int .i64 0, .string n, .string ⟨#[]⟩, .bool (((f : Int) == 1)), .int .i64 0]] w fun e w' => e = .returned (.bool true) ∧ Below w.heap.size w w' := fun w => (formed_any k d 0 0 n ⟨#[]⟩ (((f : Int) == 1)) w).mono fun e w' ⟨h1, h2⟩ => ⟨by rw [h1, decide_eq_true hm], h2⟩
      have Hf := Lib.hid hf
      have Hm := Lib.hid hm
      clear hf hm
      by_cases he : (⟨(DD.mk k d 0 n ⟨#[]⟩ (((f : Int) == 1)) 0).bytes.toArray⟩ : ByteArray) = b
      · have hans : decD b = (⟨k, d, 0, n, ⟨#[]⟩, ((f : Int) == 1), 0⟩, 0) := by
          unfold decD; rw [Hdec.out, if_pos ⟨rfl, Hm.out, by rw [← he]⟩]
        subst he
        have Hans := Lib.hid hans
        clear hans
        go_wp2_with (first
          | (go_at_call 27; refine (Hf.out _).mono ?_; rintro e v1 ⟨rfl, q1⟩; obtain ⟨x1, y1⟩ := bcell q1; have l1 : w3.heap.size < v1.heap.size := (by have := q1.size; omega); have l2 : w.heap.size < v1.heap.size := (by have := q1.size; omega))
          | (go_at_call 28; refine (bytes_any ⟨k, d, 0, n, ⟨#[]⟩, ((f : Int) == 1), 0⟩ Hm.out _).mono ?_; rintro e v2 ⟨rfl, q2⟩; obtain ⟨x2, y2⟩ := bcell q2))
        refine bodyPost_ret (v := .tuple #[.agg #[.int .i64 k, .int .i64 d, .int .i64 0, .string n, .string ⟨#[]⟩, .bool (((f : Int) == 1)), .int .i64 0], .int .i64 0]) ?_ rfl ⟨?_, ?_⟩
        · simp [results, Try.results15, go_sem, x2, x1, hcr, l2, hlow]
        · rw [Hans.out]
        · refine ((((((Below.trans hb9 (q1.mono (by omega))).trans (q2.mono (by omega))).setCell ?_ _).setCell ?_ _).setCell ?_ _).setCell ?_ _ |>.setCell ?_ _ |>.setCell ?_ _).setCell ?_ _ <;> exact Nat.le_refl _
      · have hne : (!(DD.mk k d 0 n ⟨#[]⟩ (((f : Int) == 1)) 0).bytes == b.toList) = true := by
          rw [Bool.not_eq_true', beq_eq_false_iff_ne]; intro h; exact he (by rw [h, ByteArray.toList_eq])
        have hans : decD b = (⟨0, 0, 0, ⟨#[]⟩, ⟨#[]⟩, false, 0⟩, 2) := by
          unfold decD; rw [Hdec.out, if_neg]; rintro ⟨_, _, h⟩; exact he (by rw [h])
        have Hans := Lib.hid hans
        clear hans
        go_wp2_with (first
          | (go_at_call 27; refine (Hf.out _).mono ?_; rintro e v1 ⟨rfl, q1⟩; obtain ⟨x1, y1⟩ := bcell q1; have l1 : w3.heap.size < v1.heap.size := (by have := q1.size; omega); have l2 : w.heap.size < v1.heap.size := (by have := q1.size; omega))
          | (go_at_call 28; refine (bytes_any ⟨k, d, 0, n, ⟨#[]⟩, ((f : Int) == 1), 0⟩ Hm.out _).mono ?_; rintro e v2 ⟨rfl, q2⟩; obtain ⟨x2, y2⟩ := bcell q2))
        refine bodyPost_ret (v := .tuple #[.agg #[.int .i64 0, .int .i64 0, .int .i64 0, .string ⟨#[]⟩, .string ⟨#[]⟩, .bool false, .int .i64 0], .int .i64 2]) ?_ rfl ⟨?_, ?_⟩
        · simp [results, Try.results15, go_sem, x2, x1, hcr, l2, hlow]
        · rw [Hans.out]
        · refine ((((((((hb9.trans (q1.mono (by omega))).trans (q2.mono (by omega))).setCell ?_ _).setCell ?_ _).setCell ?_ _).setCell ?_ _).setCell ?_ _).setCell ?_ _).setCell ?_ _ <;> exact Nat.le_refl _
    · have hf : ∀ w, Calls Try.prog 27 #[.agg #[.int .i64 k, .int .i64 d, .int .i64 0, .string n, .string ⟨#[]⟩, .bool (((f : Int) == 1)), .int .i64 0]] w fun e w' => e = .returned (.bool false) ∧ Below w.heap.size w w' := fun w => (formed_any k d 0 0 n ⟨#[]⟩ (((f : Int) == 1)) w).mono fun e w' ⟨h1, h2⟩ => ⟨by rw [h1, decide_eq_false hm], h2⟩
      have Hf := Lib.hid hf
      have hans : decD b = (⟨0, 0, 0, ⟨#[]⟩, ⟨#[]⟩, false, 0⟩, 2) := by
        unfold decD; rw [Hdec.out, if_neg]; rintro ⟨_, h, _⟩; exact hm h
      have Hans := Lib.hid hans
      clear hans hf hm
      go_wp2_with (go_at_call 27; refine (Hf.out _).mono ?_; rintro e v1 ⟨rfl, q1⟩; obtain ⟨x1, y1⟩ := bcell q1; have l1 : w3.heap.size < v1.heap.size := (by have := q1.size; omega); have l2 : w.heap.size < v1.heap.size := (by have := q1.size; omega))
      refine bodyPost_ret (v := .tuple #[.agg #[.int .i64 0, .int .i64 0, .int .i64 0, .string ⟨#[]⟩, .string ⟨#[]⟩, .bool false, .int .i64 0], .int .i64 2]) ?_ rfl ⟨?_, ?_⟩
      · simp [results, Try.results15, go_sem, x1, hcr, hlow]
      · rw [Hans.out]
      · refine (((((((hb9.trans (q1.mono (by omega))).setCell ?_ _).setCell ?_ _).setCell ?_ _).setCell ?_ _).setCell ?_ _).setCell ?_ _).setCell ?_ _ <;> exact Nat.le_refl _
  · have hans : decD b = (⟨0, 0, 0, ⟨#[]⟩, ⟨#[]⟩, false, 0⟩, 2) := by
      unfold decD; rw [Hdec.out, if_neg]; rintro ⟨h, _, _⟩; cases h
    have Hans := Lib.hid hans
    clear hans
    go_wp2
    refine bodyPost_ret (v := .tuple #[.agg #[.int .i64 0, .int .i64 0, .int .i64 0, .string ⟨#[]⟩, .string ⟨#[]⟩, .bool false, .int .i64 0], .int .i64 2]) ?_ rfl ⟨?_, ?_⟩
    · simp [results, Try.results15, go_sem, hcr]
    · rw [Hans.out]
    · refine (((((((hb9).setCell ?_ _).setCell ?_ _).setCell ?_ _).setCell ?_ _).setCell ?_ _).setCell ?_ _).setCell ?_ _ <;> exact Nat.le_refl _
end Go.Proofs.Ytepjflepnkfboaa
