/- deed: Decode. -/
import Derived.Test.YtepjflepnkfboaaD5
import Derived.Deep.CutBlock
import Derived.Deep.DeepCutAuto
namespace Go.Proofs.Ytepjflepnkfboaa
open Go.RowKit
set_option linter.unusedSimpArgs false
/-- A contract of the reader's number, with the answer named. -/
theorem num_of (r r' : RD) (n m : Nat) (h : r.num n = (m, r')) (hn : n ≤ 4) (hb : r.b.size ≤ maxLen) (g : Nat) (w : World) (hr : RDAt w g r) :
    Calls Try.prog 33 #[.pointer (some ⟨g, 0, none⟩), .int .i64 n] w fun e w' => e = .returned (.int .i64 m) ∧ RDAt w' g r' ∧ w.grownBy w' (some g) := by
  have := num_any r g n w hr hn hb
  rw [h] at this; exact this
theorem name_of (r r' : RD) (s : ByteArray) (h : r.name = (s, r')) (hb : r.b.size ≤ maxLen) (g : Nat) (w : World) (hr : RDAt w g r) :
    Calls Try.prog 34 #[.pointer (some ⟨g, 0, none⟩)] w fun e w' => e = .returned (.string s) ∧ RDAt w' g r' ∧ w.grownBy w' (some g) := by
  have := rname_any r g w hr hb
  rw [h] at this; exact this
/-- A cell of another block stays. -/
theorem grown_cell {w w' : World} {g b o : Nat} {v : Value} (h : w.grownBy w' (some g)) (hc : w.cell? ⟨b, o, none⟩ = some v) (hne : b ≠ g) : w'.cell? ⟨b, o, none⟩ = some v :=
  h.cell hc (by simpa using hne)
theorem alloc_at (w : World) (o : Obj) (n : Nat) (h : w.heap.size = n) : (w.alloc o).heap[n]? = some o := by subst h; exact heap_alloc_new w o
theorem blk_cells {w : World} {b : Nat} {cs : Array Value} {t : TypeId} (h : w.heap[b]? = some (.cells cs t (0, 0))) : (∀ o, w.cell? ⟨b, o, none⟩ = cs[o]?) ∧ (∀ o, w.frozen? ⟨b, o, none⟩ = false) :=
  ⟨fun o => by simp [World.cell?, h], fun o => by simp [World.frozen?, h]⟩
theorem grown_blk {w w' : World} {g b : Nat} {o : Obj} (h : w.grownBy w' (some g)) (hb : w.heap[b]? = some o) (hne : b ≠ g) : w'.heap[b]? = some o := by
  have hlt : b < w.heap.size := by
    rcases Nat.lt_or_ge b w.heap.size with h' | h'
    · exact h'
    · rw [Array.getElem?_eq_none h'] at hb; cases hb
  rw [h.block b hlt (by simpa using hne)]; exact hb
theorem alloc_old {w : World} {b : Nat} {x : Obj} (o : Obj) (hb : w.heap[b]? = some x) : (w.alloc o).heap[b]? = some x := by
  have hlt : b < w.heap.size := by
    rcases Nat.lt_or_ge b w.heap.size with h' | h'
    · exact h'
    · rw [Array.getElem?_eq_none h'] at hb; cases hb
  rw [Below.heap_alloc _ _ _ hlt]; exact hb
theorem blk_set {w : World} {b : Nat} {cs : Array Value} {t : TypeId} (h : w.heap[b]? = some (.cells cs t (0, 0))) (o : Nat) (v : Value) : (w.setCell ⟨b, o, none⟩ v).heap[b]? = some (.cells (cs.setIfInBounds o v) t (0, 0)) := by
  simp [World.setCell, Array.getElem?_modify, h]
theorem blk_set_ne {w : World} {b : Nat} {x : Obj} (h : w.heap[b]? = some x) (g o : Nat) (v : Value) (hne : b ≠ g) : (w.setCell ⟨g, o, none⟩ v).heap[b]? = some x := by
  rw [Below.heap_setCell _ _ _ _ hne]; exact h
/-- A deed's block of noughts. -/
@[reducible] def dzero : Array Value := #[.int .i64 0, .int .i64 0, .int .i64 0, .string ⟨#[]⟩, .string ⟨#[]⟩, .bool false, .int .i64 0]
set_option maxHeartbeats 2000000 in
theorem decode_move (b : ByteArray) (w : World) (hb : b.size ≤ maxLen) (k d t s : Nat) (n a : ByteArray) (r1 r2 r3 r4 r5 r6 : RD)
    (h1 : (RD.mk b false).num 1 = (k, r1)) (h2 : r1.num 2 = (d, r2)) (h3 : r2.name = (n, r3)) (h4 : r3.num 2 = (t, r4)) (h5 : r4.name = (a, r5)) (h6 : r5.num 4 = (s, r6)) (hk : k = 3) :
    Calls Try.prog 15 #[.string b] w fun e w' => e = .returned (.tuple #[.agg (decD b).1.cells, .int .i64 (decD b).2]) ∧ Below w.heap.size w w' := by
  have z1 := RD.num_size (RD.mk b false) 1
  have z2 := RD.num_size r1 2
  have z3 := RD.name_size r2
  have z4 := RD.num_size r3 2
  have z5 := RD.name_size r4
  rw [h1] at z1; rw [h2] at z2; rw [h3] at z3; rw [h4] at z4; rw [h5] at z5
  have hdec : dec b = (⟨k, d, t, n, a, false, s⟩, r6) := by
    unfold dec; simp only [h1, h2, h3, h4, h5, h6, hk, if_true]
  have Hdec := Lib.hid hdec
  have bd : d ≤ 4294967295 := by have := RD.num_le r1 2 (by decide); rw [h2] at this; exact this
  have bt : t ≤ 4294967295 := by have := RD.num_le r3 2 (by decide); rw [h4] at this; exact this
  have bs : s ≤ 4294967295 := by have := RD.num_le r5 4 (by decide); rw [h6] at this; exact this
  have H1 := Lib.hid (num_of _ _ 1 _ h1 (by decide) hb)
  have H2 := Lib.hid (num_of _ _ 2 _ h2 (by decide) (by dsimp only at z1; omega))
  have H3 := Lib.hid (name_of _ _ _ h3 (by dsimp only at *; omega))
  have H4 := Lib.hid (num_of _ _ 2 _ h4 (by decide) (by dsimp only at *; omega))
  have H5 := Lib.hid (name_of _ _ _ h5 (by dsimp only at *; omega))
  have H6 := Lib.hid (num_of _ _ 4 _ h6 (by decide) (by dsimp only at *; omega))
  clear h1 h2 h3 h4 h5 h6 z1 z2 z3 z4 z5 hdec
  subst hk
  go_enter Try.func15, Try.ntmps15
  go_wp2_with fail
  refine (H1.out (w.heap.size + 1) _ (alloc_at _ _ _ (by simp))).mono ?_
  rintro e w1 ⟨rfl, hr1, hg1⟩
  go_wp2_with fail
  refine (H2.out (w.heap.size + 1) _ hr1).mono ?_
  rintro e w2 ⟨rfl, hr2, hg2⟩
  go_wp2_with fail
  refine (H3.out (w.heap.size + 1) _ hr2).mono ?_
  rintro e w3 ⟨rfl, hr3, hg3⟩
  have hg := grown_trans (grown_trans hg1 hg2) hg3
  have hz3 := hg.size
  simp only [World.size_alloc] at hz3
  have hres : w3.heap[w.heap.size]? = some (.cells dzero 23 (0, 0)) := grown_blk hg (alloc_old _ (alloc_at _ _ _ rfl)) (by omega)
  have hb0 : Below w.heap.size w w3 := Below.trans (((Below.refl _ _).alloc (Nat.le_refl _) _).alloc (by simp) _) (grown_lift hg (by omega) (by simp; omega))
  clear hg hg1 hg2 hg3 hr1 hr2
  go_wp2_with fail
  generalize hW : w3.alloc (Obj.cells #[.int .i64 3, .int .i64 d, .int .i64 0, .string n, .string ⟨#[]⟩, .bool false, .int .i64 0] 23) = W4
  have hd4 : W4.heap[w3.heap.size]? = some (.cells #[.int .i64 3, .int .i64 d, .int .i64 0, .string n, .string ⟨#[]⟩, .bool false, .int .i64 0] 23 (0, 0)) := by rw [← hW]; exact alloc_at _ _ _ rfl
  have hres4 : W4.heap[w.heap.size]? = some (.cells dzero 23 (0, 0)) := by rw [← hW]; exact alloc_old _ hres
  have hr4 : RDAt W4 (w.heap.size + 1) r3 := by rw [← hW]; exact alloc_old _ hr3
  have hb4 : Below w.heap.size w W4 := by rw [← hW]; exact hb0.alloc (by omega) _
  have hz4 : w3.heap.size < W4.heap.size := by rw [← hW]; simp
  clear hres hr3 hb0 hW
  refine (H4.out (w.heap.size + 1) _ hr4).mono ?_
  rintro e w5 ⟨rfl, hr5, hg5⟩
  go_wp2_with fail
  refine (H5.out (w.heap.size + 1) _ hr5).mono ?_
  rintro e w6 ⟨rfl, hr6, hg6⟩
  have hg := grown_trans hg5 hg6
  have hd6 := grown_blk hg hd4 (by omega)
  have hres6 := grown_blk hg hres4 (by omega)
  have hb6 := hb4.trans (grown_lift hg (B := w.heap.size) (by omega) (by omega))
  have hz6 : w3.heap.size < w6.heap.size := by have := hg.size; omega
  have hd6' := blk_cells hd6
  obtain ⟨hc6, hf6⟩ := hd6'
  clear hg5 hg6 hr5 hd4 hres4 hb4 hr4 hg
  go_wp2_with fail
  generalize hW : (w6.setCell ⟨w3.heap.size, 2, none⟩ (.int .i64 t)).setCell ⟨w3.heap.size, 4, none⟩ (.string a) = W7
  have hd7 : W7.heap[w3.heap.size]? = some (.cells #[.int .i64 3, .int .i64 d, .int .i64 t, .string n, .string a, .bool false, .int .i64 0] 23 (0, 0)) := by rw [← hW]; exact blk_set (blk_set hd6 _ _) _ _
  have hres7 : W7.heap[w.heap.size]? = some (.cells dzero 23 (0, 0)) := by rw [← hW]; exact blk_set_ne (blk_set_ne hres6 _ _ _ (by omega)) _ _ _ (by omega)
  have hr7 : RDAt W7 (w.heap.size + 1) r5 := by rw [← hW]; exact blk_set_ne (blk_set_ne hr6 _ _ _ (by omega)) _ _ _ (by omega)
  have hb7 : Below w.heap.size w W7 := by rw [← hW]; exact (hb6.setCell (by simp; omega) _).setCell (by simp; omega) _
  have hz7 : w3.heap.size < W7.heap.size := by rw [← hW]; simpa [World.setCell] using hz6
  clear hW hd6 hc6 hf6 hres6 hr6 hb6
  refine (H6.out (w.heap.size + 1) _ hr7).mono ?_
  rintro e w8 ⟨rfl, hr8, hg8⟩
  have hd8 := grown_blk hg8 hd7 (by omega)
  have hres8 := grown_blk hg8 hres7 (by omega)
  have hb8 := hb7.trans (grown_lift hg8 (B := w.heap.size) (by omega) (by omega))
  have hz8 : w3.heap.size < w8.heap.size := by have := hg8.size; omega
  obtain ⟨hc8, hf8⟩ := blk_cells hd8
  clear hg8 hr7 hd7 hres7 hb7
  go_upto_region 8 with (fail)
  generalize hW : w8.setCell ⟨w3.heap.size, 6, none⟩ (.int .i64 s) = W9
  have hd9 : W9.heap[w3.heap.size]? = some (.cells #[.int .i64 (3 : Nat), .int .i64 d, .int .i64 t, .string n, .string a, .bool false, .int .i64 s] 23 (0, 0)) := by rw [← hW]; exact blk_set hd8 _ _
  have hres9 : W9.heap[w.heap.size]? = some (.cells dzero 23 (0, 0)) := by rw [← hW]; exact blk_set_ne hres8 _ _ _ (by omega)
  have hr9 : RDAt W9 (w.heap.size + 1) r6 := by rw [← hW]; exact blk_set_ne hr8 _ _ _ (by omega)
  have hb9 : Below w.heap.size w W9 := by rw [← hW]; exact hb8.setCell (by simp; omega) _
  have hz9 : w3.heap.size < W9.heap.size := by rw [← hW]; simpa [World.setCell] using hz8
  have hlow : w.heap.size < W9.heap.size := by omega
  clear hW hd8 hc8 hf8 hres8 hr8 hb8 hz8 hz7 hz6 hz4 H1 H2 H3 H4 H5 H6
  generalize ((3 : Nat) : Int) = k at *
  obtain ⟨rb, rbad⟩ := r6
  have hbad := hr9.c1
  dsimp only at hbad
  obtain ⟨hc9, hf9⟩ := blk_cells hd9
  obtain ⟨hcr, hfr⟩ := blk_cells hres9
  cases rbad
  · by_cases hm : (DD.mk k d t n a false s).may
    · have hf : ∀ w, Calls Try.prog 27 #[.agg #[.int .i64 k, .int .i64 d, .int .i64 t, .string n, .string a, .bool false, .int .i64 s]] w fun e w' => e = .returned (.bool true) ∧ Below w.heap.size w w' := fun w => (formed_any k d t s n a false w).mono fun e w' ⟨h1, h2⟩ => ⟨by rw [h1, decide_eq_true hm], h2⟩
      have Hf := Lib.hid hf
      have Hm := Lib.hid hm
      clear hf hm
      by_cases he : (⟨(DD.mk k d t n a false s).bytes.toArray⟩ : ByteArray) = b
      · have hans : decD b = (⟨k, d, t, n, a, false, s⟩, 0) := by
          unfold decD; rw [Hdec.out, if_pos ⟨rfl, Hm.out, by rw [← he]⟩]
        subst he
        have Hans := Lib.hid hans
        clear hans
        go_wp2_with (first
          | (go_at_call 27; refine (Hf.out _).mono ?_; rintro e v1 ⟨rfl, q1⟩; obtain ⟨x1, y1⟩ := bcell q1; have l1 : w3.heap.size < v1.heap.size := (by have := q1.size; omega); have l2 : w.heap.size < v1.heap.size := (by have := q1.size; omega))
          | (go_at_call 28; refine (bytes_any ⟨k, d, t, n, a, false, s⟩ Hm.out _).mono ?_; rintro e v2 ⟨rfl, q2⟩; obtain ⟨x2, y2⟩ := bcell q2))
        refine bodyPost_ret (v := .tuple #[.agg #[.int .i64 k, .int .i64 d, .int .i64 t, .string n, .string a, .bool false, .int .i64 s], .int .i64 0]) ?_ rfl ⟨?_, ?_⟩
        · simp [results, Try.results15, go_sem, x2, x1, hcr, l2, hlow]
        · rw [Hans.out]
        · refine ((((((Below.trans hb9 (q1.mono (by omega))).trans (q2.mono (by omega))).setCell ?_ _).setCell ?_ _).setCell ?_ _).setCell ?_ _ |>.setCell ?_ _ |>.setCell ?_ _).setCell ?_ _ <;> exact Nat.le_refl _
      · have hne : (!(DD.mk k d t n a false s).bytes == b.toList) = true := by
          rw [Bool.not_eq_true', beq_eq_false_iff_ne]; intro h; exact he (by rw [h, ByteArray.toList_eq])
        have hans : decD b = (⟨0, 0, 0, ⟨#[]⟩, ⟨#[]⟩, false, 0⟩, 2) := by
          unfold decD; rw [Hdec.out, if_neg]; rintro ⟨_, _, h⟩; exact he (by rw [h])
        have Hans := Lib.hid hans
        clear hans
        go_wp2_with (first
          | (go_at_call 27; refine (Hf.out _).mono ?_; rintro e v1 ⟨rfl, q1⟩; obtain ⟨x1, y1⟩ := bcell q1; have l1 : w3.heap.size < v1.heap.size := (by have := q1.size; omega); have l2 : w.heap.size < v1.heap.size := (by have := q1.size; omega))
          | (go_at_call 28; refine (bytes_any ⟨k, d, t, n, a, false, s⟩ Hm.out _).mono ?_; rintro e v2 ⟨rfl, q2⟩; obtain ⟨x2, y2⟩ := bcell q2))
        refine bodyPost_ret (v := .tuple #[.agg #[.int .i64 0, .int .i64 0, .int .i64 0, .string ⟨#[]⟩, .string ⟨#[]⟩, .bool false, .int .i64 0], .int .i64 2]) ?_ rfl ⟨?_, ?_⟩
        · simp [results, Try.results15, go_sem, x2, x1, hcr, l2, hlow]
        · rw [Hans.out]
        · refine ((((((((hb9.trans (q1.mono (by omega))).trans (q2.mono (by omega))).setCell ?_ _).setCell ?_ _).setCell ?_ _).setCell ?_ _).setCell ?_ _).setCell ?_ _).setCell ?_ _ <;> exact Nat.le_refl _
    · have hf : ∀ w, Calls Try.prog 27 #[.agg #[.int .i64 k, .int .i64 d, .int .i64 t, .string n, .string a, .bool false, .int .i64 s]] w fun e w' => e = .returned (.bool false) ∧ Below w.heap.size w w' := fun w => (formed_any k d t s n a false w).mono fun e w' ⟨h1, h2⟩ => ⟨by rw [h1, decide_eq_false hm], h2⟩
      have Hf := Lib.hid hf
      have hans : decD b = (⟨0, 0, 0, ⟨#[]⟩, ⟨#[]⟩, false, 0⟩, 2) := by
        unfold decD; rw [Hdec.out, if_neg]; rintro ⟨_, h, _⟩; exact hm h
      have Hans := Lib.hid hans
      clear hans hf hm
      go_wp2_with (go_at_call 27; refine (Hf.out _).mono ?_; rintro e v1 ⟨rfl, q1⟩; obtain ⟨x1, y1⟩ := bcell q1; have l1 : w3.heap.size < v1.heap.size := (by have := q1.size; omega); have l2 : w.heap.size < v1.heap.size := (by have := q1.size; omega))
      refine bodyPost_ret (v := .tuple #[.agg #[.int .i64 0, .int .i64 0, .int .i64 0, .string ⟨#[]⟩, .string ⟨#[]⟩, .bool false, .int .i64 0], .int .i64 2]) ?_ rfl ⟨?_, ?_⟩
      · simp [results, Try.results15, go_sem, x1, hcr, hlow]
      · rw [Hans.out]
      · refine (((((((hb9.trans (q1.mono (by omega))).setCell ?_ _).setCell ?_ _).setCell ?_ _).setCell ?_ _).setCell ?_ _).setCell ?_ _).setCell ?_ _ <;> exact Nat.le_refl _
  · have hans : decD b = (⟨0, 0, 0, ⟨#[]⟩, ⟨#[]⟩, false, 0⟩, 2) := by
      unfold decD; rw [Hdec.out, if_neg]; rintro ⟨h, _, _⟩; cases h
    have Hans := Lib.hid hans
    clear hans
    go_wp2
    refine bodyPost_ret (v := .tuple #[.agg #[.int .i64 0, .int .i64 0, .int .i64 0, .string ⟨#[]⟩, .string ⟨#[]⟩, .bool false, .int .i64 0], .int .i64 2]) ?_ rfl ⟨?_, ?_⟩
    · simp [results, Try.results15, go_sem, hcr]
    · rw [Hans.out]
    · refine (((((((hb9).setCell ?_ _).setCell ?_ _).setCell ?_ _).setCell ?_ _).setCell ?_ _).setCell ?_ _).setCell ?_ _ <;> exact Nat.le_refl _
end Go.Proofs.Ytepjflepnkfboaa
