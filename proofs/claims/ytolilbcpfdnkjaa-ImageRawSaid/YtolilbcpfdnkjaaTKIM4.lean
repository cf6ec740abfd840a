/- Lemmas, texts IM4 IM5 IM6 IM7; no condition beyond those that each states. -/
import Derived.Test.YtolilbcpfdnkjaaTKIM3
import Derived.Test.YtolilbcpfdnkjaaTKOr64
import Derived.Deep.RegionHeld3
/- image: the reader. -/
namespace Go.Proofs.Ytolilbcpfdnkjaa
open Go.RowKit
set_option linter.unusedSimpArgs false
set_option linter.unusedVariables false
/-- An image's reader: the bytes left, and whether something was bad. -/
structure IR where
  (b : ByteArray) (bad : Bool)
def IR.take (r : IR) (n : Nat) : ByteArray × IR := if r.bad = false ∧ n ≤ r.b.size then (r.b.extract 0 n, ⟨r.b.extract n r.b.size, false⟩) else (⟨#[]⟩, ⟨r.b, true⟩)
/-- The reader in memory. -/
def IRAt (w : World) (g : Nat) (r : IR) : Prop := w.heap[g]? = some (.cells #[.string r.b, .bool r.bad] 92 (0, 0))
theorem IRAt.keep {F : Nat → Prop} {w w' : World} {g : Nat} {r : IR} (h : IRAt w g r) (k : Keep F w w') (hn : ¬ F g) : IRAt w' g r := m_keep h k hn
theorem IR.take_size (r : IR) (n : Nat) : (r.take n).1.size ≤ n ∧ (r.take n).2.b.size ≤ r.b.size := by
  unfold IR.take
  split
  · simp [ByteArray.size_extract]; omega
  · exact ⟨Nat.zero_le _, Nat.le_refl _⟩
set_option maxRecDepth 100000 in
set_option maxHeartbeats 2000000 in
theorem itake_any {w : World} {g : Nat} {r : IR} (n : Nat) (h : IRAt w g r) (hb : r.b.size ≤ maxLen) (hn : n ≤ 1000000) :
    Calls Try.prog 75 #[.pointer (some ⟨g, 0, none⟩), .int .i64 n] w fun e w' => e = .returned (.string (r.take n).1) ∧ IRAt w' g (r.take n).2 ∧ Keep (fun k => k = g) w w' := by
  have c0 : w.cell? ⟨g, 0, none⟩ = some (.string r.b) := (m_cells h).1 0
  have c1 : w.cell? ⟨g, 1, none⟩ = some (.bool r.bad) := (m_cells h).1 1
  have f0 : w.frozen? ⟨g, 0, none⟩ = false := (m_cells h).2 0
  have f1 : w.frozen? ⟨g, 1, none⟩ = false := (m_cells h).2 1
  unfold maxLen at hb
  have H := Lib.hid h
  obtain ⟨rb, bad⟩ := r
  clear h
  cases bad
  · by_cases hs : n ≤ rb.size
    · have i1 : ¬ ((rb.size : Int) < n) := by omega
      go_enter Try.func75, Try.ntmps75
      go_wp2
      go_ret
      exact ⟨by simp [IR.take, hs], by simpa [IR.take, hs, IRAt] using m_set H.out 0 (.string (rb.extract n rb.size)), (Keep.refl (fun k => k = g) w).set g 0 _ (Or.inl rfl)⟩
    · have i1 : (rb.size : Int) < n := by omega
      go_enter Try.func75, Try.ntmps75
      go_wp2
      go_ret
      exact ⟨by simp [IR.take, hs], by simpa [IR.take, hs, IRAt] using m_set H.out 1 (.bool true), (Keep.refl (fun k => k = g) w).set g 1 _ (Or.inl rfl)⟩
  · go_enter Try.func75, Try.ntmps75
    go_wp2
    go_ret
    exact ⟨by simp [IR.take], by simpa [IR.take, IRAt] using m_set H.out 1 (.bool true), (Keep.refl (fun k => k = g) w).set g 1 _ (Or.inl rfl)⟩
/-- The number of some bytes, the first one the greatest. -/
def beV (l : List UInt8) : Nat := l.foldl (fun n c => n * 256 + c.toNat) 0
theorem beV_snoc (l : List UInt8) (c : UInt8) : beV (l ++ [c]) = beV l * 256 + c.toNat := by simp [beV]
theorem beV_lt (l : List UInt8) : beV l < 256 ^ l.length := by
  suffices h : ∀ (l : List UInt8) (n : Nat), l.foldl (fun n c => n * 256 + c.toNat) n < (n + 1) * 256 ^ l.length by have := h l 0; simpa [beV] using this
  intro l
  induction l with
  | nil => intro n; simp
  | cons c l ih =>
    intro n
    rw [List.foldl_cons, List.length_cons]
    refine Nat.lt_of_lt_of_le (ih _) ?_
    rw [Nat.pow_succ, Nat.mul_comm (256 ^ l.length) 256, ← Nat.mul_assoc]
    refine Nat.mul_le_mul_right _ ?_
    have := c.toNat_lt
    omega
theorem beV_lt7 (l : List UInt8) (h : l.length < 8) : beV l < 72057594037927936 := by
  refine Nat.lt_of_lt_of_le (beV_lt l) ?_
  have : 256 ^ l.length ≤ 256 ^ 7 := Nat.pow_le_pow_right (by decide) (by omega)
  exact this
def IR.num (r : IR) (n : Nat) : Nat × IR := (beV (r.take n).1.data.toList, (r.take n).2)
theorem IR.num_size (r : IR) (n : Nat) : (r.num n).2.b.size ≤ r.b.size := (r.take_size n).2
set_option maxRecDepth 100000 in
set_option maxHeartbeats 2000000 in
theorem inum_any {w : World} {g : Nat} {r : IR} (n : Nat) (h : IRAt w g r) (hb : r.b.size ≤ maxLen) (hn : n ≤ 8) :
    Calls Try.prog 49 #[.pointer (some ⟨g, 0, none⟩), .int .i64 n] w fun e w' => e = .returned (.int .u64 (r.num n).1) ∧ IRAt w' g (r.num n).2 ∧ Keep (fun k => k = g) w w' := by
  have hs := (r.take_size n).1
  have hgl := m_lt h
  have HT := Lib.hid (itake_any n h hb (by omega))
  clear h
  go_enter Try.func49, Try.ntmps49
  go_wp2_with (refine HT.out.mono ?_; rintro e w1 ⟨rfl, hr1, hg1⟩; have HR1 := Lib.hid hr1; have HG1 := Lib.hid hg1; have hsz1 := hg1.size; clear hr1 hg1; have cv := Lib.run_convert_string_bytes (P := Try.prog) w1 9 49 5 (r.take n).1 Try.underlying9 Try.underlying49 Try.underlying5)
  obtain ⟨S, hS⟩ : ∃ S, (r.take n).1 = S := ⟨_, rfl⟩
  have hs8 : S.size ≤ 8 := by rw [← hS]; omega
  have hsl : S.data.toList.length = S.size := by rw [Array.length_toList]; rfl
  rw [hS] at cv ⊢
  clear hs
  have hcell := Lib.bytesWorld_cell w1 5 S
  have Hcell := Lib.hid hcell
  have HS := Lib.hid hS
  clear hcell cv hS
  generalize hW : Lib.bytesWorld w1 5 S = W at *
  have HW := Lib.hid hW
  clear hW
  go_loop [5, 13] (fun nv iv => ∃ k : Nat, k ≤ S.size ∧ iv = .int .i64 k ∧ nv = .int .u64 (beV (S.data.toList.take k) : Nat)) (fun _ iv => S.size - (intOf iv).toNat)
  case atStart => exact ⟨0, Nat.zero_le _, rfl, rfl⟩
  case round =>
    obtain ⟨k, hk, rfl, rfl⟩ := hrel
    by_cases hlt : k < S.size
    · have hc := Hcell.out k hlt
      have hsn : beV (S.data.toList.take (k + 1)) = beV (S.data.toList.take k) * 256 + (S.data.toList.getD k 0).toNat := by
        rw [← beV_snoc, List.getD_eq_getElem?_getD, List.getElem?_eq_getElem (by simpa using hlt), Option.getD_some, List.take_succ_eq_append_getElem (by simpa using hlt)]
      have hm32 : beV (S.data.toList.take k) < 72057594037927936 := beV_lt7 _ (by rw [List.length_take]; omega)
      have Hsn := Lib.hid hsn
      clear hsn
      generalize S.data.toList.getD k 0 = c at *
      generalize hm : beV (S.data.toList.take k) = m at *
      have Hm := Lib.hid hm
      clear hm
      have hcb : c.toNat < 256 := c.toNat_lt
      go_wp2
      exact ⟨⟨k + 1, hlt, by go_num, by rw [or_byte64 _ _ (by omega) hcb, ← Hsn.out]⟩, by simp [intOf]; omega⟩
    · go_wp2
      go_ret
      have e : List.take k S.data.toList = S.data.toList := List.take_of_length_le (by show S.size ≤ k; omega)
      refine ⟨by show Ending.returned (.int .u64 _) = _; rw [e]; unfold IR.num; rw [HS.out], ?_, ?_⟩
      · rw [← HW.out]; exact (Lib.bytesWorld_at_old _ _ _ _ (m_lt HR1.out)).trans HR1.out
      · rw [← HW.out]; exact HG1.out.trans ⟨rfl, rfl, rfl, by rw [Lib.bytesWorld_size]; omega, fun k hk _ => Lib.bytesWorld_at_old _ _ _ _ hk⟩
end Go.Proofs.Ytolilbcpfdnkjaa

/- image: an entry, and a directory, that are read. -/
namespace Go.Proofs.Ytolilbcpfdnkjaa
open Go.RowKit
set_option linter.unusedSimpArgs false
set_option linter.unusedVariables false
theorem IR.num_lt (r : IR) (k : Nat) : (r.num k).1 < 256 ^ k := by
  refine Nat.lt_of_lt_of_le (beV_lt _) (Nat.pow_le_pow_right (by decide) ?_)
  have := (r.take_size k).1
  show (r.take k).1.data.size ≤ k
  exact this
theorem conv_small (n : Nat) (h : n < 9223372036854775808) : IntKind.i64.wrap (n : Int) = (n : Int) ∧ wrap64 (n : Int) = (n : Int) := ⟨by rw [IntKind.wrap_i64] <;> omega, by unfold wrap64; omega⟩
/-- An entry that is read. -/
def entP (r : IR) : Ent × IR :=
  (⟨((r.num 1).2.take (r.num 1).1).1, (((r.num 1).2.take (r.num 1).1).2.num 2).1, decide (((((r.num 1).2.take (r.num 1).1).2.num 2).2.num 1).1 = 1), wrap64 (((((r.num 1).2.take (r.num 1).1).2.num 2).2.num 1).2.num 8).1, ((((((r.num 1).2.take (r.num 1).1).2.num 2).2.num 1).2.num 8).2.num 4).1⟩, ((((((r.num 1).2.take (r.num 1).1).2.num 2).2.num 1).2.num 8).2.num 4).2)
set_option maxRecDepth 100000 in
set_option maxHeartbeats 2000000 in
theorem ientry_any {w : World} {g : Nat} {r : IR} (h : IRAt w g r) (hb : r.b.size ≤ maxLen) :
    Calls Try.prog 77 #[.pointer (some ⟨g, 0, none⟩)] w fun e w' => e = .returned (.agg (entP r).1.cells.toArray) ∧ IRAt w' g (entP r).2 ∧ Keep (fun k => k = g) w w' := by
  have hgl := m_lt h
  have hb0 : Below w.heap.size w (w.alloc (.cells #[.string ⟨#[]⟩, .int .i64 0, .bool false, .int .i64 0, .int .i64 0] 40)) := (Below.refl _ w).alloc (Nat.le_refl _) _
  have hx := m_alloc w (.cells #[.string ⟨#[]⟩, .int .i64 0, .bool false, .int .i64 0, .int .i64 0] 40) w.heap.size rfl
  have h0 : IRAt (w.alloc (.cells #[.string ⟨#[]⟩, .int .i64 0, .bool false, .int .i64 0, .int .i64 0] 40)) g r := (hb0.block _ hgl).trans h
  have hk0 : Keep (fun k => k = g ∨ k = w.heap.size) w (w.alloc (.cells #[.string ⟨#[]⟩, .int .i64 0, .bool false, .int .i64 0, .int .i64 0] 40)) := (Keep.refl _ w).alloc _
  obtain ⟨a1, ha1⟩ : ∃ a, (r.num 1).1 = a := ⟨_, rfl⟩
  obtain ⟨r1, hr1⟩ : ∃ r', (r.num 1).2 = r' := ⟨_, rfl⟩
  have hs1 := r.num_size 1
  have hl1 := r.num_lt 1
  rw [ha1] at hl1
  rw [hr1] at hs1
  have HT2 := Lib.hid (r1.take_size a1)
  obtain ⟨s2, hs2⟩ : ∃ s, (r1.take a1).1 = s := ⟨_, rfl⟩
  obtain ⟨r2, hr2⟩ : ∃ r', (r1.take a1).2 = r' := ⟨_, rfl⟩
  obtain ⟨a3, ha3⟩ : ∃ a, (r2.num 2).1 = a := ⟨_, rfl⟩
  obtain ⟨r3, hr3⟩ : ∃ r', (r2.num 2).2 = r' := ⟨_, rfl⟩
  have hs3 := r2.num_size 2
  have hl3 := r2.num_lt 2
  rw [ha3] at hl3
  rw [hr3] at hs3
  obtain ⟨a4, ha4⟩ : ∃ a, (r3.num 1).1 = a := ⟨_, rfl⟩
  obtain ⟨r4, hr4⟩ : ∃ r', (r3.num 1).2 = r' := ⟨_, rfl⟩
  have hs4 := r3.num_size 1
  have hl4 := r3.num_lt 1
  rw [ha4] at hl4
  rw [hr4] at hs4
  obtain ⟨a5, ha5⟩ : ∃ a, (r4.num 8).1 = a := ⟨_, rfl⟩
  obtain ⟨r5, hr5⟩ : ∃ r', (r4.num 8).2 = r' := ⟨_, rfl⟩
  have hs5 := r4.num_size 8
  have hl5 := r4.num_lt 8
  rw [ha5] at hl5
  rw [hr5] at hs5
  obtain ⟨a6, ha6⟩ : ∃ a, (r5.num 4).1 = a := ⟨_, rfl⟩
  obtain ⟨r6, hr6⟩ : ∃ r', (r5.num 4).2 = r' := ⟨_, rfl⟩
  have hl6 := r5.num_lt 4
  rw [ha6] at hl6
  have HENT := Lib.hid (show entP r = (⟨s2, a3, decide (a4 = 1), wrap64 a5, a6⟩, r6) from by unfold entP; simp only [ha1, hr1, hs2, hr2, ha3, hr3, ha4, hr4, ha5, hr5, ha6, hr6])
  have hs2' : r2.b.size ≤ r1.b.size := by rw [← hr2]; exact HT2.out.2
  have HN1 := Lib.hid (fun (w' : World) (q : IRAt w' g r) => by have z := inum_any 1 q hb (by decide); rw [ha1, hr1] at z; exact z)
  have HN2 := Lib.hid (fun (w' : World) (q : IRAt w' g r1) => by have z := itake_any a1 q (by omega) (by omega); rw [hs2, hr2] at z; exact z)
  have HN3 := Lib.hid (fun (w' : World) (q : IRAt w' g r2) => by have z := inum_any 2 q (by omega) (by decide); rw [ha3, hr3] at z; exact z)
  have HN4 := Lib.hid (fun (w' : World) (q : IRAt w' g r3) => by have z := inum_any 1 q (by omega) (by decide); rw [ha4, hr4] at z; exact z)
  have HN5 := Lib.hid (fun (w' : World) (q : IRAt w' g r4) => by have z := inum_any 8 q (by omega) (by decide); rw [ha5, hr5] at z; exact z)
  have HN6 := Lib.hid (fun (w' : World) (q : IRAt w' g r5) => by have z := inum_any 4 q (by omega) (by decide); rw [ha6, hr6] at z; exact z)
  have e1 := conv_small a1 (by omega)
  have e3 := conv_small a3 (by omega)
  have e6 := conv_small a6 (by omega)
  clear h ha1 hr1 hs2 hr2 ha3 hr3 ha4 hr4 ha5 hr5 ha6 hr6 hs1 hs3 hs4 hs5 hs2' hl1 hl3 hl4 hl6 HT2
  go_enter Try.func77, Try.ntmps77
  go_wp2_with fail
  obtain ⟨E, hE⟩ : ∃ E, w.heap.size = E := ⟨_, rfl⟩
  rw [hE] at hx hk0 ⊢
  have hgE : E ≠ g := by omega
  generalize (w.alloc (.cells #[.string ⟨#[]⟩, .int .i64 0, .bool false, .int .i64 0, .int .i64 0] 40)) = w0 at *
  have HX0 := Lib.hid hx
  have HK0 := Lib.hid hk0
  refine (HN1.out _ h0).mono ?_
  rintro e w1 ⟨rfl, hi1, hk1⟩
  have HI1 := Lib.hid hi1
  have hx1 := m_keep HX0.out hk1 hgE
  have HX1 := Lib.hid hx1
  have HK1 := Lib.hid (HK0.out.trans (hk1.mono (fun i q => Or.inl (Or.inl q))))
  clear hi1 hk1 hx1 h0 hx hk0 hb0
  go_wp2_with fail
  refine (HN2.out _ HI1.out).mono ?_
  rintro e w2 ⟨rfl, hi2, hk2⟩
  have HI2 := Lib.hid hi2
  have HX2 := Lib.hid (m_keep HX1.out hk2 hgE)
  have HK2 := Lib.hid (HK1.out.trans (hk2.mono (fun i q => Or.inl (Or.inl q))))
  clear hi2 hk2
  go_wp2_with fail
  refine (HN3.out _ HI2.out).mono ?_
  rintro e w3 ⟨rfl, hi3, hk3⟩
  have HI3 := Lib.hid hi3
  have hx3 := m_keep HX2.out hk3 hgE
  have HX3 := Lib.hid hx3
  have HK3 := Lib.hid (HK2.out.trans (hk3.mono (fun i q => Or.inl (Or.inl q))))
  clear hi3 hk3 hx3
  go_wp2_with fail
  obtain ⟨E2, hE2⟩ : ∃ E2, w3.heap.size = E2 := ⟨_, rfl⟩
  have hEl : E < w3.heap.size := m_lt HX3.out
  have hb4 : Below w3.heap.size w3 (w3.alloc (.cells #[.string s2, .int .i64 a3, .bool false, .int .i64 0, .int .i64 0] 40)) := (Below.refl _ w3).alloc (Nat.le_refl _) _
  have hy := m_alloc w3 (.cells #[.string s2, .int .i64 a3, .bool false, .int .i64 0, .int .i64 0] 40) w3.heap.size rfl
  have hi4 : IRAt (w3.alloc (.cells #[.string s2, .int .i64 a3, .bool false, .int .i64 0, .int .i64 0] 40)) g r3 := (hb4.block _ (m_lt HI3.out)).trans HI3.out
  have hx4 := (hb4.block _ hEl).trans HX3.out
  have hk4 := HK3.out.trans ((Keep.below hb4).mono (fun i q => Or.inr q))
  have hE2g : E2 ≠ g ∧ E2 ≠ E ∧ w.heap.size ≤ E2 := by have := m_lt HI3.out; have := HK3.out.size; omega
  rw [hE2] at hy ⊢
  generalize (w3.alloc (.cells #[.string s2, .int .i64 a3, .bool false, .int .i64 0, .int .i64 0] 40)) = w4 at *
  have HX4 := Lib.hid hx4
  have HY4 := Lib.hid hy
  have HK4 := Lib.hid hk4
  refine (HN4.out _ hi4).mono ?_
  rintro e w5 ⟨rfl, hi5, hk5⟩
  have HI5 := Lib.hid hi5
  have hx5 := m_keep HX4.out hk5 hgE
  have hy5 := m_keep HY4.out hk5 hE2g.1
  have HX5 := Lib.hid hx5
  have HY5 := Lib.hid hy5
  have HK5 := Lib.hid (HK4.out.trans (hk5.mono (fun i q => Or.inl (Or.inl q))))
  have q2 : w5.frozen? ⟨E2, 2, none⟩ = false := (m_cells hy5).2 2
  have c2 : w5.cell? ⟨E2, 2, none⟩ = some (.bool false) := (m_cells hy5).1 2
  clear hi5 hk5 hx5 hy5 hi4 hx4 hk4 hy hb4 hE2 hEl
  obtain ⟨bd, hbd⟩ : ∃ bd, decide (a4 = 1) = bd := ⟨_, rfl⟩
  have hbd' : ((a4 : Int) == 1) = bd := by rw [← hbd]; by_cases e : a4 = 1 <;> simp [e]; omega
  have HBD := Lib.hid hbd
  clear hbd
  go_wp2_with fail
  have hi5 : IRAt (w5.setCell ⟨E2, 2, none⟩ (.bool bd)) g r4 := m_set_ne HI5.out _ _ _ hE2g.1.symm
  have hx5 := m_set_ne HX5.out E2 2 (.bool bd) hE2g.2.1.symm
  have hy5 := m_set HY5.out 2 (.bool bd)
  have hk5 := HK5.out.set E2 2 (.bool bd) (Or.inr hE2g.2.2)
  generalize w5.setCell ⟨E2, 2, none⟩ (.bool bd) = w5' at *
  have HX5' := Lib.hid hx5
  have HY5' := Lib.hid (show w5'.heap[E2]? = some (.cells #[.string s2, .int .i64 a3, .bool bd, .int .i64 0, .int .i64 0] 40 (0, 0)) from hy5)
  have HK5' := Lib.hid hk5
  clear hx5 hy5 hk5 q2 c2 HX5 HY5 HK5 HI5
  refine (HN5.out _ hi5).mono ?_
  rintro e w6 ⟨rfl, hi6, hk6⟩
  have HI6 := Lib.hid hi6
  have HX6 := Lib.hid (m_keep HX5'.out hk6 hgE)
  have hy6 := m_keep HY5'.out hk6 hE2g.1
  have HY6 := Lib.hid hy6
  have HK6 := Lib.hid (HK5'.out.trans (hk6.mono (fun i q => Or.inl (Or.inl q))))
  have q3 : w6.frozen? ⟨E2, 3, none⟩ = false := (m_cells hy6).2 3
  have c3 : w6.cell? ⟨E2, 3, none⟩ = some (.int .i64 0) := (m_cells hy6).1 3
  clear hi6 hk6 hy6 hi5
  go_wp2_with fail
  have hi6 : IRAt (w6.setCell ⟨E2, 3, none⟩ (.int .i64 (wrap64 a5))) g r5 := m_set_ne HI6.out _ _ _ hE2g.1.symm
  have hx6 := m_set_ne HX6.out E2 3 (.int .i64 (wrap64 a5)) hE2g.2.1.symm
  have hy6 := m_set HY6.out 3 (.int .i64 (wrap64 a5))
  have hk6 := HK6.out.set E2 3 (.int .i64 (wrap64 a5)) (Or.inr hE2g.2.2)
  generalize w6.setCell ⟨E2, 3, none⟩ (.int .i64 (wrap64 a5)) = w6' at *
  have HX6' := Lib.hid hx6
  have HY6' := Lib.hid (show w6'.heap[E2]? = some (.cells #[.string s2, .int .i64 a3, .bool bd, .int .i64 (wrap64 a5), .int .i64 0] 40 (0, 0)) from hy6)
  have HK6' := Lib.hid hk6
  clear hx6 hy6 hk6 q3 c3 HX6 HY6 HK6 HI6
  refine (HN6.out _ hi6).mono ?_
  rintro e w7 ⟨rfl, hi7, hk7⟩
  have HI7 := Lib.hid hi7
  have hx7 := m_keep HX6'.out hk7 hgE
  have HX7 := Lib.hid hx7
  have hy7 := m_keep HY6'.out hk7 hE2g.1
  have HY7 := Lib.hid hy7
  have HK7 := Lib.hid (HK6'.out.trans (hk7.mono (fun i q => Or.inl (Or.inl q))))
  have q4 : w7.frozen? ⟨E2, 4, none⟩ = false := (m_cells hy7).2 4
  obtain ⟨d0, d1, d2, d3, d4⟩ : w7.cell? ⟨E2, 0, none⟩ = some (.string s2) ∧ w7.cell? ⟨E2, 1, none⟩ = some (.int .i64 a3) ∧ w7.cell? ⟨E2, 2, none⟩ = some (.bool bd) ∧ w7.cell? ⟨E2, 3, none⟩ = some (.int .i64 (wrap64 a5)) ∧ w7.cell? ⟨E2, 4, none⟩ = some (.int .i64 0) := ⟨(m_cells hy7).1 0, (m_cells hy7).1 1, (m_cells hy7).1 2, (m_cells hy7).1 3, (m_cells hy7).1 4⟩
  obtain ⟨x0, x1, x2, x3, x4⟩ : w7.cell? ⟨E, 0, none⟩ = some (.string ⟨#[]⟩) ∧ w7.cell? ⟨E, 1, none⟩ = some (.int .i64 0) ∧ w7.cell? ⟨E, 2, none⟩ = some (.bool false) ∧ w7.cell? ⟨E, 3, none⟩ = some (.int .i64 0) ∧ w7.cell? ⟨E, 4, none⟩ = some (.int .i64 0) := ⟨(m_cells hx7).1 0, (m_cells hx7).1 1, (m_cells hx7).1 2, (m_cells hx7).1 3, (m_cells hx7).1 4⟩
  obtain ⟨y0, y1, y2, y3, y4⟩ : w7.frozen? ⟨E, 0, none⟩ = false ∧ w7.frozen? ⟨E, 1, none⟩ = false ∧ w7.frozen? ⟨E, 2, none⟩ = false ∧ w7.frozen? ⟨E, 3, none⟩ = false ∧ w7.frozen? ⟨E, 4, none⟩ = false := ⟨(m_cells hx7).2 0, (m_cells hx7).2 1, (m_cells hx7).2 2, (m_cells hx7).2 3, (m_cells hx7).2 4⟩
  clear hi7 hk7 hy7 hi6 hx7
  go_wp2_with fail
  have hres := m_set (m_set (m_set (m_set (m_set (m_set_ne HX7.out E2 4 (.int .i64 a6) hE2g.2.1.symm) 0 (.string s2)) 1 (.int .i64 a3)) 2 (.bool bd)) 3 (.int .i64 (wrap64 a5))) 4 (.int .i64 a6)
  have hkk := ((((((HK7.out.set E2 4 (.int .i64 a6) (Or.inr hE2g.2.2)).set E 0 (.string s2) (Or.inl (Or.inr rfl))).set E 1 (.int .i64 a3) (Or.inl (Or.inr rfl))).set E 2 (.bool bd) (Or.inl (Or.inr rfl))).set E 3 (.int .i64 (wrap64 a5)) (Or.inl (Or.inr rfl))).set E 4 (.int .i64 a6) (Or.inl (Or.inr rfl)))
  have hir : IRAt ((((((w7.setCell ⟨E2, 4, none⟩ (.int .i64 a6)).setCell ⟨E, 0, none⟩ (.string s2)).setCell ⟨E, 1, none⟩ (.int .i64 a3)).setCell ⟨E, 2, none⟩ (.bool bd)).setCell ⟨E, 3, none⟩ (.int .i64 (wrap64 a5))).setCell ⟨E, 4, none⟩ (.int .i64 a6)) g r6 :=
    m_set_ne (m_set_ne (m_set_ne (m_set_ne (m_set_ne (m_set_ne HI7.out _ _ _ hE2g.1.symm) _ _ _ hgE.symm) _ _ _ hgE.symm) _ _ _ hgE.symm) _ _ _ hgE.symm) _ _ _ hgE.symm
  refine bodyPost_ret (v := .agg #[.string s2, .int .i64 a3, .bool bd, .int .i64 (wrap64 a5), .int .i64 a6]) (results_cell_row (p := 2) (ty := 40) rfl _ _ E 40 _ (0, 0) _ rfl hres Try.underlying40 rfl (by kernel_rfl)) rfl ⟨?_, ?_, ?_⟩
  · rw [HENT.out, HBD.out]
  · rw [HENT.out]; exact hir
  · exact hkk.mono (fun i q => q.elim Or.inl (fun e => Or.inr (by omega)))
end Go.Proofs.Ytolilbcpfdnkjaa

/- image: several entries, and a directory, that are read. -/
namespace Go.Proofs.Ytolilbcpfdnkjaa
open Go.RowKit
set_option linter.unusedSimpArgs false
set_option linter.unusedVariables false
/-- As many as a number says, up to what is wrong. -/
def sevP {α : Type} (one : IR → α × IR) : Nat → IR → List α × IR
  | 0, r => ([], r)
  | n + 1, r => if r.bad then ([], r) else ((one r).1 :: (sevP one n (one r).2).1, (sevP one n (one r).2).2)
theorem IR.take_small (r : IR) (n : Nat) : (r.take n).2.b.size ≤ r.b.size := (r.take_size n).2
theorem entP_size (r : IR) : (entP r).2.b.size ≤ r.b.size := by
  unfold entP
  exact Nat.le_trans (IR.num_size _ _) (Nat.le_trans (IR.num_size _ _) (Nat.le_trans (IR.num_size _ _) (Nat.le_trans (IR.num_size _ _) (Nat.le_trans (IR.take_small _ _) (IR.num_size _ _)))))
/-- What is gathered so far. -/
def SevT {α : Type} (E : EK α) (one : IR → α × IR) (w : World) (g : Nat) (n : Nat) (r1 : IR) (ov nv : Value) (wr : World) : Prop :=
  ∃ (i : Nat) (ri : IR) (acc : List α), nv = .int .u64 i ∧ IRAt wr g ri ∧ ri.b.size ≤ 100000 ∧ Row E wr w.heap.size ov acc ∧ acc.length + i ≤ n ∧ sevP one n r1 = (acc ++ (sevP one i ri).1, (sevP one i ri).2) ∧ Keep (fun k => k = g) w wr
theorem num_lt2 (r : IR) : (r.num 2).1 < 65536 := r.num_lt 2
set_option maxRecDepth 100000 in
set_option maxHeartbeats 2000000 in
theorem iseve_any {w : World} {g : Nat} {r : IR} (h : IRAt w g r) (hb : r.b.size ≤ 100000) :
    Calls Try.prog 76 #[.pointer (some ⟨g, 0, none⟩), .func (.func 77) #[.pointer (some ⟨g, 0, none⟩)] #[]] w fun e w' =>
      ∃ v, e = .returned v ∧ Row EEnt w' w.heap.size v (sevP entP (r.num 2).1 (r.num 2).2).1 ∧ IRAt w' g (sevP entP (r.num 2).1 (r.num 2).2).2 ∧ (sevP entP (r.num 2).1 (r.num 2).2).2.b.size ≤ 100000 ∧ Keep (fun k => k = g) w w' := by
  have hgl := m_lt h
  have HN := Lib.hid (inum_any 2 h (by unfold maxLen; omega) (by decide))
  have hn := num_lt2 r
  have hs := r.num_size 2
  obtain ⟨n, hnn⟩ : ∃ n, (r.num 2).1 = n := ⟨_, rfl⟩
  obtain ⟨r1, hr1⟩ : ∃ r', (r.num 2).2 = r' := ⟨_, rfl⟩
  rw [hnn, hr1] at HN
  rw [hr1] at hs
  rw [hnn] at hn
  rw [hnn, hr1]
  clear hnn hr1 h
  go_enter Try.func76, Try.ntmps76
  go_wp2_with fail
  refine HN.out.mono ?_
  rintro e w1 ⟨rfl, hi1, hk1⟩
  have HST := Lib.hid (show SevT EEnt entP w g n r1 (.slice none 0 0) (.int .u64 n) w1 from ⟨n, r1, [], rfl, hi1, by omega, Row.nil _ _ _, by simp, by simp, hk1⟩)
  clear hi1 hk1 HN
  go_wp2_with fail
  go_loopw [5, 6] (fun ov nv wr => SevT EEnt entP w g n r1 ov nv wr) (fun _ nv _ => (intOf nv).toNat)
  case atStart => exact HST.out
  case round =>
    obtain ⟨i, ri, acc, rfl, hi, hsz, hrow, hlen, hsev, hk⟩ := hrel
    obtain ⟨oa, oc, rfl⟩ := hrow.shape
    have HI := Lib.hid hi
    have HRW := Lib.hid hrow
    have HSV := Lib.hid hsev
    have HK := Lib.hid hk
    have c1 : wr.cell? ⟨g, 1, none⟩ = some (.bool ri.bad) := (m_cells hi).1 1
    clear hi hrow hsev hk HST
    cases i with
    | zero =>
      go_wp2_with fail
      go_ret
      refine ⟨_, rfl, ?_, ?_, ?_, HK.out⟩
      · rw [HSV.out]; simpa [sevP] using HRW.out
      · rw [HSV.out]; simpa [sevP] using HI.out
      · rw [HSV.out]; simpa [sevP] using hsz
    | succ i =>
      have i0 : (0 : Int) < ((i + 1 : Nat) : Int) := by omega
      obtain ⟨bb, hbb⟩ : ∃ bb, ri.bad = bb := ⟨_, rfl⟩
      rw [hbb] at c1
      have HBB := Lib.hid hbb
      clear hbb
      cases bb
      · have HE := Lib.hid (ientry_any HI.out (by unfold maxLen; omega))
        have hsz2 := entP_size ri
        have HSV2 := Lib.hid (show sevP entP n r1 = (acc ++ [(entP ri).1] ++ (sevP entP i (entP ri).2).1, (sevP entP i (entP ri).2).2) from by
          rw [HSV.out, sevP, HBB.out]; simp)
        obtain ⟨x, hx⟩ : ∃ x, (entP ri).1 = x := ⟨_, rfl⟩
        obtain ⟨r2, hr2⟩ : ∃ r', (entP ri).2 = r' := ⟨_, rfl⟩
        rw [hx, hr2] at HSV2 HE
        rw [hr2] at hsz2
        clear hx hr2
        go_wp2_with (first
          | (go_at_call 77
             refine HE.out.mono ?_
             rintro e w2 ⟨rfl, hi2, hk2⟩
             have HI2 := Lib.hid hi2
             have HK2 := Lib.hid hk2
             have HRW2 := Lib.hid (HRW.out.keep hk2 (fun q z e => by have := HRW.out.ge z; omega))
             have hk2s := hk2.size
             clear hi2 hk2)
          | (refine app_row EEnt.laid rfl _ _ 33 33 Try.underlying33 Try.underlying33 rfl (.slice oa acc.length oc) acc rfl (HRW2.out.alloc _) _ [x] rfl ?e1 ?e2 ?e3 ?e4 ?_
             case e1 => exact Arg.blk (m_alloc _ _ _ rfl) [x] rfl 1
             case e2 => (show (acc.length + 1) * 48 ≤ _; omega)
             case e3 => (show acc.length + 1 ≤ maxLen; unfold maxLen; omega)
             case e4 => (have := HK.out.size; simp; omega)
             intro v3 w3 hr3 hv3 hk3
             have HR3 := Lib.hid hr3
             have HK3 := Lib.hid hk3
             clear hr3 hv3 hk3))
        have hkk : Keep (fun k => k = g) w w3 := (HK.out.trans HK2.out).trans' (((Keep.refl (fun k => some k = (Value.slice oa acc.length oc).ownBlock) w2).alloc _).trans HK3.out) (fun i q => Or.inr (HRW.out.ge q.symm))
        refine ⟨⟨i, r2, acc ++ [x], rfl, ?_, by omega, HR3.out, by rw [List.length_append, List.length_singleton]; omega, HSV2.out, hkk⟩, by simp [intOf]⟩
        exact (m_keep HI2.out ((Keep.refl (fun k => some k = (Value.slice oa acc.length oc).ownBlock) w2).alloc _) (fun q => by have := HRW.out.ge q.symm; omega) |> fun z => m_keep z HK3.out (fun q => by have := HRW.out.ge q.symm; omega))
      · go_wp2_with fail
        go_ret
        refine ⟨_, rfl, ?_, ?_, ?_, HK.out⟩
        · rw [HSV.out]; simpa [sevP, HBB.out] using HRW.out
        · rw [HSV.out]; simpa [sevP, HBB.out] using HI.out
        · rw [HSV.out]; simpa [sevP, HBB.out] using hsz
theorem sevP_size {α : Type} (one : IR → α × IR) (h : ∀ r, (one r).2.b.size ≤ r.b.size) : ∀ n r, (sevP one n r).2.b.size ≤ r.b.size := by
  intro n
  induction n with
  | zero => intro r; exact Nat.le_refl _
  | succ n ih =>
    intro r
    rw [sevP]
    split
    · exact Nat.le_refl _
    · exact Nat.le_trans (ih _) (h r)
/-- A directory that is read. -/
def dirP (r : IR) : (Int × List Ent) × IR := ((((r.num 2).1 : Int), (sevP entP ((r.num 2).2.num 2).1 ((r.num 2).2.num 2).2).1), (sevP entP ((r.num 2).2.num 2).1 ((r.num 2).2.num 2).2).2)
theorem dirP_size (r : IR) : (dirP r).2.b.size ≤ r.b.size := by
  unfold dirP
  exact Nat.le_trans (sevP_size entP entP_size _ _) (Nat.le_trans (IR.num_size _ _) (IR.num_size _ _))
/-- A directory in memory. -/
structure DI where
  (node : Int) (a : Option Addr) (c : Nat) (l : List Ent)
@[reducible] def DI.val (x : DI) : Value := .slice x.a x.l.length x.c
def EDI : EK DI := ⟨98, 2, 32, fun x => [.int .i64 x.node, x.val], fun _ => rfl, fun _ u hu => by simp at hu; rcases hu with rfl | rfl <;> rfl, by decide⟩
theorem EDI.laid : EDI.Laid := EK.laid (z := .agg #[.int .i64 0, .slice none 0 0]) (by kernel_rfl) (by decide)
set_option maxRecDepth 100000 in
set_option maxHeartbeats 2000000 in
theorem idir_any {w : World} {g : Nat} {r : IR} (h : IRAt w g r) (hb : r.b.size ≤ 100000) :
    Calls Try.prog 51 #[.pointer (some ⟨g, 0, none⟩)] w fun e w' =>
      ∃ x : DI, e = .returned (.agg #[.int .i64 x.node, x.val]) ∧ (x.node, x.l) = (dirP r).1 ∧ Row EEnt w' w.heap.size x.val x.l ∧ IRAt w' g (dirP r).2 ∧ Keep (fun k => k = g) w w' := by
  have hgl := m_lt h
  have hb0 : Below w.heap.size w (w.alloc (.cells #[.int .i64 0, .slice none 0 0] 98)) := (Below.refl _ w).alloc (Nat.le_refl _) _
  have hx := m_alloc w (.cells #[.int .i64 0, .slice none 0 0] 98) w.heap.size rfl
  have h0 : IRAt (w.alloc (.cells #[.int .i64 0, .slice none 0 0] 98)) g r := (hb0.block _ hgl).trans h
  have hk0 : Keep (fun k => k = g ∨ k = w.heap.size) w (w.alloc (.cells #[.int .i64 0, .slice none 0 0] 98)) := (Keep.refl _ w).alloc _
  have hn := num_lt2 r
  have hs := r.num_size 2
  have HDP := Lib.hid (show dirP r = ((((r.num 2).1 : Int), (sevP entP ((r.num 2).2.num 2).1 ((r.num 2).2.num 2).2).1), (sevP entP ((r.num 2).2.num 2).1 ((r.num 2).2.num 2).2).2) from rfl)
  have HN := Lib.hid (fun (w' : World) (q : IRAt w' g r) => inum_any 2 q (by unfold maxLen; omega) (by decide))
  obtain ⟨n, hnn⟩ : ∃ n, (r.num 2).1 = n := ⟨_, rfl⟩
  obtain ⟨r1, hr1⟩ : ∃ r', (r.num 2).2 = r' := ⟨_, rfl⟩
  rw [hnn, hr1] at HN HDP
  rw [hr1] at hs
  rw [hnn] at hn
  have e1 := conv_small n (by omega)
  have HSV := Lib.hid (fun (w' : World) (q : IRAt w' g r1) => iseve_any q (by omega))
  obtain ⟨es, hes⟩ : ∃ es, (sevP entP (r1.num 2).1 (r1.num 2).2).1 = es := ⟨_, rfl⟩
  obtain ⟨r3, hr3⟩ : ∃ r', (sevP entP (r1.num 2).1 (r1.num 2).2).2 = r' := ⟨_, rfl⟩
  rw [hes, hr3] at HSV HDP
  clear hnn hr1 h hes hr3 hn hs
  go_enter Try.func51, Try.ntmps51
  go_wp2_with fail
  obtain ⟨E, hE⟩ : ∃ E, w.heap.size = E := ⟨_, rfl⟩
  rw [hE] at hx hk0 ⊢
  have hgE : E ≠ g := by omega
  generalize (w.alloc (.cells #[.int .i64 0, .slice none 0 0] 98)) = w0 at *
  have HX0 := Lib.hid hx
  have HK0 := Lib.hid hk0
  refine (HN.out _ h0).mono ?_
  rintro e w1 ⟨rfl, hi1, hk1⟩
  have HI1 := Lib.hid hi1
  have HX1 := Lib.hid (m_keep HX0.out hk1 hgE)
  have HK1 := Lib.hid (HK0.out.trans (hk1.mono (fun i q => Or.inl (Or.inl q))))
  clear hi1 hk1 h0 hx hk0 hb0
  go_wp2_with fail
  refine (HSV.out _ HI1.out).mono ?_
  rintro e w2 ⟨v, rfl, hrow, hi2, hsz2, hk2⟩
  obtain ⟨a2, c2, rfl⟩ := hrow.shape
  have HI2 := Lib.hid hi2
  have hx2 := m_keep HX1.out hk2 hgE
  have HX2 := Lib.hid hx2
  have HK2 := Lib.hid (HK1.out.trans (hk2.mono (fun i q => Or.inl (Or.inl q))))
  have HRW := Lib.hid hrow
  have HEL := Lib.hid (show E < w1.heap.size from m_lt HX1.out)
  have q0 : w2.frozen? ⟨E, 0, none⟩ = false := (m_cells hx2).2 0
  have q1 : w2.frozen? ⟨E, 1, none⟩ = false := (m_cells hx2).2 1
  have d0 : w2.cell? ⟨E, 0, none⟩ = some (.int .i64 0) := (m_cells hx2).1 0
  have d1 : w2.cell? ⟨E, 1, none⟩ = some (.slice none 0 0) := (m_cells hx2).1 1
  clear hrow hi2 hk2 hx2 hsz2
  go_wp2_with fail
  have hres := m_set (m_set HX2.out 0 (.int .i64 n)) 1 (.slice a2 es.length c2)
  have hkk := (HK2.out.set E 0 (.int .i64 n) (Or.inl (Or.inr rfl))).set E 1 (.slice a2 es.length c2) (Or.inl (Or.inr rfl))
  have hir : IRAt ((w2.setCell ⟨E, 0, none⟩ (.int .i64 n)).setCell ⟨E, 1, none⟩ (.slice a2 es.length c2)) g r3 := m_set_ne (m_set_ne HI2.out _ _ _ hgE.symm) _ _ _ hgE.symm
  refine bodyPost_ret (v := .agg #[.int .i64 n, .slice a2 es.length c2]) (results_cell_row (p := 2) (ty := 98) rfl _ _ E 98 _ (0, 0) _ rfl hres Try.underlying98 rfl (by kernel_rfl)) rfl ⟨⟨n, a2, c2, es⟩, rfl, ?_, ?_, ?_, ?_⟩
  · rw [HDP.out]
  · refine (HRW.out.kept (fun k q => ?_)).mono (by have := HEL.out; omega)
    have hge := HRW.out.ge q
    have := HEL.out
    rw [Below.heap_setCell _ _ _ _ (fun e => by have : k = E := e; omega), Below.heap_setCell _ _ _ _ (fun e => by have : k = E := e; omega)]
  · rw [HDP.out]; exact hir
  · exact hkk.mono (fun i q => q.elim Or.inl (fun e => Or.inr (by omega)))
end Go.Proofs.Ytolilbcpfdnkjaa

/- image: several directories that are read. -/
namespace Go.Proofs.Ytolilbcpfdnkjaa
open Go.RowKit
set_option linter.unusedSimpArgs false
set_option linter.unusedVariables false
def DI.plain (x : DI) : Int × List Ent := (x.node, x.l)
/-- What is gathered so far. -/
def SevD (w : World) (g : Nat) (n : Nat) (r1 : IR) (ov nv : Value) (wr : World) : Prop :=
  ∃ (i : Nat) (ri : IR) (acc : List DI), nv = .int .u64 i ∧ IRAt wr g ri ∧ ri.b.size ≤ 100000 ∧ Row EDI wr w.heap.size ov acc ∧ acc.length + i ≤ n ∧ sevP dirP n r1 = (acc.map DI.plain ++ (sevP dirP i ri).1, (sevP dirP i ri).2) ∧
    (∀ x ∈ acc, Arg EEnt wr x.val x.l ∧ ∀ k, x.val.ownBlock = some k → w.heap.size ≤ k ∧ k < wr.heap.size ∧ ov.ownBlock ≠ some k) ∧ Keep (fun k => k = g) w wr
set_option maxRecDepth 100000 in
set_option maxHeartbeats 2000000 in
theorem isevd_any {w : World} {g : Nat} {r : IR} (h : IRAt w g r) (hb : r.b.size ≤ 100000) :
    Calls Try.prog 50 #[.pointer (some ⟨g, 0, none⟩), .func (.func 51) #[.pointer (some ⟨g, 0, none⟩)] #[]] w fun e w' =>
      ∃ v acc, e = .returned v ∧ Row EDI w' w.heap.size v acc ∧ acc.map DI.plain = (sevP dirP (r.num 2).1 (r.num 2).2).1 ∧ (∀ x ∈ acc, Arg EEnt w' x.val x.l ∧ ∀ k, x.val.ownBlock = some k → w.heap.size ≤ k) ∧ acc.length ≤ 65536 ∧ IRAt w' g (sevP dirP (r.num 2).1 (r.num 2).2).2 ∧ Keep (fun k => k = g) w w' := by
  have hgl := m_lt h
  have HN := Lib.hid (inum_any 2 h (by unfold maxLen; omega) (by decide))
  have hn := num_lt2 r
  have hs := r.num_size 2
  obtain ⟨n, hnn⟩ : ∃ n, (r.num 2).1 = n := ⟨_, rfl⟩
  obtain ⟨r1, hr1⟩ : ∃ r', (r.num 2).2 = r' := ⟨_, rfl⟩
  rw [hnn, hr1] at HN
  rw [hr1] at hs
  rw [hnn] at hn
  rw [hnn, hr1]
  clear hnn hr1 h
  go_enter Try.func50, Try.ntmps50
  go_wp2_with fail
  refine HN.out.mono ?_
  rintro e w1 ⟨rfl, hi1, hk1⟩
  have HST := Lib.hid (show SevD w g n r1 (.slice none 0 0) (.int .u64 n) w1 from ⟨n, r1, [], rfl, hi1, by omega, Row.nil _ _ _, by simp, by simp, fun x hx => absurd hx (List.not_mem_nil), hk1⟩)
  clear hi1 hk1 HN
  go_wp2_with fail
  go_loopw [5, 6] (fun ov nv wr => SevD w g n r1 ov nv wr) (fun _ nv _ => (intOf nv).toNat)
  case atStart => exact HST.out
  case round =>
    obtain ⟨i, ri, acc, rfl, hi, hsz, hrow, hlen, hsev, hva, hk⟩ := hrel
    have HVA := Lib.hid hva
    clear hva
    obtain ⟨oa, oc, rfl⟩ := hrow.shape
    have HI := Lib.hid hi
    have HRW := Lib.hid hrow
    have HSV := Lib.hid hsev
    have HK := Lib.hid hk
    have c1 : wr.cell? ⟨g, 1, none⟩ = some (.bool ri.bad) := (m_cells hi).1 1
    clear hi hrow hsev hk HST
    cases i with
    | zero =>
      go_wp2_with fail
      go_ret
      refine ⟨_, acc, rfl, HRW.out, ?_, fun x hx => ⟨(HVA.out x hx).1, fun k z => ((HVA.out x hx).2 k z).1⟩, by omega, ?_, HK.out⟩
      · rw [HSV.out]; simp [sevP]
      · rw [HSV.out]; simpa [sevP] using HI.out
    | succ i =>
      have i0 : (0 : Int) < ((i + 1 : Nat) : Int) := by omega
      obtain ⟨bb, hbb⟩ : ∃ bb, ri.bad = bb := ⟨_, rfl⟩
      rw [hbb] at c1
      have HBB := Lib.hid hbb
      clear hbb
      cases bb
      · have HE := Lib.hid (idir_any HI.out hsz)
        have hsz2 := dirP_size ri
        have HSV2 := Lib.hid (show sevP dirP n r1 = (acc.map DI.plain ++ [(dirP ri).1] ++ (sevP dirP i (dirP ri).2).1, (sevP dirP i (dirP ri).2).2) from by
          rw [HSV.out, sevP, HBB.out]; simp)
        obtain ⟨px, hx⟩ : ∃ x, (dirP ri).1 = x := ⟨_, rfl⟩
        obtain ⟨r2, hr2⟩ : ∃ r', (dirP ri).2 = r' := ⟨_, rfl⟩
        rw [hx, hr2] at HSV2 HE
        rw [hr2] at hsz2
        clear hx hr2
        go_wp2_with (first
          | (go_at_call 51
             refine HE.out.mono ?_
             rintro e w2 ⟨x, rfl, hxe, hrx, hi2, hk2⟩
             have HXE := Lib.hid hxe
             have HRX := Lib.hid hrx
             have HI2 := Lib.hid hi2
             have HK2 := Lib.hid hk2
             have HRW2 := Lib.hid (HRW.out.keep hk2 (fun q z e => by have := HRW.out.ge z; omega))
             have hk2s := hk2.size
             clear hi2 hk2 hxe hrx)
          | (refine app_row EDI.laid rfl _ _ 95 95 Try.underlying95 Try.underlying95 rfl (.slice oa acc.length oc) acc rfl (HRW2.out.alloc _) _ [x] rfl ?e1 ?e2 ?e3 ?e4 ?_
             case e1 => exact Arg.blk (m_alloc _ _ _ rfl) [x] rfl 1
             case e2 => (show (acc.length + 1) * 32 ≤ _; omega)
             case e3 => (show acc.length + 1 ≤ maxLen; unfold maxLen; omega)
             case e4 => (have := HK.out.size; simp; omega)
             intro v3 w3 hr3 hv3 hk3
             have HR3 := Lib.hid hr3
             have HK3 := Lib.hid hk3
             have HV3 := Lib.hid hv3
             clear hr3 hv3 hk3))
        have hk23 : Keep (fun k => some k = (Value.slice oa acc.length oc).ownBlock) w2 w3 := ((Keep.refl (fun k => some k = (Value.slice oa acc.length oc).ownBlock) w2).alloc _).trans HK3.out
        have hkk : Keep (fun k => k = g) w w3 := (HK.out.trans HK2.out).trans' hk23 (fun i q => Or.inr (HRW.out.ge q.symm))
        have hws := HK.out.size
        refine ⟨⟨i, r2, acc ++ [x], rfl, m_keep HI2.out hk23 (fun q => by have := HRW.out.ge q.symm; omega), by omega, HR3.out, by rw [List.length_append, List.length_singleton]; omega, ?_, fun y hy => ?_, hkk⟩, by simp [intOf]⟩
        · rw [HSV2.out, List.map_append, ← HXE.out]; rfl
        · rcases List.mem_append.1 hy with q | q
          · have hy3 := (HVA.out y q).2
            refine ⟨((HVA.out y q).1.keep HK2.out (fun k z e => ?_)).keep hk23 (fun k z e => (hy3 k z).2.2 e.symm), fun k z => ⟨(hy3 k z).1, by have := (hy3 k z).2.1; have := HK2.out.size; have := hk23.size; omega, fun e => ?_⟩⟩
            · have := (hy3 k z).1; omega
            · rcases HV3.out k e with z2 | z2
              · exact (hy3 k z).2.2 z2
              · have := (hy3 k z).2.1; have := HK2.out.size; simp at z2; omega
          · rw [List.mem_singleton.1 q]
            refine ⟨HRX.out.arg.keep hk23 (fun k z e => by have h1 := HRX.out.ge z; have h2 := HRW.out.lt e.symm; omega), fun k z => ⟨by have := HRX.out.ge z; omega, by have := HRX.out.lt z; have := hk23.size; omega, fun e => ?_⟩⟩
            rcases HV3.out k e with z2 | z2
            · have h1 := HRX.out.ge z; have h2 := HRW.out.lt z2; omega
            · have := HRX.out.lt z; simp at z2; omega
      · go_wp2_with fail
        go_ret
        refine ⟨_, acc, rfl, HRW.out, ?_, fun x hx => ⟨(HVA.out x hx).1, fun k z => ((HVA.out x hx).2 k z).1⟩, by omega, ?_, HK.out⟩
        · rw [HSV.out]; simp [sevP, HBB.out]
        · rw [HSV.out]; simpa [sevP, HBB.out] using HI.out
end Go.Proofs.Ytolilbcpfdnkjaa
