/- Lemmas, texts Or64 IM4 IM5 IM6 IM7 IM8 IM9; no condition beyond those that each states. -/
import Derived.Test.YtolilbcpfdnkjaaGreatZBLib0
import Derived.Test.YtolilbcpfdnkjaaGreatZBIM3
import Derived.Deep.RegionHeld3
/- The or of 64 bits, as a number. -/
namespace Go.Proofs.YtolilbcpfdnkjaaGreat
open Go.RowKit
theorem u64_or_nat (a b : Nat) (ha : a < 18446744073709551616) (hb : b < 18446744073709551616) : bits .or .u64 (a : Int) (b : Int) = ((a ||| b : Nat) : Int) := by
  have hx : a ||| b < 2 ^ 64 := Nat.or_lt_two_pow (by omega) (by omega)
  have h1 : (BitVec.ofInt 64 (a : Int)).toNat = a := by
    rw [BitVec.ofInt_natCast, BitVec.toNat_ofNat]; exact Nat.mod_eq_of_lt (by omega)
  have h2 : (BitVec.ofInt 64 (b : Int)).toNat = b := by
    rw [BitVec.ofInt_natCast, BitVec.toNat_ofNat]; exact Nat.mod_eq_of_lt (by omega)
  show IntKind.u64.wrap ((BitVec.ofInt 64 (a : Int) ||| BitVec.ofInt 64 (b : Int)).toNat : Int) = _
  rw [BitVec.toNat_or, h1, h2]
  simp [IntKind.wrap, IntKind.bits, IntKind.signed]
  omega
theorem or_byte64 (m c : Nat) (hm : m < 72057594037927936) (hc : c < 256) : bits .or .u64 ((m : Int) * 256) (c : Int) = ((m * 256 + c : Nat) : Int) := by
  have h := u64_or_nat (m * 256) c (by omega) (by omega)
  rw [Int.natCast_mul] at h
  rw [show ((m : Int) * 256) = (m : Int) * ((256 : Nat) : Int) from rfl, h]
  have := Nat.shiftLeft_add_eq_or_of_lt (b := c) (i := 8) (by omega) m
  rw [Nat.shiftLeft_eq] at this
  rw [← this]
end Go.Proofs.YtolilbcpfdnkjaaGreat

/- image: the reader. -/
namespace Go.Proofs.YtolilbcpfdnkjaaGreat
open Go.RowKit
set_option linter.unusedSimpArgs false
set_option linter.unusedVariables false
/-- An image's reader: the bytes left, and whether something was bad. -/
structure IR where
  (b : ByteArray) (bad : Bool)
def IR.take (r : IR) (n : Nat) : ByteArray × IR := if r.bad = false ∧ n ≤ r.b.size then (r.b.extract 0 n, ⟨r.b.extract n r.b.size, false⟩) else (⟨#[]⟩, ⟨r.b, true⟩)
/-- The reader in memory. -/
def IRAt (w : World) (g : Nat) (r : IR) : Prop := w.heap[g]? = some (.cells #[.string r.b, .bool r.bad] 130 (0, 0))
theorem IRAt.keep {F : Nat → Prop} {w w' : World} {g : Nat} {r : IR} (h : IRAt w g r) (k : Keep F w w') (hn : ¬ F g) : IRAt w' g r := m_keep h k hn
theorem IR.take_size (r : IR) (n : Nat) : (r.take n).1.size ≤ n ∧ (r.take n).2.b.size ≤ r.b.size := by
  unfold IR.take
  split
  · simp [ByteArray.size_extract]; omega
  · exact ⟨Nat.zero_le _, Nat.le_refl _⟩
set_option maxRecDepth 100000 in
set_option maxHeartbeats 2000000 in
theorem itake_any {w : World} {g : Nat} {r : IR} (n : Nat) (h : IRAt w g r) (hb : r.b.size ≤ maxLen) (hn : n ≤ 1000000) :
    Calls Tryz.prog 94 #[.pointer (some ⟨g, 0, none⟩), .int .i64 n] w fun e w' => e = .returned (.string (r.take n).1) ∧ IRAt w' g (r.take n).2 ∧ Keep (fun k => k = g) w w' := by
  have c0 : w.cell? ⟨g, 0, none⟩ = some (.string r.b) := (m_cells h).1 0
  have c1 : w.cell? ⟨g, 1, none⟩ = some (.bool r.bad) := (m_cells h).1 1
  have f0 : w.frozen? ⟨g, 0, none⟩ = false := (m_cells h).2 0
  have f1 : w.frozen? ⟨g, 1, none⟩ = false := (m_cells h).2 1
  unfold maxLen at hb
  have H := Lib.hid h
  obtain ⟨rb, bad⟩ := r
  clear h
  cases bad
  · by_cases hs : n ≤ rb.size
    · have i1 : ¬ ((rb.size : Int) < n) := by omega
      go_enter Tryz.func94, Tryz.ntmps94
      go_wp2
      go_ret
      exact ⟨by simp [IR.take, hs], by simpa [IR.take, hs, IRAt] using m_set H.out 0 (.string (rb.extract n rb.size)), (Keep.refl (fun k => k = g) w).set g 0 _ (Or.inl rfl)⟩
    · have i1 : (rb.size : Int) < n := by omega
      go_enter Tryz.func94, Tryz.ntmps94
      go_wp2
      go_ret
      exact ⟨by simp [IR.take, hs], by simpa [IR.take, hs, IRAt] using m_set H.out 1 (.bool true), (Keep.refl (fun k => k = g) w).set g 1 _ (Or.inl rfl)⟩
  · go_enter Tryz.func94, Tryz.ntmps94
    go_wp2
    go_ret
    exact ⟨by simp [IR.take], by simpa [IR.take, IRAt] using m_set H.out 1 (.bool true), (Keep.refl (fun k => k = g) w).set g 1 _ (Or.inl rfl)⟩
/-- The number of some bytes, the first one the greatest. -/
def beV (l : List UInt8) : Nat := l.foldl (fun n c => n * 256 + c.toNat) 0
theorem beV_snoc (l : List UInt8) (c : UInt8) : beV (l ++ [c]) = beV l * 256 + c.toNat := by simp [beV]
theorem beV_lt (l : List UInt8) : beV l < 256 ^ l.length := by
  suffices h : ∀ (l : List UInt8) (n : Nat), l.foldl (fun n c => n * 256 + c.toNat) n < (n + 1) * 256 ^ l.length by have := h l 0; simpa [beV] using this
  intro l
  induction l with
  | nil => intro n; simp
  | cons c l ih =>
    intro n
    rw [List.foldl_cons, List.length_cons]
    refine Nat.lt_of_lt_of_le (ih _) ?_
    rw [Nat.pow_succ, Nat.mul_comm (256 ^ l.length) 256, ← Nat.mul_assoc]
    refine Nat.mul_le_mul_right _ ?_
    have := c.toNat_lt
    omega
theorem beV_lt7 (l : List UInt8) (h : l.length < 8) : beV l < 72057594037927936 := by
  refine Nat.lt_of_lt_of_le (beV_lt l) ?_
  have : 256 ^ l.length ≤ 256 ^ 7 := Nat.pow_le_pow_right (by decide) (by omega)
  exact this
def IR.num (r : IR) (n : Nat) : Nat × IR := (beV (r.take n).1.data.toList, (r.take n).2)
theorem IR.num_size (r : IR) (n : Nat) : (r.num n).2.b.size ≤ r.b.size := (r.take_size n).2
set_option maxRecDepth 100000 in
set_option maxHeartbeats 2000000 in
theorem inum_any {w : World} {g : Nat} {r : IR} (n : Nat) (h : IRAt w g r) (hb : r.b.size ≤ maxLen) (hn : n ≤ 8) :
    Calls Tryz.prog 64 #[.pointer (some ⟨g, 0, none⟩), .int .i64 n] w fun e w' => e = .returned (.int .u64 (r.num n).1) ∧ IRAt w' g (r.num n).2 ∧ Keep (fun k => k = g) w w' := by
  have hs := (r.take_size n).1
  have hgl := m_lt h
  have HT := Lib.hid (itake_any n h hb (by omega))
  clear h
  go_enter Tryz.func64, Tryz.ntmps64
  go_wp2_with (refine HT.out.mono ?_; rintro e w1 ⟨rfl, hr1, hg1⟩; have HR1 := Lib.hid hr1; have HG1 := Lib.hid hg1; have hsz1 := hg1.size; clear hr1 hg1; have cv := Lib.run_convert_string_bytes (P := Tryz.prog) w1 9 69 5 (r.take n).1 Tryz.underlying9 Tryz.underlying69 Tryz.underlying5)
  obtain ⟨S, hS⟩ : ∃ S, (r.take n).1 = S := ⟨_, rfl⟩
  have hs8 : S.size ≤ 8 := by rw [← hS]; omega
  have hsl : S.data.toList.length = S.size := by rw [Array.length_toList]; rfl
  rw [hS] at cv ⊢
  clear hs
  have hcell := Lib.bytesWorld_cell w1 5 S
  have Hcell := Lib.hid hcell
  have HS := Lib.hid hS
  clear hcell cv hS
  generalize hW : Lib.bytesWorld w1 5 S = W at *
  have HW := Lib.hid hW
  clear hW
  go_loop [5, 13] (fun nv iv => ∃ k : Nat, k ≤ S.size ∧ iv = .int .i64 k ∧ nv = .int .u64 (beV (S.data.toList.take k) : Nat)) (fun _ iv => S.size - (intOf iv).toNat)
  case atStart => exact ⟨0, Nat.zero_le _, rfl, rfl⟩
  case round =>
    obtain ⟨k, hk, rfl, rfl⟩ := hrel
    by_cases hlt : k < S.size
    · have hc := Hcell.out k hlt
      have hsn : beV (S.data.toList.take (k + 1)) = beV (S.data.toList.take k) * 256 + (S.data.toList.getD k 0).toNat := by
        rw [← beV_snoc, List.getD_eq_getElem?_getD, List.getElem?_eq_getElem (by simpa using hlt), Option.getD_some, List.take_succ_eq_append_getElem (by simpa using hlt)]
      have hm32 : beV (S.data.toList.take k) < 72057594037927936 := beV_lt7 _ (by rw [List.length_take]; omega)
      have Hsn := Lib.hid hsn
      clear hsn
      generalize S.data.toList.getD k 0 = c at *
      generalize hm : beV (S.data.toList.take k) = m at *
      have Hm := Lib.hid hm
      clear hm
      have hcb : c.toNat < 256 := c.toNat_lt
      go_wp2
      exact ⟨⟨k + 1, hlt, by go_num, by rw [or_byte64 _ _ (by omega) hcb, ← Hsn.out]⟩, by simp [intOf]; omega⟩
    · go_wp2
      go_ret
      have e : List.take k S.data.toList = S.data.toList := List.take_of_length_le (by show S.size ≤ k; omega)
      refine ⟨by show Ending.returned (.int .u64 _) = _; rw [e]; unfold IR.num; rw [HS.out], ?_, ?_⟩
      · rw [← HW.out]; exact (Lib.bytesWorld_at_old _ _ _ _ (m_lt HR1.out)).trans HR1.out
      · rw [← HW.out]; exact HG1.out.trans ⟨rfl, rfl, rfl, by rw [Lib.bytesWorld_size]; omega, fun k hk _ => Lib.bytesWorld_at_old _ _ _ _ hk⟩
end Go.Proofs.YtolilbcpfdnkjaaGreat

/- image: an entry, and a directory, that are read. -/
namespace Go.Proofs.YtolilbcpfdnkjaaGreat
open Go.RowKit
set_option linter.unusedSimpArgs false
set_option linter.unusedVariables false
theorem IR.num_lt (r : IR) (k : Nat) : (r.num k).1 < 256 ^ k := by
  refine Nat.lt_of_lt_of_le (beV_lt _) (Nat.pow_le_pow_right (by decide) ?_)
  have := (r.take_size k).1
  show (r.take k).1.data.size ≤ k
  exact this
theorem conv_small (n : Nat) (h : n < 9223372036854775808) : IntKind.i64.wrap (n : Int) = (n : Int) ∧ wrap64 (n : Int) = (n : Int) := ⟨by rw [IntKind.wrap_i64] <;> omega, by unfold wrap64; omega⟩
/-- An entry that is read. -/
def entP (r : IR) : Ent × IR :=
  (⟨((r.num 1).2.take (r.num 1).1).1, (((r.num 1).2.take (r.num 1).1).2.num 2).1, decide (((((r.num 1).2.take (r.num 1).1).2.num 2).2.num 1).1 = 1), wrap64 (((((r.num 1).2.take (r.num 1).1).2.num 2).2.num 1).2.num 8).1, ((((((r.num 1).2.take (r.num 1).1).2.num 2).2.num 1).2.num 8).2.num 4).1⟩, ((((((r.num 1).2.take (r.num 1).1).2.num 2).2.num 1).2.num 8).2.num 4).2)
set_option maxRecDepth 100000 in
set_option maxHeartbeats 2000000 in
theorem ientry_any {w : World} {g : Nat} {r : IR} (h : IRAt w g r) (hb : r.b.size ≤ maxLen) :
    Calls Tryz.prog 96 #[.pointer (some ⟨g, 0, none⟩)] w fun e w' => e = .returned (.agg (entP r).1.cells.toArray) ∧ IRAt w' g (entP r).2 ∧ Keep (fun k => k = g) w w' := by
  have hgl := m_lt h
  have hb0 : Below w.heap.size w (w.alloc (.cells #[.string ⟨#[]⟩, .int .i64 0, .bool false, .int .i64 0, .int .i64 0] 84)) := (Below.refl _ w).alloc (Nat.le_refl _) _
  have hx := m_alloc w (.cells #[.string ⟨#[]⟩, .int .i64 0, .bool false, .int .i64 0, .int .i64 0] 84) w.heap.size rfl
  have h0 : IRAt (w.alloc (.cells #[.string ⟨#[]⟩, .int .i64 0, .bool false, .int .i64 0, .int .i64 0] 84)) g r := (hb0.block _ hgl).trans h
  have hk0 : Keep (fun k => k = g ∨ k = w.heap.size) w (w.alloc (.cells #[.string ⟨#[]⟩, .int .i64 0, .bool false, .int .i64 0, .int .i64 0] 84)) := (Keep.refl _ w).alloc _
  obtain ⟨a1, ha1⟩ : ∃ a, (r.num 1).1 = a := ⟨_, rfl⟩
  obtain ⟨r1, hr1⟩ : ∃ r', (r.num 1).2 = r' := ⟨_, rfl⟩
  have hs1 := r.num_size 1
  have hl1 := r.num_lt 1
  rw [ha1] at hl1
  rw [hr1] at hs1
  have HT2 := Lib.hid (r1.take_size a1)
  obtain ⟨s2, hs2⟩ : ∃ s, (r1.take a1).1 = s := ⟨_, rfl⟩
  obtain ⟨r2, hr2⟩ : ∃ r', (r1.take a1).2 = r' := ⟨_, rfl⟩
  obtain ⟨a3, ha3⟩ : ∃ a, (r2.num 2).1 = a := ⟨_, rfl⟩
  obtain ⟨r3, hr3⟩ : ∃ r', (r2.num 2).2 = r' := ⟨_, rfl⟩
  have hs3 := r2.num_size 2
  have hl3 := r2.num_lt 2
  rw [ha3] at hl3
  rw [hr3] at hs3
  obtain ⟨a4, ha4⟩ : ∃ a, (r3.num 1).1 = a := ⟨_, rfl⟩
  obtain ⟨r4, hr4⟩ : ∃ r', (r3.num 1).2 = r' := ⟨_, rfl⟩
  have hs4 := r3.num_size 1
  have hl4 := r3.num_lt 1
  rw [ha4] at hl4
  rw [hr4] at hs4
  obtain ⟨a5, ha5⟩ : ∃ a, (r4.num 8).1 = a := ⟨_, rfl⟩
  obtain ⟨r5, hr5⟩ : ∃ r', (r4.num 8).2 = r' := ⟨_, rfl⟩
  have hs5 := r4.num_size 8
  have hl5 := r4.num_lt 8
  rw [ha5] at hl5
  rw [hr5] at hs5
  obtain ⟨a6, ha6⟩ : ∃ a, (r5.num 4).1 = a := ⟨_, rfl⟩
  obtain ⟨r6, hr6⟩ : ∃ r', (r5.num 4).2 = r' := ⟨_, rfl⟩
  have hl6 := r5.num_lt 4
  rw [ha6] at hl6
  have HENT := Lib.hid (show entP r = (⟨s2, a3, decide (a4 = 1), wrap64 a5, a6⟩, r6) from by unfold entP; simp only [ha1, hr1, hs2, hr2, ha3, hr3, ha4, hr4, ha5, hr5, ha6, hr6])
  have hs2' : r2.b.size ≤ r1.b.size := by rw [← hr2]; exact HT2.out.2
  have HN1 := Lib.hid (fun (w' : World) (q : IRAt w' g r) => by have z := inum_any 1 q hb (by decide); rw [ha1, hr1] at z; exact z)
  have HN2 := Lib.hid (fun (w' : World) (q : IRAt w' g r1) => by have z := itake_any a1 q (by omega) (by omega); rw [hs2, hr2] at z; exact z)
  have HN3 := Lib.hid (fun (w' : World) (q : IRAt w' g r2) => by have z := inum_any 2 q (by omega) (by decide); rw [ha3, hr3] at z; exact z)
  have HN4 := Lib.hid (fun (w' : World) (q : IRAt w' g r3) => by have z := inum_any 1 q (by omega) (by decide); rw [ha4, hr4] at z; exact z)
  have HN5 := Lib.hid (fun (w' : World) (q : IRAt w' g r4) => by have z := inum_any 8 q (by omega) (by decide); rw [ha5, hr5] at z; exact z)
  have HN6 := Lib.hid (fun (w' : World) (q : IRAt w' g r5) => by have z := inum_any 4 q (by omega) (by decide); rw [ha6, hr6] at z; exact z)
  have e1 := conv_small a1 (by omega)
  have e3 := conv_small a3 (by omega)
  have e6 := conv_small a6 (by omega)
  clear h ha1 hr1 hs2 hr2 ha3 hr3 ha4 hr4 ha5 hr5 ha6 hr6 hs1 hs3 hs4 hs5 hs2' hl1 hl3 hl4 hl6 HT2
  go_enter Tryz.func96, Tryz.ntmps96
  go_wp2_with fail
  obtain ⟨E, hE⟩ : ∃ E, w.heap.size = E := ⟨_, rfl⟩
  rw [hE] at hx hk0 ⊢
  have hgE : E ≠ g := by omega
  generalize (w.alloc (.cells #[.string ⟨#[]⟩, .int .i64 0, .bool false, .int .i64 0, .int .i64 0] 84)) = w0 at *
  have HX0 := Lib.hid hx
  have HK0 := Lib.hid hk0
  refine (HN1.out _ h0).mono ?_
  rintro e w1 ⟨rfl, hi1, hk1⟩
  have HI1 := Lib.hid hi1
  have hx1 := m_keep HX0.out hk1 hgE
  have HX1 := Lib.hid hx1
  have HK1 := Lib.hid (HK0.out.trans (hk1.mono (fun i q => Or.inl (Or.inl q))))
  clear hi1 hk1 hx1 h0 hx hk0 hb0
  go_wp2_with fail
  refine (HN2.out _ HI1.out).mono ?_
  rintro e w2 ⟨rfl, hi2, hk2⟩
  have HI2 := Lib.hid hi2
  have HX2 := Lib.hid (m_keep HX1.out hk2 hgE)
  have HK2 := Lib.hid (HK1.out.trans (hk2.mono (fun i q => Or.inl (Or.inl q))))
  clear hi2 hk2
  go_wp2_with fail
  refine (HN3.out _ HI2.out).mono ?_
  rintro e w3 ⟨rfl, hi3, hk3⟩
  have HI3 := Lib.hid hi3
  have hx3 := m_keep HX2.out hk3 hgE
  have HX3 := Lib.hid hx3
  have HK3 := Lib.hid (HK2.out.trans (hk3.mono (fun i q => Or.inl (Or.inl q))))
  clear hi3 hk3 hx3
  go_wp2_with fail
  obtain ⟨E2, hE2⟩ : ∃ E2, w3.heap.size = E2 := ⟨_, rfl⟩
  have hEl : E < w3.heap.size := m_lt HX3.out
  have hb4 : Below w3.heap.size w3 (w3.alloc (.cells #[.string s2, .int .i64 a3, .bool false, .int .i64 0, .int .i64 0] 84)) := (Below.refl _ w3).alloc (Nat.le_refl _) _
  have hy := m_alloc w3 (.cells #[.string s2, .int .i64 a3, .bool false, .int .i64 0, .int .i64 0] 84) w3.heap.size rfl
  have hi4 : IRAt (w3.alloc (.cells #[.string s2, .int .i64 a3, .bool false, .int .i64 0, .int .i64 0] 84)) g r3 := (hb4.block _ (m_lt HI3.out)).trans HI3.out
  have hx4 := (hb4.block _ hEl).trans HX3.out
  have hk4 := HK3.out.trans ((Keep.below hb4).mono (fun i q => Or.inr q))
  have hE2g : E2 ≠ g ∧ E2 ≠ E ∧ w.heap.size ≤ E2 := by have := m_lt HI3.out; have := HK3.out.size; omega
  rw [hE2] at hy ⊢
  generalize (w3.alloc (.cells #[.string s2, .int .i64 a3, .bool false, .int .i64 0, .int .i64 0] 84)) = w4 at *
  have HX4 := Lib.hid hx4
  have HY4 := Lib.hid hy
  have HK4 := Lib.hid hk4
  refine (HN4.out _ hi4).mono ?_
  rintro e w5 ⟨rfl, hi5, hk5⟩
  have HI5 := Lib.hid hi5
  have hx5 := m_keep HX4.out hk5 hgE
  have hy5 := m_keep HY4.out hk5 hE2g.1
  have HX5 := Lib.hid hx5
  have HY5 := Lib.hid hy5
  have HK5 := Lib.hid (HK4.out.trans (hk5.mono (fun i q => Or.inl (Or.inl q))))
  have q2 : w5.frozen? ⟨E2, 2, none⟩ = false := (m_cells hy5).2 2
  have c2 : w5.cell? ⟨E2, 2, none⟩ = some (.bool false) := (m_cells hy5).1 2
  clear hi5 hk5 hx5 hy5 hi4 hx4 hk4 hy hb4 hE2 hEl
  obtain ⟨bd, hbd⟩ : ∃ bd, decide (a4 = 1) = bd := ⟨_, rfl⟩
  have hbd' : ((a4 : Int) == 1) = bd := by rw [← hbd]; by_cases e : a4 = 1 <;> simp [e]; omega
  have HBD := Lib.hid hbd
  clear hbd
  go_wp2_with fail
  have hi5 : IRAt (w5.setCell ⟨E2, 2, none⟩ (.bool bd)) g r4 := m_set_ne HI5.out _ _ _ hE2g.1.symm
  have hx5 := m_set_ne HX5.out E2 2 (.bool bd) hE2g.2.1.symm
  have hy5 := m_set HY5.out 2 (.bool bd)
  have hk5 := HK5.out.set E2 2 (.bool bd) (Or.inr hE2g.2.2)
  generalize w5.setCell ⟨E2, 2, none⟩ (.bool bd) = w5' at *
  have HX5' := Lib.hid hx5
  have HY5' := Lib.hid (show w5'.heap[E2]? = some (.cells #[.string s2, .int .i64 a3, .bool bd, .int .i64 0, .int .i64 0] 84 (0, 0)) from hy5)
  have HK5' := Lib.hid hk5
  clear hx5 hy5 hk5 q2 c2 HX5 HY5 HK5 HI5
  refine (HN5.out _ hi5).mono ?_
  rintro e w6 ⟨rfl, hi6, hk6⟩
  have HI6 := Lib.hid hi6
  have HX6 := Lib.hid (m_keep HX5'.out hk6 hgE)
  have hy6 := m_keep HY5'.out hk6 hE2g.1
  have HY6 := Lib.hid hy6
  have HK6 := Lib.hid (HK5'.out.trans (hk6.mono (fun i q => Or.inl (Or.inl q))))
  have q3 : w6.frozen? ⟨E2, 3, none⟩ = false := (m_cells hy6).2 3
  have c3 : w6.cell? ⟨E2, 3, none⟩ = some (.int .i64 0) := (m_cells hy6).1 3
  clear hi6 hk6 hy6 hi5
  go_wp2_with fail
  have hi6 : IRAt (w6.setCell ⟨E2, 3, none⟩ (.int .i64 (wrap64 a5))) g r5 := m_set_ne HI6.out _ _ _ hE2g.1.symm
  have hx6 := m_set_ne HX6.out E2 3 (.int .i64 (wrap64 a5)) hE2g.2.1.symm
  have hy6 := m_set HY6.out 3 (.int .i64 (wrap64 a5))
  have hk6 := HK6.out.set E2 3 (.int .i64 (wrap64 a5)) (Or.inr hE2g.2.2)
  generalize w6.setCell ⟨E2, 3, none⟩ (.int .i64 (wrap64 a5)) = w6' at *
  have HX6' := Lib.hid hx6
  have HY6' := Lib.hid (show w6'.heap[E2]? = some (.cells #[.string s2, .int .i64 a3, .bool bd, .int .i64 (wrap64 a5), .int .i64 0] 84 (0, 0)) from hy6)
  have HK6' := Lib.hid hk6
  clear hx6 hy6 hk6 q3 c3 HX6 HY6 HK6 HI6
  refine (HN6.out _ hi6).mono ?_
  rintro e w7 ⟨rfl, hi7, hk7⟩
  have HI7 := Lib.hid hi7
  have hx7 := m_keep HX6'.out hk7 hgE
  have HX7 := Lib.hid hx7
  have hy7 := m_keep HY6'.out hk7 hE2g.1
  have HY7 := Lib.hid hy7
  have HK7 := Lib.hid (HK6'.out.trans (hk7.mono (fun i q => Or.inl (Or.inl q))))
  have q4 : w7.frozen? ⟨E2, 4, none⟩ = false := (m_cells hy7).2 4
  obtain ⟨d0, d1, d2, d3, d4⟩ : w7.cell? ⟨E2, 0, none⟩ = some (.string s2) ∧ w7.cell? ⟨E2, 1, none⟩ = some (.int .i64 a3) ∧ w7.cell? ⟨E2, 2, none⟩ = some (.bool bd) ∧ w7.cell? ⟨E2, 3, none⟩ = some (.int .i64 (wrap64 a5)) ∧ w7.cell? ⟨E2, 4, none⟩ = some (.int .i64 0) := ⟨(m_cells hy7).1 0, (m_cells hy7).1 1, (m_cells hy7).1 2, (m_cells hy7).1 3, (m_cells hy7).1 4⟩
  obtain ⟨x0, x1, x2, x3, x4⟩ : w7.cell? ⟨E, 0, none⟩ = some (.string ⟨#[]⟩) ∧ w7.cell? ⟨E, 1, none⟩ = some (.int .i64 0) ∧ w7.cell? ⟨E, 2, none⟩ = some (.bool false) ∧ w7.cell? ⟨E, 3, none⟩ = some (.int .i64 0) ∧ w7.cell? ⟨E, 4, none⟩ = some (.int .i64 0) := ⟨(m_cells hx7).1 0, (m_cells hx7).1 1, (m_cells hx7).1 2, (m_cells hx7).1 3, (m_cells hx7).1 4⟩
  obtain ⟨y0, y1, y2, y3, y4⟩ : w7.frozen? ⟨E, 0, none⟩ = false ∧ w7.frozen? ⟨E, 1, none⟩ = false ∧ w7.frozen? ⟨E, 2, none⟩ = false ∧ w7.frozen? ⟨E, 3, none⟩ = false ∧ w7.frozen? ⟨E, 4, none⟩ = false := ⟨(m_cells hx7).2 0, (m_cells hx7).2 1, (m_cells hx7).2 2, (m_cells hx7).2 3, (m_cells hx7).2 4⟩
  clear hi7 hk7 hy7 hi6 hx7
  go_wp2_with fail
  have hres := m_set (m_set (m_set (m_set (m_set (m_set_ne HX7.out E2 4 (.int .i64 a6) hE2g.2.1.symm) 0 (.string s2)) 1 (.int .i64 a3)) 2 (.bool bd)) 3 (.int .i64 (wrap64 a5))) 4 (.int .i64 a6)
  have hkk := ((((((HK7.out.set E2 4 (.int .i64 a6) (Or.inr hE2g.2.2)).set E 0 (.string s2) (Or.inl (Or.inr rfl))).set E 1 (.int .i64 a3) (Or.inl (Or.inr rfl))).set E 2 (.bool bd) (Or.inl (Or.inr rfl))).set E 3 (.int .i64 (wrap64 a5)) (Or.inl (Or.inr rfl))).set E 4 (.int .i64 a6) (Or.inl (Or.inr rfl)))
  have hir : IRAt ((((((w7.setCell ⟨E2, 4, none⟩ (.int .i64 a6)).setCell ⟨E, 0, none⟩ (.string s2)).setCell ⟨E, 1, none⟩ (.int .i64 a3)).setCell ⟨E, 2, none⟩ (.bool bd)).setCell ⟨E, 3, none⟩ (.int .i64 (wrap64 a5))).setCell ⟨E, 4, none⟩ (.int .i64 a6)) g r6 :=
    m_set_ne (m_set_ne (m_set_ne (m_set_ne (m_set_ne (m_set_ne HI7.out _ _ _ hE2g.1.symm) _ _ _ hgE.symm) _ _ _ hgE.symm) _ _ _ hgE.symm) _ _ _ hgE.symm) _ _ _ hgE.symm
  refine bodyPost_ret (v := .agg #[.string s2, .int .i64 a3, .bool bd, .int .i64 (wrap64 a5), .int .i64 a6]) (results_cell_row (p := 2) (ty := 84) rfl _ _ E 84 _ (0, 0) _ rfl hres Tryz.underlying84 rfl (by kernel_rfl)) rfl ⟨?_, ?_, ?_⟩
  · rw [HENT.out, HBD.out]
  · rw [HENT.out]; exact hir
  · exact hkk.mono (fun i q => q.elim Or.inl (fun e => Or.inr (by omega)))
end Go.Proofs.YtolilbcpfdnkjaaGreat

/- image: several entries, and a directory, that are read. -/
namespace Go.Proofs.YtolilbcpfdnkjaaGreat
open Go.RowKit
set_option linter.unusedSimpArgs false
set_option linter.unusedVariables false
/-- As many as a number says, up to what is wrong. -/
def sevP {α : Type} (one : IR → α × IR) : Nat → IR → List α × IR
  | 0, r => ([], r)
  | n + 1, r => if r.bad then ([], r) else ((one r).1 :: (sevP one n (one r).2).1, (sevP one n (one r).2).2)
theorem IR.take_small (r : IR) (n : Nat) : (r.take n).2.b.size ≤ r.b.size := (r.take_size n).2
theorem entP_size (r : IR) : (entP r).2.b.size ≤ r.b.size := by
  unfold entP
  exact Nat.le_trans (IR.num_size _ _) (Nat.le_trans (IR.num_size _ _) (Nat.le_trans (IR.num_size _ _) (Nat.le_trans (IR.num_size _ _) (Nat.le_trans (IR.take_small _ _) (IR.num_size _ _)))))
/-- What is gathered so far. -/
def SevT {α : Type} (E : EK α) (one : IR → α × IR) (w : World) (g : Nat) (n : Nat) (r1 : IR) (ov nv : Value) (wr : World) : Prop :=
  ∃ (i : Nat) (ri : IR) (acc : List α), nv = .int .u64 i ∧ IRAt wr g ri ∧ ri.b.size ≤ 20000000 ∧ Row E wr w.heap.size ov acc ∧ acc.length + i ≤ n ∧ sevP one n r1 = (acc ++ (sevP one i ri).1, (sevP one i ri).2) ∧ Keep (fun k => k = g) w wr
theorem num_lt2 (r : IR) : (r.num 2).1 < 65536 := r.num_lt 2
set_option maxRecDepth 100000 in
set_option maxHeartbeats 2000000 in
theorem iseve_any {w : World} {g : Nat} {r : IR} (h : IRAt w g r) (hb : r.b.size ≤ 20000000) :
    Calls Tryz.prog 95 #[.pointer (some ⟨g, 0, none⟩), .func (.func 96) #[.pointer (some ⟨g, 0, none⟩)] #[]] w fun e w' =>
      ∃ v, e = .returned v ∧ Row EEnt w' w.heap.size v (sevP entP (r.num 2).1 (r.num 2).2).1 ∧ IRAt w' g (sevP entP (r.num 2).1 (r.num 2).2).2 ∧ (sevP entP (r.num 2).1 (r.num 2).2).2.b.size ≤ 20000000 ∧ Keep (fun k => k = g) w w' := by
  have hgl := m_lt h
  have HN := Lib.hid (inum_any 2 h (by unfold maxLen; omega) (by decide))
  have hn := num_lt2 r
  have hs := r.num_size 2
  obtain ⟨n, hnn⟩ : ∃ n, (r.num 2).1 = n := ⟨_, rfl⟩
  obtain ⟨r1, hr1⟩ : ∃ r', (r.num 2).2 = r' := ⟨_, rfl⟩
  rw [hnn, hr1] at HN
  rw [hr1] at hs
  rw [hnn] at hn
  rw [hnn, hr1]
  clear hnn hr1 h
  go_enter Tryz.func95, Tryz.ntmps95
  go_wp2_with fail
  refine HN.out.mono ?_
  rintro e w1 ⟨rfl, hi1, hk1⟩
  have HST := Lib.hid (show SevT EEnt entP w g n r1 (.slice none 0 0) (.int .u64 n) w1 from ⟨n, r1, [], rfl, hi1, by omega, Row.nil _ _ _, by simp, by simp, hk1⟩)
  clear hi1 hk1 HN
  go_wp2_with fail
  go_loopw [5, 6] (fun ov nv wr => SevT EEnt entP w g n r1 ov nv wr) (fun _ nv _ => (intOf nv).toNat)
  case atStart => exact HST.out
  case round =>
    obtain ⟨i, ri, acc, rfl, hi, hsz, hrow, hlen, hsev, hk⟩ := hrel
    obtain ⟨oa, oc, rfl⟩ := hrow.shape
    have HI := Lib.hid hi
    have HRW := Lib.hid hrow
    have HSV := Lib.hid hsev
    have HK := Lib.hid hk
    have c1 : wr.cell? ⟨g, 1, none⟩ = some (.bool ri.bad) := (m_cells hi).1 1
    clear hi hrow hsev hk HST
    cases i with
    | zero =>
      go_wp2_with fail
      go_ret
      refine ⟨_, rfl, ?_, ?_, ?_, HK.out⟩
      · rw [HSV.out]; simpa [sevP] using HRW.out
      · rw [HSV.out]; simpa [sevP] using HI.out
      · rw [HSV.out]; simpa [sevP] using hsz
    | succ i =>
      have i0 : (0 : Int) < ((i + 1 : Nat) : Int) := by omega
      obtain ⟨bb, hbb⟩ : ∃ bb, ri.bad = bb := ⟨_, rfl⟩
      rw [hbb] at c1
      have HBB := Lib.hid hbb
      clear hbb
      cases bb
      · have HE := Lib.hid (ientry_any HI.out (by unfold maxLen; omega))
        have hsz2 := entP_size ri
        have HSV2 := Lib.hid (show sevP entP n r1 = (acc ++ [(entP ri).1] ++ (sevP entP i (entP ri).2).1, (sevP entP i (entP ri).2).2) from by
          rw [HSV.out, sevP, HBB.out]; simp)
        obtain ⟨x, hx⟩ : ∃ x, (entP ri).1 = x := ⟨_, rfl⟩
        obtain ⟨r2, hr2⟩ : ∃ r', (entP ri).2 = r' := ⟨_, rfl⟩
        rw [hx, hr2] at HSV2 HE
        rw [hr2] at hsz2
        clear hx hr2
        go_wp2_with (first
          | (go_at_call 96
             refine HE.out.mono ?_
             rintro e w2 ⟨rfl, hi2, hk2⟩
             have HI2 := Lib.hid hi2
             have HK2 := Lib.hid hk2
             have HRW2 := Lib.hid (HRW.out.keep hk2 (fun q z e => by have := HRW.out.ge z; omega))
             have hk2s := hk2.size
             clear hi2 hk2)
          | (refine app_row EEnt.laid rfl _ _ 49 49 Tryz.underlying49 Tryz.underlying49 rfl (.slice oa acc.length oc) acc rfl (HRW2.out.alloc _) _ [x] rfl ?e1 ?e2 ?e3 ?e4 ?_
             case e1 => exact Arg.blk (m_alloc _ _ _ rfl) [x] rfl 1
             case e2 => (show (acc.length + 1) * 48 ≤ _; omega)
             case e3 => (show acc.length + 1 ≤ maxLen; unfold maxLen; omega)
             case e4 => (have := HK.out.size; simp; omega)
             intro v3 w3 hr3 hv3 hk3
             have HR3 := Lib.hid hr3
             have HK3 := Lib.hid hk3
             clear hr3 hv3 hk3))
        have hkk : Keep (fun k => k = g) w w3 := (HK.out.trans HK2.out).trans' (((Keep.refl (fun k => some k = (Value.slice oa acc.length oc).ownBlock) w2).alloc _).trans HK3.out) (fun i q => Or.inr (HRW.out.ge q.symm))
        refine ⟨⟨i, r2, acc ++ [x], rfl, ?_, by omega, HR3.out, by rw [List.length_append, List.length_singleton]; omega, HSV2.out, hkk⟩, by simp [intOf]⟩
        exact (m_keep HI2.out ((Keep.refl (fun k => some k = (Value.slice oa acc.length oc).ownBlock) w2).alloc _) (fun q => by have := HRW.out.ge q.symm; omega) |> fun z => m_keep z HK3.out (fun q => by have := HRW.out.ge q.symm; omega))
      · go_wp2_with fail
        go_ret
        refine ⟨_, rfl, ?_, ?_, ?_, HK.out⟩
        · rw [HSV.out]; simpa [sevP, HBB.out] using HRW.out
        · rw [HSV.out]; simpa [sevP, HBB.out] using HI.out
        · rw [HSV.out]; simpa [sevP, HBB.out] using hsz
theorem sevP_size {α : Type} (one : IR → α × IR) (h : ∀ r, (one r).2.b.size ≤ r.b.size) : ∀ n r, (sevP one n r).2.b.size ≤ r.b.size := by
  intro n
  induction n with
  | zero => intro r; exact Nat.le_refl _
  | succ n ih =>
    intro r
    rw [sevP]
    split
    · exact Nat.le_refl _
    · exact Nat.le_trans (ih _) (h r)
/-- A directory that is read. -/
def dirP (r : IR) : (Int × List Ent) × IR := ((((r.num 2).1 : Int), (sevP entP ((r.num 2).2.num 2).1 ((r.num 2).2.num 2).2).1), (sevP entP ((r.num 2).2.num 2).1 ((r.num 2).2.num 2).2).2)
theorem dirP_size (r : IR) : (dirP r).2.b.size ≤ r.b.size := by
  unfold dirP
  exact Nat.le_trans (sevP_size entP entP_size _ _) (Nat.le_trans (IR.num_size _ _) (IR.num_size _ _))
/-- A directory in memory. -/
structure DI where
  (node : Int) (a : Option Addr) (c : Nat) (l : List Ent)
@[reducible] def DI.val (x : DI) : Value := .slice x.a x.l.length x.c
def EDI : EK DI := ⟨135, 2, 32, fun x => [.int .i64 x.node, x.val], fun _ => rfl, fun _ u hu => by simp at hu; rcases hu with rfl | rfl <;> rfl, by decide⟩
theorem EDI.laid : EDI.Laid := EK.laid (z := .agg #[.int .i64 0, .slice none 0 0]) (by kernel_rfl) (by decide)
set_option maxRecDepth 100000 in
set_option maxHeartbeats 2000000 in
theorem idir_any {w : World} {g : Nat} {r : IR} (h : IRAt w g r) (hb : r.b.size ≤ 20000000) :
    Calls Tryz.prog 66 #[.pointer (some ⟨g, 0, none⟩)] w fun e w' =>
      ∃ x : DI, e = .returned (.agg #[.int .i64 x.node, x.val]) ∧ (x.node, x.l) = (dirP r).1 ∧ Row EEnt w' w.heap.size x.val x.l ∧ IRAt w' g (dirP r).2 ∧ Keep (fun k => k = g) w w' := by
  have hgl := m_lt h
  have hb0 : Below w.heap.size w (w.alloc (.cells #[.int .i64 0, .slice none 0 0] 135)) := (Below.refl _ w).alloc (Nat.le_refl _) _
  have hx := m_alloc w (.cells #[.int .i64 0, .slice none 0 0] 135) w.heap.size rfl
  have h0 : IRAt (w.alloc (.cells #[.int .i64 0, .slice none 0 0] 135)) g r := (hb0.block _ hgl).trans h
  have hk0 : Keep (fun k => k = g ∨ k = w.heap.size) w (w.alloc (.cells #[.int .i64 0, .slice none 0 0] 135)) := (Keep.refl _ w).alloc _
  have hn := num_lt2 r
  have hs := r.num_size 2
  have HDP := Lib.hid (show dirP r = ((((r.num 2).1 : Int), (sevP entP ((r.num 2).2.num 2).1 ((r.num 2).2.num 2).2).1), (sevP entP ((r.num 2).2.num 2).1 ((r.num 2).2.num 2).2).2) from rfl)
  have HN := Lib.hid (fun (w' : World) (q : IRAt w' g r) => inum_any 2 q (by unfold maxLen; omega) (by decide))
  obtain ⟨n, hnn⟩ : ∃ n, (r.num 2).1 = n := ⟨_, rfl⟩
  obtain ⟨r1, hr1⟩ : ∃ r', (r.num 2).2 = r' := ⟨_, rfl⟩
  rw [hnn, hr1] at HN HDP
  rw [hr1] at hs
  rw [hnn] at hn
  have e1 := conv_small n (by omega)
  have HSV := Lib.hid (fun (w' : World) (q : IRAt w' g r1) => iseve_any q (by omega))
  obtain ⟨es, hes⟩ : ∃ es, (sevP entP (r1.num 2).1 (r1.num 2).2).1 = es := ⟨_, rfl⟩
  obtain ⟨r3, hr3⟩ : ∃ r', (sevP entP (r1.num 2).1 (r1.num 2).2).2 = r' := ⟨_, rfl⟩
  rw [hes, hr3] at HSV HDP
  clear hnn hr1 h hes hr3 hn hs
  go_enter Tryz.func66, Tryz.ntmps66
  go_wp2_with fail
  obtain ⟨E, hE⟩ : ∃ E, w.heap.size = E := ⟨_, rfl⟩
  rw [hE] at hx hk0 ⊢
  have hgE : E ≠ g := by omega
  generalize (w.alloc (.cells #[.int .i64 0, .slice none 0 0] 135)) = w0 at *
  have HX0 := Lib.hid hx
  have HK0 := Lib.hid hk0
  refine (HN.out _ h0).mono ?_
  rintro e w1 ⟨rfl, hi1, hk1⟩
  have HI1 := Lib.hid hi1
  have HX1 := Lib.hid (m_keep HX0.out hk1 hgE)
  have HK1 := Lib.hid (HK0.out.trans (hk1.mono (fun i q => Or.inl (Or.inl q))))
  clear hi1 hk1 h0 hx hk0 hb0
  go_wp2_with fail
  refine (HSV.out _ HI1.out).mono ?_
  rintro e w2 ⟨v, rfl, hrow, hi2, hsz2, hk2⟩
  obtain ⟨a2, c2, rfl⟩ := hrow.shape
  have HI2 := Lib.hid hi2
  have hx2 := m_keep HX1.out hk2 hgE
  have HX2 := Lib.hid hx2
  have HK2 := Lib.hid (HK1.out.trans (hk2.mono (fun i q => Or.inl (Or.inl q))))
  have HRW := Lib.hid hrow
  have HEL := Lib.hid (show E < w1.heap.size from m_lt HX1.out)
  have q0 : w2.frozen? ⟨E, 0, none⟩ = false := (m_cells hx2).2 0
  have q1 : w2.frozen? ⟨E, 1, none⟩ = false := (m_cells hx2).2 1
  have d0 : w2.cell? ⟨E, 0, none⟩ = some (.int .i64 0) := (m_cells hx2).1 0
  have d1 : w2.cell? ⟨E, 1, none⟩ = some (.slice none 0 0) := (m_cells hx2).1 1
  clear hrow hi2 hk2 hx2 hsz2
  go_wp2_with fail
  have hres := m_set (m_set HX2.out 0 (.int .i64 n)) 1 (.slice a2 es.length c2)
  have hkk := (HK2.out.set E 0 (.int .i64 n) (Or.inl (Or.inr rfl))).set E 1 (.slice a2 es.length c2) (Or.inl (Or.inr rfl))
  have hir : IRAt ((w2.setCell ⟨E, 0, none⟩ (.int .i64 n)).setCell ⟨E, 1, none⟩ (.slice a2 es.length c2)) g r3 := m_set_ne (m_set_ne HI2.out _ _ _ hgE.symm) _ _ _ hgE.symm
  refine bodyPost_ret (v := .agg #[.int .i64 n, .slice a2 es.length c2]) (results_cell_row (p := 2) (ty := 135) rfl _ _ E 135 _ (0, 0) _ rfl hres Tryz.underlying135 rfl (by kernel_rfl)) rfl ⟨⟨n, a2, c2, es⟩, rfl, ?_, ?_, ?_, ?_⟩
  · rw [HDP.out]
  · refine (HRW.out.kept (fun k q => ?_)).mono (by have := HEL.out; omega)
    have hge := HRW.out.ge q
    have := HEL.out
    rw [Below.heap_setCell _ _ _ _ (fun e => by have : k = E := e; omega), Below.heap_setCell _ _ _ _ (fun e => by have : k = E := e; omega)]
  · rw [HDP.out]; exact hir
  · exact hkk.mono (fun i q => q.elim Or.inl (fun e => Or.inr (by omega)))
end Go.Proofs.YtolilbcpfdnkjaaGreat

/- image: several directories that are read. -/
namespace Go.Proofs.YtolilbcpfdnkjaaGreat
open Go.RowKit
set_option linter.unusedSimpArgs false
set_option linter.unusedVariables false
def DI.plain (x : DI) : Int × List Ent := (x.node, x.l)
/-- What is gathered so far. -/
def SevD (w : World) (g : Nat) (n : Nat) (r1 : IR) (ov nv : Value) (wr : World) : Prop :=
  ∃ (i : Nat) (ri : IR) (acc : List DI), nv = .int .u64 i ∧ IRAt wr g ri ∧ ri.b.size ≤ 20000000 ∧ Row EDI wr w.heap.size ov acc ∧ acc.length + i ≤ n ∧ sevP dirP n r1 = (acc.map DI.plain ++ (sevP dirP i ri).1, (sevP dirP i ri).2) ∧
    (∀ x ∈ acc, Arg EEnt wr x.val x.l ∧ ∀ k, x.val.ownBlock = some k → w.heap.size ≤ k ∧ k < wr.heap.size ∧ ov.ownBlock ≠ some k) ∧ Keep (fun k => k = g) w wr
set_option maxRecDepth 100000 in
set_option maxHeartbeats 2000000 in
theorem isevd_any {w : World} {g : Nat} {r : IR} (h : IRAt w g r) (hb : r.b.size ≤ 20000000) :
    Calls Tryz.prog 65 #[.pointer (some ⟨g, 0, none⟩), .func (.func 66) #[.pointer (some ⟨g, 0, none⟩)] #[]] w fun e w' =>
      ∃ v acc, e = .returned v ∧ Row EDI w' w.heap.size v acc ∧ acc.map DI.plain = (sevP dirP (r.num 2).1 (r.num 2).2).1 ∧ (∀ x ∈ acc, Arg EEnt w' x.val x.l ∧ ∀ k, x.val.ownBlock = some k → w.heap.size ≤ k) ∧ acc.length ≤ 65536 ∧ IRAt w' g (sevP dirP (r.num 2).1 (r.num 2).2).2 ∧ Keep (fun k => k = g) w w' := by
  have hgl := m_lt h
  have HN := Lib.hid (inum_any 2 h (by unfold maxLen; omega) (by decide))
  have hn := num_lt2 r
  have hs := r.num_size 2
  obtain ⟨n, hnn⟩ : ∃ n, (r.num 2).1 = n := ⟨_, rfl⟩
  obtain ⟨r1, hr1⟩ : ∃ r', (r.num 2).2 = r' := ⟨_, rfl⟩
  rw [hnn, hr1] at HN
  rw [hr1] at hs
  rw [hnn] at hn
  rw [hnn, hr1]
  clear hnn hr1 h
  go_enter Tryz.func65, Tryz.ntmps65
  go_wp2_with fail
  refine HN.out.mono ?_
  rintro e w1 ⟨rfl, hi1, hk1⟩
  have HST := Lib.hid (show SevD w g n r1 (.slice none 0 0) (.int .u64 n) w1 from ⟨n, r1, [], rfl, hi1, by omega, Row.nil _ _ _, by simp, by simp, fun x hx => absurd hx (List.not_mem_nil), hk1⟩)
  clear hi1 hk1 HN
  go_wp2_with fail
  go_loopw [5, 6] (fun ov nv wr => SevD w g n r1 ov nv wr) (fun _ nv _ => (intOf nv).toNat)
  case atStart => exact HST.out
  case round =>
    obtain ⟨i, ri, acc, rfl, hi, hsz, hrow, hlen, hsev, hva, hk⟩ := hrel
    have HVA := Lib.hid hva
    clear hva
    obtain ⟨oa, oc, rfl⟩ := hrow.shape
    have HI := Lib.hid hi
    have HRW := Lib.hid hrow
    have HSV := Lib.hid hsev
    have HK := Lib.hid hk
    have c1 : wr.cell? ⟨g, 1, none⟩ = some (.bool ri.bad) := (m_cells hi).1 1
    clear hi hrow hsev hk HST
    cases i with
    | zero =>
      go_wp2_with fail
      go_ret
      refine ⟨_, acc, rfl, HRW.out, ?_, fun x hx => ⟨(HVA.out x hx).1, fun k z => ((HVA.out x hx).2 k z).1⟩, by omega, ?_, HK.out⟩
      · rw [HSV.out]; simp [sevP]
      · rw [HSV.out]; simpa [sevP] using HI.out
    | succ i =>
      have i0 : (0 : Int) < ((i + 1 : Nat) : Int) := by omega
      obtain ⟨bb, hbb⟩ : ∃ bb, ri.bad = bb := ⟨_, rfl⟩
      rw [hbb] at c1
      have HBB := Lib.hid hbb
      clear hbb
      cases bb
      · have HE := Lib.hid (idir_any HI.out hsz)
        have hsz2 := dirP_size ri
        have HSV2 := Lib.hid (show sevP dirP n r1 = (acc.map DI.plain ++ [(dirP ri).1] ++ (sevP dirP i (dirP ri).2).1, (sevP dirP i (dirP ri).2).2) from by
          rw [HSV.out, sevP, HBB.out]; simp)
        obtain ⟨px, hx⟩ : ∃ x, (dirP ri).1 = x := ⟨_, rfl⟩
        obtain ⟨r2, hr2⟩ : ∃ r', (dirP ri).2 = r' := ⟨_, rfl⟩
        rw [hx, hr2] at HSV2 HE
        rw [hr2] at hsz2
        clear hx hr2
        go_wp2_with (first
          | (go_at_call 66
             refine HE.out.mono ?_
             rintro e w2 ⟨x, rfl, hxe, hrx, hi2, hk2⟩
             have HXE := Lib.hid hxe
             have HRX := Lib.hid hrx
             have HI2 := Lib.hid hi2
             have HK2 := Lib.hid hk2
             have HRW2 := Lib.hid (HRW.out.keep hk2 (fun q z e => by have := HRW.out.ge z; omega))
             have hk2s := hk2.size
             clear hi2 hk2 hxe hrx)
          | (refine app_row EDI.laid rfl _ _ 132 132 Tryz.underlying132 Tryz.underlying132 rfl (.slice oa acc.length oc) acc rfl (HRW2.out.alloc _) _ [x] rfl ?e1 ?e2 ?e3 ?e4 ?_
             case e1 => exact Arg.blk (m_alloc _ _ _ rfl) [x] rfl 1
             case e2 => (show (acc.length + 1) * 32 ≤ _; omega)
             case e3 => (show acc.length + 1 ≤ maxLen; unfold maxLen; omega)
             case e4 => (have := HK.out.size; simp; omega)
             intro v3 w3 hr3 hv3 hk3
             have HR3 := Lib.hid hr3
             have HK3 := Lib.hid hk3
             have HV3 := Lib.hid hv3
             clear hr3 hv3 hk3))
        have hk23 : Keep (fun k => some k = (Value.slice oa acc.length oc).ownBlock) w2 w3 := ((Keep.refl (fun k => some k = (Value.slice oa acc.length oc).ownBlock) w2).alloc _).trans HK3.out
        have hkk : Keep (fun k => k = g) w w3 := (HK.out.trans HK2.out).trans' hk23 (fun i q => Or.inr (HRW.out.ge q.symm))
        have hws := HK.out.size
        refine ⟨⟨i, r2, acc ++ [x], rfl, m_keep HI2.out hk23 (fun q => by have := HRW.out.ge q.symm; omega), by omega, HR3.out, by rw [List.length_append, List.length_singleton]; omega, ?_, fun y hy => ?_, hkk⟩, by simp [intOf]⟩
        · rw [HSV2.out, List.map_append, ← HXE.out]; rfl
        · rcases List.mem_append.1 hy with q | q
          · have hy3 := (HVA.out y q).2
            refine ⟨((HVA.out y q).1.keep HK2.out (fun k z e => ?_)).keep hk23 (fun k z e => (hy3 k z).2.2 e.symm), fun k z => ⟨(hy3 k z).1, by have := (hy3 k z).2.1; have := HK2.out.size; have := hk23.size; omega, fun e => ?_⟩⟩
            · have := (hy3 k z).1; omega
            · rcases HV3.out k e with z2 | z2
              · exact (hy3 k z).2.2 z2
              · have := (hy3 k z).2.1; have := HK2.out.size; simp at z2; omega
          · rw [List.mem_singleton.1 q]
            refine ⟨HRX.out.arg.keep hk23 (fun k z e => by have h1 := HRX.out.ge z; have h2 := HRW.out.lt e.symm; omega), fun k z => ⟨by have := HRX.out.ge z; omega, by have := HRX.out.lt z; have := hk23.size; omega, fun e => ?_⟩⟩
            rcases HV3.out k e with z2 | z2
            · have h1 := HRX.out.ge z; have h2 := HRW.out.lt z2; omega
            · have := HRX.out.lt z; simp at z2; omega
      · go_wp2_with fail
        go_ret
        refine ⟨_, acc, rfl, HRW.out, ?_, fun x hx => ⟨(HVA.out x hx).1, fun k z => ((HVA.out x hx).2 k z).1⟩, by omega, ?_, HK.out⟩
        · rw [HSV.out]; simp [sevP, HBB.out]
        · rw [HSV.out]; simpa [sevP, HBB.out] using HI.out
end Go.Proofs.YtolilbcpfdnkjaaGreat

/- image: what is written is read again, in plain Lean. -/
namespace Go.Proofs.YtolilbcpfdnkjaaGreat
open Go.RowKit
set_option linter.unusedSimpArgs false
set_option linter.unusedVariables false
/-- Bytes as they are read. -/
def bmk (l : List UInt8) : ByteArray := ⟨l.toArray⟩
theorem bmk_size (l : List UInt8) : (bmk l).size = l.length := by simp [bmk, ByteArray.size]
theorem take_mk (p q : List UInt8) (n : Nat) (h : p.length = n) : (IR.mk (bmk (p ++ q)) false).take n = (bmk p, ⟨bmk q, false⟩) := by
  subst h
  unfold IR.take
  have h1 : (bmk (p ++ q)).extract 0 p.length = bmk p := by
    apply ByteArray.ext
    rw [ByteArray.data_extract]
    apply Array.ext'
    simp [bmk]
  have h2 : (bmk (p ++ q)).extract p.length (bmk (p ++ q)).size = bmk q := by
    apply ByteArray.ext
    rw [ByteArray.data_extract, bmk_size]
    apply Array.ext'
    simp [bmk]
  rw [if_pos ⟨rfl, by rw [bmk_size, List.length_append]; omega⟩, h1, h2]
theorem beV_beB (n k : Nat) (h : n < 256 ^ k) : beV (beB n k) = n := by
  have key : ∀ (k n m : Nat), (beB n k).foldl (fun a c => a * 256 + c.toNat) m = m * 256 ^ k + n % 256 ^ k := by
    intro k
    induction k with
    | zero => intro n m; simp [beB, Nat.mod_one]
    | succ k ih =>
      intro n m
      rw [beB, List.foldl_cons, ih]
      have h1 : (UInt8.ofNat (n / 256 ^ k % 256)).toNat = n / 256 ^ k % 256 := by simp
      rw [h1]
      have h2 : n % 256 ^ (k + 1) = n / 256 ^ k % 256 * 256 ^ k + n % 256 ^ k := by
        rw [Nat.pow_succ, Nat.mod_mul, Nat.mul_comm (256 ^ k), Nat.add_comm]
      rw [h2, Nat.pow_succ, Nat.add_mul, Nat.mul_assoc, Nat.mul_comm 256, Nat.add_assoc]
  have := key k n 0
  unfold beV
  rw [this, Nat.zero_mul, Nat.zero_add, Nat.mod_eq_of_lt h]
theorem num_mk (n k : Nat) (q : List UInt8) (h : n < 256 ^ k) : (IR.mk (bmk (beB n k ++ q)) false).num k = (n, ⟨bmk q, false⟩) := by
  unfold IR.num
  rw [take_mk _ _ _ (beB_len n k)]
  have : (bmk (beB n k)).data.toList = beB n k := by simp [bmk]
  rw [this, beV_beB n k h]
/-- What an entry's numbers are, so that they are read as they were. -/
def EntIn (e : Ent) : Prop := e.name.size ≤ 255 ∧ 0 ≤ e.node ∧ e.node < 65536 ∧ 0 ≤ e.cookie ∧ e.cookie ≤ 9223372036854775807 ∧ 0 ≤ e.short ∧ e.short < 4294967296
theorem bmk_toList (s : ByteArray) : bmk s.data.toList = s := by
  apply ByteArray.ext; simp [bmk]
theorem entP_mk (e : Ent) (q : List UInt8) (h : EntIn e) : entP ⟨bmk (entB e ++ q), false⟩ = (e, ⟨bmk q, false⟩) := by
  obtain ⟨nm, nd, dr, ck, sh⟩ := e
  obtain ⟨h1, h2, h3, h4, h5, h6, h7⟩ := h
  dsimp only at h1 h2 h3 h4 h5 h6 h7
  have e1 : entB ⟨nm, nd, dr, ck, sh⟩ ++ q = beB nm.size 1 ++ (nm.data.toList ++ (beB nd.toNat 2 ++ (beB (if dr then 1 else 0) 1 ++ (beB ck.toNat 8 ++ (beB sh.toNat 4 ++ q))))) := by
    unfold entB; simp only [List.append_assoc]
  have hsz : nm.data.toList.length = nm.size := by rw [Array.length_toList]; rfl
  unfold entP
  rw [e1, num_mk _ _ _ (by omega)]
  dsimp only
  rw [take_mk _ _ _ hsz]
  dsimp only
  rw [num_mk _ _ _ (by omega)]
  dsimp only
  rw [num_mk _ _ _ (by cases dr <;> decide)]
  dsimp only
  rw [num_mk _ _ _ (by omega)]
  dsimp only
  rw [num_mk _ _ _ (by omega), bmk_toList]
  have a1 : ((nd.toNat : Nat) : Int) = nd := by omega
  have a2 : wrap64 ((ck.toNat : Nat) : Int) = ck := by unfold wrap64; omega
  have a3 : ((sh.toNat : Nat) : Int) = sh := by omega
  have a4 : decide ((if dr = true then 1 else 0) = 1) = dr := by cases dr <;> rfl
  rw [a1, a2, a3, a4]
theorem sevP_ents (es : List Ent) (q : List UInt8) (h : ∀ e ∈ es, EntIn e) : sevP entP es.length ⟨bmk (es.flatMap entB ++ q), false⟩ = (es, ⟨bmk q, false⟩) := by
  induction es with
  | nil => rfl
  | cons e es ih =>
    have h1 := h e (List.mem_cons_self ..)
    rw [List.flatMap_cons, List.append_assoc, List.length_cons, sevP, entP_mk e _ h1]
    dsimp only
    rw [ih (fun x hx => h x (List.mem_cons_of_mem _ hx))]
    rfl
theorem dirP_mk (d : Int) (es : List Ent) (q : List UInt8) (hd : 0 ≤ d) (hd2 : d < 65536) (hl : es.length < 65536) (h : ∀ e ∈ es, EntIn e) :
    dirP ⟨bmk (beB d.toNat 2 ++ beB es.length 2 ++ es.flatMap entB ++ q), false⟩ = ((d, es), ⟨bmk q, false⟩) := by
  unfold dirP
  rw [List.append_assoc, List.append_assoc, num_mk _ _ _ (by omega)]
  dsimp only
  rw [num_mk _ _ _ (by omega)]
  dsimp only
  rw [sevP_ents es q h]
  have a1 : ((d.toNat : Nat) : Int) = d := by omega
  rw [a1]
theorem ents_in {L : List Itm} {next : Int} (h : TInv L next) (hn : next ≤ 9223372036854775807) (d : Int) : ∀ e ∈ entries L d, EntIn e := fun e he => by
  have hm := mem_entries'.1 he
  have h1 := h.gd _ hm
  have h2 := h.rg _ hm
  have h3 := h.cb _ hm
  dsimp only at h1 h2 h3
  have h0 := (ents_fit h hn d e he).1
  unfold mayErr at h1
  split at h1
  · cases h1
  · split at h1
    · cases h1
    · exact ⟨h0, by omega, by omega, by omega, by omega, by omega, by omega⟩
theorem sevP_dirs {L : List Itm} {next : Int} (h : TInv L next) (hn : next ≤ 9223372036854775807) (ds : List Int) (hd : ∀ d ∈ ds, 0 ≤ d ∧ d < 65536) (q : List UInt8) :
    sevP dirP ds.length ⟨bmk (ds.flatMap (dirB L) ++ q), false⟩ = (ds.map (fun d => (d, entries L d)), ⟨bmk q, false⟩) := by
  induction ds with
  | nil => rfl
  | cons d ds ih =>
    have h1 := hd d (List.mem_cons_self ..)
    rw [List.flatMap_cons, List.append_assoc, List.length_cons, sevP]
    have e : dirB L d ++ (ds.flatMap (dirB L) ++ q) = beB d.toNat 2 ++ beB (entries L d).length 2 ++ (entries L d).flatMap entB ++ (ds.flatMap (dirB L) ++ q) := rfl
    rw [e, dirP_mk d (entries L d) _ h1.1 h1.2 (by have := ents_len h d; omega) (ents_in h hn d)]
    dsimp only
    rw [ih (fun x hx => hd x (List.mem_cons_of_mem _ hx))]
    rfl
/-- What is read of bytes: a cookie, directories, and whether something was bad. -/
def decC (b : ByteArray) : Int := wrap64 ((IR.mk b false).num 8).1
def decS (b : ByteArray) : List (Int × List Ent) × IR := sevP dirP (((IR.mk b false).num 8).2.num 2).1 (((IR.mk b false).num 8).2.num 2).2
theorem dec_img {L : List Itm} {next : Int} (h : TInv L next) (hn : next ≤ 9223372036854775807) : decC (bmk (imgB L next)) = next ∧ (decS (bmk (imgB L next))).1 = (dirsT L).map (fun d => (d, entries L d)) ∧ (decS (bmk (imgB L next))).2.bad = false := by
  have h0 := h.nx
  have hdl := dirsT_len L
  have e : imgB L next = beB next.toNat 8 ++ (beB (dirsT L).length 2 ++ ((dirsT L).flatMap (dirB L) ++ [])) := by
    unfold imgB; simp
  have hr : ∀ d ∈ dirsT L, 0 ≤ d ∧ d < 65536 := fun d hd => by
    rcases (isDirB_iff L d).1 ((dirsT_mem h d).1 hd) with q | ⟨i, hi, q, _⟩
    · omega
    · have := h.rg i hi; omega
  have hS : decS (bmk (imgB L next)) = ((dirsT L).map (fun d => (d, entries L d)), ⟨bmk [], false⟩) := by
    unfold decS
    rw [e, num_mk _ _ _ (by omega)]
    dsimp only
    rw [num_mk _ _ _ (by omega)]
    dsimp only
    rw [sevP_dirs h hn _ hr]
  refine ⟨?_, by rw [hS], by rw [hS]⟩
  unfold decC
  rw [e, num_mk _ _ _ (by omega)]
  dsimp only
  unfold wrap64; omega
end Go.Proofs.YtolilbcpfdnkjaaGreat

/- image: Decode. -/
namespace Go.Proofs.YtolilbcpfdnkjaaGreat
open Go.RowKit
set_option linter.unusedSimpArgs false
set_option linter.unusedVariables false
/-- What Decode answers. -/
def DecPost (w : World) (b : ByteArray) (e : Ending) (w' : World) : Prop :=
  (∃ (L : List Itm) (next : Int) (g : Nat) (F : Nat → Prop), TInv L next ∧ next ≤ 9223372036854775807 ∧ bmk (imgB L next) = b ∧ e = .returned (.tuple #[.pointer (some ⟨g, 0, none⟩), .int .i64 0]) ∧ TreeM w' F g L next ∧ (∀ k, F k → w.heap.size ≤ k) ∧ Below w.heap.size w w') ∨
  ((∀ L next, TInv L next → next ≤ 9223372036854775807 → bmk (imgB L next) ≠ b) ∧ e = .returned (.tuple #[.pointer none, .int .i64 2]) ∧ Below w.heap.size w w')
/-- The map of directories that were read. -/
def dmap (l : List DI) : List (Int × DE) := l.foldl (fun D x => mput D x.node (x.val, x.l)) []
theorem dmap_snoc (l : List DI) (x : DI) : dmap (l ++ [x]) = mput (dmap l) x.node (x.val, x.l) := by unfold dmap; rw [List.foldl_append]; rfl
theorem snocInd {α : Type} {P : List α → Prop} (h0 : P []) (h1 : ∀ l x, P l → P (l ++ [x])) : ∀ l, P l := by
  have key : ∀ n (l : List α), l.length = n → P l := by
    intro n
    induction n with
    | zero => intro l e; rw [List.eq_nil_of_length_eq_zero e]; exact h0
    | succ n ih =>
      intro l e
      rcases List.eq_nil_or_concat l with q | ⟨l', x, q⟩
      · rw [q] at e; cases e
      · rw [List.concat_eq_append] at q
        subst q
        exact h1 l' x (ih l' (by rw [List.length_append, List.length_singleton] at e; omega))
  exact fun l => key _ l rfl
theorem mem_dmap {y : Int × DE} : ∀ {l : List DI}, y ∈ dmap l → ∃ x ∈ l, y.2 = (x.val, x.l) := by
  refine fun {l} => snocInd (P := fun l => y ∈ dmap l → ∃ x ∈ l, y.2 = (x.val, x.l)) (fun h => by cases h) (fun l x ih h => ?_) l
  rw [dmap_snoc] at h
  rcases mem_mput_de h with q | q
  · obtain ⟨x, hx, e⟩ := ih q; exact ⟨x, List.mem_append_left _ hx, e⟩
  · exact ⟨x, List.mem_append_right _ (List.mem_singleton.2 rfl), q⟩
theorem dmap_len (l : List DI) : (dmap l).length ≤ l.length := by
  refine snocInd (P := fun l => (dmap l).length ≤ l.length) (Nat.le_refl _) (fun l x ih => ?_) l
  rw [dmap_snoc, mput_length, List.length_append, List.length_singleton]; split <;> omega
/-- Of a tree's directories the map says what the tree is. -/
theorem dmap_says {L : List Itm} {next : Int} (h : TInv L next) (l : List DI) (hl : l.map DI.plain = (dirsT L).map (fun d => (d, entries L d))) : Says (dmap l) L := by
  have key : ∀ (l : List DI) (ds : List Int), l.map DI.plain = ds.map (fun d => (d, entries L d)) → ∀ d, (d ∈ ds → ∃ v, mget (dmap l) d = some (v, entries L d)) ∧ (d ∉ ds → mget (dmap l) d = none) := by
    refine snocInd ?_ ?_
    · intro ds e d
      have : ds = [] := by
        have := congrArg List.length e; simp at this; exact List.eq_nil_of_length_eq_zero this.symm
      subst this
      exact ⟨fun q => (by cases q), fun _ => rfl⟩
    · intro l x ih ds e d
      rcases List.eq_nil_or_concat ds with q | ⟨ds', z, q⟩
      · subst q; have := congrArg List.length e; simp at this
      · rw [List.concat_eq_append] at q
        subst q
        rw [List.map_append, List.map_append] at e
        have hlen : (l.map DI.plain).length = (ds'.map (fun d => (d, entries L d))).length := by
          have := congrArg List.length e
          simp only [List.length_append, List.length_map, List.length_cons, List.length_nil] at this ⊢
          omega
        obtain ⟨e1, e2⟩ := List.append_inj e hlen
        simp only [List.map_cons, List.map_nil, List.cons.injEq, and_true] at e2
        unfold DI.plain at e2
        simp only [Prod.mk.injEq] at e2
        obtain ⟨f1, f2⟩ := e2
        rw [dmap_snoc, mget_put, f1, f2]
        obtain ⟨i1, i2⟩ := ih ds' e1 d
        by_cases c : d = z
        · subst c
          rw [if_pos rfl]
          exact ⟨fun _ => ⟨_, rfl⟩, fun q => absurd (List.mem_append_right _ (List.mem_singleton.2 rfl)) q⟩
        · rw [if_neg c]
          refine ⟨fun q => i1 ((List.mem_append.1 q).resolve_right (fun z => c (List.mem_singleton.1 z))), fun q => i2 (fun z => q (List.mem_append_left _ z))⟩
  refine ⟨fun d hd => (key l _ hl d).1 ((dirsT_mem h d).2 hd), fun d hd => (key l _ hl d).2 (fun q => by rw [(dirsT_mem h d).1 q] at hd; cases hd)⟩
theorem sevP_all {α : Type} {one : IR → α × IR} {P : α → Prop} (h : ∀ r, P (one r).1) : ∀ n r, ∀ x ∈ (sevP one n r).1, P x := by
  intro n
  induction n with
  | zero => intro r x hx; exact absurd hx (List.not_mem_nil)
  | succ n ih =>
    intro r x hx
    rw [sevP] at hx
    split at hx
    · exact absurd hx (List.not_mem_nil)
    · rcases List.mem_cons.1 hx with q | q
      · rw [q]; exact h r
      · exact ih _ x q
theorem sevP_len {α : Type} (one : IR → α × IR) : ∀ n r, (sevP one n r).1.length ≤ n := by
  intro n
  induction n with
  | zero => intro r; exact Nat.le_refl _
  | succ n ih =>
    intro r
    rw [sevP]
    split
    · exact Nat.zero_le _
    · rw [List.length_cons]; have := ih (one r).2; omega
theorem decS_small (b : ByteArray) : ∀ y ∈ (decS b).1, y.2.length ≤ 100000 ∧ ∀ e ∈ y.2, e.name.size ≤ maxLen := by
  unfold decS
  refine sevP_all (P := fun y : Int × List Ent => y.2.length ≤ 100000 ∧ ∀ e ∈ y.2, e.name.size ≤ maxLen) (fun r => ?_) _ _
  unfold dirP
  dsimp only
  refine ⟨?_, sevP_all (P := fun e : Ent => e.name.size ≤ maxLen) (fun r => ?_) _ _⟩
  · have h1 := sevP_len entP ((r.num 2).2.num 2).1 ((r.num 2).2.num 2).2
    have h2 := num_lt2 (r.num 2).2
    omega
  · unfold entP
    dsimp only
    have h1 := ((r.num 1).2.take_size (r.num 1).1).1
    have h2 := r.num_lt 1
    unfold maxLen; omega
/-- The loop that fills the map. -/
def FillT (w0 : World) (bd : Nat) (acc : List DI) (iv : Value) (wr : World) : Prop :=
  ∃ j : Nat, iv = .int .i64 j ∧ j ≤ acc.length ∧ IMap encDE wr bd (dmap (acc.take j)) ∧ Keep (fun k => k = bd) w0 wr
set_option maxRecDepth 100000 in
set_option maxHeartbeats 2000000 in
theorem idecode_any {w : World} (b : ByteArray) (hb : b.size ≤ 20000000) :
    Calls Tryz.prog 32 #[.string b] w (DecPost w b) := by
  have hx := m_alloc w (.cells #[.string b, .bool false] 130) w.heap.size rfl
  have hbw : Below w.heap.size w (w.alloc (.cells #[.string b, .bool false] 130)) := (Below.refl _ w).alloc (Nat.le_refl _) _
  have hmm := @run_makeMap Tryz.prog
  go_enter Tryz.func32, Tryz.ntmps32
  go_wp2_with fail
  obtain ⟨gr, hgr⟩ : ∃ gr, w.heap.size = gr := ⟨_, rfl⟩
  have HGR := Lib.hid hgr
  have hi0 : IRAt (w.alloc (.cells #[.string b, .bool false] 130)) gr ⟨b, false⟩ := by rw [← hgr]; exact hx
  rw [hgr]
  generalize (w.alloc (.cells #[.string b, .bool false] 130)) = w1 at *
  have HB1 := Lib.hid hbw
  have HC := Lib.hid (show decC b = wrap64 ((IR.mk b false).num 8).1 from rfl)
  have HS := Lib.hid (show decS b = sevP dirP (((IR.mk b false).num 8).2.num 2).1 (((IR.mk b false).num 8).2.num 2).2 from rfl)
  have hs1 := (IR.mk b false).num_size 8
  have HN := Lib.hid (inum_any 8 hi0 (show b.size ≤ maxLen by unfold maxLen; omega) (by decide))
  obtain ⟨a, ha⟩ : ∃ a, ((IR.mk b false).num 8).1 = a := ⟨_, rfl⟩
  obtain ⟨r1, hr1⟩ : ∃ r', ((IR.mk b false).num 8).2 = r' := ⟨_, rfl⟩
  rw [ha, hr1] at HN
  rw [ha] at HC
  rw [hr1] at HS hs1
  clear hx hgr hi0 ha hr1 hbw
  refine HN.out.mono ?_
  rintro e w2 ⟨rfl, hi2, hk2⟩
  have HI2 := Lib.hid hi2
  have HK2 := Lib.hid hk2
  clear hi2 hk2 HN
  go_wp2_with fail
  have him : IMap encDE (w2.alloc (.map #[] 0)) w2.heap.size [] := IMap.new w2
  have hbm : Below w2.heap.size w2 (w2.alloc (.map #[] 0)) := (Below.refl _ w2).alloc (Nat.le_refl _) _
  obtain ⟨bd, hbd⟩ : ∃ bd, w2.heap.size = bd := ⟨_, rfl⟩
  rw [hbd] at him ⊢
  have hi3 : IRAt (w2.alloc (.map #[] 0)) gr r1 := (hbm.block _ (m_lt HI2.out)).trans HI2.out
  have HGB := Lib.hid (show gr < bd ∧ w.heap.size ≤ bd from ⟨by have := m_lt HI2.out; omega, by have := HK2.out.size; have := HB1.out.size; omega⟩)
  have HB3 := Lib.hid ((HB1.out.trans (HK2.out.toBelow HB1.out.size (fun i q => by have := HGR.out; omega))).trans (hbm.mono (by have := HK2.out.size; have := HB1.out.size; omega)))
  generalize w2.alloc (.map #[] 0) = w3 at *
  have HIM := Lib.hid him
  have HSV := Lib.hid (isevd_any hi3 (show r1.b.size ≤ 20000000 from Nat.le_trans hs1 hb))
  clear him hbm hi3 hbd hmm
  refine HSV.out.mono ?_
  rintro e w4 ⟨v, acc, rfl, hrow, hpl, hva, hal, hi4, hk4⟩
  obtain ⟨oa, oc, rfl⟩ := hrow.shape
  rw [← HS.out] at hpl hi4
  have HRW := Lib.hid hrow
  have HPL := Lib.hid hpl
  have HVA := Lib.hid hva
  have HI4 := Lib.hid hi4
  have HK4 := Lib.hid hk4
  have hbl3 : bd < w3.heap.size := HIM.out.lt
  have HIM4 := Lib.hid (HIM.out.keep hk4 (fun q => by have := HGB.out; omega))
  have HB4 := Lib.hid (HB3.out.trans (hk4.toBelow HB3.out.size (fun i q => by have := HGR.out; omega)))
  have HRb := Lib.hid (show ∀ k, (Value.slice oa acc.length oc).ownBlock = some k → k ≠ bd from fun k q e => by have := hrow.ge q; omega)
  have HVb := Lib.hid (show ∀ x ∈ acc, ∀ k, x.val.ownBlock = some k → k ≠ bd from fun x hx k q e => by have := (hva x hx).2 k q; omega)
  clear hrow hpl hva hi4 hk4 HSV HIM
  go_wp2_with fail
  go_loopw [23] (fun iv wr => FillT w4 bd acc iv wr) (fun iv _ => acc.length - (intOf iv).toNat)
  case atStart => exact ⟨0, rfl, Nat.zero_le _, HIM4.out, Keep.refl _ _⟩
  case round =>
    rename World => wr
    obtain ⟨j, rfl, hj, him, hk⟩ := hrel
    have HIMr := Lib.hid him
    have HKr := Lib.hid hk
    have HRr := Lib.hid (HRW.out.keep hk (fun i q => HRb.out i q))
    clear him hk
    by_cases hjt : j < acc.length
    · have j1 : (j : Int) < acc.length := by omega
      obtain ⟨x, hx⟩ : ∃ x, acc[j]? = some x := ⟨_, List.getElem?_eq_getElem hjt⟩
      obtain ⟨g1, o1, cap1, e1, hcs⟩ := HRr.out.arg.cells (by intro q; rw [q] at hx; simp at hx)
      simp only [Value.slice.injEq] at e1
      obtain ⟨rfl, -, rfl⟩ := e1
      have c0 : wr.cell? ⟨g1, o1 + j * 2, none⟩ = some (.int .i64 x.node) := hcs j x hx 0 (by decide)
      have c1 : wr.cell? ⟨g1, o1 + j * 2 + 1, none⟩ = some (.slice x.a x.l.length x.c) := hcs j x hx 1 (by decide)
      have HXX := Lib.hid (show acc.take (j + 1) = acc.take j ++ [x] from by rw [List.take_add_one, hx]; rfl)
      obtain ⟨w5, hrun, him5, hk5⟩ := (HIMr.out.keep ((Keep.refl (fun _ => False) wr).alloc (.cells #[.int .i64 x.node, .slice x.a x.l.length x.c] 135)) (fun q => q)).update (P := Tryz.prog) Tryz.underlying53 Tryz.underlying3 x.node (x.val, x.l)
      simp only [encDE, DI.val] at hrun
      have HIM5 := Lib.hid him5
      have HK5 := Lib.hid (HKr.out.trans (((Keep.refl (fun k => k = bd) wr).alloc _).trans hk5))
      clear hcs hx him5 hk5
      go_wp2_with fail
      exact ⟨⟨j + 1, by go_num, hjt, by rw [HXX.out, dmap_snoc]; exact HIM5.out, HK5.out⟩, by simp [intOf]; omega⟩
    · have ej : j = acc.length := by omega
      subst ej
      have j2 : ¬ ((acc.length : Int) < acc.length) := by omega
      rw [List.take_length] at HIMr
      have HBr := Lib.hid (HB4.out.trans (HKr.out.toBelow HB4.out.size (fun i q => by have := HGB.out; omega)))
      have HIr := Lib.hid (m_keep HI4.out HKr.out (fun q => by have := HGB.out; omega))
      have HMK := Lib.hid (tmake_any (cookie := wrap64 a) HIMr.out (fun y hy => by
        obtain ⟨x, hx, e⟩ := mem_dmap hy
        rw [e]; exact (HVA.out x hx).1.keep HKr.out (fun k q => HVb.out x hx k q)) (fun y hy => by
        obtain ⟨x, hx, e⟩ := mem_dmap hy
        rw [e]
        exact decS_small b (x.node, x.l) (by rw [← HPL.out]; exact List.mem_map_of_mem (f := DI.plain) hx)) (by have := dmap_len acc; omega) (by unfold wrap64; omega))
      have c2 : ∀ W, Below wr.heap.size wr W → W.cell? ⟨gr, 1, none⟩ = some (.bool (decS b).2.bad) := fun W hb => cell_later hb ((m_cells HIr.out).1 1)
      have HCR := Lib.hid c2
      clear c2
      go_wp2_with fail
      refine HMK.out.mono ?_
      rintro e w6 (⟨L, g, F, hti, hsy, rfl, htm, hF, hb6⟩ | ⟨hno, rfl, hb6⟩)
      · have HTI := Lib.hid hti
        have HSY := Lib.hid hsy
        have HTM := Lib.hid htm
        have HF := Lib.hid hF
        have HB6 := Lib.hid hb6
        have c2 := HCR.out w6 hb6
        clear hti hsy htm hF hb6 HMK
        obtain ⟨bad, hbad⟩ : ∃ x, (decS b).2.bad = x := ⟨_, rfl⟩
        rw [hbad] at c2
        have HBAD := Lib.hid hbad
        clear hbad
        have HENC := Lib.hid (fun (W : World) (hb : Below w6.heap.size w6 W) => iencode_any (HTM.out.below hb) HTI.out (show wrap64 a ≤ 9223372036854775807 by unfold wrap64; omega))
        cases bad
        · go_wp2_with fail
          refine (HENC.out w6 (Below.refl _ _)).mono ?_
          rintro r w7 ⟨rfl, hb7⟩
          have HB7 := Lib.hid (HB6.out.trans (hb7.mono HB6.out.size))
          have HTM7 := Lib.hid (HTM.out.below hb7)
          clear hb7
          by_cases e : bmk (imgB L (wrap64 a)) = b
          · have e1 : ((bmk (imgB L (wrap64 a))).toList == b.toList) = true := (bstr_eq_iff _ _).2 e
            have e2 : (imgB L (wrap64 a) == b.toList) = true := by simpa [bmk] using e1
            have HE := Lib.hid e
            clear e e1
            go_wp2_with fail
            go_ret2
            exact Or.inl ⟨L, wrap64 a, g, F, HTI.out, by unfold wrap64; omega, HE.out, rfl, HTM7.out, fun k q => Nat.le_trans HBr.out.size (HF.out k q), HBr.out.trans (HB7.out.mono HBr.out.size)⟩
          · have e1 : ((bmk (imgB L (wrap64 a))).toList == b.toList) = false := by rw [Bool.eq_false_iff]; exact fun q => e ((bstr_eq_iff _ _).1 q)
            have e2 : (imgB L (wrap64 a) == b.toList) = false := by simpa [bmk] using e1
            have HE := Lib.hid e
            clear e e1
            go_wp2_with fail
            go_ret2
            refine Or.inr ⟨fun L2 n2 h1 h2 h3 => ?_, rfl, HBr.out.trans (HB7.out.mono HBr.out.size)⟩
            obtain ⟨q1, q2, q3⟩ := dec_img h1 h2
            rw [h3] at q1 q2
            rw [HC.out] at q1
            rw [← HPL.out] at q2
            have hs2 := dmap_says h1 acc q2
            have := says_unique HIMr.out.nodup HTI.out h1 HSY.out hs2
            exact HE.out (by rw [this, q1]; exact h3)
        · go_wp2_with fail
          go_ret2
          refine Or.inr ⟨fun L2 n2 h1 h2 h3 => ?_, rfl, HBr.out.trans (HB6.out.mono HBr.out.size)⟩
          have q3 := (dec_img h1 h2).2.2
          rw [h3, HBAD.out] at q3
          cases q3
      · have HNO := Lib.hid hno
        have HB6 := Lib.hid hb6
        have c2 := HCR.out w6 hb6
        clear hno hb6 HMK
        obtain ⟨bad, hbad⟩ : ∃ x, (decS b).2.bad = x := ⟨_, rfl⟩
        rw [hbad] at c2
        clear hbad
        cases bad
        · go_wp2_with fail
          go_ret2
          refine Or.inr ⟨fun L2 n2 h1 h2 h3 => ?_, rfl, HBr.out.trans (HB6.out.mono HBr.out.size)⟩
          obtain ⟨q1, q2, q3⟩ := dec_img h1 h2
          rw [h3] at q1 q2
          rw [HC.out] at q1
          rw [← HPL.out] at q2
          exact HNO.out L2 (by rw [q1]; exact h1) (dmap_says h1 acc q2)
        · go_wp2_with fail
          go_ret2
          refine Or.inr ⟨fun L2 n2 h1 h2 h3 => ?_, rfl, HBr.out.trans (HB6.out.mono HBr.out.size)⟩
          obtain ⟨q1, q2, q3⟩ := dec_img h1 h2
          rw [h3] at q1 q2
          rw [HC.out] at q1
          rw [← HPL.out] at q2
          exact HNO.out L2 (by rw [q1]; exact h1) (dmap_says h1 acc q2)
end Go.Proofs.YtolilbcpfdnkjaaGreat
