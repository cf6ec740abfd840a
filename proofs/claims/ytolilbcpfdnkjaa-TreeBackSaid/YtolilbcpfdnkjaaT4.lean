/- tree: good names. -/
import Derived.Test.YtolilbcpfdnkjaaT3
import Derived.Test.YtolilbcpfdnkjaaT1
namespace Go.Proofs.Ytolilbcpfdnkjaa
open Go.RowKit
set_option linter.unusedSimpArgs false
set_option linter.unusedVariables false
/-- A byte that no name has. -/
def badc (c : UInt8) : Bool := decide (c.toNat = 0 ∨ c.toNat = 47)
def noneBad (s : ByteArray) (n : Nat) : Prop := ∀ j c, j < n → s.data[j]? = some c → badc c = false
def hasBad (s : ByteArray) : Bool := s.data.toList.any badc
theorem hasBad_none {s : ByteArray} (h : noneBad s s.size) : hasBad s = false := by
  unfold hasBad
  rw [List.any_eq_false]
  intro c hc
  obtain ⟨j, hj⟩ := List.getElem?_of_mem hc
  have hl := (List.getElem?_eq_some_iff.1 hj).1
  rw [h j c hl (by rw [← Array.getElem?_toList]; exact hj)]
  exact Bool.false_ne_true
theorem hasBad_some {s : ByteArray} {j : Nat} {c : UInt8} (h : s.data[j]? = some c) (hb : badc c = true) : hasBad s = true := by
  unfold hasBad
  rw [List.any_eq_true]
  exact ⟨c, by rw [← Array.getElem?_toList] at h; exact List.mem_of_getElem? h, hb⟩
theorem noneBad_succ {s : ByteArray} {i : Nat} {c : UInt8} (h : noneBad s i) (hc : s.data[i]? = some c) (hb : badc c = false) : noneBad s (i + 1) := by
  intro j d hj hd
  rcases Nat.lt_succ_iff_lt_or_eq.1 hj with q | q
  · exact h j d q hd
  · subst q; rw [hc] at hd; cases hd; exact hb
theorem at_get (s : ByteArray) (i k : Nat) (h : i + k < s.size) : s.data[i + k]? = some (s.get! (i + k)) := by
  have e : s.get! (i + k) = s.data[i + k]'h := by
    show s.data[i + k]! = _
    exact getElem!_pos s.data (i + k) h
  rw [e]; exact Array.getElem?_eq_getElem h
theorem dec_high (s : ByteArray) (i : Nat) (h : i < s.size) (ha : 128 ≤ (s[i]'h).toNat) :
    i + (Utf8.decode s i).2 ≤ s.size ∧ ∀ j c, i ≤ j → j < i + (Utf8.decode s i).2 → s.data[j]? = some c → badc c = false := by
  have h0 : s.data[i + 0]? = some (s.get! (i + 0)) := at_get s i 0 h
  have hb0 : 128 ≤ (s.get! (i + 0)).toNat := by
    have : s.data[i + 0]? = some (s[i]'h) := Array.getElem?_eq_getElem h
    rw [h0] at this; rw [Option.some.inj this]; exact ha
  have key : ∀ n, n ≤ 4 → (∀ k, k < n → i + k < s.size ∧ 128 ≤ (s.get! (i + k)).toNat) → 1 ≤ n → i + n ≤ s.size ∧ ∀ j c, i ≤ j → j < i + n → s.data[j]? = some c → badc c = false := by
    intro n _ hk hn
    refine ⟨by have := (hk (n - 1) (by omega)).1; omega, fun j c h1 h2 h3 => ?_⟩
    obtain ⟨k, rfl⟩ : ∃ k, j = i + k := ⟨j - i, by omega⟩
    obtain ⟨a, b⟩ := hk k (by omega)
    rw [at_get s i k a] at h3
    rw [← Option.some.inj h3]
    unfold badc
    exact decide_eq_false (by omega)
  have c0 : i + 0 < s.size ∧ 128 ≤ (s.get! (i + 0)).toNat := ⟨h, hb0⟩
  have cont : ∀ k, (decide (i + k < s.size) && (s.get! (i + k)).toNat / 64 == 2) = true → i + k < s.size ∧ 128 ≤ (s.get! (i + k)).toNat := by
    intro k q
    simp only [Bool.and_eq_true, decide_eq_true_eq, beq_iff_eq] at q
    omega
  have one : i + 1 ≤ s.size ∧ ∀ j c, i ≤ j → j < i + 1 → s.data[j]? = some c → badc c = false := key 1 (by decide) (fun k hk => by rw [show k = 0 from by omega]; exact c0) (by decide)
  unfold Utf8.decode
  simp only
  rw [if_neg (by omega)]
  split
  · rename_i q
    rw [Bool.and_eq_true] at q
    split
    · exact key 2 (by decide) (fun k hk => by
        rcases (show k = 0 ∨ k = 1 by omega) with rfl | rfl
        · exact c0
        · exact cont 1 q.2) (by decide)
    · exact one
  · split
    · rename_i q
      rw [Bool.and_eq_true, Bool.and_eq_true] at q
      split
      · exact key 3 (by decide) (fun k hk => by
          rcases (show k = 0 ∨ k = 1 ∨ k = 2 by omega) with rfl | rfl | rfl
          · exact c0
          · exact cont 1 q.1.2
          · exact cont 2 q.2) (by decide)
      · exact one
    · split
      · rename_i q
        rw [Bool.and_eq_true, Bool.and_eq_true, Bool.and_eq_true] at q
        split
        · exact key 4 (by decide) (fun k hk => by
            rcases (show k = 0 ∨ k = 1 ∨ k = 2 ∨ k = 3 by omega) with rfl | rfl | rfl | rfl
            · exact c0
            · exact cont 1 q.1.1.2
            · exact cont 2 q.1.2
            · exact cont 3 q.2) (by decide)
        · exact one
      · exact one
theorem str_byte (s : ByteArray) (i : Nat) (h : i < s.size) : ∃ c, s.data[i]? = some c ∧ s[i]'h = c := ⟨s.data[i]'h, Array.getElem?_eq_getElem h, rfl⟩
/-- What IndexAny answers: a place, just where one of the two bytes is. -/
def AnyPost (s : ByteArray) (w : World) (e : Ending) (w' : World) : Prop := ∃ i : Int, e = .returned (.int .i64 i) ∧ decide (0 ≤ i) = hasBad s ∧ Below w.heap.size w w'
theorem AnyPost.no {s : ByteArray} {w w' : World} (h : noneBad s s.size) (hb : Below w.heap.size w w') : AnyPost s w (.returned (.int .i64 (-1))) w' := ⟨-1, rfl, by rw [hasBad_none h]; rfl, hb⟩
theorem AnyPost.yes {s : ByteArray} {w w' : World} {i : Nat} {c : UInt8} (h : s.data[i]? = some c) (hc : badc c = true) (hb : Below w.heap.size w w') : AnyPost s w (.returned (.int .i64 i)) w' :=
  ⟨i, rfl, by rw [hasBad_some h hc]; exact decide_eq_true (by omega), hb⟩
set_option maxHeartbeats 1000000 in
theorem useset_any (n : Int) (w : World) : Calls Try.prog 113 #[.int .i64 n] w fun e w' => e = .returned (.bool (decide (8 < n))) ∧ w = w' := by
  go_enter Try.func113, Try.ntmps113
  go_wp2_with fail
  go_ret
  exact ⟨rfl, rfl⟩
set_option maxRecDepth 100000 in
set_option maxHeartbeats 2000000 in
theorem indexany_any (s : ByteArray) (w : World) (hs : s.size ≤ 100000) :
    Calls Try.prog 98 #[.string s, .string zs2] w (AnyPost s w) := by
  have hz2 : zs2.size = 2 := rfl
  have hz3 : zs2.toList.isEmpty = false := by decide +kernel
  have hz4 : (zs2.toList == []) = false := by decide +kernel
  by_cases h8 : 8 < s.size
  · have i1 : (8 : Int) < s.size := by omega
    have hz := zero_bits
    go_enter Try.func98, Try.ntmps98
    go_wp2_with fail
    refine (useset_any _ _).mono ?_
    rintro e w0 ⟨rfl, rfl⟩
    rw [decide_eq_true i1]
    go_wp2_with fail
    refine (makeset_any _).mono ?_
    rintro e w1 ⟨rfl, hb1⟩
    obtain ⟨B, hB⟩ : ∃ B, w1.heap.size = B := ⟨_, rfl⟩
    have HB1 := Lib.hid hb1
    have HWB := Lib.hid (show w.heap.size ≤ B from by rw [← hB]; exact hb1.size)
    have hal := m_alloc w1 (.cells (bitA bits0) 180 (0, 0)) B hB
    have HAL := Lib.hid hal
    have hs0 : (bitA bits0).size = 256 := by rw [bitA_size, bits0_len]
    have hs2 : (bitA bits2).size = 256 := by rw [bitA_size, bits2_len]
    have HS0 := Lib.hid hs0
    have HS2 := Lib.hid hs2
    have HBB := Lib.hid hB
    clear hb1 hal hs0 hs2 hB
    go_wp2_with (first
      | (refine wpList_store_row rfl 180 _ _ rfl w1.heap.size (bitA bits2) rfl rfl 180 (bitA bits0) (by rw [HBB.out]; exact HAL.out) ?d2 ?d3 (bitA_one _) ?_; (case d2 => rw [bits_info, HS2.out]); (case d3 => rw [HS0.out, HS2.out])))
    rw [HBB.out]
    have HBLK := Lib.hid (show ((w1.alloc (.cells (bitA bits0) 180 (0, 0))).setRow B (bitA bits2)).heap[B]? = some (.cells (bitA bits2) 180 (0, 0)) from setRow_heap _ _ _ _ _ _ HAL.out)
    have hbw : Below w.heap.size w (w1.alloc (.cells (bitA bits0) 180 (0, 0))) := HB1.out.alloc HB1.out.size _
    have HBW := Lib.hid (show Below w.heap.size w ((w1.alloc (.cells (bitA bits0) 180 (0, 0))).setRow B (bitA bits2)) from
      ⟨hbw.os, hbw.tape, hbw.output, by have := hbw.size; simp [World.setRow]; simpa using this, fun k hk => by rw [setRow_other _ _ _ _ (by have := HWB.out; omega)]; exact hbw.block k hk⟩)
    clear hbw HAL
    generalize (w1.alloc (.cells (bitA bits0) 180 (0, 0))).setRow B (bitA bits2) = w2 at *
    go_loopw [8] (fun iv wr => ∃ i : Nat, iv = .int .i64 i ∧ i ≤ s.size ∧ noneBad s i ∧ wr = w2) (fun iv _ => s.size - (intOf iv).toNat)
    case atStart => exact ⟨0, rfl, Nat.zero_le _, fun j c hj => by omega, rfl⟩
    case round =>
      obtain ⟨i, rfl, hi, hnb, rfl⟩ := hrel
      have HNB := Lib.hid hnb
      clear hnb
      by_cases hlt : i < s.size
      · have j1 : (i : Int) < s.size := by omega
        obtain ⟨c, hc, hsc⟩ := str_byte s i hlt
        have HC := Lib.hid hc
        have hcl := c.toNat_lt
        obtain ⟨bb, hbb⟩ : ∃ b, decide (c.toNat = 0 ∨ c.toNat = 47) = b := ⟨_, rfl⟩
        have hcall := contains_any B c.toNat wr hcl HBLK.out
        rw [hbb] at hcall
        have HCALL := Lib.hid hcall
        have HBAD := Lib.hid (show badc c = bb from hbb)
        clear hc hcall hbb
        go_wp2_with fail
        refine HCALL.out.mono ?_
        rintro e w3 ⟨rfl, rfl⟩
        cases bb
        · go_wp2_with fail
          exact ⟨⟨i + 1, by go_num, hlt, noneBad_succ HNB.out HC.out HBAD.out, trivial⟩, by simp [intOf]; omega⟩
        · go_wp2_with fail
          go_ret
          exact AnyPost.yes HC.out HBAD.out HBW.out
      · have ei : i = s.size := by omega
        subst ei
        have j1 : ¬ ((s.size : Int) < s.size) := by omega
        go_wp2_with fail
        go_ret
        exact AnyPost.no HNB.out HBW.out
  · have i1 : ¬ (8 : Int) < s.size := by omega
    go_enter Try.func98, Try.ntmps98
    go_wp2_with fail
    refine (useset_any _ _).mono ?_
    rintro e w0 ⟨rfl, rfl⟩
    rw [decide_eq_false (show ¬ (8 : Int) < s.size by omega)]
    obtain ⟨B, hB⟩ : ∃ B, w.heap.size = B := ⟨_, rfl⟩
    have HBB := Lib.hid hB
    clear hB
    go_wp2_with fail
    rw [HBB.out]
    go_loopw [9, 10] (fun _ _ wr => ∃ pos : Nat, pos ≤ s.size ∧ wr.heap[B]? = some (.stringIter s pos) ∧ noneBad s pos ∧ Below w.heap.size w wr) (fun _ _ wr => s.size - wr.iterPos B)
    case atStart => exact ⟨0, Nat.zero_le _, by rw [← HBB.out]; exact World.iter_heap w s 0, fun j c hj => by omega, (Below.refl _ _).alloc (Nat.le_refl _) _⟩
    case round =>
      obtain ⟨pos, hp, hit, hnb, hb⟩ := hrel
      have HIT := Lib.hid hit
      have HB := Lib.hid hb
      have HNB := Lib.hid hnb
      clear hb hnb hit
      by_cases hlt : pos < s.size
      · obtain ⟨c, hc, hsc⟩ := str_byte s pos hlt
        have HC := Lib.hid hc
        by_cases hlo : c.toNat < 128
        · have hd : Utf8.decode s pos = (c.toNat, 1) := by rw [← hsc]; exact decode_ascii s pos hlt (by rw [hsc]; exact hlo)
          have hnx : ∀ ty, (Instr.next (.pointer (some ⟨B, 0, none⟩)) true ty).run Try.prog wr = .ok (.tuple #[.bool true, .int .i64 pos, .int .i32 c.toNat]) (wr.iterAt B s (pos + 1)) := fun ty => by
            have := Lib.run_next_any_at (P := Try.prog) wr B s pos ty HIT.out hlt
            rw [hd] at this; exact this
          have H2 := Lib.hid (Lib.iterAt_heap wr B s pos (pos + 1) HIT.out)
          have B2 := Lib.hid (Lib.below_iterAt HB.out (k := B) (Nat.le_of_eq HBB.out) s (pos + 1))
          have hir := fun w => indexrune_lo c.toNat w hlo
          have hix := idx2 c.toNat (by omega)
          have hbd : badc c = decide (0 ≤ Lib.indexByte zs2.data.toList c.toNat.toUInt8) := by unfold badc; exact decide_eq_decide.2 hix.symm
          obtain ⟨X, hX⟩ : ∃ X, Lib.indexByte zs2.data.toList c.toNat.toUInt8 = X := ⟨_, rfl⟩
          rw [hX] at hbd
          simp only [hX] at hir
          obtain ⟨bb, hbb⟩ : ∃ b, decide (0 ≤ X) = b := ⟨_, rfl⟩
          have HBAD := Lib.hid (hbd.trans hbb)
          have HIR := Lib.hid hir
          clear hd hir hix hbd hX hc hsc
          go_wp2_with fail
          refine (HIR.out _).mono ?_
          rintro e w3 ⟨rfl, rfl⟩
          cases bb
          · go_wp2_with fail
            exact ⟨⟨pos + 1, by omega, H2.out, noneBad_succ HNB.out HC.out HBAD.out, B2.out⟩, by simp only [World.iterPos, H2.out, HIT.out]; omega⟩
          · go_wp2_with fail
            go_ret
            exact AnyPost.yes HC.out HBAD.out B2.out
        · obtain ⟨q1, q2⟩ := decode_high s pos hlt (by rw [hsc]; omega)
          obtain ⟨q3, q4⟩ := dec_high s pos hlt (by rw [hsc]; omega)
          have q5 := decode_le s pos
          have hnx : ∀ ty, (Instr.next (.pointer (some ⟨B, 0, none⟩)) true ty).run Try.prog wr = .ok (.tuple #[.bool true, .int .i64 pos, .int .i32 (Utf8.decode s pos).1]) (wr.iterAt B s (pos + (Utf8.decode s pos).2)) := fun ty => Lib.run_next_any_at (P := Try.prog) wr B s pos ty HIT.out hlt
          have H2 := Lib.hid (Lib.iterAt_heap wr B s pos (pos + (Utf8.decode s pos).2) HIT.out)
          have B2 := Lib.hid (Lib.below_iterAt HB.out (k := B) (Nat.le_of_eq HBB.out) s (pos + (Utf8.decode s pos).2))
          obtain ⟨r, hr⟩ : ∃ r, (Utf8.decode s pos).1 = r := ⟨_, rfl⟩
          obtain ⟨n, hn⟩ : ∃ n, (Utf8.decode s pos).2 = n := ⟨_, rfl⟩
          rw [hr] at hnx q1 q5
          rw [hn] at hnx H2 B2 q2 q3 q4
          have N2 := Lib.hid (show noneBad s (pos + n) from fun j d hj hd => by
            by_cases q : j < pos
            · exact HNB.out j d q hd
            · exact q4 j d (by omega) hj hd)
          have HIR := Lib.hid (indexrune_hi r (wr.iterAt B s (pos + n)) q1 q5)
          have hBl : B < (wr.iterAt B s (pos + n)).heap.size := m_lt H2.out
          clear hr hn q4 hc hsc
          go_wp2_with fail
          refine HIR.out.mono ?_
          rintro e w3 ⟨rfl, hb3⟩
          have H3 := Lib.hid ((hb3.block B hBl).trans H2.out)
          have B3 := Lib.hid (B2.out.trans (hb3.mono B2.out.size))
          clear hb3 hBl
          go_wp2_with fail
          exact ⟨⟨pos + n, q3, H3.out, N2.out, B3.out⟩, by simp only [World.iterPos, H3.out, HIT.out]; omega⟩
      · have ep : pos = s.size := by omega
        subst ep
        have hnx : ∀ ty, (Instr.next (.pointer (some ⟨B, 0, none⟩)) true ty).run Try.prog wr = .ok (.tuple #[.bool false]) wr := fun ty => Lib.run_next_end_at (P := Try.prog) wr B s s.size ty HIT.out hlt
        go_wp2_with fail
        go_ret
        exact AnyPost.no HNB.out HB.out
end Go.Proofs.Ytolilbcpfdnkjaa
