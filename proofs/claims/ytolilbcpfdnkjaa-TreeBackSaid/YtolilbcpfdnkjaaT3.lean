/- tree: good names: strings.IndexRune, IndexAny at the two bytes. -/
import Derived.Test.YtolilbcpfdnkjaaT2
import Derived.Deep.LoopGhost
import Derived.Outline
import Derived.Deep.QuietTactic
import Derived.BigQuiet
namespace Go.Proofs.Ytolilbcpfdnkjaa
open Go.RowKit
set_option linter.unusedSimpArgs false
set_option linter.unusedVariables false
set_option maxRecDepth 100000 in
set_option maxHeartbeats 1000000 in
theorem slIndexByte_any (s : ByteArray) (c : Int) (w : World) :
    Calls Try.prog 128 #[.string s, .int .u8 c] w fun e w' => e = .returned (.int .i64 (Lib.indexByte s.data.toList c.toNat.toUInt8)) ∧ w' = w := by
  go_enter Try.func128, Try.ntmps128
  go_wp2
  rw [run_callFunc_extern Try.func129 (by kernel_rfl) (by kernel_rfl) (by kernel_rfl) (e := Extern.BytealgIndexByte.indexByte) (by kernel_rfl), Lib.run_indexByteString]
  simp only [Result.andThen]
  rw [Oper.upon_value]
  go_wp2
  go_ret
  exact ⟨rfl, rfl⟩
set_option maxRecDepth 100000 in
set_option maxHeartbeats 1000000 in
theorem indexByte_any (s : ByteArray) (c : Int) (w : World) :
    Calls Try.prog 123 #[.string s, .int .u8 c] w fun e w' => e = .returned (.int .i64 (Lib.indexByte s.data.toList c.toNat.toUInt8)) ∧ w' = w := by
  go_enter Try.func123, Try.ntmps123
  go_wp2_with fail
  refine (slIndexByte_any s c w).mono ?_
  rintro e w1 ⟨rfl, rfl⟩
  go_wp2_with fail
  go_ret
  exact ⟨rfl, rfl⟩
theorem idx2 (c : Nat) (h : c < 256) : (0 ≤ Lib.indexByte zs2.data.toList c.toUInt8) ↔ (c = 0 ∨ c = 47) := by
  have key : ∀ c : Fin 256, (0 ≤ Lib.indexByte zs2.data.toList c.val.toUInt8) ↔ (c.val = 0 ∨ c.val = 47) := by decide +kernel
  exact key ⟨c, h⟩
set_option maxRecDepth 100000 in
set_option maxHeartbeats 1000000 in
theorem validrune_any (r : Nat) (w : World) (h : r ≤ 2147483647) :
    Calls Try.prog 124 #[.int .i32 r] w fun e w' => e = .returned (.bool (decide (r < 55296 ∨ (57343 < r ∧ r ≤ 1114111)))) ∧ w = w' := by
  by_cases h1 : r < 55296
  · have i1 : (r : Int) < 55296 := by omega
    rw [decide_eq_true (Or.inl h1)]
    go_enter Try.func124, Try.ntmps124
    go_wp2_with fail
    go_ret
    exact ⟨rfl, rfl⟩
  · have i1 : ¬ (r : Int) < 55296 := by omega
    by_cases h2 : 57343 < r
    · have i2 : (57343 : Int) < r := by omega
      by_cases h3 : r ≤ 1114111
      · have i3 : (r : Int) ≤ 1114111 := by omega
        rw [decide_eq_true (Or.inr ⟨h2, h3⟩)]
        go_enter Try.func124, Try.ntmps124
        go_wp2_with fail
        go_ret
        exact ⟨rfl, rfl⟩
      · have i3 : ¬ (r : Int) ≤ 1114111 := by omega
        rw [decide_eq_false (fun q => q.elim h1 (fun q => h3 q.2))]
        go_enter Try.func124, Try.ntmps124
        go_wp2_with fail
        go_ret
        exact ⟨rfl, rfl⟩
    · have i2 : ¬ (57343 : Int) < r := by omega
      rw [decide_eq_false (fun q => q.elim h1 (fun q => h2 q.1))]
      go_enter Try.func124, Try.ntmps124
      go_wp2_with fail
      go_ret
      exact ⟨rfl, rfl⟩
set_option maxRecDepth 100000 in
set_option maxHeartbeats 1000000 in
theorem indexrune_lo (c : Nat) (w : World) (h : c < 128) :
    Calls Try.prog 112 #[.string zs2, .int .i32 c] w fun e w' => e = .returned (.int .i64 (Lib.indexByte zs2.data.toList c.toUInt8)) ∧ w = w' := by
  have i1 : (c : Int) < 128 := by omega
  go_enter Try.func112, Try.ntmps112
  go_wp2_with fail
  refine (indexByte_any zs2 c w).mono ?_
  rintro e w1 ⟨rfl, rfl⟩
  go_wp2_with fail
  first
    | (go_ret; exact ⟨rfl, rfl⟩)
    | (rw [Exit.noGoto_ret]; go_ret; exact ⟨rfl, rfl⟩)
theorem run_index1 (s : ByteArray) (b : UInt8) (w : World) (h : s.data[1]? = some b) : (Instr.index 9 (.string s) (.int .i64 1)).run Try.prog w = .ok (.int .u8 b.toNat) w := by
  have hl : 1 < s.size := (Array.getElem?_eq_some_iff.1 h).1
  have he : s[1] = b := (Array.getElem?_eq_some_iff.1 h).2
  go_simp
  intro q
  omega
theorem enc_high (r : Int) (h : 128 ≤ r) : ∃ (n : Nat) (b : UInt8), (Utf8.encode r).size = n ∧ 2 ≤ n ∧ n ≤ 4 ∧ (n = 2 → (Utf8.encode r).data[1]? = some b ∧ 128 ≤ b.toNat) := by
  unfold Utf8.encode
  have hc : 128 ≤ (if Utf8.valid r = true then r.toNat else Utf8.runeError) := by
    split
    · omega
    · decide
  generalize (if Utf8.valid r = true then r.toNat else Utf8.runeError) = c at *
  simp only
  rw [if_neg (by omega)]
  split
  · exact ⟨2, UInt8.ofNat (0x80 + c % 64), rfl, by decide, by decide, fun _ => ⟨rfl, by rw [UInt8.toNat_ofNat']; omega⟩⟩
  · split
    · exact ⟨3, 0, rfl, by decide, by decide, fun q => by cases q⟩
    · exact ⟨4, 0, rfl, by decide, by decide, fun q => by cases q⟩
set_option maxRecDepth 100000 in
set_option maxHeartbeats 1000000 in
theorem indexrune_hi (r : Nat) (w : World) (h : 128 ≤ r) (h2 : r ≤ 2147483647) :
    Calls Try.prog 112 #[.string zs2, .int .i32 r] w fun e w' => e = .returned (.int .i64 (-1)) ∧ Below w.heap.size w w' := by
  have i1 : ¬ (r : Int) < 128 := by omega
  by_cases he : r = 65533
  · subst he
    go_enter Try.func112, Try.ntmps112
    go_wp2_with fail
    go_loopw [5, 6] (fun _ _ wr => ∃ pos : Nat, pos ≤ 2 ∧ wr.heap[w.heap.size]? = some (.stringIter zs2 pos) ∧ Below w.heap.size w wr) (fun _ _ wr => 2 - wr.iterPos w.heap.size)
    case atStart => exact ⟨0, by decide, World.iter_heap w zs2 0, (Below.refl _ _).alloc (Nat.le_refl _) _⟩
    case round =>
      obtain ⟨pos, hp, hit, hb⟩ := hrel
      have HIT := Lib.hid hit
      have HB := Lib.hid hb
      have e0 : (Utf8.decode zs2 0) = (0, 1) := by decide +kernel
      have e1 : (Utf8.decode zs2 1) = (47, 1) := by decide +kernel
      have E0 := Lib.hid e0
      have E1 := Lib.hid e1
      clear hb e0 e1
      rcases (show pos = 0 ∨ pos = 1 ∨ pos = 2 by omega) with rfl | rfl | rfl
      · have hnx : ∀ ty, (Instr.next (.pointer (some ⟨w.heap.size, 0, none⟩)) true ty).run Try.prog wr = .ok (.tuple #[.bool true, .int .i64 0, .int .i32 0]) (wr.iterAt w.heap.size zs2 1) := fun ty => by
          have := Lib.run_next_any_at (P := Try.prog) wr w.heap.size zs2 0 ty HIT.out (by decide)
          rw [E0.out] at this; exact this
        have h2 := Lib.iterAt_heap wr w.heap.size zs2 0 1 HIT.out
        have b2 := Lib.below_iterAt HB.out (k := w.heap.size) (Nat.le_refl _) zs2 1
        have H2 := Lib.hid h2
        have B2 := Lib.hid b2
        clear h2 b2 hit
        go_wp2_with fail
        exact ⟨⟨1, by decide, H2.out, B2.out⟩, by simp only [World.iterPos, H2.out, HIT.out]; decide⟩
      · have hnx : ∀ ty, (Instr.next (.pointer (some ⟨w.heap.size, 0, none⟩)) true ty).run Try.prog wr = .ok (.tuple #[.bool true, .int .i64 1, .int .i32 47]) (wr.iterAt w.heap.size zs2 2) := fun ty => by
          have := Lib.run_next_any_at (P := Try.prog) wr w.heap.size zs2 1 ty HIT.out (by decide)
          rw [E1.out] at this; exact this
        have h2 := Lib.iterAt_heap wr w.heap.size zs2 1 2 HIT.out
        have b2 := Lib.below_iterAt HB.out (k := w.heap.size) (Nat.le_refl _) zs2 2
        have H2 := Lib.hid h2
        have B2 := Lib.hid b2
        clear h2 b2 hit
        go_wp2_with fail
        exact ⟨⟨2, by decide, H2.out, B2.out⟩, by simp only [World.iterPos, H2.out, HIT.out]; decide⟩
      · have hnx : ∀ ty, (Instr.next (.pointer (some ⟨w.heap.size, 0, none⟩)) true ty).run Try.prog wr = .ok (.tuple #[.bool false]) wr := fun ty => Lib.run_next_end_at (P := Try.prog) wr w.heap.size zs2 2 ty HIT.out (by decide)
        clear hit
        go_wp2_with fail
        first
          | (go_ret; exact ⟨rfl, HB.out⟩)
          | (rw [Exit.noGoto_ret]; go_ret; exact ⟨rfl, HB.out⟩)
  · have i2 : ((r : Int) == 65533) = false := by simp; omega
    have i3 : ¬ (r : Int) = 65533 := by omega
    obtain ⟨vb, hvb⟩ : ∃ vb, decide (r < 55296 ∨ (57343 < r ∧ r ≤ 1114111)) = vb := ⟨_, rfl⟩
    have hvr := validrune_any r w h2
    rw [hvb] at hvr
    have HVR := Lib.hid hvr
    have HVB := Lib.hid hvb
    clear hvr hvb
    cases vb
    · go_enter Try.func112, Try.ntmps112
      go_wp2_with fail
      refine HVR.out.mono ?_
      rintro e w1 ⟨rfl, rfl⟩
      go_wp2_with fail
      first
        | (go_ret; exact ⟨rfl, Below.refl _ _⟩)
        | (rw [Exit.noGoto_ret]; go_ret; exact ⟨rfl, Below.refl _ _⟩)
    · go_enter Try.func112, Try.ntmps112
      go_wp2_with fail
      refine HVR.out.mono ?_
      rintro e w1 ⟨rfl, rfl⟩
      obtain ⟨n, b, hn, hn2, hn4, hnb⟩ := enc_high (r : Int) (by omega)
      have HNB := Lib.hid hnb
      clear hnb
      by_cases h2' : n = 2
      · subst h2'
        have hx := HNB.out rfl
        have hs2 : zs2.size = 2 := rfl
        have hb8 : ((b.toNat : Int) == 47) = false := by simp; omega
        have hb9 : ((47 : Int) == (b.toNat : Int)) = false := by simp; omega
        have hb7 : ((47 : Int) != (b.toNat : Int)) = true := by simp; omega
        have hi1 : ∀ w, (Instr.index 9 (.string zs2) (.int .i64 1)).run Try.prog w = .ok (.int .u8 47) w := fun w => by kernel_rfl
        have hi2 : ∀ w, (Instr.index 9 (.string (Utf8.encode (r : Int))) (.int .i64 1)).run Try.prog w = .ok (.int .u8 b.toNat) w := fun w => run_index1 _ _ _ hx.1
        clear hx
        go_wp2_with fail
        go_step3
        go_wp2_with fail
        go_loopw [9, 10, 11, 12, 4] (fun iv _ _ _ _ wr => iv = .int .i64 1 ∧ wr = w) (fun _ _ _ _ _ _ => 0)
        case atStart => exact ⟨rfl, rfl⟩
        case round =>
          obtain ⟨rfl, rfl⟩ := hrel
          go_wp2_with fail
          go_step3
          go_wp2_with fail
          go_quiet (fail)
          have hbq : Below wr.heap.size wr (wr.drewN nq) := below_drewN (Below.refl _ _) nq
          have HBQ := Lib.hid hbq
          clear hbq
          go_wp2_with fail
          generalize wr.drewN nq = wq at *
          have hcb : (b.toNat : Int).toNat.toUInt8 = b := by simp
          go_quiet ((go_at_call 123; exact Calls.quiet_of_same (indexByte_any _ _ _)))
          have him : ∀ c, Lib.indexByte ByteArray.empty.data.toList c = -1 := fun c => rfl
          have d0 : decide ((-1 : Int) < 0) = true := rfl
          rw [him]
          go_wp2_with fail
          rw [Exit.noGoto_ret]
          simp only [Exit.inBlock]
          first
            | (rename_i QQ _ _; dsimp only [QQ])
            | (rename_i QQ _ _ _; dsimp only [QQ])
            | (rename_i QQ _ _ _ _ _; dsimp only [QQ])
            | (rename_i QQ _ _ _ _ _ _ _; dsimp only [QQ])
          simp only [Exit.inBlock, Exit.then, Exit.noGoto_ret]
          go_ret
          exact ⟨rfl, by first | exact HBQ.out | exact below_drewN HBQ.out _⟩
      · have i5 : decide ((n : Int) - 1 < 2) = false := decide_eq_false (by omega)
        have hs2 : zs2.size = 2 := rfl
        go_wp2_with fail
        go_step3
        go_wp2_with fail
        go_loopw [9, 10, 11, 12, 4] (fun iv _ _ _ _ wr => iv = .int .i64 ((n : Int) - 1) ∧ wr = w) (fun _ _ _ _ _ _ => 0)
        case atStart => exact ⟨rfl, rfl⟩
        case round =>
          obtain ⟨rfl, rfl⟩ := hrel
          go_wp2_with fail
          first
            | (go_ret; exact ⟨rfl, Below.refl _ _⟩)
            | (rw [Exit.noGoto_ret]; go_ret; exact ⟨rfl, Below.refl _ _⟩)
end Go.Proofs.Ytolilbcpfdnkjaa
