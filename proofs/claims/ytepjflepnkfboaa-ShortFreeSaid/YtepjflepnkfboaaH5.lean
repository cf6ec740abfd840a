/- short: the law ShortFree's walk. -/
import Derived.Test.YtepjflepnkfboaaH4
namespace Go.Proofs.Ytepjflepnkfboaa
open Go.RowKit
set_option linter.unusedSimpArgs false
theorem qt_trans {a b c : World} (h : Qt a b) (k : Qt b c) : Qt a c := ⟨k.heap.trans h.heap, k.os.trans h.os, k.tape.trans h.tape, k.output.trans h.output⟩
theorem hash_a : hashL [97] = 3826002220 := by decide
theorem free13 (n : Nat) (h : LeastFree [1, 3] n) : n = 2 := by
  refine h.unique ⟨by decide, by decide, fun m q1 q2 => ?_⟩
  have : m = 1 := by omega
  subst this; decide
set_option maxHeartbeats 1000000 in
theorem awake05_any (w : World) : Calls Try.prog 11 #[] w fun e w' => e = .returned (.bool true) ∧ Below w.heap.size w w' := by
  have hh := fun w => hash_any ⟨#[97]⟩ w (by simp [ByteArray.size, maxLen])
  rw [show (ByteArray.mk #[97]).data.toList = [97] from rfl, hash_a] at hh
  have Hh := Lib.hid hh
  clear hh
  go_enter Try.func11, Try.ntmps11
  go_wp2_with fail
  refine (Hh.out _).mono ?_
  rintro e w1 ⟨rfl, hb1⟩
  have harg : ArgI (w1.alloc (.cells #[.int .i64 1, .int .i64 3] 3)) (.slice (some ⟨w1.heap.size, 0, none⟩) 2 2) [1, 3] := by
    refine ⟨_, _, rfl, Or.inr ⟨_, rfl, fun i hi => ?_⟩⟩
    rcases (show i = 0 ∨ i = 1 by simp at hi; omega) with rfl | rfl <;> simp [Addr.add]
  go_wp2_with fail
  refine (free_any _ [1, 3] _ harg (by simp)).mono ?_
  rintro e w2 ⟨n, rfl, hn, _, hb2⟩
  have e := free13 n hn
  subst e
  go_wp2_with fail
  go_ret
  exact ⟨rfl, hb1.trans (((Below.refl _ _).alloc hb1.size _).trans (hb2.mono (by have := hb1.size; simp; omega)))⟩
set_option maxHeartbeats 2000000 in
theorem shortfree_any (tv : Value) (l : List Int) (w : World) (h : ArgI w tv l) (hlm : l.length ≤ maxLen) :
    Calls Try.prog 4 #[tv] w fun e w' => e = .returned (.bool true) ∧ Below w.heap.size w w' := by
  unfold maxLen at hlm
  by_cases hl : l.length ≤ 200
  · have hl0 := h
    obtain ⟨a0, cap0, rfl, h'⟩ := h
    clear h'
    go_enter Try.func4, Try.ntmps4
    go_wp2_with fail
    refine (awake05_any _).mono ?_
    rintro e w1 ⟨rfl, hb1⟩
    have harg1 := hl0.below hb1
    have hnil : Ints (w1.alloc (.cells #[] 3)) w1.heap.size (.slice (some ⟨w1.heap.size, 0, none⟩) 0 0) [] := Ints.new w1 w1.heap.size #[] [] (Nat.le_refl _) rfl (by simp [maxLen])
    have harg2 := harg1.below ((Below.refl w1.heap.size w1).alloc (Nat.le_refl _) (.cells #[] 3))
    go_wp2_with (first | (refine app_arg rfl _ _ _ _ Try.underlying29 Try.underlying29 rfl _ [] rfl hnil _ l rfl harg2 ?c1 ?c2 ?_; (case c1 => simp; omega); (case c2 => simp); intro v2 w2 hown2 hgrow2; obtain ⟨a2, n2, k2, rfl⟩ := hown2.isSlice) | (go_at_call 12; fail))
    rw [List.nil_append] at hown2
    have hz2 : w1.heap.size < w2.heap.size := by have := hgrow2.size; simp at this; omega
    have hb2 : Below w1.heap.size w1 w2 := ((Below.refl w1.heap.size w1).alloc (Nat.le_refl _) (.cells #[] 3)).grown hgrow2 (by simp) (fun k hk => by have hk' : some w1.heap.size = some k := hk; simp only [Option.some.injEq] at hk'; omega)
    have harg3 := harg1.below hb2
    refine (free_any _ l _ harg3 (by omega)).mono ?_
    rintro e w3 ⟨n, rfl, hn, hnl, hb3⟩
    have harg4 := harg3.below hb3
    have hown3 : Ints w3 w1.heap.size (.slice a2 n2 k2) l := Ints.kept hown2 (fun k hk => hb3.block k (World.ownsRow.lt hown2 k hk).2)
    have hB3 : Below w.heap.size w w3 := (hb1.trans (hb2.mono hb1.size)).trans (hb3.mono (by have := hb1.size; omega))
    have HB3 := Lib.hid hB3
    have Hn := Lib.hid hn
    have hn2 : n2 = l.length := by
      rcases hown3.2 with ⟨q, q2⟩ | ⟨_, _, _, q, _⟩
      · cases q; exact q2.symm
      · simp only [Value.slice.injEq] at q; exact q.2.1
    clear hb1 hb2 hb3 hB3 hn harg1 harg2 harg3 hnil hown2 hgrow2 hl0 hz2
    subst hn2
    go_wp2_with fail
    by_cases hl0 : l = []
    · subst hl0
      go_loop [5] (fun i => i = .int .i64 0) (fun _ => 0)
      case atStart => rfl
      case round =>
        subst hrel
        go_wp2_with fail
        refine (reffree_any _ [] _ harg4 (by simp)).mono ?_
        rintro e w4 ⟨⟨m, rfl, hm⟩, rfl⟩
        have e := Hn.out.unique hm
        subst e
        go_wp2_with fail
        go_ret
        exact ⟨ret_bool (by simp), HB3.out⟩
    · obtain ⟨b, off, cap, e1, hc⟩ := harg4.cells hl0
      obtain ⟨g, cap2, e2, _, _, hnc, hcm, hc2, _⟩ := hown3.slice hl0
      simp only [Value.slice.injEq] at e1 e2
      obtain ⟨rfl, _, rfl⟩ := e1
      obtain ⟨rfl, _, rfl⟩ := e2
      unfold maxLen at hcm
      have Hc := Lib.hid hc
      have Hc2 := Lib.hid hc2
      clear hc hc2
      go_loopw [5] (fun i wr => ∃ k : Nat, i = .int .i64 k ∧ k ≤ l.length ∧ Qt w3 wr) (fun i _ => l.length - (intOf i).toNat)
      case atStart => exact ⟨0, rfl, Nat.zero_le _, Qt.refl _⟩
      case round =>
        obtain ⟨k, rfl, hk, q⟩ := hrel
        by_cases hlt : k < l.length
        · have x1 := Hc.out k hlt
          have x2 := Hc2.out k hlt
          rw [← q.cell] at x1 x2
          have y1 : (0 : Int) ≤ k := by omega
          have y2 : (k : Int) < l.length := by omega
          generalize l.getD k 0 = x at *
          have hxx : (x != x) = false := by simp
          go_wp2_with fail
          go_quiet (fail)
          go_wp2_with fail
          refine ⟨⟨k + 1, by go_num, hlt, ?_⟩, by simp [intOf]; omega⟩
          exact qt_trans q (Qt.drewN _ _)
        · go_wp2_with fail
          refine (reffree_any _ l _ (harg4.below ⟨q.os, q.tape, q.output, by rw [q.heap]; exact Nat.le_refl _, fun k _ => by rw [q.heap]⟩) (by omega)).mono ?_
          rintro e w4 ⟨⟨m, rfl, hm⟩, rfl⟩
          have e := Hn.out.unique hm
          subst e
          go_wp2_with fail
          go_ret
          exact ⟨ret_bool (by simp), HB3.out.trans ⟨q.os, q.tape, q.output, by rw [q.heap]; exact Nat.le_refl _, fun k _ => by rw [q.heap]⟩⟩
  · have dl : decide ((200 : Int) < l.length) = true := decide_eq_true (by omega)
    obtain ⟨a0, cap0, rfl, _⟩ := h
    go_enter Try.func4, Try.ntmps4
    go_wp2_with fail
    refine (awake05_any _).mono ?_
    rintro e w1 ⟨rfl, hb1⟩
    go_wp2_with fail
    refine (awake05_any _).mono ?_
    rintro e w2 ⟨rfl, hb2⟩
    go_wp2_with fail
    go_ret
    exact ⟨rfl, hb1.trans (hb2.mono hb1.size)⟩
end Go.Proofs.Ytepjflepnkfboaa
