/- A heap of numbers behind *ids.back: down. -/
import Derived.Test.YtolilbcpfdnkjaaTKG0x
import Derived.Test.YtolilbcpfdnkjaaTKH1x
namespace Go.Proofs.Ytolilbcpfdnkjaa.Bk
open Go.RowKit
set_option linter.unusedSimpArgs false
theorem less_b (B i j : Nat) (v : Value) (l : List Int) (b : Bool) (w : World) (h : Ints w B v l) (hi : i < l.length) (hj : j < l.length) (hb : decide (l.getD i 0 < l.getD j 0) = b) :
    Calls Try.prog 148 #[v, .int .i64 i, .int .i64 j] w fun e w' => e = .returned (.bool b) ∧ Qt w w' := by rw [← hb]; exact less_any B i j v l w h hi hj
theorem less_i (B : Nat) (v : Value) (l : List Int) (b : Bool) (I J : Int) (i j : Nat) (w : World) (hI : I = i) (hJ : J = j) (h : Ints w B v l) (hi : i < l.length) (hj : j < l.length) (hb : decide (l.getD i 0 < l.getD j 0) = b) :
    Calls Try.prog 148 #[v, .int .i64 I, .int .i64 J] w fun e w' => e = .returned (.bool b) ∧ Qt w w' := by subst hI; subst hJ; exact less_b B i j v l b w h hi hj hb
theorem swap_i (B : Nat) (v : Value) (l : List Int) (I J : Int) (i j : Nat) (w : World) (hI : I = i) (hJ : J = j) (h : Ints w B v l) (hi : i < l.length) (hj : j < l.length) :
    Calls Try.prog 150 #[v, .int .i64 I, .int .i64 J] w fun e w' => e = .returned (.tuple #[]) ∧ Ints w' B v (swapL l i j) ∧ Keep (fun k => some k = v.ownBlock) w w' := by subst hI; subst hJ; exact swap_any B i j v l w h hi hj
set_option maxHeartbeats 2000000 in
theorem down_any (B g o i0 n : Nat) (cs : Array Value) (t : TypeId) (v : Value) (l : List Int) (w : World) (h : HAt w B g o cs t v l) (hn : n ≤ l.length) (hl : l.length ≤ 400000) (hi0 : i0 ≤ 400000) (hinv : ∀ k, i0 < k → HCond l n k) :
    Calls Try.prog 89 #[.iface 128 (.pointer (some ⟨g, o, none⟩)), .int .i64 i0, .int .i64 n] w (DownPost w B g o cs t v l i0 n) := by
  have m1 := mth_Less
  have m2 := mth_Swap
  go_enter Try.func89, Try.ntmps89
  go_wp2
  go_loopw [7, 8, 9, 10] (fun iv _ _ _ wr => DownRel w B g o cs t v l i0 n iv wr) (fun iv _ _ _ _ => n - (intOf iv).toNat)
  case atStart => exact ⟨i0, l, rfl, by omega, h, HInv.start l i0 n hinv, List.Perm.refl _, fun _ _ => rfl, Keep.refl _ _⟩
  case round =>
    obtain ⟨i, l1, rfl, hi, hat, hv, hperm, htail, hkeep⟩ := hrel
    have hlen := hperm.length_eq
    by_cases h1 : 2 * i + 1 < n
    · have Ht := Lib.hid htail
      have c0 := hat.cell
      have g1 : decide ((n : Int) ≤ 2 * (i : Int) + 1) = false := decide_eq_false (by omega)
      have g2 : decide (2 * (i : Int) + 1 < 0) = false := decide_eq_false (by omega)
      clear htail
      by_cases h2 : 2 * i + 2 < n
      · have g3 : decide (2 * (i : Int) + 1 + 1 < n) = true := decide_eq_true (by omega)
        by_cases h3 : l1.getD (2 * i + 2) 0 < l1.getD (2 * i + 1) 0
        · have H3 := Lib.hid (decide_eq_true h3)
          have hch : HChild l1 i n (2 * i + 2) := ⟨Or.inr rfl, h2, fun _ => by omega, fun _ => Int.le_refl _⟩
          have Hch := Lib.hid hch
          clear hch h3
          by_cases h4 : l1.getD (2 * i + 2) 0 < l1.getD i 0
          · have H4 := Lib.hid (decide_eq_true h4)
            have H5 := Lib.hid h4
            clear h4
            go_wp2_with fail
            refine (less_i B v l1 true _ _ (2 * i + 2) (2 * i + 1) _ (by omega) (by omega) hat.row (by omega) (by omega) H3.out).mono ?_
            rintro e w1 ⟨rfl, q1⟩
            have hat := hat.qt q1
            have c1 := hat.cell
            have hkeep := hkeep.trans (Keep.qt q1)
            go_wp2_with fail
            refine (less_i B v l1 true _ _ (2 * i + 2) i _ (by omega) (by omega) hat.row (by omega) (by omega) H4.out).mono ?_
            rintro e w2 ⟨rfl, q2⟩
            have hat := hat.qt q2
            have c2 := hat.cell
            have hkeep := hkeep.trans (Keep.qt q2)
            go_wp2_with fail
            refine (swap_i B v l1 _ _ i (2 * i + 2) _ (by omega) (by omega) hat.row (by omega) (by omega)).mono ?_
            rintro e w3 ⟨rfl, hr3, k3⟩
            go_wp2_with fail
            refine ⟨⟨2 * i + 2, swapL l1 i (2 * i + 2), by first | rfl | (congr 1; omega), by omega, hat.turned hr3 k3, HInv.step hv Hch.out H5.out (by omega), (swapL_perm l1 i (2 * i + 2) (by omega) (by omega)).trans hperm, fun k hk => ?_, hkeep.trans k3⟩, ?_⟩
            · rw [swapL_getD _ _ _ _ (by omega) (by omega), if_neg (by omega), if_neg (by omega)]; exact Ht.out k hk
            · simp [intOf]; omega
          · have H4 := Lib.hid (decide_eq_false h4)
            have hle : l1.getD i 0 ≤ l1.getD (2 * i + 2) 0 := by omega
            have H5 := Lib.hid (hv.stop Hch.out hle)
            clear h4 hle
            go_wp2_with fail
            refine (less_i B v l1 true _ _ (2 * i + 2) (2 * i + 1) _ (by omega) (by omega) hat.row (by omega) (by omega) H3.out).mono ?_
            rintro e w1 ⟨rfl, q1⟩
            have hat := hat.qt q1
            have c1 := hat.cell
            have hkeep := hkeep.trans (Keep.qt q1)
            go_wp2_with fail
            refine (less_i B v l1 false _ _ (2 * i + 2) i _ (by omega) (by omega) hat.row (by omega) (by omega) H4.out).mono ?_
            rintro e w2 ⟨rfl, q2⟩
            have hat := hat.qt q2
            have c2 := hat.cell
            have hkeep := hkeep.trans (Keep.qt q2)
            go_wp2_with fail
            go_ret
            exact ⟨_, l1, rfl, hat, ⟨hperm, Ht.out, H5.out⟩, hkeep⟩
        · have H3 := Lib.hid (decide_eq_false h3)
          have hch : HChild l1 i n (2 * i + 1) := ⟨Or.inl rfl, h1, fun _ => Int.le_refl _, fun _ => by omega⟩
          have Hch := Lib.hid hch
          clear hch h3
          by_cases h4 : l1.getD (2 * i + 1) 0 < l1.getD i 0
          · have H4 := Lib.hid (decide_eq_true h4)
            have H5 := Lib.hid h4
            clear h4
            go_wp2_with fail
            refine (less_i B v l1 false _ _ (2 * i + 2) (2 * i + 1) _ (by omega) (by omega) hat.row (by omega) (by omega) H3.out).mono ?_
            rintro e w1 ⟨rfl, q1⟩
            have hat := hat.qt q1
            have c1 := hat.cell
            have hkeep := hkeep.trans (Keep.qt q1)
            go_wp2_with fail
            refine (less_i B v l1 true _ _ (2 * i + 1) i _ (by omega) (by omega) hat.row (by omega) (by omega) H4.out).mono ?_
            rintro e w2 ⟨rfl, q2⟩
            have hat := hat.qt q2
            have c2 := hat.cell
            have hkeep := hkeep.trans (Keep.qt q2)
            go_wp2_with fail
            refine (swap_i B v l1 _ _ i (2 * i + 1) _ (by omega) (by omega) hat.row (by omega) (by omega)).mono ?_
            rintro e w3 ⟨rfl, hr3, k3⟩
            go_wp2_with fail
            refine ⟨⟨2 * i + 1, swapL l1 i (2 * i + 1), by first | rfl | (congr 1; omega), by omega, hat.turned hr3 k3, HInv.step hv Hch.out H5.out (by omega), (swapL_perm l1 i (2 * i + 1) (by omega) (by omega)).trans hperm, fun k hk => ?_, hkeep.trans k3⟩, ?_⟩
            · rw [swapL_getD _ _ _ _ (by omega) (by omega), if_neg (by omega), if_neg (by omega)]; exact Ht.out k hk
            · simp [intOf]; omega
          · have H4 := Lib.hid (decide_eq_false h4)
            have hle : l1.getD i 0 ≤ l1.getD (2 * i + 1) 0 := by omega
            have H5 := Lib.hid (hv.stop Hch.out hle)
            clear h4 hle
            go_wp2_with fail
            refine (less_i B v l1 false _ _ (2 * i + 2) (2 * i + 1) _ (by omega) (by omega) hat.row (by omega) (by omega) H3.out).mono ?_
            rintro e w1 ⟨rfl, q1⟩
            have hat := hat.qt q1
            have c1 := hat.cell
            have hkeep := hkeep.trans (Keep.qt q1)
            go_wp2_with fail
            refine (less_i B v l1 false _ _ (2 * i + 1) i _ (by omega) (by omega) hat.row (by omega) (by omega) H4.out).mono ?_
            rintro e w2 ⟨rfl, q2⟩
            have hat := hat.qt q2
            have c2 := hat.cell
            have hkeep := hkeep.trans (Keep.qt q2)
            go_wp2_with fail
            go_ret
            exact ⟨_, l1, rfl, hat, ⟨hperm, Ht.out, H5.out⟩, hkeep⟩
      · have g3 : decide (2 * (i : Int) + 1 + 1 < n) = false := decide_eq_false (by omega)
        have hch : HChild l1 i n (2 * i + 1) := ⟨Or.inl rfl, h1, fun _ => Int.le_refl _, fun q => absurd q h2⟩
        have Hch := Lib.hid hch
        clear hch
        by_cases h4 : l1.getD (2 * i + 1) 0 < l1.getD i 0
        · have H4 := Lib.hid (decide_eq_true h4)
          have H5 := Lib.hid h4
          clear h4
          go_wp2_with fail
          refine (less_i B v l1 true _ _ (2 * i + 1) i _ (by omega) (by omega) hat.row (by omega) (by omega) H4.out).mono ?_
          rintro e w2 ⟨rfl, q2⟩
          have hat := hat.qt q2
          have c2 := hat.cell
          have hkeep := hkeep.trans (Keep.qt q2)
          go_wp2_with fail
          refine (swap_i B v l1 _ _ i (2 * i + 1) _ (by omega) (by omega) hat.row (by omega) (by omega)).mono ?_
          rintro e w3 ⟨rfl, hr3, k3⟩
          go_wp2_with fail
          refine ⟨⟨2 * i + 1, swapL l1 i (2 * i + 1), by first | rfl | (congr 1; omega), by omega, hat.turned hr3 k3, HInv.step hv Hch.out H5.out (by omega), (swapL_perm l1 i (2 * i + 1) (by omega) (by omega)).trans hperm, fun k hk => ?_, hkeep.trans k3⟩, ?_⟩
          · rw [swapL_getD _ _ _ _ (by omega) (by omega), if_neg (by omega), if_neg (by omega)]; exact Ht.out k hk
          · simp [intOf]; omega
        · have H4 := Lib.hid (decide_eq_false h4)
          have hle : l1.getD i 0 ≤ l1.getD (2 * i + 1) 0 := by omega
          have H5 := Lib.hid (hv.stop Hch.out hle)
          clear h4 hle
          go_wp2_with fail
          refine (less_i B v l1 false _ _ (2 * i + 1) i _ (by omega) (by omega) hat.row (by omega) (by omega) H4.out).mono ?_
          rintro e w2 ⟨rfl, q2⟩
          have hat := hat.qt q2
          have c2 := hat.cell
          have hkeep := hkeep.trans (Keep.qt q2)
          go_wp2_with fail
          go_ret
          exact ⟨_, l1, rfl, hat, ⟨hperm, Ht.out, H5.out⟩, hkeep⟩
    · have hc := hv.leaf (by omega)
      have Hc := Lib.hid hc
      have Ht := Lib.hid htail
      have Hl := Lib.hid hlen
      clear hc htail hlen
      go_wp2
      go_ret
      exact ⟨_, l1, rfl, hat, ⟨hperm, Ht.out, Hc.out⟩, hkeep⟩
end Go.Proofs.Ytolilbcpfdnkjaa.Bk
