/- bank's law: BankArgs. -/
import Derived.Test.YtncbojocglcieaaP9
import Derived.Test.YtncbojocglcieaaB4
namespace Go.Proofs.Ytncbojocglcieaa
open Go.RowKit
set_option linter.unusedSimpArgs false
set_option linter.unusedVariables false
set_option maxRecDepth 100000 in
set_option maxHeartbeats 4000000 in
theorem bankargs_any (sc : Nat) (f s a : Int) (w : World) (hsc : sc < 256) (hf : -9223372036854775808 ≤ f ∧ f ≤ 9223372036854775807) (hs : -9223372036854775808 ≤ s ∧ s ≤ 9223372036854775807) (ha : -9223372036854775808 ≤ a ∧ a ≤ 9223372036854775807) :
    Calls Try.prog 10 #[.int .u8 sc, .agg #[.int .i64 f, .int .i64 s, .int .i64 a]] w fun e w' => e = .returned (.bool true) ∧ Below w.heap.size w w' := by
  obtain ⟨n, hn⟩ : ∃ n, sc % 20 = n := ⟨_, rfl⟩
  have hnz : (sc : Int) % 20 = n := by omega
  have hn20 : n < 20 := by omega
  have hN : (min (max (n : Int) 0) 4096).toNat = n := by omega
  have HNN := Lib.hid hN
  obtain ⟨D, NX, hwr, hD1, hD2, hD3, hD4⟩ := args_write n f s a ⟨#[120]⟩ rfl
  have hsc1 := args_scan n f s
  have hwp := args_wipe n f s a
  obtain ⟨c1, c2, c3, c4⟩ := cut_lost hD1
  obtain ⟨l1, l2, l3⟩ := lost_all c1 f s a ⟨#[120]⟩
  have HC2 := Lib.hid (c2.trans hD2)
  have HC3 := Lib.hid (show (D.cut 0).queue.length ≤ 1 by rw [c3]; exact hD3)
  have HC4 := Lib.hid (fun i => show ((D.cut 0).sec i).size = 64 by rw [c4]; exact hD4 i)
  have HC1 := Lib.hid c1
  have L1 := Lib.hid l1
  have L2 := Lib.hid l2
  have L3 := Lib.hid l3
  have hcut : D.cut 0 = D.cut 0 := rfl
  generalize hDC : D.cut 0 = DC at *
  have HDC := Lib.hid hDC
  have HD2 := Lib.hid hD2
  clear hn hN c1 c2 c3 c4 l1 l2 l3 hDC hcut hD1 hD2 hD3 hD4
  obtain ⟨S0, hS0⟩ : ∃ S0, (dev0 n).scan f s = S0 := ⟨_, rfl⟩
  rw [hS0] at hsc1
  have HS0 := Lib.hid hS0
  clear hS0
  obtain ⟨hf1, hf2⟩ := hf
  obtain ⟨hs1, hs2⟩ := hs
  obtain ⟨ha1, ha2⟩ := ha
  by_cases hg : 1 ≤ s ∧ 0 ≤ f ∧ f + s ≤ n
  · rw [if_pos hg] at hsc1 hwp
    obtain ⟨g1, g2, g3⟩ := hg
    have g4 : s ≤ n := by omega
    have g5 : f ≤ n - s := by omega
    have HWP := Lib.hid hwp
    clear hwp
    by_cases a1 : a < 1
    · rw [if_pos (Or.inr a1)] at hwr
      have HWR := Lib.hid hwr
      clear hwr
      go_enter Try.func10, Try.ntmps10
      go_wp2_with fail
      go_quiet (fail)
      generalize hW1 : World.drewN _ nq = w1 at *
      have hb1 : Below w.heap.size w w1 := by rw [← hW1]; exact ((Below.refl _ w).alloc (Nat.le_refl _) _).trans ((qt_below (Qt.drewN _ nq)).mono (by simp))
      have HB1 := Lib.hid hb1
      clear hb1 hW1
      go_wp2_with fail
      refine (awake07_any _).mono ?_
      rintro e w2 ⟨rfl, hb2⟩
      have HB2 := Lib.hid (HB1.out.trans (hb2.mono HB1.out.size))
      clear hb2
      go_wp2_with fail
      refine (own_new w w2 _ HB2.out).mono ?_
      rintro e w3 ⟨g, rfl, h3⟩
      rw [HNN.out] at h3
      have H3 := Lib.hid (show OwnR w w3 (fun _ => False) g (dev0 n) from h3.r)
      clear h3
      go_wp2_with fail
      refine (scan_any f s H3.out hs2 (by show n ≤ 4096; omega) (fun _ => zsec_size)).mono ?_
      rintro e w4 ⟨v4, rfl, hr4, h4, hb4⟩
      rw [HS0.out, hsc1]
      obtain ⟨a4, k4, rfl⟩ := hr4.shape
      have H4 := Lib.hid h4
      clear h4 hb4 hr4
      go_wp2_with fail
      refine (wipe_any f s a H4.out (by show n ≤ 4096; omega) (by show 0 ≤ 900000; omega) (by show (-1 : Int) ≤ _; omega) hs2 ha2).mono ?_
      rintro e w5 ⟨rfl, h5, hh5⟩
      rw [HWP.out] at h5 ⊢
      have H5 := Lib.hid h5
      clear h5 hh5
      go_wp2_with fail
      refine (write_any f s a ⟨#[120]⟩ H5.out (by show n ≤ 4096; omega) (by show 0 ≤ 900000; omega) (by show (-1 : Int) ≤ _; omega) (by decide) hs2 ha2).mono ?_
      rintro e w6 ⟨rfl, h6, hh6⟩
      rw [HWR.out] at h6 ⊢
      have H6 := Lib.hid h6
      clear h6 hh6
      go_wp2_with fail
      refine (ownr_cut H6.out 0).mono ?_
      rintro e w7 ⟨rfl, h7, hh7⟩
      rw [HDC.out] at h7
      have H7 := Lib.hid h7
      clear h7 hh7
      go_wp2_with fail
      refine (scan_any f s H7.out hs2 (by rw [HC2.out]; omega) HC4.out).mono ?_
      rintro e w8 ⟨v8, rfl, hr8, h8, hb8⟩
      rw [L1.out] at hr8 ⊢
      obtain ⟨a8, k8, rfl⟩ := hr8.shape
      have H8 := Lib.hid h8
      clear h8 hb8 hr8
      go_wp2_with fail
      refine (write_any f s a ⟨#[120]⟩ H8.out (by rw [HC2.out]; omega) (by have := HC3.out; omega) (by rw [HC1.out]; decide) (by decide) hs2 ha2).mono ?_
      rintro e w9 ⟨rfl, h9, hh9⟩
      rw [L2.out] at h9 ⊢
      have H9 := Lib.hid h9
      clear h9 hh9
      go_wp2_with fail
      refine (wipe_any f s a H9.out (by rw [HC2.out]; omega) (by have := HC3.out; omega) (by rw [HC1.out]; decide) hs2 ha2).mono ?_
      rintro e w10 ⟨rfl, h10, hh10⟩
      rw [L3.out] at h10 ⊢
      have H10 := Lib.hid h10.bel
      clear h10 hh10
      go_wp2_with fail
      go_ret
      exact ⟨rfl, H10.out⟩
    · have a2 : 1 ≤ a := by omega
      have a3 : decide (a < 1) = false := decide_eq_false a1
      rw [if_neg (by omega)] at hwr
      clear a1
      by_cases b1 : s ≤ a
      · rw [if_pos b1] at hwr
        have HWR := Lib.hid hwr
        clear hwr
        have b2 : decide (a < s) = false := decide_eq_false (by omega)
        go_enter Try.func10, Try.ntmps10
        go_wp2_with fail
        go_quiet (fail)
        generalize hW1 : World.drewN _ nq = w1 at *
        have hb1 : Below w.heap.size w w1 := by rw [← hW1]; exact ((Below.refl _ w).alloc (Nat.le_refl _) _).trans ((qt_below (Qt.drewN _ nq)).mono (by simp))
        have HB1 := Lib.hid hb1
        clear hb1 hW1
        go_wp2_with fail
        refine (awake07_any _).mono ?_
        rintro e w2 ⟨rfl, hb2⟩
        have HB2 := Lib.hid (HB1.out.trans (hb2.mono HB1.out.size))
        clear hb2
        go_wp2_with fail
        refine (own_new w w2 _ HB2.out).mono ?_
        rintro e w3 ⟨g, rfl, h3⟩
        rw [HNN.out] at h3
        have H3 := Lib.hid (show OwnR w w3 (fun _ => False) g (dev0 n) from h3.r)
        clear h3
        go_wp2_with fail
        refine (scan_any f s H3.out hs2 (by show n ≤ 4096; omega) (fun _ => zsec_size)).mono ?_
        rintro e w4 ⟨v4, rfl, hr4, h4, hb4⟩
        rw [HS0.out, hsc1]
        obtain ⟨a4, k4, rfl⟩ := hr4.shape
        have H4 := Lib.hid h4
        clear h4 hb4 hr4
        go_wp2_with fail
        refine (wipe_any f s a H4.out (by show n ≤ 4096; omega) (by show 0 ≤ 900000; omega) (by show (-1 : Int) ≤ _; omega) hs2 ha2).mono ?_
        rintro e w5 ⟨rfl, h5, hh5⟩
        rw [HWP.out] at h5 ⊢
        have H5 := Lib.hid h5
        clear h5 hh5
        go_wp2_with fail
        refine (write_any f s a ⟨#[120]⟩ H5.out (by show n ≤ 4096; omega) (by show 0 ≤ 900000; omega) (by show (-1 : Int) ≤ _; omega) (by decide) hs2 ha2).mono ?_
        rintro e w6 ⟨rfl, h6, hh6⟩
        rw [HWR.out] at h6 ⊢
        have H6 := Lib.hid h6
        clear h6 hh6
        go_wp2_with fail
        refine (ownr_cut H6.out 0).mono ?_
        rintro e w7 ⟨rfl, h7, hh7⟩
        rw [HDC.out] at h7
        have H7 := Lib.hid h7
        clear h7 hh7
        go_wp2_with fail
        refine (scan_any f s H7.out hs2 (by rw [HC2.out]; omega) HC4.out).mono ?_
        rintro e w8 ⟨v8, rfl, hr8, h8, hb8⟩
        rw [L1.out] at hr8 ⊢
        obtain ⟨a8, k8, rfl⟩ := hr8.shape
        have H8 := Lib.hid h8
        clear h8 hb8 hr8
        go_wp2_with fail
        refine (write_any f s a ⟨#[120]⟩ H8.out (by rw [HC2.out]; omega) (by have := HC3.out; omega) (by rw [HC1.out]; decide) (by decide) hs2 ha2).mono ?_
        rintro e w9 ⟨rfl, h9, hh9⟩
        rw [L2.out] at h9 ⊢
        have H9 := Lib.hid h9
        clear h9 hh9
        go_wp2_with fail
        refine (wipe_any f s a H9.out (by rw [HC2.out]; omega) (by have := HC3.out; omega) (by rw [HC1.out]; decide) hs2 ha2).mono ?_
        rintro e w10 ⟨rfl, h10, hh10⟩
        rw [L3.out] at h10 ⊢
        have H10 := Lib.hid h10.bel
        clear h10 hh10
        go_wp2_with fail
        go_ret
        exact ⟨rfl, H10.out⟩
      · rw [if_neg b1] at hwr
        have HWR := Lib.hid hwr
        clear hwr
        have b2 : a < s := by omega
        clear b1
        go_enter Try.func10, Try.ntmps10
        go_wp2_with fail
        go_quiet (fail)
        generalize hW1 : World.drewN _ nq = w1 at *
        have hb1 : Below w.heap.size w w1 := by rw [← hW1]; exact ((Below.refl _ w).alloc (Nat.le_refl _) _).trans ((qt_below (Qt.drewN _ nq)).mono (by simp))
        have HB1 := Lib.hid hb1
        clear hb1 hW1
        go_wp2_with fail
        refine (awake07_any _).mono ?_
        rintro e w2 ⟨rfl, hb2⟩
        have HB2 := Lib.hid (HB1.out.trans (hb2.mono HB1.out.size))
        clear hb2
        go_wp2_with fail
        refine (own_new w w2 _ HB2.out).mono ?_
        rintro e w3 ⟨g, rfl, h3⟩
        rw [HNN.out] at h3
        have H3 := Lib.hid (show OwnR w w3 (fun _ => False) g (dev0 n) from h3.r)
        clear h3
        go_wp2_with fail
        refine (scan_any f s H3.out hs2 (by show n ≤ 4096; omega) (fun _ => zsec_size)).mono ?_
        rintro e w4 ⟨v4, rfl, hr4, h4, hb4⟩
        rw [HS0.out, hsc1]
        obtain ⟨a4, k4, rfl⟩ := hr4.shape
        have H4 := Lib.hid h4
        clear h4 hb4 hr4
        go_wp2_with fail
        refine (wipe_any f s a H4.out (by show n ≤ 4096; omega) (by show 0 ≤ 900000; omega) (by show (-1 : Int) ≤ _; omega) hs2 ha2).mono ?_
        rintro e w5 ⟨rfl, h5, hh5⟩
        rw [HWP.out] at h5 ⊢
        have H5 := Lib.hid h5
        clear h5 hh5
        go_wp2_with fail
        refine (write_any f s a ⟨#[120]⟩ H5.out (by show n ≤ 4096; omega) (by show 0 ≤ 900000; omega) (by show (-1 : Int) ≤ _; omega) (by decide) hs2 ha2).mono ?_
        rintro e w6 ⟨rfl, h6, hh6⟩
        rw [HWR.out] at h6 ⊢
        have H6 := Lib.hid h6
        clear h6 hh6
        go_wp2_with fail
        refine (ownr_cut H6.out 0).mono ?_
        rintro e w7 ⟨rfl, h7, hh7⟩
        rw [HDC.out] at h7
        have H7 := Lib.hid h7
        clear h7 hh7
        go_wp2_with fail
        refine (scan_any f s H7.out hs2 (by rw [HC2.out]; omega) HC4.out).mono ?_
        rintro e w8 ⟨v8, rfl, hr8, h8, hb8⟩
        rw [L1.out] at hr8 ⊢
        obtain ⟨a8, k8, rfl⟩ := hr8.shape
        have H8 := Lib.hid h8
        clear h8 hb8 hr8
        go_wp2_with fail
        refine (write_any f s a ⟨#[120]⟩ H8.out (by rw [HC2.out]; omega) (by have := HC3.out; omega) (by rw [HC1.out]; decide) (by decide) hs2 ha2).mono ?_
        rintro e w9 ⟨rfl, h9, hh9⟩
        rw [L2.out] at h9 ⊢
        have H9 := Lib.hid h9
        clear h9 hh9
        go_wp2_with fail
        refine (wipe_any f s a H9.out (by rw [HC2.out]; omega) (by have := HC3.out; omega) (by rw [HC1.out]; decide) hs2 ha2).mono ?_
        rintro e w10 ⟨rfl, h10, hh10⟩
        rw [L3.out] at h10 ⊢
        have H10 := Lib.hid h10.bel
        clear h10 hh10
        go_wp2_with fail
        go_ret
        exact ⟨rfl, H10.out⟩
  · rw [if_neg hg] at hsc1 hwp
    rw [if_pos (Or.inl hg)] at hwr
    have HWP := Lib.hid hwp
    have HWR := Lib.hid hwr
    clear hwp hwr
    have hcs : (s < 1) ∨ (1 ≤ s ∧ (n : Int) < s) ∨ (1 ≤ s ∧ s ≤ n ∧ f < 0) ∨ (1 ≤ s ∧ s ≤ n ∧ 0 ≤ f ∧ (n : Int) - s < f) := by omega
    clear hg
    rcases hcs with g1 | ⟨g1, g2⟩ | ⟨g1, g2, g3⟩ | ⟨g1, g2, g3, g4⟩
    · skip
      go_enter Try.func10, Try.ntmps10
      go_wp2_with fail
      go_quiet (fail)
      generalize hW1 : World.drewN _ nq = w1 at *
      have hb1 : Below w.heap.size w w1 := by rw [← hW1]; exact ((Below.refl _ w).alloc (Nat.le_refl _) _).trans ((qt_below (Qt.drewN _ nq)).mono (by simp))
      have HB1 := Lib.hid hb1
      clear hb1 hW1
      go_wp2_with fail
      refine (awake07_any _).mono ?_
      rintro e w2 ⟨rfl, hb2⟩
      have HB2 := Lib.hid (HB1.out.trans (hb2.mono HB1.out.size))
      clear hb2
      go_wp2_with fail
      refine (own_new w w2 _ HB2.out).mono ?_
      rintro e w3 ⟨g, rfl, h3⟩
      rw [HNN.out] at h3
      have H3 := Lib.hid (show OwnR w w3 (fun _ => False) g (dev0 n) from h3.r)
      clear h3
      go_wp2_with fail
      refine (scan_any f s H3.out hs2 (by show n ≤ 4096; omega) (fun _ => zsec_size)).mono ?_
      rintro e w4 ⟨v4, rfl, hr4, h4, hb4⟩
      rw [HS0.out, hsc1]
      obtain ⟨a4, k4, rfl⟩ := hr4.shape
      have H4 := Lib.hid h4
      clear h4 hb4 hr4
      go_wp2_with fail
      refine (wipe_any f s a H4.out (by show n ≤ 4096; omega) (by show 0 ≤ 900000; omega) (by show (-1 : Int) ≤ _; omega) hs2 ha2).mono ?_
      rintro e w5 ⟨rfl, h5, hh5⟩
      rw [HWP.out] at h5 ⊢
      have H5 := Lib.hid h5
      clear h5 hh5
      go_wp2_with fail
      refine (write_any f s a ⟨#[120]⟩ H5.out (by show n ≤ 4096; omega) (by show 0 ≤ 900000; omega) (by show (-1 : Int) ≤ _; omega) (by decide) hs2 ha2).mono ?_
      rintro e w6 ⟨rfl, h6, hh6⟩
      rw [HWR.out] at h6 ⊢
      have H6 := Lib.hid h6
      clear h6 hh6
      go_wp2_with fail
      refine (ownr_cut H6.out 0).mono ?_
      rintro e w7 ⟨rfl, h7, hh7⟩
      rw [HDC.out] at h7
      have H7 := Lib.hid h7
      clear h7 hh7
      go_wp2_with fail
      refine (scan_any f s H7.out hs2 (by rw [HC2.out]; omega) HC4.out).mono ?_
      rintro e w8 ⟨v8, rfl, hr8, h8, hb8⟩
      rw [L1.out] at hr8 ⊢
      obtain ⟨a8, k8, rfl⟩ := hr8.shape
      have H8 := Lib.hid h8
      clear h8 hb8 hr8
      go_wp2_with fail
      refine (write_any f s a ⟨#[120]⟩ H8.out (by rw [HC2.out]; omega) (by have := HC3.out; omega) (by rw [HC1.out]; decide) (by decide) hs2 ha2).mono ?_
      rintro e w9 ⟨rfl, h9, hh9⟩
      rw [L2.out] at h9 ⊢
      have H9 := Lib.hid h9
      clear h9 hh9
      go_wp2_with fail
      refine (wipe_any f s a H9.out (by rw [HC2.out]; omega) (by have := HC3.out; omega) (by rw [HC1.out]; decide) hs2 ha2).mono ?_
      rintro e w10 ⟨rfl, h10, hh10⟩
      rw [L3.out] at h10 ⊢
      have H10 := Lib.hid h10.bel
      clear h10 hh10
      go_wp2_with fail
      go_ret
      exact ⟨rfl, H10.out⟩
    · skip
      go_enter Try.func10, Try.ntmps10
      go_wp2_with fail
      go_quiet (fail)
      generalize hW1 : World.drewN _ nq = w1 at *
      have hb1 : Below w.heap.size w w1 := by rw [← hW1]; exact ((Below.refl _ w).alloc (Nat.le_refl _) _).trans ((qt_below (Qt.drewN _ nq)).mono (by simp))
      have HB1 := Lib.hid hb1
      clear hb1 hW1
      go_wp2_with fail
      refine (awake07_any _).mono ?_
      rintro e w2 ⟨rfl, hb2⟩
      have HB2 := Lib.hid (HB1.out.trans (hb2.mono HB1.out.size))
      clear hb2
      go_wp2_with fail
      refine (own_new w w2 _ HB2.out).mono ?_
      rintro e w3 ⟨g, rfl, h3⟩
      rw [HNN.out] at h3
      have H3 := Lib.hid (show OwnR w w3 (fun _ => False) g (dev0 n) from h3.r)
      clear h3
      go_wp2_with fail
      refine (scan_any f s H3.out hs2 (by show n ≤ 4096; omega) (fun _ => zsec_size)).mono ?_
      rintro e w4 ⟨v4, rfl, hr4, h4, hb4⟩
      rw [HS0.out, hsc1]
      obtain ⟨a4, k4, rfl⟩ := hr4.shape
      have H4 := Lib.hid h4
      clear h4 hb4 hr4
      go_wp2_with fail
      refine (wipe_any f s a H4.out (by show n ≤ 4096; omega) (by show 0 ≤ 900000; omega) (by show (-1 : Int) ≤ _; omega) hs2 ha2).mono ?_
      rintro e w5 ⟨rfl, h5, hh5⟩
      rw [HWP.out] at h5 ⊢
      have H5 := Lib.hid h5
      clear h5 hh5
      go_wp2_with fail
      refine (write_any f s a ⟨#[120]⟩ H5.out (by show n ≤ 4096; omega) (by show 0 ≤ 900000; omega) (by show (-1 : Int) ≤ _; omega) (by decide) hs2 ha2).mono ?_
      rintro e w6 ⟨rfl, h6, hh6⟩
      rw [HWR.out] at h6 ⊢
      have H6 := Lib.hid h6
      clear h6 hh6
      go_wp2_with fail
      refine (ownr_cut H6.out 0).mono ?_
      rintro e w7 ⟨rfl, h7, hh7⟩
      rw [HDC.out] at h7
      have H7 := Lib.hid h7
      clear h7 hh7
      go_wp2_with fail
      refine (scan_any f s H7.out hs2 (by rw [HC2.out]; omega) HC4.out).mono ?_
      rintro e w8 ⟨v8, rfl, hr8, h8, hb8⟩
      rw [L1.out] at hr8 ⊢
      obtain ⟨a8, k8, rfl⟩ := hr8.shape
      have H8 := Lib.hid h8
      clear h8 hb8 hr8
      go_wp2_with fail
      refine (write_any f s a ⟨#[120]⟩ H8.out (by rw [HC2.out]; omega) (by have := HC3.out; omega) (by rw [HC1.out]; decide) (by decide) hs2 ha2).mono ?_
      rintro e w9 ⟨rfl, h9, hh9⟩
      rw [L2.out] at h9 ⊢
      have H9 := Lib.hid h9
      clear h9 hh9
      go_wp2_with fail
      refine (wipe_any f s a H9.out (by rw [HC2.out]; omega) (by have := HC3.out; omega) (by rw [HC1.out]; decide) hs2 ha2).mono ?_
      rintro e w10 ⟨rfl, h10, hh10⟩
      rw [L3.out] at h10 ⊢
      have H10 := Lib.hid h10.bel
      clear h10 hh10
      go_wp2_with fail
      go_ret
      exact ⟨rfl, H10.out⟩
    · skip
      go_enter Try.func10, Try.ntmps10
      go_wp2_with fail
      go_quiet (fail)
      generalize hW1 : World.drewN _ nq = w1 at *
      have hb1 : Below w.heap.size w w1 := by rw [← hW1]; exact ((Below.refl _ w).alloc (Nat.le_refl _) _).trans ((qt_below (Qt.drewN _ nq)).mono (by simp))
      have HB1 := Lib.hid hb1
      clear hb1 hW1
      go_wp2_with fail
      refine (awake07_any _).mono ?_
      rintro e w2 ⟨rfl, hb2⟩
      have HB2 := Lib.hid (HB1.out.trans (hb2.mono HB1.out.size))
      clear hb2
      go_wp2_with fail
      refine (own_new w w2 _ HB2.out).mono ?_
      rintro e w3 ⟨g, rfl, h3⟩
      rw [HNN.out] at h3
      have H3 := Lib.hid (show OwnR w w3 (fun _ => False) g (dev0 n) from h3.r)
      clear h3
      go_wp2_with fail
      refine (scan_any f s H3.out hs2 (by show n ≤ 4096; omega) (fun _ => zsec_size)).mono ?_
      rintro e w4 ⟨v4, rfl, hr4, h4, hb4⟩
      rw [HS0.out, hsc1]
      obtain ⟨a4, k4, rfl⟩ := hr4.shape
      have H4 := Lib.hid h4
      clear h4 hb4 hr4
      go_wp2_with fail
      refine (wipe_any f s a H4.out (by show n ≤ 4096; omega) (by show 0 ≤ 900000; omega) (by show (-1 : Int) ≤ _; omega) hs2 ha2).mono ?_
      rintro e w5 ⟨rfl, h5, hh5⟩
      rw [HWP.out] at h5 ⊢
      have H5 := Lib.hid h5
      clear h5 hh5
      go_wp2_with fail
      refine (write_any f s a ⟨#[120]⟩ H5.out (by show n ≤ 4096; omega) (by show 0 ≤ 900000; omega) (by show (-1 : Int) ≤ _; omega) (by decide) hs2 ha2).mono ?_
      rintro e w6 ⟨rfl, h6, hh6⟩
      rw [HWR.out] at h6 ⊢
      have H6 := Lib.hid h6
      clear h6 hh6
      go_wp2_with fail
      refine (ownr_cut H6.out 0).mono ?_
      rintro e w7 ⟨rfl, h7, hh7⟩
      rw [HDC.out] at h7
      have H7 := Lib.hid h7
      clear h7 hh7
      go_wp2_with fail
      refine (scan_any f s H7.out hs2 (by rw [HC2.out]; omega) HC4.out).mono ?_
      rintro e w8 ⟨v8, rfl, hr8, h8, hb8⟩
      rw [L1.out] at hr8 ⊢
      obtain ⟨a8, k8, rfl⟩ := hr8.shape
      have H8 := Lib.hid h8
      clear h8 hb8 hr8
      go_wp2_with fail
      refine (write_any f s a ⟨#[120]⟩ H8.out (by rw [HC2.out]; omega) (by have := HC3.out; omega) (by rw [HC1.out]; decide) (by decide) hs2 ha2).mono ?_
      rintro e w9 ⟨rfl, h9, hh9⟩
      rw [L2.out] at h9 ⊢
      have H9 := Lib.hid h9
      clear h9 hh9
      go_wp2_with fail
      refine (wipe_any f s a H9.out (by rw [HC2.out]; omega) (by have := HC3.out; omega) (by rw [HC1.out]; decide) hs2 ha2).mono ?_
      rintro e w10 ⟨rfl, h10, hh10⟩
      rw [L3.out] at h10 ⊢
      have H10 := Lib.hid h10.bel
      clear h10 hh10
      go_wp2_with fail
      go_ret
      exact ⟨rfl, H10.out⟩
    · have g5 : decide (f ≤ (n : Int) - s) = false := decide_eq_false (by omega)
      go_enter Try.func10, Try.ntmps10
      go_wp2_with fail
      go_quiet (fail)
      generalize hW1 : World.drewN _ nq = w1 at *
      have hb1 : Below w.heap.size w w1 := by rw [← hW1]; exact ((Below.refl _ w).alloc (Nat.le_refl _) _).trans ((qt_below (Qt.drewN _ nq)).mono (by simp))
      have HB1 := Lib.hid hb1
      clear hb1 hW1
      go_wp2_with fail
      refine (awake07_any _).mono ?_
      rintro e w2 ⟨rfl, hb2⟩
      have HB2 := Lib.hid (HB1.out.trans (hb2.mono HB1.out.size))
      clear hb2
      go_wp2_with fail
      refine (own_new w w2 _ HB2.out).mono ?_
      rintro e w3 ⟨g, rfl, h3⟩
      rw [HNN.out] at h3
      have H3 := Lib.hid (show OwnR w w3 (fun _ => False) g (dev0 n) from h3.r)
      clear h3
      go_wp2_with fail
      refine (scan_any f s H3.out hs2 (by show n ≤ 4096; omega) (fun _ => zsec_size)).mono ?_
      rintro e w4 ⟨v4, rfl, hr4, h4, hb4⟩
      rw [HS0.out, hsc1]
      obtain ⟨a4, k4, rfl⟩ := hr4.shape
      have H4 := Lib.hid h4
      clear h4 hb4 hr4
      go_wp2_with fail
      refine (wipe_any f s a H4.out (by show n ≤ 4096; omega) (by show 0 ≤ 900000; omega) (by show (-1 : Int) ≤ _; omega) hs2 ha2).mono ?_
      rintro e w5 ⟨rfl, h5, hh5⟩
      rw [HWP.out] at h5 ⊢
      have H5 := Lib.hid h5
      clear h5 hh5
      go_wp2_with fail
      refine (write_any f s a ⟨#[120]⟩ H5.out (by show n ≤ 4096; omega) (by show 0 ≤ 900000; omega) (by show (-1 : Int) ≤ _; omega) (by decide) hs2 ha2).mono ?_
      rintro e w6 ⟨rfl, h6, hh6⟩
      rw [HWR.out] at h6 ⊢
      have H6 := Lib.hid h6
      clear h6 hh6
      go_wp2_with fail
      refine (ownr_cut H6.out 0).mono ?_
      rintro e w7 ⟨rfl, h7, hh7⟩
      rw [HDC.out] at h7
      have H7 := Lib.hid h7
      clear h7 hh7
      go_wp2_with fail
      refine (scan_any f s H7.out hs2 (by rw [HC2.out]; omega) HC4.out).mono ?_
      rintro e w8 ⟨v8, rfl, hr8, h8, hb8⟩
      rw [L1.out] at hr8 ⊢
      obtain ⟨a8, k8, rfl⟩ := hr8.shape
      have H8 := Lib.hid h8
      clear h8 hb8 hr8
      go_wp2_with fail
      refine (write_any f s a ⟨#[120]⟩ H8.out (by rw [HC2.out]; omega) (by have := HC3.out; omega) (by rw [HC1.out]; decide) (by decide) hs2 ha2).mono ?_
      rintro e w9 ⟨rfl, h9, hh9⟩
      rw [L2.out] at h9 ⊢
      have H9 := Lib.hid h9
      clear h9 hh9
      go_wp2_with fail
      refine (wipe_any f s a H9.out (by rw [HC2.out]; omega) (by have := HC3.out; omega) (by rw [HC1.out]; decide) hs2 ha2).mono ?_
      rintro e w10 ⟨rfl, h10, hh10⟩
      rw [L3.out] at h10 ⊢
      have H10 := Lib.hid h10.bel
      clear h10 hh10
      go_wp2_with fail
      go_ret
      exact ⟨rfl, H10.out⟩
end Go.Proofs.Ytncbojocglcieaa
