/- SectorCuts. -/
import Derived.Test.YtncbojocglcieaaS4
namespace Go.Proofs.Ytncbojocglcieaa
open Go.RowKit
set_option linter.unusedSimpArgs false
set_option linter.unusedVariables false
def CutRel (w0 : World) (g k T : Nat) (dv iv : Value) (wr : World) : Prop :=
  ∃ (i : Nat) (d : DevD), iv = .int .i64 i ∧ dv = .int .i64 (min i k : Nat) ∧ i ≤ T ∧ Own w0 wr g d ∧ d.size = 1 ∧ d.left = (k : Int) - (min i k : Nat) ∧ d.queue.length = min i k
theorem put0_ok {d : DevD} {x : ByteArray} (hs : d.size = 1) (hx : x.size = 64) (hl : d.left ≠ 0) : d.putErr 0 x = 0 := by
  unfold DevD.putErr DevD.ask; simp [hs, hx, hl]
theorem put0_lost {d : DevD} {x : ByteArray} (hl : d.left = 0) : d.putErr 0 x = 13 := by
  unfold DevD.putErr DevD.ask; simp [hl]
theorem own_put_lost {w0 w : World} {g : Nat} {d : DevD} (h : Own w0 w g d) (i : Int) (x : ByteArray) (hq : d.queue.length ≤ 1000000) (hl : d.left = 0) :
    Calls Try.prog 18 #[.pointer (some ⟨g, 0, none⟩), .int .i64 i, .string x] w fun e w' => e = .returned (.int .i64 13) ∧ Own w0 w' g d := by
  have := own_put h i x hq (by omega)
  have e : d.putErr i x = 13 := by unfold DevD.putErr DevD.ask; simp [hl]
  rw [e, if_neg (by decide)] at this
  exact this
set_option maxRecDepth 100000 in
set_option maxHeartbeats 2000000 in
theorem cuts_any (n m : UInt8) (w : World) : Calls Try.prog 6 #[.int .u8 n.toNat, .int .u8 m.toNat] w fun e w' => e = .returned (.bool true) ∧ Below w.heap.size w w' := by
  obtain ⟨k, hk⟩ : ∃ k, n.toNat % 60 = k := ⟨_, rfl⟩
  obtain ⟨e5, he5⟩ : ∃ k, m.toNat % 5 = k := ⟨_, rfl⟩
  have hk60 : k < 60 := by omega
  have he5' : e5 < 5 := by omega
  have k1 : (n.toNat : Int) % 60 = k := by omega
  have k2 : (m.toNat : Int) % 5 = e5 := by omega
  clear hk he5
  go_enter Try.func6, Try.ntmps6
  go_wp2_with fail
  refine (own_new w w 1 (Below.refl _ _)).mono ?_
  rintro e w1 ⟨g, rfl, h1⟩
  have H1 := Lib.hid h1
  clear h1
  go_wp2_with fail
  refine (awake06_any _).mono ?_
  rintro e w2 ⟨rfl, hb2⟩
  have H2 := Lib.hid (H1.out.below hb2)
  clear hb2
  go_wp2_with fail
  refine (own_cut H2.out k).mono ?_
  rintro e w3 ⟨rfl, h3⟩
  have hd : (DevD.mk (min (max (1 : Int) 0) 4096).toNat [] [] [] (-1)).cut k = ⟨1, [], [], [], k⟩ := by
    unfold DevD.cut
    rw [if_neg (by decide), show max (k : Int) (-1) = k from by omega]
    rfl
  rw [hd] at h3
  have H3 := Lib.hid h3
  clear h3 hd
  go_wp2_with fail
  go_loopw [6, 7] (fun dv iv wr => CutRel w g k (k + 2 + e5) dv iv wr) (fun _ iv _ => k + 2 + e5 - (intOf iv).toNat)
  case atStart => exact ⟨0, _, rfl, by rw [Nat.zero_min]; rfl, Nat.zero_le _, H3.out, rfl, by simp, by simp⟩
  case round =>
    obtain ⟨i, d, rfl, rfl, hi, hd, hds, hdl, hdq⟩ := hrel
    have HD := Lib.hid hd
    have HS := Lib.hid hds
    have HL := Lib.hid hdl
    have HQ := Lib.hid hdq
    have hmk : min i k ≤ k := Nat.min_le_right _ _
    obtain ⟨mm, hm⟩ : ∃ mm, min i k = mm := ⟨_, rfl⟩
    have HM := Lib.hid hm
    rw [hm] at hmk ⊢
    clear hd hds hdl hdq hm
    by_cases hlt : i < k + 2 + e5
    · have hlt' : (i : Int) < k + 2 + e5 := by omega
      go_wp2_with fail
      refine (own_full HD.out m).mono ?_
      rintro e w4 ⟨rfl, h4, hb4⟩
      have H4 := Lib.hid h4
      clear h4 hb4
      go_wp2_with fail
      by_cases hik : i < k
      · have hmi : mm = i := by rw [← HM.out]; omega
        subst hmi
        refine (own_put_ok H4.out 0 (fsec m) (by rw [HQ.out, HM.out]; omega) (by rw [HL.out]; omega) (put0_ok HS.out (fsec_size m) (by rw [HL.out, HM.out]; omega))).mono ?_
        rintro e w5 ⟨rfl, h5⟩
        have H5 := Lib.hid h5
        clear h5
        go_wp2_with fail
        refine ⟨⟨mm + 1, _, by go_num, ?_, by omega, H5.out, HS.out, ?_, ?_⟩, by simp [intOf]; omega⟩
        · rw [show min (mm + 1) k = mm + 1 from by omega]; go_num
        · have e := HL.out
          rw [HM.out] at e
          rw [show min (mm + 1) k = mm + 1 from by omega]
          unfold DevD.put
          simp only
          rw [if_pos (by omega)]; omega
        · unfold DevD.put
          rw [show min (mm + 1) k = mm + 1 from by omega, List.length_append, HQ.out, HM.out]; rfl
      · have hmi : mm = k := by rw [← HM.out]; omega
        subst hmi
        refine (own_put_lost H4.out 0 (fsec m) (by rw [HQ.out, HM.out]; omega) (by rw [HL.out, HM.out]; omega)).mono ?_
        rintro e w5 ⟨rfl, h5⟩
        have H5 := Lib.hid h5
        clear h5
        go_wp2_with fail
        have e2 : min (i + 1) mm = mm := by omega
        refine ⟨⟨i + 1, d, by go_num, by rw [e2], by omega, H5.out, HS.out, ?_, ?_⟩, by simp [intOf]; omega⟩
        · rw [e2, HL.out, HM.out]
        · rw [e2, HQ.out, HM.out]
    · have hmi : mm = k := by rw [← HM.out]; omega
      subst hmi
      have hlt' : (mm : Int) + 2 + e5 ≤ i := by omega
      have hl0 : d.left = 0 := by rw [HL.out, HM.out]; omega
      have hq : d.queue.length ≤ 1000000 := by rw [HQ.out, HM.out]; omega
      have HL0 := Lib.hid hl0
      have HQ0 := Lib.hid hq
      have hc9 : d.cut 9 = d := by unfold DevD.cut; rw [if_pos hl0]
      have ha0 : d.ask 0 = 13 := by unfold DevD.ask; rw [if_pos hl0]
      clear hl0 hq
      go_wp2_with fail
      refine (own_cut HD.out 9).mono ?_
      rintro e w4 ⟨rfl, h4⟩
      rw [hc9] at h4
      have H4 := Lib.hid h4
      clear h4 hc9
      go_wp2_with fail
      refine (own_get H4.out 0).mono ?_
      rintro e w5 ⟨rfl, h5, hb5⟩
      rw [ha0]
      have H5 := Lib.hid h5
      clear h5 hb5 ha0
      go_wp2_with fail
      refine (own_flush H5.out).mono ?_
      rintro e w6 ⟨rfl, h6⟩
      rw [if_pos HL0.out] at h6
      rw [if_pos HL0.out]
      have H6 := Lib.hid h6
      clear h6
      go_wp2_with fail
      refine (own_restart H6.out (.slice none 0 0) [] (Arg.nil _ _) (by simp [maxLen]) HQ0.out).mono ?_
      rintro e w7 ⟨rfl, h7⟩
      have hr1 : (d.restart []).size = 1 := HS.out
      have hr2 : (d.restart []).left = -1 := rfl
      have hr3 : (d.restart []).queue.length ≤ 1000000 := Nat.zero_le _
      generalize d.restart [] = d2 at *
      have ha0 : d2.ask 0 = 0 := by unfold DevD.ask; rw [hr2, hr1]; decide
      have hp0 : d2.putErr 0 (fsec 1) = 0 := put0_ok hr1 (fsec_size 1) (by rw [hr2]; decide)
      have hl2 : d2.left ≤ 9223372036854775807 := by rw [hr2]; decide
      have H7 := Lib.hid h7
      have HP := Lib.hid hp0
      have HL2 := Lib.hid hl2
      have HQ2 := Lib.hid hr3
      clear h7 hr1 hr2 hp0 hl2 hr3
      go_wp2_with fail
      refine (own_get H7.out 0).mono ?_
      rintro e w8 ⟨rfl, h8, hb8⟩
      rw [ha0]
      have H8 := Lib.hid h8
      clear h8 hb8 ha0
      go_wp2_with fail
      refine (own_full H8.out 1).mono ?_
      rintro e w9 ⟨rfl, h9, hb9⟩
      have H9 := Lib.hid h9
      clear h9 hb9
      go_wp2_with fail
      refine (own_put_ok H9.out 0 (fsec 1) HQ2.out HL2.out HP.out).mono ?_
      rintro e w10 ⟨rfl, h10⟩
      have H10 := Lib.hid h10
      clear h10
      go_wp2_with fail
      go_ret
      exact ⟨rfl, H10.out.bel⟩
end Go.Proofs.Ytncbojocglcieaa
