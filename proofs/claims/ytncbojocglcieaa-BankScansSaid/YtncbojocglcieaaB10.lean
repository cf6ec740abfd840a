/- bank's law: BankEpochs. -/
import Derived.Test.YtncbojocglcieaaB9
import Derived.Test.YtncbojocglcieaaB4
namespace Go.Proofs.Ytncbojocglcieaa
open Go.RowKit
set_option linter.unusedSimpArgs false
set_option linter.unusedVariables false
theorem beN_bytes (n : Nat) : ∀ k, k ≤ 8 → beN ((List.range k).map fun j => nbyte n j) = n / 256 ^ (8 - k) % 256 ^ k := by
  intro k
  induction k with
  | zero => intro _; simp [beN, Nat.mod_one]
  | succ k ih =>
    intro h
    rw [List.range_succ, List.map_append, List.map_singleton, beN_snoc, ih (by omega)]
    unfold nbyte
    rw [UInt8.toNat_ofNat', Nat.mod_mod_of_dvd _ (by decide : (2 ^ 8) ∣ 256)]
    have e1 : 8 - k = (8 - (k + 1)) + 1 := by omega
    have e2 : 7 - k = 8 - (k + 1) := by omega
    rw [e1, e2, Nat.pow_succ, ← Nat.div_div_eq_div_mul]
    generalize n / 256 ^ (8 - (k + 1)) = m
    rw [show 2 ^ 8 = 256 from rfl, show 256 ^ (k + 1) = 256 * 256 ^ k from by rw [Nat.pow_succ, Nat.mul_comm]]
    rw [Nat.mod_mul]; omega
theorem hdr_take (n : Nat) (h : n ≠ 0) : (hdr n).take 8 = (List.range 8).map fun j => nbyte n j := by
  unfold hdr
  rw [← List.map_take, show (List.range 64).take 8 = List.range 8 from rfl]
  apply List.map_congr_left
  intro j hj
  have := List.mem_range.1 hj
  unfold hbyte
  rw [if_neg h, if_pos this]
theorem epoL_hdr (n : Nat) (hn : n < 18446744073709551616) : epoL (hdr n) = n := by
  have e : beN ((hdr n).take 8) = n := by
    by_cases h0 : n = 0
    · subst h0; rw [hdr_zero]; decide
    · rw [hdr_take n h0, beN_bytes n 8 (by decide)]
      simp; omega
  unfold epoL
  rw [e, if_pos rfl]
theorem epoL_of (l : List UInt8) : epoL l = 0 ∨ (hdr (epoL l) = l) := by
  unfold epoL
  by_cases q : hdr (beN (l.take 8)) = l
  · rw [if_pos q]; exact Or.inr q
  · rw [if_neg q]; exact Or.inl rfl
theorem epoL_lt (l : List UInt8) : epoL l < 18446744073709551616 := by
  have := beN_lt (l.take 8)
  have h2 : 256 ^ (l.take 8).length ≤ 256 ^ 8 := Nat.pow_le_pow_right (by decide) (by rw [List.length_take]; omega)
  unfold epoL
  split <;> omega
theorem bits_u8 (o : BinOp) (x y : Int) (ho : o = .xor) : ∃ c : UInt8, bits o .u8 x y = c.toNat := by
  subst ho
  refine ⟨UInt8.ofNat (bits .xor .u8 x y).toNat, ?_⟩
  have h : 0 ≤ bits .xor .u8 x y ∧ bits .xor .u8 x y < 256 := by
    show 0 ≤ IntKind.u8.wrap _ ∧ IntKind.u8.wrap _ < 256
    simp [IntKind.wrap, IntKind.bits, IntKind.signed]; omega
  simp; omega
set_option maxRecDepth 100000 in
set_option maxHeartbeats 2000000 in
theorem bankepochs_any (n : Nat) (raw : ByteArray) (bend : Nat) (w : World) (hn : n < 18446744073709551616) (hb : bend < 65536) (hr : raw.size ≤ 9223372036854775807) : Calls Try.prog 7 #[.int .u64 n, .string raw, .int .u16 bend] w fun e w' => e = .returned (.bool true) ∧ Below w.heap.size w w' := by
  have hpe : (DevD.mk 2 [] [] [] (-1)).putErr 1 (hdrB n) = 0 := by unfold DevD.putErr DevD.ask; simp [hdrB_size]
  have hsec : (⟨2, [], mput [] 1 (hdrB n), [(1, hdrB n)], -1⟩ : DevD).sec 1 = hdrB n := by unfold DevD.sec; rw [mget_put, if_pos rfl]; rfl
  have hask : (⟨2, [], mput [] 1 (hdrB n), [(1, hdrB n)], -1⟩ : DevD).ask 1 = 0 := by unfold DevD.ask; simp
  have hget : (⟨2, [], mput [] 1 (hdrB n), [(1, hdrB n)], -1⟩ : DevD).get 1 = hdrB n := by unfold DevD.get; rw [if_pos hask, hsec]
  have hepo : epoL (hdrB n).data.toList = n := epoL_hdr n hn
  have hh := fun w => head_any n w hn
  rw [show (⟨(hdr n).toArray⟩ : ByteArray) = hdrB n from rfl] at hh
  have hXs := hdrB_size n
  have hput : (DevD.mk 2 [] [] [] (-1)).put 1 (hdrB n) = ⟨2, [], mput [] 1 (hdrB n), [(1, hdrB n)], -1⟩ := rfl
  have HPE := Lib.hid hpe
  have HSEC := Lib.hid hsec
  have HASK := Lib.hid hask
  have HGET := Lib.hid hget
  have HEPO := Lib.hid hepo
  have HPUT := Lib.hid hput
  clear hpe hsec hask hget hepo hput
  go_enter Try.func7, Try.ntmps7
  go_wp2_with fail
  refine (awake07_any _).mono ?_
  rintro e w1 ⟨rfl, hb1⟩
  go_wp2_with fail
  refine (own_new w w1 2 hb1).mono ?_
  rintro e w2 ⟨g, rfl, h2⟩
  have H2 := Lib.hid (show OwnR w w2 (fun _ => False) g ⟨2, [], [], [], -1⟩ from h2.r)
  clear h2
  go_wp2_with fail
  refine (setepoch_any 1 n H2.out hn (by decide) (by decide)).mono ?_
  rintro e w3 ⟨rfl, h3, hh3⟩
  rw [HPE.out, if_pos rfl, HPUT.out] at h3
  rw [HPE.out]
  have H3 := Lib.hid h3
  clear h3 hh3
  go_wp2_with fail
  refine (ownr_get H3.out 1).mono ?_
  rintro e w4 ⟨rfl, h4, hb4⟩
  rw [HGET.out, HASK.out]
  have H4 := Lib.hid h4
  clear h4 hb4
  have hs64 : ((⟨2, [], mput [] 1 (hdrB n), [(1, hdrB n)], -1⟩ : DevD).sec 1).size = 64 := by rw [HSEC.out]; exact hXs
  have HS64 := Lib.hid hs64
  clear hs64
  have hX0 : ((hdrB n).data.toList).length = 64 := by rw [Array.length_toList]; exact hXs
  generalize hX : hdrB n = X at *
  go_wp2_with fail
  refine (epoch_any 1 H4.out HASK.out HS64.out).mono ?_
  rintro e w5 ⟨rfl, h5, hb5⟩
  rw [HSEC.out, HEPO.out]
  have H5 := Lib.hid h5
  clear h5 hb5
  go_wp2_with fail
  refine (hh _).mono ?_
  rintro e w6 ⟨rfl, hb6⟩
  have H6 := Lib.hid (H5.out.below hb6)
  clear hb6
  have hre := str_refl X
  have hX1 : X.data.toList.length = 64 := hX0
  by_cases hraw : raw.size = 64
  · have hr1 : ((raw.size : Int) == 64) = true := by rw [hraw]; rfl
    have hrl : raw.data.toList.length = 64 := by rw [Array.length_toList]; exact hraw
    obtain ⟨t8, ht8⟩ : ∃ t, raw.data.toList = t := ⟨_, rfl⟩
    rw [ht8] at hrl
    go_wp2_with (first
      | (refine conv_bytes rfl _ rfl X rfl ?_; intro w7 cap7 hf7 hb7; have hc7 := hf7.cell (bend % 64) (by rw [hX0]; omega); have hq7 := hf7.free (bend % 64) (by rw [hX0]; omega); generalize (X.data.toList.getD (bend % 64) 0).toNat = c7 at hc7; have HF7 := Lib.hid hf7; have HB7 := Lib.hid hb7; clear hf7 hb7; have HK7 := Lib.hid (fun v => (Keep.refl (fun k => k = w6.heap.size) w7).set w6.heap.size (bend % 64) v (Or.inl rfl)))
      | (refine conv_bytes rfl _ rfl raw rfl ?_; intro w8 cap8 hf8 hb8; have HF8 := Lib.hid (show Fz w8 w7.heap.size t8 by rw [← ht8]; simpa using hf8); have HB8 := Lib.hid hb8; clear hf8 hb8)
      | (refine conv_fz rfl _ rfl _ _ _ _ rfl hrl.symm HF8.out ?_))
    have ho7 : OwnR w w7 (fun k => k = w6.heap.size) g ⟨2, [], mput [] 1 X, [(1, X)], -1⟩ := H6.out.turn (keepBelow HB7.out) (fun k q => ⟨Or.inr (Nat.le_of_eq q.symm), by rw [q]; exact HF7.out.lt⟩)
    have ho7' := ho7.turn (HK7.out (.int .u8 (bits .xor .u8 (c7 : Int) ((bend : Int) / 64 % 8)))) (R' := fun k => k = w6.heap.size) (fun k q => ⟨Or.inl q, by rw [q]; simpa using HF7.out.lt⟩)
    have ho8 : OwnR w w8 (fun k => k = w7.heap.size) g ⟨2, [], mput [] 1 X, [(1, X)], -1⟩ := (ho7'.sub (R' := fun _ => False) (fun _ q => q.elim)).turn (keepBelow HB8.out) (fun k q => ⟨Or.inr (by rw [q]; simp), by rw [q]; exact HF8.out.lt⟩)
    clear ho7 ho7' HK7 HB8 HF7 HB7
    have HO8 := Lib.hid ho8
    clear ho8
    have hpe0 : (⟨2, [], mput [] 1 X, [(1, X)], -1⟩ : DevD).putErr 0 ⟨t8.toArray⟩ = 0 := by
      unfold DevD.putErr DevD.ask
      have : (⟨t8.toArray⟩ : ByteArray).size = 64 := by show t8.toArray.size = 64; rw [List.size_toArray]; exact hrl
      simp [this]
    refine (ownr_put_ok HO8.out 0 ⟨t8.toArray⟩ (by simp) (by simp) hpe0).mono ?_
    rintro e w9 ⟨rfl, h9, hh9⟩
    have hsec0 : ((⟨2, [], mput [] 1 X, [(1, X)], -1⟩ : DevD).put 0 ⟨t8.toArray⟩).sec 0 = ⟨t8.toArray⟩ := by unfold DevD.sec DevD.put; simp only []; rw [mget_put, if_pos rfl]; rfl
    have hask0 : ((⟨2, [], mput [] 1 X, [(1, X)], -1⟩ : DevD).put 0 ⟨t8.toArray⟩).ask 0 = 0 := by unfold DevD.ask DevD.put; simp
    have hs0 : (((⟨2, [], mput [] 1 X, [(1, X)], -1⟩ : DevD).put 0 ⟨t8.toArray⟩).sec 0).size = 64 := by rw [hsec0]; show t8.toArray.size = 64; rw [List.size_toArray]; exact hrl
    have HF9 := Lib.hid (HF8.out.same (hh9.block _ rfl))
    generalize (⟨2, [], mput [] 1 X, [(1, X)], -1⟩ : DevD).put 0 ⟨t8.toArray⟩ = D at *
    have H9 := Lib.hid h9
    have HSEC0 := Lib.hid hsec0
    have HASK0 := Lib.hid hask0
    have HS0 := Lib.hid hs0
    clear h9 hh9 hpe0 hsec0 hask0 hs0
    go_wp2_with fail
    refine (epoch_any 0 H9.out HASK0.out HS0.out).mono ?_
    rintro e w10 ⟨rfl, h10, hb10⟩
    rw [HSEC0.out, show (⟨t8.toArray⟩ : ByteArray).data.toList = t8 from by simp]
    have HF10 := Lib.hid (HF9.out.below hb10)
    have H10 := Lib.hid h10.bel
    have hy := epoL_of t8
    have hyl := epoL_lt t8
    clear h10 hb10
    generalize epoL t8 = y at *
    by_cases hy0 : y = 0
    · subst hy0
      clear hy hyl
      go_wp2_with fail
      go_region
      go_wp2_with fail
      go_ret
      exact ⟨rfl, H10.out.drew⟩
    · have hy1 : hdr y = t8 := hy.resolve_left hy0
      have y1 : ((y : Int) == 0) = false := by simpa using hy0
      have y2 : (y == 0) = false := by simpa using hy0
      have hh2 := fun w => head_any y w hyl
      rw [hy1] at hh2
      have hre2 := str_refl ⟨t8.toArray⟩
      clear hy hy1
      have hcv10 := fz_conv HF10.out 64 cap8 hrl.symm
      go_wp2_with fail
      go_region_held3 (fun w' => (convert 60 9 (.slice (some ⟨w7.heap.size, 0, none⟩) 64 cap8)).run Try.prog w' = .ok (.string ⟨t8.toArray⟩) w') (first | exact fz_conv (HF10.out.below hb11') 64 cap8 hrl.symm | exact fz_conv (HF10.out.below (by repeat (first | exact Below.refl _ _ | assumption | (refine Below.drew ?_) | (refine below_drewN ?_ _) | (refine Below.alloc ?_ (by simp; done) _) | (refine Below.alloc ?_ (by simp; omega) _)))) 64 cap8 hrl.symm | go_keep)
        (first | (go_at_call 33; refine (hh2 _).mono ?_; rintro e w11 ⟨rfl, hb11⟩; have hb11' : Below w10.heap.size w10 w11 := ((Below.refl _ _).drew).trans (hb11.mono (by simp)); have H11 := Lib.hid (H10.out.trans (hb11'.mono H10.out.size))))
      all_goals
        go_wp2_with fail
        go_ret
        exact ⟨rfl, H11.out⟩
  · have hr1 : ((raw.size : Int) == 64) = false := by simp; omega
    have hbx := fun c : Nat => bits_u8 .xor (c : Int) ((bend : Int) / 64 % 8) rfl
    go_wp2_with (first
      | (refine conv_bytes rfl _ rfl X rfl ?_; intro w7 cap7 hf7 hb7; have hc7 := hf7.cell (bend % 64) (by rw [hX0]; omega); have hq7 := hf7.free (bend % 64) (by rw [hX0]; omega); generalize (X.data.toList.getD (bend % 64) 0).toNat = c7 at hc7; obtain ⟨c8, hc8⟩ := hbx c7; have HF8 := Lib.hid (hc8 ▸ hf7.set (bend % 64) c8 (by rw [hX0]; omega) : Fz (w7.setCell ⟨w6.heap.size, bend % 64, none⟩ (.int .u8 (bits .xor .u8 (c7 : Int) ((bend : Int) / 64 % 8)))) w6.heap.size (X.data.toList.set (bend % 64) c8)); have HF7 := Lib.hid hf7; have HB7 := Lib.hid hb7; clear hf7 hb7 hbx hc8; have hrl : (X.data.toList.set (bend % 64) c8).length = 64 := (by rw [List.length_set]; exact hX0); have HK7 := Lib.hid (fun v => (Keep.refl (fun k => k = w6.heap.size) w7).set w6.heap.size (bend % 64) v (Or.inl rfl)); generalize X.data.toList.set (bend % 64) c8 = t8 at *)
      | (refine conv_fz rfl _ rfl _ _ _ _ rfl hrl.symm HF8.out ?_))
    have ho7 : OwnR w w7 (fun k => k = w6.heap.size) g ⟨2, [], mput [] 1 X, [(1, X)], -1⟩ := H6.out.turn (keepBelow HB7.out) (fun k q => ⟨Or.inr (Nat.le_of_eq q.symm), by rw [q]; exact HF7.out.lt⟩)
    have ho8 := ho7.turn (HK7.out (.int .u8 (bits .xor .u8 (c7 : Int) ((bend : Int) / 64 % 8)))) (R' := fun k => k = w6.heap.size) (fun k q => ⟨Or.inl q, by rw [q]; simpa using HF7.out.lt⟩)
    clear ho7 HK7 HF7 HB7
    generalize w7.setCell ⟨w6.heap.size, bend % 64, none⟩ (.int .u8 (bits .xor .u8 (c7 : Int) ((bend : Int) / 64 % 8))) = w8 at *
    have HO8 := Lib.hid ho8
    clear ho8
    have hpe0 : (⟨2, [], mput [] 1 X, [(1, X)], -1⟩ : DevD).putErr 0 ⟨t8.toArray⟩ = 0 := by
      unfold DevD.putErr DevD.ask
      have : (⟨t8.toArray⟩ : ByteArray).size = 64 := by show t8.toArray.size = 64; rw [List.size_toArray]; exact hrl
      simp [this]
    refine (ownr_put_ok HO8.out 0 ⟨t8.toArray⟩ (by simp) (by simp) hpe0).mono ?_
    rintro e w9 ⟨rfl, h9, hh9⟩
    have hsec0 : ((⟨2, [], mput [] 1 X, [(1, X)], -1⟩ : DevD).put 0 ⟨t8.toArray⟩).sec 0 = ⟨t8.toArray⟩ := by unfold DevD.sec DevD.put; simp only []; rw [mget_put, if_pos rfl]; rfl
    have hask0 : ((⟨2, [], mput [] 1 X, [(1, X)], -1⟩ : DevD).put 0 ⟨t8.toArray⟩).ask 0 = 0 := by unfold DevD.ask DevD.put; simp
    have hs0 : (((⟨2, [], mput [] 1 X, [(1, X)], -1⟩ : DevD).put 0 ⟨t8.toArray⟩).sec 0).size = 64 := by rw [hsec0]; show t8.toArray.size = 64; rw [List.size_toArray]; exact hrl
    have HF9 := Lib.hid (HF8.out.same (hh9.block _ rfl))
    generalize (⟨2, [], mput [] 1 X, [(1, X)], -1⟩ : DevD).put 0 ⟨t8.toArray⟩ = D at *
    have H9 := Lib.hid h9
    have HSEC0 := Lib.hid hsec0
    have HASK0 := Lib.hid hask0
    have HS0 := Lib.hid hs0
    clear h9 hh9 hpe0 hsec0 hask0 hs0
    go_wp2_with fail
    refine (epoch_any 0 H9.out HASK0.out HS0.out).mono ?_
    rintro e w10 ⟨rfl, h10, hb10⟩
    rw [HSEC0.out, show (⟨t8.toArray⟩ : ByteArray).data.toList = t8 from by simp]
    have HF10 := Lib.hid (HF9.out.below hb10)
    have H10 := Lib.hid h10.bel
    have hy := epoL_of t8
    have hyl := epoL_lt t8
    clear h10 hb10
    generalize epoL t8 = y at *
    by_cases hy0 : y = 0
    · subst hy0
      clear hy hyl
      go_wp2_with fail
      go_region
      go_wp2_with fail
      go_ret
      exact ⟨rfl, H10.out.drew⟩
    · have hy1 : hdr y = t8 := hy.resolve_left hy0
      have y1 : ((y : Int) == 0) = false := by simpa using hy0
      have y2 : (y == 0) = false := by simpa using hy0
      have hh2 := fun w => head_any y w hyl
      rw [hy1] at hh2
      have hre2 := str_refl ⟨t8.toArray⟩
      clear hy hy1
      have hcv10 := fz_conv HF10.out 64 cap7 hrl.symm
      go_wp2_with fail
      go_region_held3 (fun w' => (convert 60 9 (.slice (some ⟨w6.heap.size, 0, none⟩) 64 cap7)).run Try.prog w' = .ok (.string ⟨t8.toArray⟩) w') (first | exact fz_conv (HF10.out.below hb11') 64 cap7 hrl.symm | exact fz_conv (HF10.out.below (by repeat (first | exact Below.refl _ _ | assumption | (refine Below.drew ?_) | (refine below_drewN ?_ _) | (refine Below.alloc ?_ (by simp; done) _) | (refine Below.alloc ?_ (by simp; omega) _)))) 64 cap7 hrl.symm | go_keep)
        (first | (go_at_call 33; refine (hh2 _).mono ?_; rintro e w11 ⟨rfl, hb11⟩; have hb11' : Below w10.heap.size w10 w11 := ((Below.refl _ _).drew).trans (hb11.mono (by simp)); have H11 := Lib.hid (H10.out.trans (hb11'.mono H10.out.size))))
      all_goals
        go_wp2_with fail
        go_ret
        exact ⟨rfl, H11.out⟩
end Go.Proofs.Ytncbojocglcieaa
