/- Lemmas for the laws of one seat, texts B10 P21 P22; no condition beyond those that each states. -/
import Derived.Test.YtncbojocglcieaaVV9
/- bank's law: BankEpochs. -/
namespace Go.Proofs.Ytncbojocglcieaa
open Go.RowKit
set_option linter.unusedSimpArgs false
set_option linter.unusedVariables false
theorem beN_bytes (n : Nat) : ∀ k, k ≤ 8 → beN ((List.range k).map fun j => nbyte n j) = n / 256 ^ (8 - k) % 256 ^ k := by
  intro k
  induction k with
  | zero => intro _; simp [beN, Nat.mod_one]
  | succ k ih =>
    intro h
    rw [List.range_succ, List.map_append, List.map_singleton, beN_snoc, ih (by omega)]
    unfold nbyte
    rw [UInt8.toNat_ofNat', Nat.mod_mod_of_dvd _ (by decide : (2 ^ 8) ∣ 256)]
    have e1 : 8 - k = (8 - (k + 1)) + 1 := by omega
    have e2 : 7 - k = 8 - (k + 1) := by omega
    rw [e1, e2, Nat.pow_succ, ← Nat.div_div_eq_div_mul]
    generalize n / 256 ^ (8 - (k + 1)) = m
    rw [show 2 ^ 8 = 256 from rfl, show 256 ^ (k + 1) = 256 * 256 ^ k from by rw [Nat.pow_succ, Nat.mul_comm]]
    rw [Nat.mod_mul]; omega
theorem hdr_take (n : Nat) (h : n ≠ 0) : (hdr n).take 8 = (List.range 8).map fun j => nbyte n j := by
  unfold hdr
  rw [← List.map_take, show (List.range 64).take 8 = List.range 8 from rfl]
  apply List.map_congr_left
  intro j hj
  have := List.mem_range.1 hj
  unfold hbyte
  rw [if_neg h, if_pos this]
theorem epoL_hdr (n : Nat) (hn : n < 18446744073709551616) : epoL (hdr n) = n := by
  have e : beN ((hdr n).take 8) = n := by
    by_cases h0 : n = 0
    · subst h0; rw [hdr_zero]; decide
    · rw [hdr_take n h0, beN_bytes n 8 (by decide)]
      simp; omega
  unfold epoL
  rw [e, if_pos rfl]
theorem epoL_of (l : List UInt8) : epoL l = 0 ∨ (hdr (epoL l) = l) := by
  unfold epoL
  by_cases q : hdr (beN (l.take 8)) = l
  · rw [if_pos q]; exact Or.inr q
  · rw [if_neg q]; exact Or.inl rfl
theorem epoL_lt (l : List UInt8) : epoL l < 18446744073709551616 := by
  have := beN_lt (l.take 8)
  have h2 : 256 ^ (l.take 8).length ≤ 256 ^ 8 := Nat.pow_le_pow_right (by decide) (by rw [List.length_take]; omega)
  unfold epoL
  split <;> omega
theorem bits_u8 (o : BinOp) (x y : Int) (ho : o = .xor) : ∃ c : UInt8, bits o .u8 x y = c.toNat := by
  subst ho
  refine ⟨UInt8.ofNat (bits .xor .u8 x y).toNat, ?_⟩
  have h : 0 ≤ bits .xor .u8 x y ∧ bits .xor .u8 x y < 256 := by
    show 0 ≤ IntKind.u8.wrap _ ∧ IntKind.u8.wrap _ < 256
    simp [IntKind.wrap, IntKind.bits, IntKind.signed]; omega
  simp; omega
set_option maxRecDepth 100000 in
set_option maxHeartbeats 2000000 in
theorem bankepochs_any (n : Nat) (raw : ByteArray) (bend : Nat) (w : World) (hn : n < 18446744073709551616) (hb : bend < 65536) (hr : raw.size ≤ 9223372036854775807) : Calls Try.prog 7 #[.int .u64 n, .string raw, .int .u16 bend] w fun e w' => e = .returned (.bool true) ∧ Below w.heap.size w w' := by
  have hpe : (DevD.mk 2 [] [] [] (-1)).putErr 1 (hdrB n) = 0 := by unfold DevD.putErr DevD.ask; simp [hdrB_size]
  have hsec : (⟨2, [], mput [] 1 (hdrB n), [(1, hdrB n)], -1⟩ : DevD).sec 1 = hdrB n := by unfold DevD.sec; rw [mget_put, if_pos rfl]; rfl
  have hask : (⟨2, [], mput [] 1 (hdrB n), [(1, hdrB n)], -1⟩ : DevD).ask 1 = 0 := by unfold DevD.ask; simp
  have hget : (⟨2, [], mput [] 1 (hdrB n), [(1, hdrB n)], -1⟩ : DevD).get 1 = hdrB n := by unfold DevD.get; rw [if_pos hask, hsec]
  have hepo : epoL (hdrB n).data.toList = n := epoL_hdr n hn
  have hh := fun w => head_any n w hn
  rw [show (⟨(hdr n).toArray⟩ : ByteArray) = hdrB n from rfl] at hh
  have hXs := hdrB_size n
  have hput : (DevD.mk 2 [] [] [] (-1)).put 1 (hdrB n) = ⟨2, [], mput [] 1 (hdrB n), [(1, hdrB n)], -1⟩ := rfl
  have HPE := Lib.hid hpe
  have HSEC := Lib.hid hsec
  have HASK := Lib.hid hask
  have HGET := Lib.hid hget
  have HEPO := Lib.hid hepo
  have HPUT := Lib.hid hput
  clear hpe hsec hask hget hepo hput
  go_enter Try.func7, Try.ntmps7
  go_wp2_with fail
  refine (awake07_any _).mono ?_
  rintro e w1 ⟨rfl, hb1⟩
  go_wp2_with fail
  refine (own_new w w1 2 hb1).mono ?_
  rintro e w2 ⟨g, rfl, h2⟩
  have H2 := Lib.hid (show OwnR w w2 (fun _ => False) g ⟨2, [], [], [], -1⟩ from h2.r)
  clear h2
  go_wp2_with fail
  refine (setepoch_any 1 n H2.out hn (by decide) (by decide)).mono ?_
  rintro e w3 ⟨rfl, h3, hh3⟩
  rw [HPE.out, if_pos rfl, HPUT.out] at h3
  rw [HPE.out]
  have H3 := Lib.hid h3
  clear h3 hh3
  go_wp2_with fail
  refine (ownr_get H3.out 1).mono ?_
  rintro e w4 ⟨rfl, h4, hb4⟩
  rw [HGET.out, HASK.out]
  have H4 := Lib.hid h4
  clear h4 hb4
  have hs64 : ((⟨2, [], mput [] 1 (hdrB n), [(1, hdrB n)], -1⟩ : DevD).sec 1).size = 64 := by rw [HSEC.out]; exact hXs
  have HS64 := Lib.hid hs64
  clear hs64
  have hX0 : ((hdrB n).data.toList).length = 64 := by rw [Array.length_toList]; exact hXs
  generalize hX : hdrB n = X at *
  go_wp2_with fail
  refine (epoch_any 1 H4.out HASK.out HS64.out).mono ?_
  rintro e w5 ⟨rfl, h5, hb5⟩
  rw [HSEC.out, HEPO.out]
  have H5 := Lib.hid h5
  clear h5 hb5
  go_wp2_with fail
  refine (hh _).mono ?_
  rintro e w6 ⟨rfl, hb6⟩
  have H6 := Lib.hid (H5.out.below hb6)
  clear hb6
  have hre := str_refl X
  have hX1 : X.data.toList.length = 64 := hX0
  by_cases hraw : raw.size = 64
  · have hr1 : ((raw.size : Int) == 64) = true := by rw [hraw]; rfl
    have hrl : raw.data.toList.length = 64 := by rw [Array.length_toList]; exact hraw
    obtain ⟨t8, ht8⟩ : ∃ t, raw.data.toList = t := ⟨_, rfl⟩
    rw [ht8] at hrl
    go_wp2_with (first
      | (refine conv_bytes rfl _ rfl X rfl ?_; intro w7 cap7 hf7 hb7; have hc7 := hf7.cell (bend % 64) (by rw [hX0]; omega); have hq7 := hf7.free (bend % 64) (by rw [hX0]; omega); generalize (X.data.toList.getD (bend % 64) 0).toNat = c7 at hc7; have HF7 := Lib.hid hf7; have HB7 := Lib.hid hb7; clear hf7 hb7; have HK7 := Lib.hid (fun v => (Keep.refl (fun k => k = w6.heap.size) w7).set w6.heap.size (bend % 64) v (Or.inl rfl)))
      | (refine conv_bytes rfl _ rfl raw rfl ?_; intro w8 cap8 hf8 hb8; have HF8 := Lib.hid (show Fz w8 w7.heap.size t8 by rw [← ht8]; simpa using hf8); have HB8 := Lib.hid hb8; clear hf8 hb8)
      | (refine conv_fz rfl _ rfl _ _ _ _ rfl hrl.symm HF8.out ?_))
    have ho7 : OwnR w w7 (fun k => k = w6.heap.size) g ⟨2, [], mput [] 1 X, [(1, X)], -1⟩ := H6.out.turn (keepBelow HB7.out) (fun k q => ⟨Or.inr (Nat.le_of_eq q.symm), by rw [q]; exact HF7.out.lt⟩)
    have ho7' := ho7.turn (HK7.out (.int .u8 (bits .xor .u8 (c7 : Int) ((bend : Int) / 64 % 8)))) (R' := fun k => k = w6.heap.size) (fun k q => ⟨Or.inl q, by rw [q]; simpa using HF7.out.lt⟩)
    have ho8 : OwnR w w8 (fun k => k = w7.heap.size) g ⟨2, [], mput [] 1 X, [(1, X)], -1⟩ := (ho7'.sub (R' := fun _ => False) (fun _ q => q.elim)).turn (keepBelow HB8.out) (fun k q => ⟨Or.inr (by rw [q]; simp), by rw [q]; exact HF8.out.lt⟩)
    clear ho7 ho7' HK7 HB8 HF7 HB7
    have HO8 := Lib.hid ho8
    clear ho8
    have hpe0 : (⟨2, [], mput [] 1 X, [(1, X)], -1⟩ : DevD).putErr 0 ⟨t8.toArray⟩ = 0 := by
      unfold DevD.putErr DevD.ask
      have : (⟨t8.toArray⟩ : ByteArray).size = 64 := by show t8.toArray.size = 64; rw [List.size_toArray]; exact hrl
      simp [this]
    refine (ownr_put_ok HO8.out 0 ⟨t8.toArray⟩ (by simp) (by simp) hpe0).mono ?_
    rintro e w9 ⟨rfl, h9, hh9⟩
    have hsec0 : ((⟨2, [], mput [] 1 X, [(1, X)], -1⟩ : DevD).put 0 ⟨t8.toArray⟩).sec 0 = ⟨t8.toArray⟩ := by unfold DevD.sec DevD.put; simp only []; rw [mget_put, if_pos rfl]; rfl
    have hask0 : ((⟨2, [], mput [] 1 X, [(1, X)], -1⟩ : DevD).put 0 ⟨t8.toArray⟩).ask 0 = 0 := by unfold DevD.ask DevD.put; simp
    have hs0 : (((⟨2, [], mput [] 1 X, [(1, X)], -1⟩ : DevD).put 0 ⟨t8.toArray⟩).sec 0).size = 64 := by rw [hsec0]; show t8.toArray.size = 64; rw [List.size_toArray]; exact hrl
    have HF9 := Lib.hid (HF8.out.same (hh9.block _ rfl))
    generalize (⟨2, [], mput [] 1 X, [(1, X)], -1⟩ : DevD).put 0 ⟨t8.toArray⟩ = D at *
    have H9 := Lib.hid h9
    have HSEC0 := Lib.hid hsec0
    have HASK0 := Lib.hid hask0
    have HS0 := Lib.hid hs0
    clear h9 hh9 hpe0 hsec0 hask0 hs0
    go_wp2_with fail
    refine (epoch_any 0 H9.out HASK0.out HS0.out).mono ?_
    rintro e w10 ⟨rfl, h10, hb10⟩
    rw [HSEC0.out, show (⟨t8.toArray⟩ : ByteArray).data.toList = t8 from by simp]
    have HF10 := Lib.hid (HF9.out.below hb10)
    have H10 := Lib.hid h10.bel
    have hy := epoL_of t8
    have hyl := epoL_lt t8
    clear h10 hb10
    generalize epoL t8 = y at *
    by_cases hy0 : y = 0
    · subst hy0
      clear hy hyl
      go_wp2_with fail
      go_region
      go_wp2_with fail
      go_ret
      exact ⟨rfl, H10.out.drew⟩
    · have hy1 : hdr y = t8 := hy.resolve_left hy0
      have y1 : ((y : Int) == 0) = false := by simpa using hy0
      have y2 : (y == 0) = false := by simpa using hy0
      have hh2 := fun w => head_any y w hyl
      rw [hy1] at hh2
      have hre2 := str_refl ⟨t8.toArray⟩
      clear hy hy1
      have hcv10 := fz_conv HF10.out 64 cap8 hrl.symm
      go_wp2_with fail
      go_region_held3 (fun w' => (convert 60 9 (.slice (some ⟨w7.heap.size, 0, none⟩) 64 cap8)).run Try.prog w' = .ok (.string ⟨t8.toArray⟩) w') (first | exact fz_conv (HF10.out.below hb11') 64 cap8 hrl.symm | exact fz_conv (HF10.out.below (by repeat (first | exact Below.refl _ _ | assumption | (refine Below.drew ?_) | (refine below_drewN ?_ _) | (refine Below.alloc ?_ (by simp; done) _) | (refine Below.alloc ?_ (by simp; omega) _)))) 64 cap8 hrl.symm | go_keep)
        (first | (go_at_call 33; refine (hh2 _).mono ?_; rintro e w11 ⟨rfl, hb11⟩; have hb11' : Below w10.heap.size w10 w11 := ((Below.refl _ _).drew).trans (hb11.mono (by simp)); have H11 := Lib.hid (H10.out.trans (hb11'.mono H10.out.size))))
      all_goals
        go_wp2_with fail
        go_ret
        exact ⟨rfl, H11.out⟩
  · have hr1 : ((raw.size : Int) == 64) = false := by simp; omega
    have hbx := fun c : Nat => bits_u8 .xor (c : Int) ((bend : Int) / 64 % 8) rfl
    go_wp2_with (first
      | (refine conv_bytes rfl _ rfl X rfl ?_; intro w7 cap7 hf7 hb7; have hc7 := hf7.cell (bend % 64) (by rw [hX0]; omega); have hq7 := hf7.free (bend % 64) (by rw [hX0]; omega); generalize (X.data.toList.getD (bend % 64) 0).toNat = c7 at hc7; obtain ⟨c8, hc8⟩ := hbx c7; have HF8 := Lib.hid (hc8 ▸ hf7.set (bend % 64) c8 (by rw [hX0]; omega) : Fz (w7.setCell ⟨w6.heap.size, bend % 64, none⟩ (.int .u8 (bits .xor .u8 (c7 : Int) ((bend : Int) / 64 % 8)))) w6.heap.size (X.data.toList.set (bend % 64) c8)); have HF7 := Lib.hid hf7; have HB7 := Lib.hid hb7; clear hf7 hb7 hbx hc8; have hrl : (X.data.toList.set (bend % 64) c8).length = 64 := (by rw [List.length_set]; exact hX0); have HK7 := Lib.hid (fun v => (Keep.refl (fun k => k = w6.heap.size) w7).set w6.heap.size (bend % 64) v (Or.inl rfl)); generalize X.data.toList.set (bend % 64) c8 = t8 at *)
      | (refine conv_fz rfl _ rfl _ _ _ _ rfl hrl.symm HF8.out ?_))
    have ho7 : OwnR w w7 (fun k => k = w6.heap.size) g ⟨2, [], mput [] 1 X, [(1, X)], -1⟩ := H6.out.turn (keepBelow HB7.out) (fun k q => ⟨Or.inr (Nat.le_of_eq q.symm), by rw [q]; exact HF7.out.lt⟩)
    have ho8 := ho7.turn (HK7.out (.int .u8 (bits .xor .u8 (c7 : Int) ((bend : Int) / 64 % 8)))) (R' := fun k => k = w6.heap.size) (fun k q => ⟨Or.inl q, by rw [q]; simpa using HF7.out.lt⟩)
    clear ho7 HK7 HF7 HB7
    generalize w7.setCell ⟨w6.heap.size, bend % 64, none⟩ (.int .u8 (bits .xor .u8 (c7 : Int) ((bend : Int) / 64 % 8))) = w8 at *
    have HO8 := Lib.hid ho8
    clear ho8
    have hpe0 : (⟨2, [], mput [] 1 X, [(1, X)], -1⟩ : DevD).putErr 0 ⟨t8.toArray⟩ = 0 := by
      unfold DevD.putErr DevD.ask
      have : (⟨t8.toArray⟩ : ByteArray).size = 64 := by show t8.toArray.size = 64; rw [List.size_toArray]; exact hrl
      simp [this]
    refine (ownr_put_ok HO8.out 0 ⟨t8.toArray⟩ (by simp) (by simp) hpe0).mono ?_
    rintro e w9 ⟨rfl, h9, hh9⟩
    have hsec0 : ((⟨2, [], mput [] 1 X, [(1, X)], -1⟩ : DevD).put 0 ⟨t8.toArray⟩).sec 0 = ⟨t8.toArray⟩ := by unfold DevD.sec DevD.put; simp only []; rw [mget_put, if_pos rfl]; rfl
    have hask0 : ((⟨2, [], mput [] 1 X, [(1, X)], -1⟩ : DevD).put 0 ⟨t8.toArray⟩).ask 0 = 0 := by unfold DevD.ask DevD.put; simp
    have hs0 : (((⟨2, [], mput [] 1 X, [(1, X)], -1⟩ : DevD).put 0 ⟨t8.toArray⟩).sec 0).size = 64 := by rw [hsec0]; show t8.toArray.size = 64; rw [List.size_toArray]; exact hrl
    have HF9 := Lib.hid (HF8.out.same (hh9.block _ rfl))
    generalize (⟨2, [], mput [] 1 X, [(1, X)], -1⟩ : DevD).put 0 ⟨t8.toArray⟩ = D at *
    have H9 := Lib.hid h9
    have HSEC0 := Lib.hid hsec0
    have HASK0 := Lib.hid hask0
    have HS0 := Lib.hid hs0
    clear h9 hh9 hpe0 hsec0 hask0 hs0
    go_wp2_with fail
    refine (epoch_any 0 H9.out HASK0.out HS0.out).mono ?_
    rintro e w10 ⟨rfl, h10, hb10⟩
    rw [HSEC0.out, show (⟨t8.toArray⟩ : ByteArray).data.toList = t8 from by simp]
    have HF10 := Lib.hid (HF9.out.below hb10)
    have H10 := Lib.hid h10.bel
    have hy := epoL_of t8
    have hyl := epoL_lt t8
    clear h10 hb10
    generalize epoL t8 = y at *
    by_cases hy0 : y = 0
    · subst hy0
      clear hy hyl
      go_wp2_with fail
      go_region
      go_wp2_with fail
      go_ret
      exact ⟨rfl, H10.out.drew⟩
    · have hy1 : hdr y = t8 := hy.resolve_left hy0
      have y1 : ((y : Int) == 0) = false := by simpa using hy0
      have y2 : (y == 0) = false := by simpa using hy0
      have hh2 := fun w => head_any y w hyl
      rw [hy1] at hh2
      have hre2 := str_refl ⟨t8.toArray⟩
      clear hy hy1
      have hcv10 := fz_conv HF10.out 64 cap7 hrl.symm
      go_wp2_with fail
      go_region_held3 (fun w' => (convert 60 9 (.slice (some ⟨w6.heap.size, 0, none⟩) 64 cap7)).run Try.prog w' = .ok (.string ⟨t8.toArray⟩) w') (first | exact fz_conv (HF10.out.below hb11') 64 cap7 hrl.symm | exact fz_conv (HF10.out.below (by repeat (first | exact Below.refl _ _ | assumption | (refine Below.drew ?_) | (refine below_drewN ?_ _) | (refine Below.alloc ?_ (by simp; done) _) | (refine Below.alloc ?_ (by simp; omega) _)))) 64 cap7 hrl.symm | go_keep)
        (first | (go_at_call 33; refine (hh2 _).mono ?_; rintro e w11 ⟨rfl, hb11⟩; have hb11' : Below w10.heap.size w10 w11 := ((Below.refl _ _).drew).trans (hb11.mono (by simp)); have H11 := Lib.hid (H10.out.trans (hb11'.mono H10.out.size))))
      all_goals
        go_wp2_with fail
        go_ret
        exact ⟨rfl, H11.out⟩
end Go.Proofs.Ytncbojocglcieaa

/- vault: a bank is begun anew, wherever power goes; in plain Lean. -/
namespace Go.Proofs.Ytncbojocglcieaa
open Go.RowKit
set_option linter.unusedSimpArgs false
set_option linter.unusedVariables false
def epS (S : Int → ByteArray) (f : Int) : Nat := epoL (S f).data.toList
theorem epS_hdr {S : Int → ByteArray} {f : Int} {n : Nat} (h : S f = hdrB n) (hn : n < 18446744073709551616) : epS S f = n := by
  unfold epS; rw [h]; exact epoL_hdr n hn
theorem seq_cons (d : DevD) (s : DevD → DevD × Int) (l : List (DevD → DevD × Int)) : d.seq (s :: l) = if (s d).2 = 0 then (s d).1.seq l else s d := rfl
theorem setE_gen (d : DevD) (f : Int) (n : Nat) (h1 : 0 ≤ f) (h2 : f < d.size) :
    (d.left = 0 ∧ d.setE f n = (d, 13)) ∨ (d.left ≠ 0 ∧ d.setE f n = (d.put f (hdrB n), 0)) := by
  by_cases hl : d.left = 0
  · left
    have he : d.putErr f (hdrB n) = 13 := by unfold DevD.putErr DevD.ask; rw [if_pos hl]; rfl
    exact ⟨hl, by unfold DevD.setE; rw [he]; rfl⟩
  · right
    have he : d.putErr f (hdrB n) = 0 := by unfold DevD.putErr DevD.ask; rw [if_neg hl, if_neg (by omega)]; simp [hdrB_size]
    exact ⟨hl, by unfold DevD.setE; rw [he]; rfl⟩
theorem fl_gen (d : DevD) : (d.left = 0 ∧ d.fl = (d, 13)) ∨ (d.left ≠ 0 ∧ d.fl = (d.flush, 0)) := by
  unfold DevD.fl
  by_cases hl : d.left = 0
  · left; rw [if_pos hl, if_pos hl]; exact ⟨hl, rfl⟩
  · right; rw [if_neg hl, if_neg hl]; exact ⟨hl, rfl⟩
theorem wipe_gen (d : DevD) (f : Int) (h a : Nat) (h1 : 0 ≤ f) (h2 : f + h ≤ d.size) (h3 : 1 ≤ h) (ha : 1 ≤ a) (h4 : -1 ≤ d.left) :
    ∃ Q, Ext d (d.wipe f h a).1 Q ∧ (∀ i b, (i, b) ∈ Q → f + a ≤ i ∧ i < f + h ∧ b = zsec) ∧ Q.length ≤ h ∧
      (((d.wipe f h a).2 = 0 ∧ ∀ i, (d.wipe f h a).1.sec i = if f + a ≤ i ∧ i < f + h then zsec else d.sec i) ∨ ((d.wipe f h a).2 = 13 ∧ (d.wipe f h a).1.left = 0 ∧ d.left ≠ -1)) := by
  unfold DevD.wipe
  by_cases hl : d.left = 0
  · rw [if_pos hl]
    exact ⟨[], Ext.refl d, fun i b h => by simp at h, Nat.zero_le _, Or.inr ⟨rfl, hl, by omega⟩⟩
  · have ho : d.on f h = true := by unfold DevD.on; rw [decide_eq_true_eq]; exact ⟨by omega, h1, h2⟩
    rw [if_neg hl, if_neg (by rw [ho]; decide), show max ((a : Nat) : Int) 1 = (a : Int) from by omega]
    obtain ⟨Q, k1, k2, k3, k4⟩ := wipes_gen (((h : Int) - (a : Int)).toNat) d (f + a) h4
    refine ⟨Q, k1, fun i b hi => ?_, by omega, ?_⟩
    · obtain ⟨a1, a2, a3⟩ := k2 i b hi
      exact ⟨a1, by omega, a3⟩
    · rcases k4 with ⟨q1, q2⟩ | q
      · refine Or.inl ⟨q1, fun i => ?_⟩
        rw [q2]
        by_cases e : f + a ≤ i ∧ i < f + h
        · rw [if_pos (by omega), if_pos e]
        · rw [if_neg (by omega), if_neg e]
      · exact Or.inr q
/-- A record is written at a frame, wherever power goes. -/
theorem write_gen (d : DevD) (f : Int) (h a : Nat) (r : ByteArray) (h1 : 0 ≤ f) (h2 : f + h ≤ d.size) (h3 : 1 ≤ h) (ha : 1 ≤ a) (hr0 : r.size ≠ 0) (hr1 : r.size ≤ 60000) (hf : a + nframes r.size ≤ h) (h4 : -1 ≤ d.left) :
    ∃ m, m ≤ nframes r.size ∧ Ext d (d.write f h a r).1 (enumPos (f + a) ((cutL r.data.toList).take m)) ∧
      (((d.write f h a r).2 = (((a + nframes r.size : Nat) : Int), 0) ∧ m = nframes r.size ∧ ∀ i, (d.write f h a r).1.sec i = if f + a ≤ i ∧ i < f + a + nframes r.size then (cutL r.data.toList).getD (i - (f + a)).toNat zsec else d.sec i) ∨
       ((d.write f h a r).2.2 = 13 ∧ (d.write f h a r).1.left = 0 ∧ d.left ≠ -1)) := by
  have hrl : r.data.toList.length = r.size := by rw [Array.length_toList]; rfl
  unfold DevD.write
  by_cases hl : d.left = 0
  · have he : d.wErr f h a r.size = 13 := by unfold DevD.wErr; rw [if_pos hl]
    rw [he, if_pos (by decide)]
    exact ⟨0, Nat.zero_le _, Ext.refl d, Or.inr ⟨rfl, hl, by omega⟩⟩
  · have ho : d.on f h = true := by unfold DevD.on; rw [decide_eq_true_eq]; exact ⟨by omega, h1, h2⟩
    have he : d.wErr f h a r.size = 0 := by
      unfold DevD.wErr
      rw [if_neg hl, if_neg (by rw [ho]; simp; omega), if_neg (by omega), if_neg (by omega)]
    rw [he, if_neg (by decide)]
    obtain ⟨m, k1, k2, k3⟩ := puts_gen (cutL r.data.toList) d (f + a) (by omega) (by rw [cutL_length, hrl]; omega) (cutL_64 _) h4
    rw [cutL_length, hrl] at k1 k3
    refine ⟨m, k1, ?_, ?_⟩
    · split <;> exact k2
    · rcases k3 with ⟨q1, q2, q3⟩ | ⟨q1, q2, q3⟩
      · rw [if_pos q1]
        exact Or.inl ⟨by simp, q2, q3⟩
      · rw [if_neg (by rw [q1]; decide)]
        exact Or.inr ⟨q1, q2, q3⟩
/-- What a bank that is begun anew may leave. -/
structure BegOut (d : DevD) (f : Int) (h : Nat) (x : ByteArray) (n : Nat) (d' : DevD) (E : Int) : Prop where
  size : d'.size = d.size
  left : -1 ≤ d'.left ∧ d'.left ≤ d.left ∧ (d.left = -1 → d'.left = -1 ∧ E = 0)
  queue : d'.queue.length ≤ d.queue.length + 6000
  out : (E = 0 ∧ d'.queue = [] ∧ (∀ S, d'.Cr S ↔ ∀ i, S i = d'.sec i) ∧ (∀ i, i < f ∨ f + h ≤ i → d'.sec i = d.sec i) ∧ d'.sec f = hdrB n ∧ Std d'.sec f h (cutL x.data.toList) (nframes x.size) ∧ (∀ i, f < i → i < f + h → (d'.sec i).size = 64)) ∨
    (E = 13 ∧ d'.left = 0 ∧ ∀ S, d'.Cr S →
      ((∃ S0, (d.Cr S0 ∨ ∀ i, S0 i = d.sec i) ∧ (∀ i, i < f ∨ f + h ≤ i → S i = S0 i) ∧ (S f = S0 f ∨ S f = hdrB 0) ∧ ∀ i, f < i → i < f + h → S i = S0 i ∨ (S i).size = 64) ∨
       ((∀ i, i < f ∨ f + h ≤ i → S i = d.sec i) ∧ (S f = hdrB 0 ∨ S f = hdrB n) ∧ Std S f h (cutL x.data.toList) (nframes x.size) ∧ ∀ i, f < i → i < f + h → (S i).size = 64)))
theorem frames_64 (r : List UInt8) (t : Nat) : ((cutL r).getD t zsec).size = 64 := by
  rw [List.getD_eq_getElem?_getD]
  by_cases h : t < (cutL r).length
  · rw [List.getElem?_eq_getElem h]; exact cutL_64 r _ (List.getElem_mem h)
  · rw [List.getElem?_eq_none (by omega)]; exact zsec_size
theorem begin_gen (d : DevD) (f : Int) (h : Nat) (x : ByteArray) (n : Nat) (h1 : 0 ≤ f) (h2 : f + h ≤ d.size) (h3 : 1 ≤ h) (hs : d.size ≤ 4096) (hx0 : x.size ≠ 0) (hx1 : x.size ≤ 60000) (hf : 1 + nframes x.size ≤ h) (h4 : -1 ≤ d.left) :
    BegOut d f h x n (d.begin f h x n).1 (d.begin f h x n).2 := by
  have hxl : x.data.toList.length = x.size := by rw [Array.length_toList]; rfl
  have hnf : nframes x.size ≤ 1000 := by unfold nframes; omega
  unfold DevD.begin
  -- 1: the head
  rw [seq_cons]
  rcases setE_gen d f 0 h1 (by omega) with ⟨a1, a2⟩ | ⟨a1, a2⟩
  · rw [a2, if_neg (by simp)]
    exact ⟨rfl, ⟨by omega, Int.le_refl _, fun q => by omega⟩, Nat.le_add_right _ _, Or.inr ⟨rfl, a1, fun S hS => Or.inl ⟨S, Or.inl hS, fun i _ => rfl, Or.inl rfl, fun i _ _ => Or.inl rfl⟩⟩⟩
  rw [a2, if_pos rfl]
  have e1 := Ext.put d f (hdrB 0)
  have s1 : ∀ i, (d.put f (hdrB 0)).sec i = if i = f then hdrB 0 else d.sec i := fun i => put_sec d f _ i
  have q1 : (d.put f (hdrB 0)).queue.length = d.queue.length + 1 := (put_parts d f _).2.1
  try simp only
  generalize d.put f (hdrB 0) = d1 at *
  -- 2: flush
  rw [seq_cons]
  have el1 := e1.left
  rcases fl_gen d1 with ⟨b1, b2⟩ | ⟨b1, b2⟩
  · rw [b2, if_neg (by simp)]
    refine ⟨e1.size, ⟨by simp only; omega, e1.left.1, fun q => by have := e1.left.2.2 q; omega⟩, by simp only; omega, Or.inr ⟨rfl, b1, fun S hS => ?_⟩⟩
    obtain ⟨S0, hS0, hd⟩ := e1.cr hS
    have key : ∀ i, i ≠ f → S i = S0 i := by
      intro i hi
      rcases hd i with q | q
      · exact q
      · rw [List.mem_singleton] at q
        exact absurd (congrArg Prod.fst q) hi
    refine Or.inl ⟨S0, Or.inl hS0, fun i hi => key i (by omega), ?_, fun i i1 i2 => Or.inl (key i (by omega))⟩
    rcases hd f with q | q
    · exact Or.inl q
    · rw [List.mem_singleton] at q
      exact Or.inr (congrArg Prod.snd q)
  rw [b2, if_pos rfl]
  have c2 := cr_flush d1
  have l2 : d1.flush.left = d1.left := rfl
  have z2 : d1.flush.size = d1.size := rfl
  have s2 : ∀ i, d1.flush.sec i = d1.sec i := fun i => rfl
  have q2 : d1.flush.queue = [] := rfl
  try simp only
  generalize d1.flush = d2 at *
  have s2' : ∀ i, i ≠ f → d2.sec i = d.sec i := fun i hi => by rw [s2, s1, if_neg hi]
  have s2f : d2.sec f = hdrB 0 := by rw [s2, s1, if_pos rfl]
  -- 3: wipe
  rw [seq_cons]
  have hw := wipe_gen d2 f h 1 h1 (by rw [z2, e1.size]; exact h2) h3 (Nat.le_refl _) (by rw [l2]; exact e1.left.2.1 h4)
  rw [show ((1 : Nat) : Int) = 1 from rfl] at hw
  obtain ⟨Q, w1, w2, w2', w3⟩ := hw
  -- what Cr says within the bank
  have early : ∀ (D : DevD) (P : List (Int × ByteArray)), Ext d2 D P → (∀ i b, (i, b) ∈ P → f < i ∧ i < f + h ∧ b.size = 64) → ∀ S, D.Cr S →
      (∃ S0, (d.Cr S0 ∨ ∀ i, S0 i = d.sec i) ∧ (∀ i, i < f ∨ f + h ≤ i → S i = S0 i) ∧ (S f = S0 f ∨ S f = hdrB 0) ∧ ∀ i, f < i → i < f + h → S i = S0 i ∨ (S i).size = 64) := by
    intro D P hE hP S hS
    obtain ⟨S0, hS0, hd⟩ := hE.cr hS
    rw [c2] at hS0
    have key : ∀ i, S i = d1.sec i ∨ (f < i ∧ i < f + h ∧ (S i).size = 64) := by
      intro i
      rcases hd i with q | q
      · left; rw [q]; exact hS0 i
      · exact Or.inr (hP _ _ q)
    refine ⟨d.sec, Or.inr fun i => rfl, fun i hi => ?_, Or.inr ?_, fun i i1 i2 => ?_⟩
    · rcases key i with q | q
      · rw [q, s1, if_neg (by omega)]
      · omega
    · rcases key f with q | q
      · rw [q, s1, if_pos rfl]
      · omega
    · rcases key i with q | q
      · left; rw [q, s1, if_neg (by omega)]
      · exact Or.inr q.2.2
  have hQ1 : ∀ i b, (i, b) ∈ Q → f < i ∧ i < f + h ∧ b.size = 64 := fun i b hi => by
    obtain ⟨u1, u2, u3⟩ := w2 i b hi
    exact ⟨by omega, u2, by rw [u3]; exact zsec_size⟩
  have hwl : (d2.wipe f h 1).1.left ≤ d.left ∧ -1 ≤ (d2.wipe f h 1).1.left ∧ (d.left = -1 → (d2.wipe f h 1).1.left = -1) := by
    obtain ⟨u1, u2, u3⟩ := w1.left
    obtain ⟨v1, v2, v3⟩ := e1.left
    exact ⟨by omega, u2 (by omega), fun q => u3 (by rw [l2]; exact v3 q)⟩
  try simp only
  rcases w3 with ⟨w3, w4⟩ | ⟨w3, w4, w5⟩
  rotate_left
  · rw [show (d2.wipe f (h : Int) 1).2 = 13 from w3, if_neg (by decide)]
    exact ⟨by rw [w1.size, z2, e1.size], ⟨hwl.2.1, hwl.1, fun q => absurd (by rw [l2]; exact e1.left.2.2 q) w5⟩, by rw [w1.queue, q2]; simp; omega, Or.inr ⟨w3, w4, fun S hS => Or.inl (early _ Q w1 hQ1 S hS)⟩⟩
  rw [show (d2.wipe f (h : Int) 1).2 = 0 from w3, if_pos rfl]
  have z3 := w1.size
  have q3 := w1.queue
  generalize hd3 : (d2.wipe f (h : Int) 1).1 = d3 at *
  clear hd3
  -- 4: the record
  rw [seq_cons]
  have hw := write_gen d3 f h 1 x h1 (by rw [z3, z2, e1.size]; exact h2) h3 (Nat.le_refl _) hx0 hx1 hf hwl.2.1
  rw [show ((1 : Nat) : Int) = 1 from rfl] at hw
  obtain ⟨m, r1, r2, r3⟩ := hw
  have hQ2 : ∀ i b, (i, b) ∈ Q ++ enumPos (f + 1) ((cutL x.data.toList).take m) → f < i ∧ i < f + h ∧ b.size = 64 := fun i b hi => by
    rcases List.mem_append.1 hi with hi | hi
    · exact hQ1 i b hi
    · obtain ⟨t, u1, u2⟩ := mem_enumPos _ _ _ _ hi
      have ht : t < ((cutL x.data.toList).take m).length := (List.getElem?_eq_some_iff.1 u2).1
      rw [List.length_take, cutL_length, hxl] at ht
      exact ⟨by omega, by omega, cutL_64 _ _ (List.mem_of_mem_take (List.mem_of_getElem? u2))⟩
  have e24 := w1.trans r2
  have hl4 : (d3.write f h 1 x).1.left ≤ d.left ∧ -1 ≤ (d3.write f h 1 x).1.left ∧ (d.left = -1 → (d3.write f h 1 x).1.left = -1) := by
    obtain ⟨u1, u2, u3⟩ := r2.left
    exact ⟨by omega, u2 hwl.2.1, fun q => u3 (hwl.2.2 q)⟩
  have hq4 : (d3.write f h 1 x).1.queue.length ≤ 6000 := by
    rw [r2.queue, q3, q2, List.length_append, enumPos_length, List.length_take, cutL_length, hxl]; simp; omega
  have z4 : (d3.write f h 1 x).1.size = d.size := by rw [r2.size, z3, z2, e1.size]
  rcases r3 with ⟨r3, r4, r5⟩ | ⟨r3, r4, r5⟩
  rotate_left
  · rw [show d3.wr1 f (h : Int) x = ((d3.write f (h : Int) 1 x).1, 13) from by unfold DevD.wr1; rw [r3], if_neg (by simp)]
    exact ⟨z4, ⟨hl4.2.1, hl4.1, fun q => absurd (hwl.2.2 q) r5⟩, by simp only; omega, Or.inr ⟨rfl, r4, fun S hS => Or.inl (early _ _ e24 hQ2 S hS)⟩⟩
  rw [show d3.wr1 f (h : Int) x = ((d3.write f (h : Int) 1 x).1, 0) from by unfold DevD.wr1; rw [r3], if_pos rfl]
  have s4 : ∀ i, i ≤ f ∨ f + h ≤ i → (d3.write f h 1 x).1.sec i = d2.sec i := fun i hi => by
    rw [r5, if_neg (by omega), w4, if_neg (by omega)]
  have st4 : Std (d3.write f h 1 x).1.sec f h (cutL x.data.toList) (nframes x.size) := by
    intro p hp
    left
    rw [r5]
    by_cases hq : p < nframes x.size
    · rw [if_pos (by omega), show (f + ((p + 1 : Nat) : Int) - (f + 1)).toNat = p from by omega]
    · rw [if_neg (by omega), w4, if_pos (by omega), List.getD_eq_getElem?_getD, List.getElem?_eq_none (by rw [cutL_length, hxl]; omega)]; rfl
  have g4 : ∀ i, f < i → i < f + h → ((d3.write f h 1 x).1.sec i).size = 64 := by
    intro i i1 i2
    rw [r5]
    split
    · exact frames_64 _ _
    · rw [w4, if_pos (by omega)]; exact zsec_size
  generalize hd4 : (d3.write f (h : Int) 1 x).1 = d4 at *
  clear hd4 r5 w4
  -- 5: flush
  rw [seq_cons]
  rcases fl_gen d4 with ⟨b3, b4⟩ | ⟨b3, b4⟩
  · rw [b4, if_neg (by simp)]
    exact ⟨z4, ⟨hl4.2.1, hl4.1, fun q => absurd (hl4.2.2 q) (by rw [b3]; decide)⟩, by simp only; omega, Or.inr ⟨rfl, b3, fun S hS => Or.inl (early _ _ e24 hQ2 S hS)⟩⟩
  rw [b4, if_pos rfl]
  have c5 := cr_flush d4
  have l5 : d4.flush.left = d4.left := rfl
  have z5 : d4.flush.size = d4.size := rfl
  have s5 : ∀ i, d4.flush.sec i = d4.sec i := fun i => rfl
  have q5 : d4.flush.queue = [] := rfl
  try simp only
  generalize d4.flush = d5 at *
  have s5' : ∀ i, i < f ∨ f + h ≤ i → d5.sec i = d.sec i := fun i hi => by rw [s5, s4 i (by omega), s2' i (by omega)]
  have s5f : d5.sec f = hdrB 0 := by rw [s5, s4 f (by omega), s2f]
  have st5 : Std d5.sec f h (cutL x.data.toList) (nframes x.size) := std_congr st4 fun i _ _ => s5 i
  have g5 : ∀ i, f < i → i < f + h → (d5.sec i).size = 64 := fun i i1 i2 => by rw [s5]; exact g4 i i1 i2
  have c5' : ∀ S, d5.Cr S → ∀ i, S i = d5.sec i := fun S hS i => by rw [s5]; exact (c5 S).1 hS i
  -- 6: the head
  rw [seq_cons]
  rcases setE_gen d5 f n h1 (by rw [z5, z4]; omega) with ⟨a3, a4⟩ | ⟨a3, a4⟩
  · rw [a4, if_neg (by simp)]
    refine ⟨by simp only; omega, ⟨by simp only; omega, by simp only; omega, fun q => absurd (hl4.2.2 q) (by rw [← l5, a3]; decide)⟩, by simp only; rw [q5]; simp, Or.inr ⟨rfl, a3, fun S hS => Or.inr ?_⟩⟩
    have hS' := c5' S hS
    exact ⟨fun i hi => by rw [hS', s5' i hi], Or.inl (by rw [hS', s5f]), std_congr st5 fun i _ _ => hS' i, fun i i1 i2 => by rw [hS']; exact g5 i i1 i2⟩
  rw [a4, if_pos rfl]
  have e6 := Ext.put d5 f (hdrB n)
  have s6 : ∀ i, (d5.put f (hdrB n)).sec i = if i = f then hdrB n else d5.sec i := fun i => put_sec d5 f _ i
  have q6 : (d5.put f (hdrB n)).queue.length = d5.queue.length + 1 := (put_parts d5 f _).2.1
  have el6 := e6.left
  try simp only
  generalize d5.put f (hdrB n) = d6 at *
  -- 7: flush
  rw [seq_cons]
  rcases fl_gen d6 with ⟨b5, b6⟩ | ⟨b5, b6⟩
  · rw [b6, if_neg (by simp)]
    refine ⟨by simp only; rw [e6.size, z5, z4], ⟨by simp only; omega, by simp only; omega, fun q => absurd (el6.2.2 (by rw [l5]; exact hl4.2.2 q)) (by rw [b5]; decide)⟩, by simp only; rw [q6, q5]; simp, Or.inr ⟨rfl, b5, fun S hS => Or.inr ?_⟩⟩
    obtain ⟨S0, hS0, hd⟩ := e6.cr hS
    have hS0' := c5' S0 hS0
    have key : ∀ i, i ≠ f → S i = d5.sec i := by
      intro i hi
      rcases hd i with q | q
      · rw [q]; exact hS0' i
      · rw [List.mem_singleton] at q
        exact absurd (congrArg Prod.fst q) hi
    refine ⟨fun i hi => by rw [key i (by omega), s5' i hi], ?_, std_congr st5 fun i i1 i2 => key i (by omega), fun i i1 i2 => by rw [key i (by omega)]; exact g5 i i1 i2⟩
    rcases hd f with q | q
    · left; rw [q, hS0', s5f]
    · rw [List.mem_singleton] at q
      exact Or.inr (congrArg Prod.snd q)
  rw [b6, if_pos rfl]
  simp only [DevD.seq]
  have c7 := cr_flush d6
  refine ⟨by show d6.size = _; rw [e6.size, z5, z4], ⟨by show -1 ≤ d6.left; omega, by show d6.left ≤ _; omega, fun q => ⟨el6.2.2 (by rw [l5]; exact hl4.2.2 q), rfl⟩⟩, by show (0 : Nat) ≤ _; omega, Or.inl ⟨rfl, rfl, fun S => c7 S, fun i hi => ?_, ?_, ?_, fun i i1 i2 => ?_⟩⟩
  · show d6.sec i = _
    rw [s6, if_neg (by omega), s5' i hi]
  · show d6.sec f = _
    rw [s6, if_pos rfl]
  · exact std_congr st5 fun i i1 i2 => by show d6.sec i = _; rw [s6, if_neg (by omega)]
  · show (d6.sec i).size = 64
    rw [s6, if_neg (by omega)]; exact g5 i i1 i2
end Go.Proofs.Ytncbojocglcieaa

/- vault: what a vault is, wherever power goes; in plain Lean. -/
namespace Go.Proofs.Ytncbojocglcieaa
open Go.RowKit
set_option linter.unusedSimpArgs false
set_option linter.unusedVariables false
def frs (rs : List ByteArray) : List ByteArray := (lis rs).flatMap cutL
theorem lis_append (a b : List ByteArray) : lis (a ++ b) = lis a ++ lis b := by unfold lis; exact List.map_append
theorem frs_append (a b : List ByteArray) : frs (a ++ b) = frs a ++ frs b := by unfold frs; rw [lis_append, List.flatMap_append]
theorem frs_one (r : ByteArray) : frs [r] = cutL r.data.toList := by unfold frs lis; simp
theorem frs_cons (r : ByteArray) (l : List ByteArray) : frs (r :: l) = cutL r.data.toList ++ frs l := by rw [← frs_one r, ← frs_append]; rfl
theorem cut_len (r : ByteArray) : (cutL r.data.toList).length = nframes r.size := by rw [cutL_length, Array.length_toList]; rfl
theorem lis_take (l : List ByteArray) (n : Nat) : lis (l.take n) = (lis l).take n := by unfold lis; rw [List.map_take]
theorem lis_len (l : List ByteArray) : (lis l).length = l.length := by unfold lis; exact List.length_map _
theorem lis_inj {a b : List ByteArray} (h : lis a = lis b) : a = b := by
  have := congrArg (List.map bL) h
  rw [lis_bL, lis_bL] at this; exact this
/-- A record that may be. -/
def Rok (r : ByteArray) : Prop := r.size ≠ 0 ∧ r.size ≤ 60000
theorem rok_lis {l : List ByteArray} (h : ∀ r ∈ l, Rok r) : ∀ r ∈ lis l, r ≠ [] ∧ r.length ≤ 60000 := by
  intro r hr
  unfold lis at hr
  obtain ⟨x, hx, rfl⟩ := List.mem_map.1 hr
  have hl : x.data.toList.length = x.size := by rw [Array.length_toList]; rfl
  obtain ⟨h1, h2⟩ := h x hx
  exact ⟨fun e => h1 (by rw [← hl, e]; rfl), by omega⟩
structure Vgeo (N : Nat) (v : VaultD) : Prop where
  n : 4 ≤ N ∧ N ≤ 4096
  s : v.s = ((N / 2 : Nat) : Int) ∧ v.s2 = ((N / 2 : Nat) : Int)
  pos : (v.f = 0 ∧ v.f2 = ((N / 2 : Nat) : Int)) ∨ (v.f = ((N / 2 : Nat) : Int) ∧ v.f2 = 0)
  ep : 1 ≤ v.ep
theorem Vgeo.like {N : Nat} {v v' : VaultD} (h : Vgeo N v) (e1 : v'.s = v.s) (e2 : v'.s2 = v.s2) (e3 : v'.f = v.f) (e4 : v'.f2 = v.f2) (e5 : v'.ep = v.ep) : Vgeo N v' :=
  ⟨h.n, by rw [e1, e2]; exact h.s, by rw [e3, e4]; exact h.pos, by rw [e5]; exact h.ep⟩
/-- Sectors of which a vault is opened with its image and a beginning of its records. -/
structure SOld (N : Nat) (v : VaultD) (m0 : Nat) (all : List ByteArray) (S : Int → ByteArray) : Prop where
  good : ∀ i, (S i).size = 64
  e1 : epS S v.f = v.ep
  e2 : epS S v.f2 < v.ep
  std : Std S v.f (N / 2) (frs (v.img :: all)) (frs (v.img :: all.take m0)).length
/-- Sectors of which a vault is opened with a new image. -/
structure SNew (N : Nat) (v : VaultD) (x : ByteArray) (S : Int → ByteArray) : Prop where
  good : ∀ i, (S i).size = 64
  e1 : epS S v.f = v.ep
  e2 : epS S v.f2 = v.ep + 1
  std : Std S v.f2 (N / 2) (cutL x.data.toList) (nframes x.size)
/-- A vault on a device. -/
structure Vlt (N : Nat) (D : DevD) (v : VaultD) (m0 : Nat) (all : List ByteArray) (fr : Option ByteArray) : Prop where
  geo : Vgeo N v
  size : D.size = N
  left : -1 ≤ D.left
  ok : ∀ r ∈ v.img :: all, Rok r
  hm : m0 ≤ all.length
  fits : (frs (v.img :: all)).length + 1 ≤ N / 2
  fresh : ∀ x, fr = some x → Rok x ∧ 1 + nframes x.size ≤ N / 2
  crash : ∀ S, D.Cr S → SOld N v m0 all S ∨ ∃ x, fr = some x ∧ SNew N v x S
  live : v.over = false → fr = none ∧ v.recs = all ∧ v.at_ = ((1 + (frs (v.img :: all)).length : Nat) : Int) ∧ (D.left ≠ 0 → SOld N v all.length all D.sec)
  dead : v.over = true → D.left = 0
theorem SOld.like {N m0 : Nat} {v v' : VaultD} {all : List ByteArray} {S : Int → ByteArray} (h : SOld N v m0 all S) (e3 : v'.f = v.f) (e4 : v'.f2 = v.f2) (e5 : v'.ep = v.ep) (e6 : v'.img = v.img) : SOld N v' m0 all S :=
  ⟨h.good, by rw [e3, e5]; exact h.e1, by rw [e4, e5]; exact h.e2, by rw [e3, e6]; exact h.std⟩
theorem SNew.like {N : Nat} {v v' : VaultD} {x : ByteArray} {S : Int → ByteArray} (h : SNew N v x S) (e3 : v'.f = v.f) (e4 : v'.f2 = v.f2) (e5 : v'.ep = v.ep) : SNew N v' x S :=
  ⟨h.good, by rw [e3, e5]; exact h.e1, by rw [e4, e5]; exact h.e2, by rw [e4]; exact h.std⟩
theorem frs_take_le (x : ByteArray) (all : List ByteArray) (m : Nat) : (frs (x :: all.take m)).length ≤ (frs (x :: all)).length := by
  conv => rhs; rw [← List.take_append_drop m all, ← List.cons_append, frs_append, List.length_append]
  omega
theorem SOld.weak {N m0 m1 : Nat} {v : VaultD} {all : List ByteArray} {S : Int → ByteArray} (h : SOld N v m1 all S) (hm : m0 ≤ m1) : SOld N v m0 all S := by
  refine ⟨h.good, h.e1, h.e2, std_weak h.std ?_⟩
  have := frs_take_le v.img (all.take m1) m0
  rw [List.take_take, Nat.min_eq_left hm] at this
  exact this
/-- What stands there is read. -/
theorem SOld.scan {N m0 : Nat} {v : VaultD} {all : List ByteArray} {S : Int → ByteArray} (h : SOld N v m0 all S) (hm : m0 ≤ all.length) (hf : (frs (v.img :: all)).length + 1 ≤ N / 2) (hok : ∀ r ∈ v.img :: all, Rok r) :
    ∃ j, m0 ≤ j ∧ j ≤ all.length ∧ (scanned ((secsF S v.f (N / 2)).drop 1)).1 = lis (v.img :: all.take j) := by
  have e : v.img :: all = (v.img :: all.take m0) ++ all.drop m0 := by rw [List.cons_append, List.take_append_drop]
  have hs := h.std
  unfold frs at hs hf
  rw [e, lis_append] at hs hf
  obtain ⟨j, hj, hsc⟩ := std_scan hs hf (by rw [← lis_append, ← e]; exact rok_lis hok) h.good
  rw [lis_len, List.length_drop] at hj
  refine ⟨m0 + j, Nat.le_add_right _ _, by omega, ?_⟩
  rw [hsc, ← lis_take, ← lis_append, List.cons_append]
  congr 2
  rw [List.take_add]
theorem SNew.scan {N : Nat} {v : VaultD} {x : ByteArray} {S : Int → ByteArray} (h : SNew N v x S) (hx : Rok x) (hf : 1 + nframes x.size ≤ N / 2) :
    (scanned ((secsF S v.f2 (N / 2)).drop 1)).1 = lis [x] := by
  have hs : Std S v.f2 (N / 2) ((lis [x] ++ []).flatMap cutL) ((lis [x]).flatMap cutL).length := by
    rw [List.append_nil]
    have : (lis [x]).flatMap cutL = cutL x.data.toList := frs_one x
    rw [this, cut_len]; exact h.std
  obtain ⟨j, hj, hsc⟩ := std_scan hs (by rw [List.append_nil]; show (frs [x]).length + 1 ≤ _; rw [frs_one, cut_len]; omega) (by rw [List.append_nil]; exact rok_lis (fun r hr => by rw [List.mem_singleton.1 hr]; exact hx)) h.good
  rw [hsc]; simp
/-- Sectors elsewhere than in a bank, at whatever writes to the other one. -/
theorem Vgeo.apart {N : Nat} {v : VaultD} (g : Vgeo N v) : (v.f + ((N / 2 : Nat) : Int) ≤ v.f2 ∨ v.f2 + ((N / 2 : Nat) : Int) ≤ v.f) ∧ 0 ≤ v.f ∧ 0 ≤ v.f2 ∧ v.f + ((N / 2 : Nat) : Int) ≤ N ∧ v.f2 + ((N / 2 : Nat) : Int) ≤ N ∧ 2 ≤ N / 2 := by
  have h := g.n
  rcases g.pos with ⟨p, q⟩ | ⟨p, q⟩ <;> rw [p, q] <;> omega
theorem getD_app_l (F G : List ByteArray) (p : Nat) (z : ByteArray) (h : p < F.length) : (F ++ G).getD p z = F.getD p z := by
  rw [List.getD_eq_getElem?_getD, List.getD_eq_getElem?_getD, List.getElem?_append_left h]
theorem getD_app_r (F G : List ByteArray) (p : Nat) (z : ByteArray) (h : F.length ≤ p) : (F ++ G).getD p z = G.getD (p - F.length) z := by
  rw [List.getD_eq_getElem?_getD, List.getD_eq_getElem?_getD, List.getElem?_append_right h]
/-- Append, wherever power goes. -/
structure AppOut (N : Nat) (D : DevD) (v : VaultD) (m0 : Nat) (all : List ByteArray) (r : ByteArray) (v' : VaultD) (D' : DevD) (E : Int) : Prop where
  left : D'.left ≤ D.left ∧ (D.left = -1 → D'.left = -1)
  queue : D'.queue.length ≤ D.queue.length + 1000
  out : (E = fitsErr v.s v.at_ r.size ∧ E ≠ 0 ∧ v' = v ∧ D' = D) ∨
    (fitsErr v.s v.at_ r.size = 0 ∧ Rok r ∧ Vlt N D' v' m0 (all ++ [r]) none ∧ v'.img = v.img ∧ v'.s = v.s ∧ v'.ep = v.ep ∧
      ((E = 0 ∧ v'.over = false ∧ v'.recs = v.recs ++ [r] ∧ v'.at_ = v.at_ + nframes r.size) ∨ (E = 13 ∧ D.left ≠ -1 ∧ v'.over = true)))
theorem fits_zero {s a : Int} {n : Nat} (h : fitsErr s a n = 0) : n ≠ 0 ∧ n ≤ 60000 ∧ a + nframes n ≤ s := by
  unfold fitsErr at h
  split at h; · cases h
  split at h; · cases h
  exact ⟨by omega, by omega, by omega⟩
theorem Vlt.append {N m0 : Nat} {D : DevD} {v : VaultD} {all : List ByteArray} {fr : Option ByteArray} (h : Vlt N D v m0 all fr) (hv : v.over = false) (r : ByteArray) :
    AppOut N D v m0 all r (v.append D r).1 (v.append D r).2.1 (v.append D r).2.2 := by
  obtain ⟨rfl, l2, l3, l4⟩ := h.live hv
  unfold VaultD.append
  rw [if_neg (by rw [hv]; decide)]
  by_cases hF : fitsErr v.s v.at_ r.size ≠ 0
  · rw [if_pos hF]
    exact ⟨⟨Int.le_refl _, id⟩, Nat.le_add_right _ _, Or.inl ⟨rfl, hF, rfl, rfl⟩⟩
  rw [if_neg hF]
  have hF0 : fitsErr v.s v.at_ r.size = 0 := by simpa using hF
  obtain ⟨f1, f2, f3⟩ := fits_zero hF0
  have g := h.geo
  obtain ⟨g1, g2, g3, g4, g5, g6⟩ := g.apart
  rw [g.s.1] at f3 ⊢
  obtain ⟨n0, hn0⟩ : ∃ n0, (frs (v.img :: all)).length = n0 := ⟨_, rfl⟩
  rw [hn0] at l3
  rw [l3] at f3 ⊢
  have hsz := h.size
  obtain ⟨m, w1, w2, w3⟩ := write_gen D v.f (N / 2) (1 + n0) r g2 (by rw [hsz]; exact g4) (by omega) (by omega) f1 f2 (by omega) h.left
  have hq : (D.write v.f ((N / 2 : Nat) : Int) ((1 + n0 : Nat) : Int) r).1.queue.length ≤ D.queue.length + 1000 := by
    have hn : nframes r.size ≤ 1000 := by unfold nframes; omega
    rw [w2.queue, List.length_append, enumPos_length, List.length_take, cut_len]; omega
  have hfr : frs (v.img :: (all ++ [r])) = frs (v.img :: all) ++ cutL r.data.toList := by rw [← List.cons_append, frs_append, frs_one]
  have hlen : (frs (v.img :: (all ++ [r]))).length = n0 + nframes r.size := by rw [hfr, List.length_append, hn0, cut_len]
  have hok : ∀ x ∈ v.img :: (all ++ [r]), Rok x := by
    intro x hx
    rw [← List.cons_append] at hx
    rcases List.mem_append.1 hx with q | q
    · exact h.ok x q
    · rw [List.mem_singleton.1 q]; exact ⟨f1, f2⟩
  have hcr : ∀ S, (D.write v.f ((N / 2 : Nat) : Int) ((1 + n0 : Nat) : Int) r).1.Cr S → SOld N v m0 (all ++ [r]) S := by
    intro S hS
    obtain ⟨S0, hS0, hd⟩ := w2.cr hS
    rcases h.crash S0 hS0 with hO | ⟨x, q, _⟩
    rotate_left
    · cases q
    have hd' : ∀ i, S i = S0 i ∨ ∃ t : Nat, i = v.f + ((n0 + 1 : Nat) : Int) + t ∧ t < nframes r.size ∧ (cutL r.data.toList)[t]? = some (S i) := by
      intro i
      rcases hd i with q | q
      · exact Or.inl q
      · obtain ⟨t, u1, u2⟩ := mem_enumPos _ _ _ _ q
        have ht : t < ((cutL r.data.toList).take m).length := (List.getElem?_eq_some_iff.1 u2).1
        rw [List.length_take] at ht
        rw [List.getElem?_take_of_lt (by omega)] at u2
        exact Or.inr ⟨t, by omega, by omega, u2⟩
    have same : ∀ i, (∀ t : Nat, t < nframes r.size → i ≠ v.f + ((n0 + 1 : Nat) : Int) + t) → S i = S0 i := by
      intro i hi
      rcases hd' i with q | ⟨t, u1, u2, u3⟩
      · exact q
      · exact absurd u1 (hi t u2)
    have hfit := h.fits
    rw [hn0] at hfit
    refine ⟨fun i => ?_, ?_, ?_, ?_⟩
    · rcases hd' i with q | ⟨t, u1, u2, u3⟩
      · rw [q]; exact hO.good i
      · exact cutL_64 _ _ (List.mem_of_getElem? u3)
    · unfold epS; rw [same v.f (fun t _ => by omega)]; exact hO.e1
    · unfold epS; rw [same v.f2 (fun t _ => by omega)]; exact hO.e2
    · have ht : (all ++ [r]).take m0 = all.take m0 := List.take_append_of_le_length h.hm
      rw [hfr, ht]
      refine std_more hO.std (frs_take_le _ _ _) fun i => ?_
      rcases hd' i with q | ⟨t, u1, u2, u3⟩
      · exact Or.inl q
      · exact Or.inr ⟨t, by rw [hn0]; exact u1, u3⟩
  rcases w3 with ⟨w3, w4, w5⟩ | ⟨w3, w4, w5⟩
  · rw [if_neg (by rw [w3]; simp), w3]
    refine ⟨⟨w2.left.1, w2.left.2.2⟩, hq, Or.inr ⟨hF0, ⟨f1, f2⟩, ?_, rfl, g.s.1.symm, rfl, Or.inl ⟨rfl, hv, rfl, by simp only; omega⟩⟩⟩
    refine ⟨g.like g.s.1.symm rfl rfl rfl rfl, by rw [w2.size, hsz], w2.left.2.1 h.left, hok, by simp; have := h.hm; omega, by simp only; rw [hlen]; omega, fun x q => (by cases q), fun S hS => Or.inl ((hcr S hS).like rfl rfl rfl rfl), fun _ => ⟨rfl, by simp only; rw [l2], by simp only; rw [hlen]; congr 1; omega, fun hl => ?_⟩, fun q => ?_⟩
    · have hl0 : D.left ≠ 0 := fun e => by
        have := w2.left
        have := w2.nn (by omega)
        simp only at hl
        omega
      have hO := l4 hl0
      have hfit := h.fits
      rw [hn0] at hfit
      refine SOld.like (v := v) ⟨fun i => ?_, ?_, ?_, ?_⟩ rfl rfl rfl rfl
      · rw [w5]; split
        · exact frames_64 _ _
        · exact hO.good i
      · unfold epS; rw [w5, if_neg (by omega)]; exact hO.e1
      · unfold epS; rw [w5, if_neg (by omega)]; exact hO.e2
      · rw [List.take_length, hfr]
        have hstd := hO.std
        rw [List.take_length] at hstd
        intro p hp
        left
        rw [w5]
        rw [hn0] at hstd
        by_cases hpn : p < n0
        · rw [if_neg (by omega), getD_app_l _ _ _ _ (by omega)]
          rcases hstd p hp with q | q
          · exact q
          · omega
        · rw [getD_app_r _ _ _ _ (by omega), hn0]
          by_cases hpr : p < n0 + nframes r.size
          · rw [if_pos (by omega)]; congr 1; omega
          · rw [if_neg (by omega)]
            have e : (cutL r.data.toList).getD (p - n0) zsec = zsec := by rw [List.getD_eq_getElem?_getD, List.getElem?_eq_none (by rw [cut_len]; omega)]; rfl
            rw [e]
            rcases hstd p hp with q | q
            · rw [q, List.getD_eq_getElem?_getD, List.getElem?_eq_none (by omega)]; rfl
            · exact q.2
    · simp only at q; rw [hv] at q; cases q
  · rw [if_pos (by rw [w3]; decide), w3]
    refine ⟨⟨w2.left.1, w2.left.2.2⟩, hq, Or.inr ⟨hF0, ⟨f1, f2⟩, ?_, rfl, rfl, rfl, Or.inr ⟨rfl, w5, by simp [VaultD.done]⟩⟩⟩
    refine ⟨g.like rfl rfl rfl rfl rfl, by simp only; rw [w2.size, hsz], w2.left.2.1 h.left, hok, by simp; have := h.hm; omega, by simp only [VaultD.done]; rw [hlen]; omega, fun x q => (by cases q), fun S hS => Or.inl ((hcr S hS).like rfl rfl rfl rfl), fun q => ?_, fun _ => w4⟩
    simp [VaultD.done] at q
/-- Sync, wherever power goes. -/
theorem Vlt.sync {N m0 : Nat} {D : DevD} {v : VaultD} {all : List ByteArray} {fr : Option ByteArray} (h : Vlt N D v m0 all fr) (hv : v.over = false) :
    (v.syncErr D = 0 ∧ D.left ≠ 0 ∧ v.done 0 = v ∧ D.fl.1 = D.flush ∧ Vlt N D.flush v all.length all none) ∨
    (v.syncErr D = 13 ∧ D.left = 0 ∧ D.fl.1 = D ∧ Vlt N D (v.done 13) m0 all none ∧ (v.done 13).over = true) := by
  obtain ⟨rfl, l2, l3, l4⟩ := h.live hv
  unfold VaultD.syncErr
  rw [if_neg (by rw [hv]; decide)]
  rcases fl_gen D with ⟨b1, b2⟩ | ⟨b1, b2⟩
  · right
    rw [b2]
    refine ⟨rfl, b1, rfl, ⟨h.geo.like rfl rfl rfl rfl rfl, h.size, h.left, h.ok, h.hm, h.fits, fun x q => (by cases q), fun S hS => ?_, fun q => by simp [VaultD.done] at q, fun _ => b1⟩, by simp [VaultD.done]⟩
    rcases h.crash S hS with q | ⟨x, q, _⟩
    · exact Or.inl (q.like rfl rfl rfl rfl)
    · cases q
  · left
    rw [b2]
    have hO := l4 b1
    refine ⟨rfl, b1, by unfold VaultD.done; simp, rfl, ⟨h.geo, h.size, h.left, h.ok, Nat.le_refl _, h.fits, fun x q => (by cases q), fun S hS => Or.inl ?_, fun _ => ⟨rfl, l2, l3, fun _ => hO⟩, fun q => by rw [hv] at q; cases q⟩⟩
    have : S = D.sec := funext ((cr_flush D S).1 hS)
    rw [this]; exact hO
theorem Vlt.cut {N m0 : Nat} {D : DevD} {v : VaultD} {all : List ByteArray} {fr : Option ByteArray} (h : Vlt N D v m0 all fr) (n : Int) : Vlt N (D.cut n) v m0 all fr := by
  unfold DevD.cut
  by_cases hl : D.left = 0
  · rw [if_pos hl]; exact h
  · rw [if_neg hl]
    refine ⟨h.geo, h.size, by show -1 ≤ max n (-1); omega, h.ok, h.hm, h.fits, h.fresh, h.crash, fun q => ?_, fun q => absurd (h.dead q) hl⟩
    obtain ⟨a1, a2, a3, a4⟩ := h.live q
    exact ⟨a1, a2, a3, fun _ => a4 hl⟩
end Go.Proofs.Ytncbojocglcieaa
