/- bank: SetEpoch, Epoch. -/
import Derived.Test.YtncbojocglcieaaB8
import Derived.Test.YtncbojocglcieaaFz
namespace Go.Proofs.Ytncbojocglcieaa
open Go.RowKit
set_option linter.unusedSimpArgs false
set_option linter.unusedVariables false
def hdrB (n : Nat) : ByteArray := ⟨(hdr n).toArray⟩
theorem hdrB_size (n : Nat) : (hdrB n).size = 64 := by show (hdr n).toArray.size = 64; rw [List.size_toArray, hdr_length]
set_option maxRecDepth 100000 in
theorem setepoch_any {w0 w : World} {R : Nat → Prop} {g : Nat} {d : DevD} (f : Int) (n : Nat) (h : OwnR w0 w R g d) (hn : n < 18446744073709551616) (hq : d.queue.length ≤ 1000000) (hleft : d.left ≤ 9223372036854775807) :
    Calls Try.prog 31 #[.pointer (some ⟨g, 0, none⟩), .int .i64 f, .int .u64 n] w fun e w' => e = .returned (.int .i64 (d.putErr f (hdrB n))) ∧ OwnR w0 w' R g (if d.putErr f (hdrB n) = 0 then d.put f (hdrB n) else d) ∧ Held w0 R w w' := by
  have H := Lib.hid h
  have HR := Lib.hid (show ∀ k, R k → k < w.heap.size from fun k q => h.lt q)
  clear h
  have hl := fun w => label_any n w hn
  have e : (⟨(hdr n).toArray⟩ : ByteArray) = hdrB n := rfl
  rw [e] at hl
  obtain ⟨D, hD⟩ : ∃ D, (if d.putErr f (hdrB n) = 0 then d.put f (hdrB n) else d) = D := ⟨_, rfl⟩
  obtain ⟨er, her⟩ : ∃ er, d.putErr f (hdrB n) = er := ⟨_, rfl⟩
  have HD := Lib.hid hD
  have HE := Lib.hid her
  rw [hD, her]
  clear hD her
  generalize hX : hdrB n = X at *
  clear e hX
  go_enter Try.func31, Try.ntmps31
  go_wp2_with fail
  refine (hl _).mono ?_
  rintro e w1 ⟨rfl, hb1⟩
  have H1 := Lib.hid (H.out.below hb1)
  have HH := Lib.hid (Held.below (w0 := w0) HR.out hb1)
  clear hb1
  go_wp2_with fail
  refine (ownr_put H1.out f X hq hleft).mono ?_
  rintro e w2 ⟨rfl, h2, hh2⟩
  rw [HD.out] at h2
  rw [HE.out]
  have H2 := Lib.hid h2
  clear h2
  go_wp2_with fail
  go_ret
  exact ⟨rfl, H2.out, HH.out.trans hh2⟩
/-- A number of bytes, the greatest first. -/
def beN (l : List UInt8) : Nat := l.foldl (fun n c => n * 256 + c.toNat) 0
theorem beN_snoc (l : List UInt8) (c : UInt8) : beN (l ++ [c]) = beN l * 256 + c.toNat := by unfold beN; rw [List.foldl_append]; rfl
theorem beN_lt (l : List UInt8) : beN l < 256 ^ l.length := by
  have : ∀ (n : Nat) (l : List UInt8), l.length = n → beN l < 256 ^ l.length := by
    intro n
    induction n with
    | zero => intro l h; rw [List.eq_nil_of_length_eq_zero h]; decide
    | succ n ih =>
      intro l h
      obtain ⟨l', c, rfl⟩ : ∃ l' c, l = l' ++ [c] := ⟨l.dropLast, l.getLast (by intro q; rw [q] at h; simp at h), (List.dropLast_concat_getLast _).symm⟩
      have := ih l' (by simpa using h)
      rw [beN_snoc, List.length_append, List.length_singleton, Nat.pow_succ]
      have := c.toNat_lt; omega
  exact this _ l rfl
theorem beN_take (l : List UInt8) (i : Nat) (h : i < l.length) : beN (l.take (i + 1)) = beN (l.take i) * 256 + (l.getD i 0).toNat := by
  rw [List.take_succ_eq_append_getElem h, beN_snoc]; simp [List.getD, h]
theorem u64_or_nat (a b : Nat) (ha : a < 18446744073709551616) (hb : b < 18446744073709551616) : bits .or .u64 (a : Int) (b : Int) = ((a ||| b : Nat) : Int) := by
  have hx : a ||| b < 2 ^ 64 := Nat.or_lt_two_pow (by omega) (by omega)
  have h1 : (BitVec.ofInt 64 (a : Int)).toNat = a := by
    rw [BitVec.ofInt_natCast, BitVec.toNat_ofNat]; exact Nat.mod_eq_of_lt (by omega)
  have h2 : (BitVec.ofInt 64 (b : Int)).toNat = b := by
    rw [BitVec.ofInt_natCast, BitVec.toNat_ofNat]; exact Nat.mod_eq_of_lt (by omega)
  show IntKind.u64.wrap ((BitVec.ofInt 64 (a : Int) ||| BitVec.ofInt 64 (b : Int)).toNat : Int) = _
  rw [BitVec.toNat_or, h1, h2]
  simp [IntKind.wrap, IntKind.bits, IntKind.signed]
  omega
theorem or_byte64 (m c : Nat) (hm : m < 72057594037927936) (hc : c < 256) : bits .or .u64 ((m : Int) * 256) (c : Int) = ((m * 256 + c : Nat) : Int) := by
  have h := u64_or_nat (m * 256) c (by omega) (by omega)
  rw [Int.natCast_mul] at h
  rw [show ((m : Int) * 256) = (m : Int) * ((256 : Nat) : Int) from rfl, h]
  have := Nat.shiftLeft_add_eq_or_of_lt (b := c) (i := 8) (by omega) m
  rw [Nat.shiftLeft_eq] at this
  rw [← this]
/-- The epoch of a head. -/
def epoL (l : List UInt8) : Nat := if hdr (beN (l.take 8)) = l then beN (l.take 8) else 0
set_option maxRecDepth 100000 in
theorem epoch_any {w0 w : World} {R : Nat → Prop} {g : Nat} {d : DevD} (f : Int) (h : OwnR w0 w R g d) (ha : d.ask f = 0) (h64 : (d.sec f).size = 64) :
    Calls Try.prog 32 #[.pointer (some ⟨g, 0, none⟩), .int .i64 f] w fun e w' => e = .returned (.tuple #[.int .u64 (epoL (d.sec f).data.toList), .int .i64 0]) ∧ OwnR w0 w' R g d ∧ Below w.heap.size w w' := by
  have H := Lib.hid h
  clear h
  have hg : d.get f = d.sec f := by unfold DevD.get; rw [if_pos ha]
  have HG := Lib.hid hg
  have HA := Lib.hid ha
  obtain ⟨P, hP⟩ : ∃ P, epoL (d.sec f).data.toList = P := ⟨_, rfl⟩
  rw [hP]
  have HP := Lib.hid hP
  clear hg ha hP
  go_enter Try.func32, Try.ntmps32
  go_wp2_with fail
  refine (ownr_get H.out f).mono ?_
  rintro e w1 ⟨rfl, h1, hb1⟩
  rw [HG.out, HA.out]
  have H1 := Lib.hid h1
  have HB1 := Lib.hid hb1
  clear h1 hb1
  generalize hS : d.sec f = s at *
  have hsl : s.data.toList.length = 64 := by rw [Array.length_toList]; exact h64
  go_wp2_with (refine conv_bytes rfl _ rfl (s.extract 0 8) rfl ?_; intro w2 cap2 hf2 hb2)
  obtain ⟨B, hB⟩ : ∃ B, w1.heap.size = B := ⟨_, rfl⟩
  rw [hB] at hf2
  obtain ⟨l8, hl8⟩ : ∃ l, (s.extract 0 8).data.toList = l := ⟨_, rfl⟩
  rw [hl8] at hf2
  rw [hB]
  have h8 : l8 = s.data.toList.take 8 := by rw [← hl8, Lib.extract_data]; simp
  have hlen8 : l8.length = 8 := by rw [h8, List.length_take, hsl]; rfl
  have hb3 := HB1.out.trans (hb2.mono HB1.out.size)
  have H2 := Lib.hid (H1.out.below hb2)
  have HB3 := Lib.hid hb3
  have HF := Lib.hid hf2
  have H8 := Lib.hid h8
  clear hf2 hb2 hb3 h8 hl8 hB
  go_loopw [8, 24] (fun nv iv wr => ∃ i : Nat, iv = .int .i64 i ∧ i ≤ 8 ∧ nv = .int .u64 (beN (l8.take i) : Nat) ∧ wr = w2) (fun _ iv _ => 8 - (intOf iv).toNat)
  case atStart => exact ⟨0, rfl, Nat.zero_le _, rfl, rfl⟩
  case round =>
    obtain ⟨i, rfl, hi, rfl, rfl⟩ := hrel
    by_cases hlt : i < 8
    · have hc := HF.out.cell i (by rw [hlen8]; exact hlt)
      have hm := beN_lt (l8.take i)
      rw [List.length_take, hlen8, Nat.min_eq_left (by omega)] at hm
      have hm2 : beN (l8.take i) < 72057594037927936 := Nat.lt_of_lt_of_le hm (by have : 256 ^ i ≤ 256 ^ 7 := Nat.pow_le_pow_right (by decide) (by omega); exact this)
      have hn := beN_take l8 i (by rw [hlen8]; exact hlt)
      have hor := or_byte64 (beN (l8.take i)) (l8.getD i 0).toNat hm2 (l8.getD i 0).toNat_lt
      rw [← hn] at hor
      have HO := Lib.hid hor
      have i1 : (i : Int) < 8 := by omega
      generalize beN (l8.take i) = m at *
      have hcl := (l8.getD i 0).toNat_lt
      generalize (l8.getD i 0).toNat = c at *
      clear hm hn hor
      go_wp2_with fail
      exact ⟨⟨i + 1, by go_num, hlt, by rw [HO.out], trivial⟩, by simp [intOf]; omega⟩
    · have ei : i = 8 := by omega
      subst ei
      have hmx := beN_lt (l8.take 8)
      rw [List.length_take, hlen8] at hmx
      have h88 : l8.take 8 = l8 := by rw [List.take_of_length_le (by rw [hlen8]; exact Nat.le_refl _)]
      rw [h88] at hmx
      have hep : epoL s.data.toList = if hdrB (beN l8) = s then beN l8 else 0 := by
        unfold epoL
        rw [← H8.out]
        by_cases q : hdr (beN l8) = s.data.toList
        · rw [if_pos q, if_pos (by unfold hdrB; rw [q])]
        · rw [if_neg q, if_neg (fun e => q (by rw [← e]; rfl))]
      rw [h88]
      have hPP := HP.out
      rw [hep] at hPP
      have hl := fun w => label_any (beN l8) w hmx
      have ehd : (⟨(hdr (beN l8)).toArray⟩ : ByteArray) = hdrB (beN l8) := rfl
      rw [ehd] at hl
      clear hep h88 ehd
      generalize hdrB (beN l8) = X at *
      generalize beN l8 = m at *
      by_cases q : X = s
      · subst q
        rw [if_pos rfl] at hPP
        subst hPP
        go_wp2_with fail
        refine (hl _).mono ?_
        rintro e w4 ⟨rfl, hb4⟩
        have H4 := Lib.hid (H2.out.below hb4)
        have HB4 := Lib.hid (HB3.out.trans (hb4.mono HB3.out.size))
        clear hb4
        go_wp2_with fail
        go_ret2
        exact ⟨rfl, H4.out, HB4.out⟩
      · rw [if_neg q] at hPP
        subst hPP
        have q1 := str_ne q
        go_wp2_with fail
        refine (hl _).mono ?_
        rintro e w4 ⟨rfl, hb4⟩
        have H4 := Lib.hid (H2.out.below hb4)
        have HB4 := Lib.hid (HB3.out.trans (hb4.mono HB3.out.size))
        clear hb4
        go_wp2_with fail
        go_ret2
        exact ⟨rfl, H4.out, HB4.out⟩
end Go.Proofs.Ytncbojocglcieaa
