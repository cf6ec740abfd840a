/- Lemmas for the laws of one seat, texts B8 B9 V1 V2 V3 V4 Ung; no condition beyond those that each states. -/
import Derived.Test.YtncbojocglcieaaVV6
import Derived.Deep.RegionWith
/- bank: Head, SetEpoch. -/
namespace Go.Proofs.Ytncbojocglcieaa
open Go.RowKit
set_option linter.unusedSimpArgs false
set_option linter.unusedVariables false
/-- A head whose bytes behind the i-th are written. -/
def PartD (n i : Nat) (l : List UInt8) : Prop := l.length = 64 ∧ ∀ j, j < 64 → l[j]? = some (if i ≤ j ∧ j < 8 then nbyte n j else if 8 + i ≤ j ∧ j < 16 then 255 - nbyte n (j - 8) else 0)
theorem PartD.start (n : Nat) : PartD n 8 (List.replicate 64 0) := ⟨by simp, fun j hj => by rw [List.getElem?_replicate, if_pos hj, if_neg (by omega), if_neg (by omega)]⟩
theorem PartD.step {n i : Nat} {l : List UInt8} (h : PartD n (i + 1) l) (hi : i < 8) : PartD n i ((l.set i (nbyte n i)).set (8 + i) (255 - nbyte n i)) := by
  refine ⟨by simp [h.1], fun j hj => ?_⟩
  rw [List.getElem?_set, List.length_set, List.getElem?_set, h.1]
  by_cases e1 : 8 + i = j
  · subst e1
    rw [if_pos rfl, if_pos (by omega), if_neg (by omega), if_pos (by omega), Nat.add_sub_cancel_left]
  · rw [if_neg e1]
    by_cases e2 : i = j
    · subst e2
      rw [if_pos rfl, if_pos (by omega), if_pos (by omega)]
    · rw [if_neg e2, h.2 j hj]
      by_cases e3 : i + 1 ≤ j ∧ j < 8
      · rw [if_pos e3, if_pos (by omega)]
      · by_cases e4 : 8 + (i + 1) ≤ j ∧ j < 16
        · rw [if_neg e3, if_pos e4, if_neg (show ¬ (i ≤ j ∧ j < 8) by omega), if_pos (by omega)]
        · rw [if_neg e3, if_neg e4, if_neg (show ¬ (i ≤ j ∧ j < 8) by omega), if_neg (by omega)]
theorem PartD.done {n : Nat} {l : List UInt8} (h : PartD n 0 l) (hn : n ≠ 0) : l = hdr n := by
  apply List.ext_getElem?
  intro j
  by_cases hj : j < 64
  · rw [h.2 j hj, hdr_get n j hj]
    unfold hbyte
    rw [if_neg hn]
    by_cases e1 : j < 8
    · rw [if_pos ⟨Nat.zero_le _, e1⟩, if_pos e1]
    · rw [if_neg (by omega), if_neg e1]
      by_cases e2 : j < 16
      · rw [if_pos (by omega), if_pos e2]
      · rw [if_neg (by omega), if_neg e2]
  · rw [List.getElem?_eq_none (by rw [h.1]; omega), List.getElem?_eq_none (by rw [hdr_length]; omega)]
def HeadRel (w : World) (N n : Nat) (nv iv : Value) (wr : World) : Prop :=
  ∃ (i : Nat) (l : List UInt8), iv = .int .i64 ((i : Int) - 1) ∧ i ≤ 8 ∧ nv = .int .u64 (n / 256 ^ (8 - i) : Nat) ∧ PartD n i l ∧ Row EByt wr N (.slice (some ⟨N, 0, none⟩) 64 64) l ∧ Below N w wr
set_option maxRecDepth 100000 in
set_option maxHeartbeats 2000000 in
theorem head_any (n : Nat) (w : World) (hn : n < 18446744073709551616) : Calls Try.prog 33 #[.int .u64 n] w fun e w' => e = .returned (.string ⟨(hdr n).toArray⟩) ∧ Below w.heap.size w w' := by
  obtain ⟨N, hN⟩ : ∃ N, w.heap.size = N := ⟨_, rfl⟩
  by_cases h0 : n = 0
  · have n1 : ((n : Int) == 0) = true := by simpa using h0
    have n2 : (n == 0) = true := by simpa using h0
    have n3 : ((n : Int) = 0) := by omega
    have H0 := Lib.hid h0
    clear h0
    go_enter Try.func33, Try.ntmps33
    go_wp2_with (first
      | (refine make_row (E := EByt) (B := w.heap.size) (z := .int .u8 0) (0 : UInt8) (by kernel_rfl) (by rfl) rfl 60 Try.underlying60 _ _ rfl 64 64 64 rfl rfl rfl rfl (by decide) (by decide) (Nat.le_refl _) ?_; intro w1 hr1 hb1; rw [hN] at hr1 hb1)
      | (refine conv_row rfl _ rfl _ _ rfl hr1 ?_))
    go_ret
    exact ⟨by rw [H0.out, hdr_zero]; rfl, hN ▸ hb1⟩
  · have n1 : ((n : Int) == 0) = false := by simpa using h0
    have n2 : (n == 0) = false := by simpa using h0
    have H0 := Lib.hid h0
    clear h0
    go_enter Try.func33, Try.ntmps33
    go_wp2_with (refine make_row (E := EByt) (B := w.heap.size) (z := .int .u8 0) (0 : UInt8) (by kernel_rfl) (by rfl) rfl 60 Try.underlying60 _ _ rfl 64 64 64 rfl rfl rfl rfl (by decide) (by decide) (Nat.le_refl _) ?_; intro w1 hr1 hb1)
    rw [hN] at hr1 hb1
    go_loopw [0, 4] (fun nv iv wr => HeadRel w N n nv iv wr) (fun _ iv _ => ((intOf iv) + 1).toNat)
    case atStart => exact ⟨8, _, rfl, Nat.le_refl _, by simp, PartD.start n, hr1, hb1⟩
    case round =>
      obtain ⟨i, l, rfl, hi, rfl, hp, hr, hb⟩ := hrel
      by_cases hlt : 0 < i
      · obtain ⟨i, rfl⟩ : ∃ k, i = k + 1 := ⟨i - 1, by omega⟩
        have i1 : (i : Int) < 8 := by omega
        have hi8 : i < 8 := by omega
        obtain ⟨g, cap, e, _, hgl, _, _, hcell, hfr⟩ := hr.slice (by intro q; have := congrArg List.length q; have := hp.1; simp_all)
        simp only [Value.slice.injEq, Option.some.injEq, Addr.mk.injEq] at e
        obtain ⟨⟨rfl, -, -⟩, -, -⟩ := e
        have hl := hp.1
        have hx := hcell i _ (List.getElem?_eq_getElem (by rw [hl]; omega)) 0 (by decide)
        have hx8 := hcell (8 + i) _ (List.getElem?_eq_getElem (by rw [hl]; omega)) 0 (by decide)
        obtain ⟨v, hv⟩ : ∃ v, wr.cell? ⟨N, i, none⟩ = some v := ⟨_, by simpa [EByt] using hx⟩
        obtain ⟨v8, hv8⟩ : ∃ v, wr.cell? ⟨N, 8 + i, none⟩ = some v := ⟨_, by simpa [EByt] using hx8⟩
        have hf := hfr i
        have hf8 := hfr (8 + i)
        have hm : n / 256 ^ (8 - (i + 1)) % 256 = (nbyte n i).toNat := by
          unfold nbyte; rw [show 8 - (i + 1) = 7 - i from by omega]; simp
        have hd : n / 256 ^ (8 - (i + 1)) / 256 = n / 256 ^ (8 - i) := by rw [Nat.div_div_eq_div_mul, ← Nat.pow_succ]; congr 2; omega
        have hml : n / 256 ^ (8 - (i + 1)) < 18446744073709551616 := Nat.lt_of_le_of_lt (Nat.div_le_self _ _) hn
        generalize n / 256 ^ (8 - (i + 1)) = m at *
        have Hr := Lib.hid hr
        have Hp := Lib.hid hp
        have Hb := Lib.hid hb
        have Hm := Lib.hid hm
        have Hd := Lib.hid hd
        clear hcell hfr hx hx8 hr hp hb hm hd
        have z1 : ((i + 1 : Nat) : Int) - 1 = i := by omega
        rw [z1]
        go_wp2_with fail
        rw [show (m : Int) % 256 = ((nbyte n i).toNat : Nat) from by rw [← Hm.out]; omega, show (255 : Int) - ((nbyte n i).toNat : Nat) = ((255 - nbyte n i).toNat : Nat) from by have := (nbyte n i).toNat_lt; rw [UInt8.toNat_sub_of_le _ _ (by rw [UInt8.le_iff_toNat_le]; simp; omega)]; simp; omega, show (m : Int) / 256 = (n / 256 ^ (8 - i) : Nat) from by rw [← Hd.out]; omega]
        have h1 := (Hr.out.set1 rfl i (nbyte n i) (.int .u8 (nbyte n i).toNat) rfl).set1 rfl (8 + i) (255 - nbyte n i) (.int .u8 (255 - nbyte n i).toNat) rfl
        exact ⟨⟨i, _, rfl, by omega, rfl, Hp.out.step hi8, h1, Hb.out.trans ((((Keep.refl (fun k => k = N) wr).set N i _ (Or.inl rfl)).set N (8 + i) _ (Or.inl rfl)).toBelow (by have := Hb.out.size; omega) (fun k q => by omega))⟩, by simp [intOf]⟩
      · obtain rfl : i = 0 := by omega
        have e : l = hdr n := hp.done H0.out
        subst e
        have Hr := Lib.hid hr
        have Hb := Lib.hid hb
        clear hr hb hp
        go_wp2_with (refine conv_row rfl _ rfl _ _ rfl Hr.out ?_)
        go_ret
        exact ⟨rfl, hN ▸ Hb.out⟩
end Go.Proofs.Ytncbojocglcieaa

/- bank: SetEpoch, Epoch. -/
namespace Go.Proofs.Ytncbojocglcieaa
open Go.RowKit
set_option linter.unusedSimpArgs false
set_option linter.unusedVariables false
def hdrB (n : Nat) : ByteArray := ⟨(hdr n).toArray⟩
theorem hdrB_size (n : Nat) : (hdrB n).size = 64 := by show (hdr n).toArray.size = 64; rw [List.size_toArray, hdr_length]
set_option maxRecDepth 100000 in
theorem setepoch_any {w0 w : World} {R : Nat → Prop} {g : Nat} {d : DevD} (f : Int) (n : Nat) (h : OwnR w0 w R g d) (hn : n < 18446744073709551616) (hq : d.queue.length ≤ 1000000) (hleft : d.left ≤ 9223372036854775807) :
    Calls Try.prog 31 #[.pointer (some ⟨g, 0, none⟩), .int .i64 f, .int .u64 n] w fun e w' => e = .returned (.int .i64 (d.putErr f (hdrB n))) ∧ OwnR w0 w' R g (if d.putErr f (hdrB n) = 0 then d.put f (hdrB n) else d) ∧ Held w0 R w w' := by
  have H := Lib.hid h
  have HR := Lib.hid (show ∀ k, R k → k < w.heap.size from fun k q => h.lt q)
  clear h
  have hl := fun w => label_any n w hn
  have e : (⟨(hdr n).toArray⟩ : ByteArray) = hdrB n := rfl
  rw [e] at hl
  obtain ⟨D, hD⟩ : ∃ D, (if d.putErr f (hdrB n) = 0 then d.put f (hdrB n) else d) = D := ⟨_, rfl⟩
  obtain ⟨er, her⟩ : ∃ er, d.putErr f (hdrB n) = er := ⟨_, rfl⟩
  have HD := Lib.hid hD
  have HE := Lib.hid her
  rw [hD, her]
  clear hD her
  generalize hX : hdrB n = X at *
  clear e hX
  go_enter Try.func31, Try.ntmps31
  go_wp2_with fail
  refine (hl _).mono ?_
  rintro e w1 ⟨rfl, hb1⟩
  have H1 := Lib.hid (H.out.below hb1)
  have HH := Lib.hid (Held.below (w0 := w0) HR.out hb1)
  clear hb1
  go_wp2_with fail
  refine (ownr_put H1.out f X hq hleft).mono ?_
  rintro e w2 ⟨rfl, h2, hh2⟩
  rw [HD.out] at h2
  rw [HE.out]
  have H2 := Lib.hid h2
  clear h2
  go_wp2_with fail
  go_ret
  exact ⟨rfl, H2.out, HH.out.trans hh2⟩
/-- A number of bytes, the greatest first. -/
def beN (l : List UInt8) : Nat := l.foldl (fun n c => n * 256 + c.toNat) 0
theorem beN_snoc (l : List UInt8) (c : UInt8) : beN (l ++ [c]) = beN l * 256 + c.toNat := by unfold beN; rw [List.foldl_append]; rfl
theorem beN_lt (l : List UInt8) : beN l < 256 ^ l.length := by
  have : ∀ (n : Nat) (l : List UInt8), l.length = n → beN l < 256 ^ l.length := by
    intro n
    induction n with
    | zero => intro l h; rw [List.eq_nil_of_length_eq_zero h]; decide
    | succ n ih =>
      intro l h
      obtain ⟨l', c, rfl⟩ : ∃ l' c, l = l' ++ [c] := ⟨l.dropLast, l.getLast (by intro q; rw [q] at h; simp at h), (List.dropLast_concat_getLast _).symm⟩
      have := ih l' (by simpa using h)
      rw [beN_snoc, List.length_append, List.length_singleton, Nat.pow_succ]
      have := c.toNat_lt; omega
  exact this _ l rfl
theorem beN_take (l : List UInt8) (i : Nat) (h : i < l.length) : beN (l.take (i + 1)) = beN (l.take i) * 256 + (l.getD i 0).toNat := by
  rw [List.take_succ_eq_append_getElem h, beN_snoc]; simp [List.getD, h]
theorem u64_or_nat (a b : Nat) (ha : a < 18446744073709551616) (hb : b < 18446744073709551616) : bits .or .u64 (a : Int) (b : Int) = ((a ||| b : Nat) : Int) := by
  have hx : a ||| b < 2 ^ 64 := Nat.or_lt_two_pow (by omega) (by omega)
  have h1 : (BitVec.ofInt 64 (a : Int)).toNat = a := by
    rw [BitVec.ofInt_natCast, BitVec.toNat_ofNat]; exact Nat.mod_eq_of_lt (by omega)
  have h2 : (BitVec.ofInt 64 (b : Int)).toNat = b := by
    rw [BitVec.ofInt_natCast, BitVec.toNat_ofNat]; exact Nat.mod_eq_of_lt (by omega)
  show IntKind.u64.wrap ((BitVec.ofInt 64 (a : Int) ||| BitVec.ofInt 64 (b : Int)).toNat : Int) = _
  rw [BitVec.toNat_or, h1, h2]
  simp [IntKind.wrap, IntKind.bits, IntKind.signed]
  omega
theorem or_byte64 (m c : Nat) (hm : m < 72057594037927936) (hc : c < 256) : bits .or .u64 ((m : Int) * 256) (c : Int) = ((m * 256 + c : Nat) : Int) := by
  have h := u64_or_nat (m * 256) c (by omega) (by omega)
  rw [Int.natCast_mul] at h
  rw [show ((m : Int) * 256) = (m : Int) * ((256 : Nat) : Int) from rfl, h]
  have := Nat.shiftLeft_add_eq_or_of_lt (b := c) (i := 8) (by omega) m
  rw [Nat.shiftLeft_eq] at this
  rw [← this]
/-- The epoch of a head. -/
def epoL (l : List UInt8) : Nat := if hdr (beN (l.take 8)) = l then beN (l.take 8) else 0
set_option maxRecDepth 100000 in
theorem epoch_any {w0 w : World} {R : Nat → Prop} {g : Nat} {d : DevD} (f : Int) (h : OwnR w0 w R g d) (ha : d.ask f = 0) (h64 : (d.sec f).size = 64) :
    Calls Try.prog 32 #[.pointer (some ⟨g, 0, none⟩), .int .i64 f] w fun e w' => e = .returned (.tuple #[.int .u64 (epoL (d.sec f).data.toList), .int .i64 0]) ∧ OwnR w0 w' R g d ∧ Below w.heap.size w w' := by
  have H := Lib.hid h
  clear h
  have hg : d.get f = d.sec f := by unfold DevD.get; rw [if_pos ha]
  have HG := Lib.hid hg
  have HA := Lib.hid ha
  obtain ⟨P, hP⟩ : ∃ P, epoL (d.sec f).data.toList = P := ⟨_, rfl⟩
  rw [hP]
  have HP := Lib.hid hP
  clear hg ha hP
  go_enter Try.func32, Try.ntmps32
  go_wp2_with fail
  refine (ownr_get H.out f).mono ?_
  rintro e w1 ⟨rfl, h1, hb1⟩
  rw [HG.out, HA.out]
  have H1 := Lib.hid h1
  have HB1 := Lib.hid hb1
  clear h1 hb1
  generalize hS : d.sec f = s at *
  have hsl : s.data.toList.length = 64 := by rw [Array.length_toList]; exact h64
  go_wp2_with (refine conv_bytes rfl _ rfl (s.extract 0 8) rfl ?_; intro w2 cap2 hf2 hb2)
  obtain ⟨B, hB⟩ : ∃ B, w1.heap.size = B := ⟨_, rfl⟩
  rw [hB] at hf2
  obtain ⟨l8, hl8⟩ : ∃ l, (s.extract 0 8).data.toList = l := ⟨_, rfl⟩
  rw [hl8] at hf2
  rw [hB]
  have h8 : l8 = s.data.toList.take 8 := by rw [← hl8, Lib.extract_data]; simp
  have hlen8 : l8.length = 8 := by rw [h8, List.length_take, hsl]; rfl
  have hb3 := HB1.out.trans (hb2.mono HB1.out.size)
  have H2 := Lib.hid (H1.out.below hb2)
  have HB3 := Lib.hid hb3
  have HF := Lib.hid hf2
  have H8 := Lib.hid h8
  clear hf2 hb2 hb3 h8 hl8 hB
  go_loopw [8, 24] (fun nv iv wr => ∃ i : Nat, iv = .int .i64 i ∧ i ≤ 8 ∧ nv = .int .u64 (beN (l8.take i) : Nat) ∧ wr = w2) (fun _ iv _ => 8 - (intOf iv).toNat)
  case atStart => exact ⟨0, rfl, Nat.zero_le _, rfl, rfl⟩
  case round =>
    obtain ⟨i, rfl, hi, rfl, rfl⟩ := hrel
    by_cases hlt : i < 8
    · have hc := HF.out.cell i (by rw [hlen8]; exact hlt)
      have hm := beN_lt (l8.take i)
      rw [List.length_take, hlen8, Nat.min_eq_left (by omega)] at hm
      have hm2 : beN (l8.take i) < 72057594037927936 := Nat.lt_of_lt_of_le hm (by have : 256 ^ i ≤ 256 ^ 7 := Nat.pow_le_pow_right (by decide) (by omega); exact this)
      have hn := beN_take l8 i (by rw [hlen8]; exact hlt)
      have hor := or_byte64 (beN (l8.take i)) (l8.getD i 0).toNat hm2 (l8.getD i 0).toNat_lt
      rw [← hn] at hor
      have HO := Lib.hid hor
      have i1 : (i : Int) < 8 := by omega
      generalize beN (l8.take i) = m at *
      have hcl := (l8.getD i 0).toNat_lt
      generalize (l8.getD i 0).toNat = c at *
      clear hm hn hor
      go_wp2_with fail
      exact ⟨⟨i + 1, by go_num, hlt, by rw [HO.out], trivial⟩, by simp [intOf]; omega⟩
    · have ei : i = 8 := by omega
      subst ei
      have hmx := beN_lt (l8.take 8)
      rw [List.length_take, hlen8] at hmx
      have h88 : l8.take 8 = l8 := by rw [List.take_of_length_le (by rw [hlen8]; exact Nat.le_refl _)]
      rw [h88] at hmx
      have hep : epoL s.data.toList = if hdrB (beN l8) = s then beN l8 else 0 := by
        unfold epoL
        rw [← H8.out]
        by_cases q : hdr (beN l8) = s.data.toList
        · rw [if_pos q, if_pos (by unfold hdrB; rw [q])]
        · rw [if_neg q, if_neg (fun e => q (by rw [← e]; rfl))]
      rw [h88]
      have hPP := HP.out
      rw [hep] at hPP
      have hl := fun w => label_any (beN l8) w hmx
      have ehd : (⟨(hdr (beN l8)).toArray⟩ : ByteArray) = hdrB (beN l8) := rfl
      rw [ehd] at hl
      clear hep h88 ehd
      generalize hdrB (beN l8) = X at *
      generalize beN l8 = m at *
      by_cases q : X = s
      · subst q
        rw [if_pos rfl] at hPP
        subst hPP
        go_wp2_with fail
        refine (hl _).mono ?_
        rintro e w4 ⟨rfl, hb4⟩
        have H4 := Lib.hid (H2.out.below hb4)
        have HB4 := Lib.hid (HB3.out.trans (hb4.mono HB3.out.size))
        clear hb4
        go_wp2_with fail
        go_ret2
        exact ⟨rfl, H4.out, HB4.out⟩
      · rw [if_neg q] at hPP
        subst hPP
        have q1 := str_ne q
        go_wp2_with fail
        refine (hl _).mono ?_
        rintro e w4 ⟨rfl, hb4⟩
        have H4 := Lib.hid (H2.out.below hb4)
        have HB4 := Lib.hid (HB3.out.trans (hb4.mono HB3.out.size))
        clear hb4
        go_wp2_with fail
        go_ret2
        exact ⟨rfl, H4.out, HB4.out⟩
end Go.Proofs.Ytncbojocglcieaa

/- vault: halves, may, fits, blank, wipe, write. -/
namespace Go.Proofs.Ytncbojocglcieaa
open Go.RowKit
set_option linter.unusedSimpArgs false
set_option linter.unusedVariables false
/-- A bank on a device. -/
def halfV (g : Nat) (f s : Int) : Value := .agg #[.pointer (some ⟨g, 0, none⟩), .int .i64 f, .int .i64 s]
def halvesV (g : Nat) (n : Int) : Value := .agg #[.pointer (some ⟨g, 0, none⟩), .int .i64 0, .int .i64 (n / 2), .pointer (some ⟨g, 0, none⟩), .int .i64 (n / 2), .int .i64 (n / 2)]
set_option maxRecDepth 100000 in
theorem halves_any {w0 w : World} {R : Nat → Prop} {g : Nat} {d : DevD} (h : OwnR w0 w R g d) (hd : d.size ≤ 4096) :
    Calls Try.prog 68 #[.pointer (some ⟨g, 0, none⟩)] w fun e w' => e = .returned (halvesV g d.size) ∧ Below w.heap.size w w' := by
  have H := Lib.hid h
  clear h
  have hq : ((d.size : Nat) : Int).tdiv 2 = ((d.size : Nat) : Int) / 2 := Int.tdiv_eq_ediv_of_nonneg (by omega)
  have h1 : (0 : Int) ≤ (d.size : Int) / 2 := by omega
  have h2 : (d.size : Int) / 2 ≤ 2048 := by omega
  unfold halvesV
  go_enter Try.func68, Try.ntmps68
  go_wp2_with fail
  refine (ownr_size (H.out.below (by repeat (first | exact Below.refl _ _ | assumption | (refine Below.drew ?_) | (refine below_drewN ?_ _) | (refine Below.alloc ?_ (by simp; done) _) | (refine Below.alloc ?_ (by simp; omega) _))))).mono ?_
  rintro e w1 ⟨rfl, rfl⟩
  go_wp2_with fail
  refine bodyPost_ret (v := .agg #[.pointer (some ⟨g, 0, none⟩), .int .i64 0, .int .i64 ((d.size : Int) / 2), .pointer (some ⟨g, 0, none⟩), .int .i64 ((d.size : Int) / 2), .int .i64 ((d.size : Int) / 2)]) (by simp [results, Try.results68, go_sem]) rfl ?_
  exact ⟨rfl, (by repeat (first | exact Below.refl _ _ | assumption | (refine Below.drew ?_) | (refine below_drewN ?_ _) | (refine Below.alloc ?_ (by simp; done) _) | (refine Below.alloc ?_ (by simp; omega) _)))⟩
def DevD.mayErr (d : DevD) : Int := if d.left = 0 then 13 else if d.size < 4 then 1 else 0
set_option maxRecDepth 100000 in
theorem may_any {w0 w : World} {R : Nat → Prop} {g : Nat} {d : DevD} (h : OwnR w0 w R g d) :
    Calls Try.prog 67 #[.pointer (some ⟨g, 0, none⟩)] w fun e w' => e = .returned (.int .i64 d.mayErr) ∧ OwnR w0 w' R g d ∧ Below w.heap.size w w' := by
  have H := Lib.hid h
  obtain ⟨r, hr⟩ : ∃ r, d.ask (-1) = r := ⟨_, rfl⟩
  have hp : (r = 13 ∧ d.mayErr = 13) ∨ (r = 1 ∧ d.size < 4 ∧ d.mayErr = 1) ∨ (r = 1 ∧ 4 ≤ d.size ∧ d.mayErr = 0) := by
    rw [← hr]; unfold DevD.ask DevD.mayErr
    by_cases q : d.left = 0
    · rw [if_pos q, if_pos q]; simp
    · rw [if_neg q, if_neg q]
      by_cases q2 : d.size < 4
      · rw [if_pos q2]; simp [q2]
      · rw [if_neg q2]; simp; omega
  have HR := Lib.hid hr
  clear h hr
  rcases hp with ⟨rfl, hp⟩ | ⟨rfl, hs, hp⟩ | ⟨rfl, hs, hp⟩
  · rw [hp]
    clear hp
    go_enter Try.func67, Try.ntmps67
    go_wp2_with fail
    refine (ownr_get H.out (-1)).mono ?_
    rintro e w1 ⟨rfl, h1, hb1⟩
    rw [HR.out]
    have H1 := Lib.hid h1
    go_wp2_with fail
    go_ret
    exact ⟨rfl, H1.out, hb1⟩
  all_goals
    rw [hp]
    clear hp
    go_enter Try.func67, Try.ntmps67
    go_wp2_with fail
    refine (ownr_get H.out (-1)).mono ?_
    rintro e w1 ⟨rfl, h1, hb1⟩
    rw [HR.out]
    have H1 := Lib.hid h1
    go_wp2_with fail
    refine (ownr_size H1.out).mono ?_
    rintro e w2 ⟨rfl, rfl⟩
    go_wp2_with fail
    go_ret
    exact ⟨rfl, H1.out, hb1⟩
def fitsErr (s at_ : Int) (n : Nat) : Int := if n < 1 ∨ 60000 < n then 4 else if s - at_ < nframes n then 11 else 0
set_option maxRecDepth 100000 in
set_option maxHeartbeats 1000000 in
theorem fits_any (g : Nat) (f s a : Int) (x : ByteArray) (w : World) (hx : x.size ≤ 9223372036854775807) (hs : 0 ≤ s ∧ s ≤ 4096) (ha : 0 ≤ a ∧ a ≤ 4096) :
    Calls Try.prog 70 #[halfV g f s, .int .i64 a, .string x] w fun e w' => e = .returned (.int .i64 (fitsErr s a x.size)) ∧ Below w.heap.size w w' := by
  have hfr := fun w => frames_any (x.size : Int) w (by omega)
  simp only [frames_nat] at hfr
  unfold halfV fitsErr
  by_cases h1 : x.size < 1
  · rw [if_pos (Or.inl h1)]
    go_enter Try.func70, Try.ntmps70
    go_wp2_with fail
    go_ret
    exact ⟨rfl, (by repeat (first | exact Below.refl _ _ | assumption | (refine Below.drew ?_) | (refine below_drewN ?_ _) | (refine Below.alloc ?_ (by simp; done) _) | (refine Below.alloc ?_ (by simp; omega) _)))⟩
  · by_cases h2 : 60000 < x.size
    · rw [if_pos (Or.inr h2)]
      have d1 : decide ((x.size : Int) < 1) = false := decide_eq_false (by omega)
      have d2 : decide ((60000 : Int) < x.size) = true := decide_eq_true (by omega)
      go_enter Try.func70, Try.ntmps70
      go_wp2_with fail
      go_ret
      exact ⟨rfl, (by repeat (first | exact Below.refl _ _ | assumption | (refine Below.drew ?_) | (refine below_drewN ?_ _) | (refine Below.alloc ?_ (by simp; done) _) | (refine Below.alloc ?_ (by simp; omega) _)))⟩
    · rw [if_neg (by omega)]
      have d1 : decide ((x.size : Int) < 1) = false := decide_eq_false (by omega)
      have d2 : decide ((60000 : Int) < x.size) = false := decide_eq_false (by omega)
      obtain ⟨k, hk⟩ : ∃ k, nframes x.size = k := ⟨_, rfl⟩
      rw [hk] at hfr ⊢
      have hk2 : k ≤ 1000 := by rw [← hk]; unfold nframes; omega
      have HWR := Lib.hid (show IntKind.i64.wrap (s - a) = s - a from IntWalk.i64_in _ (by omega))
      clear hk h1 h2
      by_cases h3 : s - a < k
      · rw [if_pos h3]
        have d3 : decide (s - a < (k : Int)) = true := decide_eq_true h3
        have H3 := Lib.hid h3
        clear h3
        go_enter Try.func70, Try.ntmps70
        go_wp2_with fail
        go_region_with (go_at_call 24; refine (hfr _).mono ?_; rintro e w3 ⟨rfl, rfl⟩)
        all_goals go_wp2
        all_goals first
          | (exfalso; have := H3.out; have := HWR.out; omega)
          | (go_ret; exact ⟨rfl, (by repeat (first | exact Below.refl _ _ | assumption | (refine Below.drew ?_) | (refine below_drewN ?_ _) | (refine Below.alloc ?_ (by simp; done) _) | (refine Below.alloc ?_ (by simp; omega) _)))⟩)
      · rw [if_neg h3]
        have d3 : decide (s - a < (k : Int)) = false := decide_eq_false h3
        have H3 := Lib.hid h3
        clear h3
        go_enter Try.func70, Try.ntmps70
        go_wp2_with fail
        go_region_with (go_at_call 24; refine (hfr _).mono ?_; rintro e w3 ⟨rfl, rfl⟩)
        all_goals go_wp2
        all_goals first
          | (exfalso; have := H3.out; have := HWR.out; omega)
          | (go_ret; exact ⟨rfl, (by repeat (first | exact Below.refl _ _ | assumption | (refine Below.drew ?_) | (refine below_drewN ?_ _) | (refine Below.alloc ?_ (by simp; done) _) | (refine Below.alloc ?_ (by simp; omega) _)))⟩)
end Go.Proofs.Ytncbojocglcieaa

/- vault: all. -/
namespace Go.Proofs.Ytncbojocglcieaa
open Go.RowKit
set_option linter.unusedSimpArgs false
set_option linter.unusedVariables false
/-- A step of a device, handed on as a function. -/
structure StepFn where
  f : Nat
  first : Array Value
  cap : Array Value
  st : DevD → DevD × Int
def StepFn.val (x : StepFn) : Value := .func (.func x.f) x.first x.cap
/-- Steps, up to the first error. -/
def DevD.seq : DevD → List (DevD → DevD × Int) → DevD × Int
  | d, [] => (d, 0)
  | d, s :: l => if (s d).2 = 0 then (s d).1.seq l else s d
def VAllRel (w0 wb : World) (R : Nat → Prop) (g : Nat) (Good : Nat → DevD → Prop) (d : DevD) (w : World) (fs : List StepFn) (iv : Value) (wr : World) : Prop :=
  ∃ (i : Nat) (D : DevD), iv = .int .i64 i ∧ i ≤ fs.length ∧ OwnR w0 wr R g D ∧ Held w0 R wb wr ∧ Held w0 R w wr ∧ Good i D ∧ d.seq (fs.map (·.st)) = D.seq ((fs.drop i).map (·.st))
set_option maxRecDepth 100000 in
set_option maxHeartbeats 2000000 in
theorem all_any {w0 wb w : World} {R : Nat → Prop} {g : Nat} {d : DevD} (Good : Nat → DevD → Prop) (s : Nat) (fs : List StepFn) (hn : fs.length ≤ 100)
    (hcell : ∀ w, Held w0 R wb w → ∀ i x, fs[i]? = some x → w.cell? ⟨s, i, none⟩ = some x.val)
    (heg : ∀ x ∈ fs, ∀ args w, (callFunc x.f args).run Try.prog w = .ok (.enter x.f args) w)
    (hstep : ∀ i x, fs[i]? = some x → ∀ d w, Good i d → OwnR w0 w R g d → Held w0 R wb w →
      Calls Try.prog x.f (x.first ++ x.cap) w fun e w' => e = .returned (.int .i64 (x.st d).2) ∧ OwnR w0 w' R g (x.st d).1 ∧ Held w0 R w w' ∧ ((x.st d).2 = 0 → Good (i + 1) (x.st d).1))
    (h : OwnR w0 w R g d) (hh : Held w0 R wb w) (hg : Good 0 d) :
    Calls Try.prog 71 #[.slice (some ⟨s, 0, none⟩) fs.length fs.length] w fun e w' =>
      e = .returned (.int .i64 (d.seq (fs.map (·.st))).2) ∧ OwnR w0 w' R g (d.seq (fs.map (·.st))).1 ∧ Held w0 R w w' := by
  have H := Lib.hid h
  have HH := Lib.hid hh
  have HG := Lib.hid hg
  have HC := Lib.hid hcell
  have HE := Lib.hid heg
  have HS := Lib.hid hstep
  clear h hh hg hcell heg hstep
  go_enter Try.func71, Try.ntmps71
  go_wp2_with fail
  go_loopw [8] (fun iv wr => VAllRel w0 wb R g Good d w fs iv wr) (fun iv _ => fs.length - (intOf iv).toNat)
  case atStart => exact ⟨0, d, rfl, Nat.zero_le _, H.out, HH.out, Held.refl _ _ _, HG.out, rfl⟩
  case round =>
    obtain ⟨i, D, rfl, hi, hO, hA, hB, hG, hs⟩ := hrel
    have HO := Lib.hid hO
    have HA := Lib.hid hA
    have HB := Lib.hid hB
    have HGD := Lib.hid hG
    have HSQ := Lib.hid hs
    clear hO hA hB hG hs
    rcases Nat.lt_or_ge i fs.length with hlt | hge
    · obtain ⟨x, hx⟩ : ∃ x, fs[i]? = some x := ⟨_, List.getElem?_eq_getElem hlt⟩
      have hcx := HC.out _ HA.out i x hx
      have HX := Lib.hid hx
      have hex := HE.out x (List.mem_of_getElem? hx)
      obtain ⟨fn, fi, ca, st⟩ := x
      unfold StepFn.val at hcx
      simp only at hcx hex
      clear hx
      go_wp2_with fail
      refine (HS.out i ⟨fn, fi, ca, st⟩ HX.out D _ HGD.out HO.out HA.out).mono ?_
      rintro e w1 ⟨rfl, h1, hh1, hg1⟩
      have hsq : (D.seq ((fs.drop i).map (·.st))) = if (st D).2 = 0 then (st D).1.seq ((fs.drop (i + 1)).map (·.st)) else st D := by
        rw [List.drop_eq_getElem_cons hlt, List.map_cons, DevD.seq]
        have := HX.out
        rw [List.getElem?_eq_getElem hlt] at this
        simp only [Option.some.injEq] at this
        rw [this]
      have H1 := Lib.hid h1
      have HH1 := Lib.hid hh1
      have HG1 := Lib.hid hg1
      have HSE := Lib.hid hsq
      obtain ⟨E, hE⟩ : ∃ E, (st D).2 = E := ⟨_, rfl⟩
      simp only [hE]
      have HEE := Lib.hid hE
      clear h1 hh1 hg1 hsq hE hcx hex
      by_cases e0 : E = 0
      · subst e0
        go_wp2_with fail
        go_roundw
        case rel => exact ⟨i + 1, (st D).1, rfl, hlt, H1.out, HA.out.trans HH1.out, HB.out.trans HH1.out, HG1.out HEE.out, by rw [HSQ.out, HSE.out, if_pos HEE.out]⟩
        case measure => simp [intOf]; omega
      · go_wp2_with fail
        go_ret
        rw [HSQ.out, HSE.out, if_neg (by rw [HEE.out]; exact e0)]
        exact ⟨by rw [HEE.out]; rfl, H1.out, HB.out.trans HH1.out⟩
    · have e : i = fs.length := by omega
      subst e
      go_wp2_with fail
      go_ret
      rw [HSQ.out, List.drop_length]
      exact ⟨rfl, HO.out, HB.out⟩
end Go.Proofs.Ytncbojocglcieaa

/- vault: blank, wipe, write, begin. -/
namespace Go.Proofs.Ytncbojocglcieaa
open Go.RowKit
set_option linter.unusedSimpArgs false
set_option linter.unusedVariables false
def DevD.setE (d : DevD) (f : Int) (n : Nat) : DevD × Int := (if d.putErr f (hdrB n) = 0 then d.put f (hdrB n) else d, d.putErr f (hdrB n))
def DevD.fl (d : DevD) : DevD × Int := (if d.left = 0 then d else d.flush, if d.left = 0 then 13 else 0)
def DevD.wr1 (d : DevD) (f s : Int) (r : ByteArray) : DevD × Int := ((d.write f s 1 r).1, (d.write f s 1 r).2.2)
/-- A bank is given an image and an epoch. -/
def DevD.begin (d : DevD) (f s : Int) (r : ByteArray) (n : Nat) : DevD × Int :=
  d.seq [fun d => d.setE f 0, DevD.fl, fun d => d.wipe f s 1, fun d => d.wr1 f s r, DevD.fl, fun d => d.setE f n, DevD.fl]
/-- What each step leaves. -/
def StepOk (st : DevD → DevD × Int) : Prop := ∀ D : DevD, D.size ≤ 4096 → (st D).1.size = D.size ∧ (st D).1.queue.length ≤ D.queue.length + 5000 ∧ (st D).1.left ≤ D.left
theorem setE_ok (f : Int) (n : Nat) : StepOk fun d => d.setE f n := by
  intro D _
  unfold DevD.setE
  simp only
  obtain ⟨h1, h2, h3⟩ := put_parts D f (hdrB n)
  split
  · exact ⟨h1, by omega, h3⟩
  · exact ⟨rfl, by omega, Int.le_refl _⟩
theorem fl_ok : StepOk DevD.fl := by
  intro D _
  unfold DevD.fl
  simp only
  split
  · exact ⟨rfl, by omega, Int.le_refl _⟩
  · exact ⟨rfl, by show (0 : Nat) ≤ _; omega, Int.le_refl _⟩
theorem wipes_parts : ∀ (n : Nat) (d : DevD) (pos : Int), (d.wipes pos n).1.size = d.size ∧ (d.wipes pos n).1.queue.length ≤ d.queue.length + n ∧ (d.wipes pos n).1.left ≤ d.left := by
  intro n
  induction n with
  | zero => intro d pos; exact ⟨rfl, Nat.le_refl _, Int.le_refl _⟩
  | succ n ih =>
    intro d pos
    unfold DevD.wipes
    split
    · exact ⟨rfl, Nat.le_add_right _ _, Int.le_refl _⟩
    · split
      · obtain ⟨h1, h2, h3⟩ := ih d (pos + 1)
        exact ⟨h1, by omega, h3⟩
      · obtain ⟨h1, h2, h3⟩ := ih (d.put pos zsec) (pos + 1)
        obtain ⟨q1, q2, q3⟩ := put_parts d pos zsec
        exact ⟨by rw [h1, q1], by omega, by omega⟩
theorem wipe_ok (f s a : Int) : StepOk fun d => d.wipe f s a := by
  intro D hD
  simp only
  unfold DevD.wipe
  split
  · exact ⟨rfl, by simp, Int.le_refl _⟩
  · rename_i h0
    by_cases ho : D.on f s = false
    · rw [if_pos ho]; exact ⟨rfl, by simp, Int.le_refl _⟩
    · rw [if_neg ho]
      have ho' : D.on f s = true := by simpa using ho
      unfold DevD.on at ho'
      rw [decide_eq_true_eq] at ho'
      obtain ⟨h1, h2, h3⟩ := wipes_parts (s - max a 1).toNat D (f + max a 1)
      exact ⟨h1, by omega, h3⟩
theorem wr1_ok (f s : Int) (r : ByteArray) : StepOk fun d => d.wr1 f s r := by
  intro D hD
  simp only
  unfold DevD.wr1 DevD.write
  by_cases he : D.wErr f s 1 r.size ≠ 0
  · rw [if_pos he]; exact ⟨rfl, by simp, Int.le_refl _⟩
  · rw [if_neg he]
    have hr : r.size ≤ 60000 := by
      unfold DevD.wErr at he
      simp only [ne_eq, Decidable.not_not] at he
      split at he; · cases he
      split at he; · cases he
      split at he; · cases he
      omega
    obtain ⟨h1, h2, h3⟩ := puts_size D (cutL r.data.toList) (f + 1)
    rw [cutL_length] at h2
    have hl : r.data.toList.length = r.size := by rw [Array.length_toList]; rfl
    rw [hl] at h2
    have hn : nframes r.size ≤ 1000 := by unfold nframes; omega
    split <;> exact ⟨h1, by simp only; omega, by simp only; omega⟩
/-- The steps of begin, as they are handed on. -/
def beginFns (g : Nat) (f s : Int) (r : ByteArray) (n B : Nat) : List StepFn :=
  [⟨72, #[halfV g f s], #[], fun d => d.setE f 0⟩,
   ⟨20, #[.pointer (some ⟨g, 0, none⟩)], #[], DevD.fl⟩,
   ⟨73, #[halfV g f s], #[], fun d => d.wipe f s 1⟩,
   ⟨85, #[], #[.pointer (some ⟨B, 0, none⟩), .pointer (some ⟨B + 1, 0, none⟩)], fun d => d.wr1 f s r⟩,
   ⟨20, #[.pointer (some ⟨g, 0, none⟩)], #[], DevD.fl⟩,
   ⟨86, #[], #[.pointer (some ⟨B, 0, none⟩), .pointer (some ⟨B + 1 + 1, 0, none⟩)], fun d => d.setE f n⟩,
   ⟨20, #[.pointer (some ⟨g, 0, none⟩)], #[], DevD.fl⟩]
theorem OwnR.with_new {w0 w w' : World} {R : Nat → Prop} {g : Nat} {d : DevD} (h : OwnR w0 w R g d) (hb : Below w.heap.size w w') : OwnR w0 w' (fun k => R k ∨ (w.heap.size ≤ k ∧ k < w'.heap.size)) g d :=
  h.turn (keepBelow hb) fun k q => by
    rcases q with q | ⟨q1, q2⟩
    · exact ⟨Or.inl q, Nat.lt_of_lt_of_le (h.lt q) hb.size⟩
    · exact ⟨Or.inr q1, q2⟩
section
variable {w0 w : World} {R : Nat → Prop} {g : Nat} {d : DevD}
theorem Held.alloc' {w0 w w' : World} {R : Nat → Prop} (h : OwnR w0 w R g d) (hb : Below w.heap.size w w') : Held w0 R w w' := Held.below (fun k q => h.lt q) hb
set_option maxRecDepth 100000 in
theorem blank_any (f s : Int) (h : OwnR w0 w R g d) (hq : d.queue.length ≤ 1000000) (hleft : d.left ≤ 9223372036854775807) :
    Calls Try.prog 72 #[halfV g f s] w fun e w' => e = .returned (.int .i64 (d.setE f 0).2) ∧ OwnR w0 w' R g (d.setE f 0).1 ∧ Held w0 R w w' := by
  have H := Lib.hid h
  clear h
  obtain ⟨X, hX⟩ : ∃ X, d.setE f 0 = X := ⟨_, rfl⟩
  rw [hX]
  have HX := Lib.hid hX
  clear hX
  unfold halfV
  go_enter Try.func72, Try.ntmps72
  go_wp2_with fail
  have hb := (show Below w.heap.size w (w.alloc (Obj.cells #[.pointer (some ⟨g, 0, none⟩), .int .i64 f, .int .i64 s] 118)) from (by repeat (first | exact Below.refl _ _ | assumption | (refine Below.drew ?_) | (refine below_drewN ?_ _) | (refine Below.alloc ?_ (by simp; done) _) | (refine Below.alloc ?_ (by simp; omega) _))))
  refine (setepoch_any f 0 (H.out.below hb) (by decide) hq hleft).mono ?_
  rintro e w1 ⟨rfl, h1, hh1⟩
  have H1 := Lib.hid (show OwnR w0 w1 R g (d.setE f 0).1 from h1)
  have HH := Lib.hid ((Held.alloc' H.out hb).trans hh1)
  have HE := Lib.hid (show d.putErr f (hdrB 0) = X.2 from by rw [← HX.out]; rfl)
  rw [HE.out]
  rw [HX.out] at H1
  clear h1 hh1 hb
  go_wp2_with fail
  go_ret
  exact ⟨rfl, H1.out, HH.out⟩
set_option maxRecDepth 100000 in
theorem vwipe_any (f s : Int) (h : OwnR w0 w R g d) (hd : d.size ≤ 4096) (hq : d.queue.length ≤ 900000) (hleft : d.left ≤ 9223372036854775807) (hs : s ≤ 9223372036854775807) :
    Calls Try.prog 73 #[halfV g f s] w fun e w' => e = .returned (.int .i64 (d.wipe f s 1).2) ∧ OwnR w0 w' R g (d.wipe f s 1).1 ∧ Held w0 R w w' := by
  have H := Lib.hid h
  clear h
  obtain ⟨X, hX⟩ : ∃ X, d.wipe f s 1 = X := ⟨_, rfl⟩
  rw [hX]
  have HX := Lib.hid hX
  clear hX
  unfold halfV
  go_enter Try.func73, Try.ntmps73
  go_wp2_with fail
  have hb := (show Below w.heap.size w (w.alloc (Obj.cells #[.pointer (some ⟨g, 0, none⟩), .int .i64 f, .int .i64 s] 118)) from (by repeat (first | exact Below.refl _ _ | assumption | (refine Below.drew ?_) | (refine below_drewN ?_ _) | (refine Below.alloc ?_ (by simp; done) _) | (refine Below.alloc ?_ (by simp; omega) _))))
  refine (wipe_any f s 1 (H.out.below hb) hd hq hleft hs (by decide)).mono ?_
  rintro e w1 ⟨rfl, h1, hh1⟩
  rw [HX.out] at h1
  rw [HX.out]
  have H1 := Lib.hid h1
  have HH := Lib.hid ((Held.alloc' H.out hb).trans hh1)
  clear h1 hh1 hb
  go_wp2_with fail
  go_ret
  exact ⟨rfl, H1.out, HH.out⟩
set_option maxRecDepth 100000 in
theorem vwrite_any (f s a : Int) (r : ByteArray) (h : OwnR w0 w R g d) (hd : d.size ≤ 4096) (hq : d.queue.length ≤ 900000) (hleft : d.left ≤ 9223372036854775807) (hr : r.size ≤ 9223372036854775807) (hs : s ≤ 9223372036854775807) (ha : a ≤ 9223372036854775807) :
    Calls Try.prog 76 #[halfV g f s, .int .i64 a, .string r] w fun e w' => e = .returned (.tuple #[.int .i64 (d.write f s a r).2.1, .int .i64 (d.write f s a r).2.2]) ∧ OwnR w0 w' R g (d.write f s a r).1 ∧ Held w0 R w w' := by
  have H := Lib.hid h
  clear h
  obtain ⟨X, hX⟩ : ∃ X, d.write f s a r = X := ⟨_, rfl⟩
  rw [hX]
  have HX := Lib.hid hX
  clear hX
  unfold halfV
  go_enter Try.func76, Try.ntmps76
  go_wp2_with fail
  have hb := (show Below w.heap.size w (w.alloc (Obj.cells #[.pointer (some ⟨g, 0, none⟩), .int .i64 f, .int .i64 s] 118)) from (by repeat (first | exact Below.refl _ _ | assumption | (refine Below.drew ?_) | (refine below_drewN ?_ _) | (refine Below.alloc ?_ (by simp; done) _) | (refine Below.alloc ?_ (by simp; omega) _))))
  refine (write_all f s a r (H.out.below hb) hd hq hleft hr hs ha).mono ?_
  rintro e w1 ⟨rfl, h1, hh1⟩
  rw [HX.out] at h1
  rw [HX.out]
  have H1 := Lib.hid h1
  have HH := Lib.hid ((Held.alloc' H.out hb).trans hh1)
  clear h1 hh1 hb
  go_wp2_with fail
  go_ret2
  exact ⟨rfl, H1.out, HH.out⟩
set_option maxRecDepth 100000 in
/-- The closure that writes the image. -/
theorem clo1_any (f s : Int) (r : ByteArray) (a b : Nat) (h : OwnR w0 w R g d) (hd : d.size ≤ 4096) (hq : d.queue.length ≤ 900000) (hleft : d.left ≤ 9223372036854775807) (hr : r.size ≤ 9223372036854775807) (hs : s ≤ 9223372036854775807)
    (ha : w.heap[a]? = some (.cells #[.pointer (some ⟨g, 0, none⟩), .int .i64 f, .int .i64 s] 118 (0, 0))) (hb : w.heap[b]? = some (.cells #[.string r] 9 (0, 0))) :
    Calls Try.prog 85 #[.pointer (some ⟨a, 0, none⟩), .pointer (some ⟨b, 0, none⟩)] w fun e w' => e = .returned (.int .i64 (d.wr1 f s r).2) ∧ OwnR w0 w' R g (d.wr1 f s r).1 ∧ Held w0 R w w' := by
  have H := Lib.hid h
  have a0 := (m_cells ha).1 0
  have a1 := (m_cells ha).1 1
  have a2 := (m_cells ha).1 2
  have b0 := (m_cells hb).1 0
  clear h ha hb
  obtain ⟨X, hX⟩ : ∃ X, d.write f s 1 r = X := ⟨_, rfl⟩
  unfold DevD.wr1
  rw [hX]
  have HX := Lib.hid hX
  clear hX
  go_enter Try.func85, Try.ntmps85
  go_wp2_with fail
  refine (vwrite_any f s 1 r H.out hd hq hleft hr hs (by decide)).mono ?_
  rintro e w1 ⟨rfl, h1, hh1⟩
  rw [HX.out] at h1
  rw [HX.out]
  have H1 := Lib.hid h1
  have HH := Lib.hid hh1
  clear h1 hh1
  go_wp2_with fail
  go_ret
  exact ⟨rfl, H1.out, HH.out⟩
set_option maxRecDepth 100000 in
/-- The closure that writes the epoch. -/
theorem clo2_any (f s : Int) (n : Nat) (a b : Nat) (h : OwnR w0 w R g d) (hq : d.queue.length ≤ 1000000) (hleft : d.left ≤ 9223372036854775807) (hn : n < 18446744073709551616)
    (ha : w.heap[a]? = some (.cells #[.pointer (some ⟨g, 0, none⟩), .int .i64 f, .int .i64 s] 118 (0, 0))) (hb : w.heap[b]? = some (.cells #[.int .u64 n] 54 (0, 0))) :
    Calls Try.prog 86 #[.pointer (some ⟨a, 0, none⟩), .pointer (some ⟨b, 0, none⟩)] w fun e w' => e = .returned (.int .i64 (d.setE f n).2) ∧ OwnR w0 w' R g (d.setE f n).1 ∧ Held w0 R w w' := by
  have H := Lib.hid h
  have a0 := (m_cells ha).1 0
  have a1 := (m_cells ha).1 1
  have b0 := (m_cells hb).1 0
  clear h ha hb
  obtain ⟨X, hX⟩ : ∃ X, d.setE f n = X := ⟨_, rfl⟩
  rw [hX]
  have HX := Lib.hid hX
  clear hX
  go_enter Try.func86, Try.ntmps86
  go_wp2_with fail
  refine (setepoch_any f n H.out hn hq hleft).mono ?_
  rintro e w1 ⟨rfl, h1, hh1⟩
  have H1 := Lib.hid (show OwnR w0 w1 R g (d.setE f n).1 from h1)
  have HE := Lib.hid (show d.putErr f (hdrB n) = X.2 from by rw [← HX.out]; rfl)
  have HH := Lib.hid hh1
  rw [HE.out]
  rw [HX.out] at H1
  clear h1 hh1
  go_wp2_with fail
  go_ret
  exact ⟨rfl, H1.out, HH.out⟩
set_option maxRecDepth 100000 in
theorem begin_any (f s : Int) (r : ByteArray) (n : Nat) (h : OwnR w0 w R g d) (hd : d.size ≤ 4096) (hq : d.queue.length ≤ 500000) (hleft : d.left ≤ 9223372036854775807) (hr : r.size ≤ 9223372036854775807) (hs : s ≤ 9223372036854775807) (hn : n < 18446744073709551616) :
    Calls Try.prog 74 #[halfV g f s, .string r, .int .u64 n] w fun e w' => e = .returned (.int .i64 (d.begin f s r n).2) ∧ OwnR w0 w' R g (d.begin f s r n).1 ∧ Held w0 R w w' := by
  have H := Lib.hid h
  clear h
  obtain ⟨X, hX⟩ : ∃ X, d.begin f s r n = X := ⟨_, rfl⟩
  rw [hX]
  have HX := Lib.hid hX
  clear hX
  unfold halfV
  go_enter Try.func74, Try.ntmps74
  go_wp2_with fail
  generalize hwb : World.alloc (World.alloc (World.alloc (World.alloc w _) _) _) _ = wb
  have hb : Below w.heap.size w wb := by
    rw [← hwb]
    exact ((((Below.refl _ _).alloc (Nat.le_refl _) _).alloc (by simp) _).alloc (by simp; omega) _).alloc (by simp; omega) _
  have hsz : wb.heap.size = w.heap.size + 4 := by rw [← hwb]; simp
  have k0 : wb.heap[w.heap.size]? = some (.cells #[.pointer (some ⟨g, 0, none⟩), .int .i64 f, .int .i64 s] 118 (0, 0)) := by rw [← hwb]; exact m_old _ (m_old _ (m_old _ (m_alloc w _ _ rfl)))
  have k1 : wb.heap[w.heap.size + 1]? = some (.cells #[.string r] 9 (0, 0)) := by rw [← hwb]; exact m_old _ (m_old _ (m_alloc _ _ _ (by simp)))
  have k2 : wb.heap[w.heap.size + 1 + 1]? = some (.cells #[.int .u64 n] 54 (0, 0)) := by rw [← hwb]; exact m_old _ (m_alloc _ _ _ (by simp))
  have k3 : wb.heap[w.heap.size + 1 + 1 + 1]? = some (.cells ((beginFns g f s r n w.heap.size).map StepFn.val).toArray 32 (0, 0)) := by rw [← hwb]; exact m_alloc _ _ _ (by simp)
  clear hwb
  have hO : OwnR w0 wb (fun k => R k ∨ (w.heap.size ≤ k ∧ k < wb.heap.size)) g d := H.out.with_new hb
  have hall := all_any (wb := wb) (w := wb) (fun i D => D.size = d.size ∧ D.queue.length ≤ d.queue.length + 5000 * i ∧ D.left ≤ d.left) (w.heap.size + 1 + 1 + 1) (beginFns g f s r n w.heap.size) (by simp [beginFns]) ?c1 ?c2 ?c3 hO (Held.refl _ _ _) ⟨rfl, Nat.le_add_right _ _, Int.le_refl _⟩
  case c1 =>
    intro w1 hh i x hx
    rw [(m_cells ((hh.block _ (Or.inr ⟨by omega, by omega⟩)).trans k3)).1 i]
    simp [hx]
  case c2 =>
    intro x hx args w
    simp only [beginFns, List.mem_cons, List.not_mem_nil, or_false] at hx
    rcases hx with rfl | rfl | rfl | rfl | rfl | rfl | rfl
    · exact enters_of Try.func72 (by kernel_rfl) rfl args w
    · exact enters_of Try.func20 (by kernel_rfl) rfl args w
    · exact enters_of Try.func73 (by kernel_rfl) rfl args w
    · exact enters_of Try.func85 (by kernel_rfl) rfl args w
    · exact enters_of Try.func20 (by kernel_rfl) rfl args w
    · exact enters_of Try.func86 (by kernel_rfl) rfl args w
    · exact enters_of Try.func20 (by kernel_rfl) rfl args w
  case c3 =>
    intro i x hx D w1 hG hO1 hh
    obtain ⟨g1, g2, g3⟩ := hG
    have q0 := hh.block w.heap.size (Or.inr ⟨by omega, by omega⟩)
    have q1 := hh.block (w.heap.size + 1) (Or.inr ⟨by omega, by omega⟩)
    have q2 := hh.block (w.heap.size + 1 + 1) (Or.inr ⟨by omega, by omega⟩)
    rw [k0] at q0
    rw [k1] at q1
    rw [k2] at q2
    have hi : i < 7 := (List.getElem?_eq_some_iff.1 hx).1
    have hxm := List.mem_of_getElem? hx
    have hok : StepOk x.st := by
      simp only [beginFns, List.mem_cons, List.not_mem_nil, or_false] at hxm
      rcases hxm with rfl | rfl | rfl | rfl | rfl | rfl | rfl
      · exact setE_ok f 0
      · exact fl_ok
      · exact wipe_ok f s 1
      · exact wr1_ok f s r
      · exact fl_ok
      · exact setE_ok f n
      · exact fl_ok
    obtain ⟨o1, o2, o3⟩ := hok D (by omega)
    have hcall : Calls Try.prog x.f (x.first ++ x.cap) w1 fun e w' => e = .returned (.int .i64 (x.st D).2) ∧ OwnR w0 w' (fun k => R k ∨ (w.heap.size ≤ k ∧ k < wb.heap.size)) g (x.st D).1 ∧ Held w0 (fun k => R k ∨ (w.heap.size ≤ k ∧ k < wb.heap.size)) w1 w' := by
      simp only [beginFns, List.mem_cons, List.not_mem_nil, or_false] at hxm
      rcases hxm with rfl | rfl | rfl | rfl | rfl | rfl | rfl
      · exact blank_any f s hO1 (by omega) (by omega)
      · exact ownr_flush hO1
      · exact vwipe_any f s hO1 (by omega) (by omega) (by omega) hs
      · exact clo1_any f s r _ _ hO1 (by omega) (by omega) (by omega) hr hs q0 q1
      · exact ownr_flush hO1
      · exact clo2_any f s n _ _ hO1 (by omega) (by omega) hn q0 q2
      · exact ownr_flush hO1
    refine hcall.mono ?_
    rintro e w' ⟨e1, e2, e3⟩
    exact ⟨e1, e2, e3, fun _ => ⟨by omega, by omega, by omega⟩⟩
  refine hall.mono ?_
  rintro e w2 ⟨rfl, h2, hh2⟩
  have hbg : d.seq ((beginFns g f s r n w.heap.size).map (·.st)) = d.begin f s r n := rfl
  rw [hbg, HX.out] at h2 ⊢
  have H2 := Lib.hid (h2.sub (fun k q => Or.inl q))
  have HH := Lib.hid ((Held.alloc' H.out hb).trans ⟨hh2.size, fun k q => hh2.block k (Or.inl q)⟩)
  clear h2 hh2 hall k0 k1 k2 k3 hO hb hsz hbg
  go_wp2_with fail
  go_ret
  exact ⟨rfl, H2.out, HH.out⟩
end
end Go.Proofs.Ytncbojocglcieaa

/- vault: Format. -/
namespace Go.Proofs.Ytncbojocglcieaa
open Go.RowKit
set_option linter.unusedSimpArgs false
set_option linter.unusedVariables false
def DevD.format (d : DevD) (r : ByteArray) : DevD × Int :=
  if d.mayErr ≠ 0 then (d, d.mayErr) else
    if fitsErr ((d.size : Int) / 2) 1 r.size ≠ 0 then (d, fitsErr ((d.size : Int) / 2) 1 r.size) else
      if (d.seq [fun d => d.setE 0 0, fun D => D.setE ((d.size : Int) / 2) 0, DevD.fl, fun D => D.wipe ((d.size : Int) / 2) ((d.size : Int) / 2) 1]).2 ≠ 0 then d.seq [fun d => d.setE 0 0, fun D => D.setE ((d.size : Int) / 2) 0, DevD.fl, fun D => D.wipe ((d.size : Int) / 2) ((d.size : Int) / 2) 1]
      else (d.seq [fun d => d.setE 0 0, fun D => D.setE ((d.size : Int) / 2) 0, DevD.fl, fun D => D.wipe ((d.size : Int) / 2) ((d.size : Int) / 2) 1]).1.begin 0 ((d.size : Int) / 2) r 1
def fmtFns (g : Nat) (n : Int) : List StepFn :=
  [⟨72, #[halfV g 0 n], #[], fun d => d.setE 0 0⟩,
   ⟨72, #[halfV g n n], #[], fun d => d.setE n 0⟩,
   ⟨20, #[.pointer (some ⟨g, 0, none⟩)], #[], DevD.fl⟩,
   ⟨73, #[halfV g n n], #[], fun d => d.wipe n n 1⟩]
theorem seq_ok : ∀ (l : List (DevD → DevD × Int)), (∀ st ∈ l, StepOk st) → ∀ D : DevD, D.size ≤ 4096 → (D.seq l).1.size = D.size ∧ (D.seq l).1.queue.length ≤ D.queue.length + 5000 * l.length ∧ (D.seq l).1.left ≤ D.left := by
  intro l
  induction l with
  | nil => intro _ D _; rw [DevD.seq]; exact ⟨rfl, Nat.le_add_right _ _, Int.le_refl _⟩
  | cons st l ih =>
    intro h D hD
    obtain ⟨q1, q2, q3⟩ := h st (List.mem_cons_self ..) D hD
    have ih1 := ih (fun x hx => h x (List.mem_cons_of_mem _ hx)) (st D).1 (by rw [q1]; exact hD)
    rw [DevD.seq, List.length_cons, Nat.mul_succ]
    generalize 5000 * l.length = m at *
    split
    · obtain ⟨p1, p2, p3⟩ := ih1
      exact ⟨p1.trans q1, Nat.le_trans p2 (by rw [Nat.add_comm m, ← Nat.add_assoc]; exact Nat.add_le_add_right q2 m), Int.le_trans p3 q3⟩
    · exact ⟨q1, Nat.le_trans q2 (Nat.add_le_add_left (Nat.le_add_left _ _) _), q3⟩
section
variable {w0 w : World} {R : Nat → Prop} {g : Nat} {d : DevD}
set_option maxRecDepth 100000 in
theorem format_any (r : ByteArray) (h : OwnR w0 w R g d) (hd : d.size ≤ 4096) (hq : d.queue.length ≤ 400000) (hleft : d.left ≤ 9223372036854775807) (hr : r.size ≤ 9223372036854775807) :
    Calls Try.prog 47 #[.pointer (some ⟨g, 0, none⟩), .string r] w fun e w' => e = .returned (.int .i64 (d.format r).2) ∧ OwnR w0 w' R g (d.format r).1 ∧ Held w0 R w w' := by
  have H := Lib.hid h
  clear h
  obtain ⟨X, hX⟩ : ∃ X, d.format r = X := ⟨_, rfl⟩
  rw [hX]
  have HX := Lib.hid hX
  clear hX
  obtain ⟨n, hn⟩ : ∃ n : Int, (d.size : Int) / 2 = n := ⟨_, rfl⟩
  have hn0 : 0 ≤ n := by omega
  have hn1 : n ≤ 2048 := by omega
  have hv : halvesV g d.size = .agg #[.pointer (some ⟨g, 0, none⟩), .int .i64 0, .int .i64 n, .pointer (some ⟨g, 0, none⟩), .int .i64 n, .int .i64 n] := by unfold halvesV; rw [hn]
  have HV := Lib.hid hv
  have HN := Lib.hid hn
  clear hv hn
  go_enter Try.func47, Try.ntmps47
  go_wp2_with fail
  refine (may_any H.out).mono ?_
  rintro e w1 ⟨rfl, h1, hb1⟩
  have H1 := Lib.hid h1
  have HB1 := Lib.hid hb1
  clear h1 hb1
  by_cases e1 : d.mayErr = 0
  · rw [e1]
    go_wp2_with fail
    refine (halves_any H1.out hd).mono ?_
    rintro e w2 ⟨rfl, hb2⟩
    rw [HV.out]
    have H2 := Lib.hid (H1.out.below hb2)
    have HB2 := Lib.hid hb2
    clear hb2
    go_wp2_with fail
    generalize hw3 : World.alloc w2 _ = w3
    have hb3 : Below w2.heap.size w2 w3 := by rw [← hw3]; exact (Below.refl _ _).alloc (Nat.le_refl _) _
    have kl : w3.heap[w2.heap.size]? = some (.cells #[.pointer (some ⟨g, 0, none⟩), .int .i64 0, .int .i64 n, .pointer (some ⟨g, 0, none⟩), .int .i64 n, .int .i64 n] 119 (0, 0)) := by rw [← hw3]; exact m_alloc _ _ _ rfl
    have H3 := Lib.hid (H2.out.below hb3)
    have HB3 := Lib.hid hb3
    clear hw3 hb3
    refine (fits_any g 0 n 1 r w3 hr ⟨hn0, by omega⟩ ⟨by decide, by decide⟩).mono ?_
    rintro e w4 ⟨rfl, hb4⟩
    have HB4 := Lib.hid (HB3.out.trans (hb4.mono HB3.out.size))
    have KL := Lib.hid ((hb4.block _ (m_lt kl)).trans kl)
    have H4 := Lib.hid (H3.out.below hb4)
    have c0 : w4.cell? ⟨w2.heap.size, 0, none⟩ = some (.pointer (some ⟨g, 0, none⟩)) := (m_cells KL.out).1 0
    have c1 : w4.cell? ⟨w2.heap.size, 1, none⟩ = some (.int .i64 0) := (m_cells KL.out).1 1
    have c2 : w4.cell? ⟨w2.heap.size, 2, none⟩ = some (.int .i64 n) := (m_cells KL.out).1 2
    have c3 : w4.cell? ⟨w2.heap.size, 3, none⟩ = some (.pointer (some ⟨g, 0, none⟩)) := (m_cells KL.out).1 3
    have c4 : w4.cell? ⟨w2.heap.size, 4, none⟩ = some (.int .i64 n) := (m_cells KL.out).1 4
    have c5 : w4.cell? ⟨w2.heap.size, 5, none⟩ = some (.int .i64 n) := (m_cells KL.out).1 5
    clear hb4 kl
    have HF0 := Lib.hid (show X = if fitsErr n 1 r.size ≠ 0 then (d, fitsErr n 1 r.size) else if (d.seq ((fmtFns g n).map (·.st))).2 ≠ 0 then d.seq ((fmtFns g n).map (·.st)) else (d.seq ((fmtFns g n).map (·.st))).1.begin 0 n r 1 from by
      rw [← HX.out]; unfold DevD.format; rw [if_neg (by rw [e1]; decide), HN.out]; rfl)
    obtain ⟨E, hE⟩ : ∃ E, fitsErr n 1 r.size = E := ⟨_, rfl⟩
    rw [hE] at HF0 ⊢
    have HELD4 := Lib.hid (Held.alloc' H.out (HB1.out.trans ((HB2.out.trans (HB4.out.mono HB2.out.size)).mono HB1.out.size)))
    clear hE e1
    by_cases e2 : E = 0
    · subst e2
      have HF := Lib.hid (show X = if (d.seq ((fmtFns g n).map (·.st))).2 ≠ 0 then d.seq ((fmtFns g n).map (·.st)) else (d.seq ((fmtFns g n).map (·.st))).1.begin 0 n r 1 from by rw [HF0.out, if_neg (by decide)])
      obtain ⟨S, hS⟩ : ∃ S, d.seq ((fmtFns g n).map (·.st)) = S := ⟨_, rfl⟩
      rw [hS] at HF
      have HS := Lib.hid hS
      clear HF0 hS
      go_wp2_with fail
      generalize hw5 : World.alloc w4 _ = w5
      have hb5 : Below w4.heap.size w4 w5 := by rw [← hw5]; exact (Below.refl _ _).alloc (Nat.le_refl _) _
      have hsz : w5.heap.size = w4.heap.size + 1 := by rw [← hw5]; simp
      have k5 : w5.heap[w4.heap.size]? = some (.cells ((fmtFns g n).map StepFn.val).toArray 32 (0, 0)) := by rw [← hw5]; exact m_alloc _ _ _ rfl
      have kl5 : w5.heap[w2.heap.size]? = some (.cells #[.pointer (some ⟨g, 0, none⟩), .int .i64 0, .int .i64 n, .pointer (some ⟨g, 0, none⟩), .int .i64 n, .int .i64 n] 119 (0, 0)) := by rw [← hw5]; exact m_old _ KL.out
      clear hw5 c0 c1 c2 c3 c4 c5
      have hb25 : Below w2.heap.size w2 w5 := HB4.out.trans (hb5.mono HB4.out.size)
      have hlt : w2.heap.size < w4.heap.size := m_lt KL.out
      have hO : OwnR w0 w5 (fun k => R k ∨ (w2.heap.size ≤ k ∧ k < w5.heap.size)) g d := H2.out.with_new hb25
      have hall := all_any (wb := w5) (w := w5) (fun i D => D.size = d.size ∧ D.queue.length ≤ d.queue.length + 5000 * i ∧ D.left ≤ d.left) w4.heap.size (fmtFns g n) (by simp [fmtFns]) ?c1 ?c2 ?c3 hO (Held.refl _ _ _) ⟨rfl, Nat.le_add_right _ _, Int.le_refl _⟩
      case c1 =>
        intro w1 hh i x hx
        rw [(m_cells ((hh.block _ (Or.inr ⟨by omega, by omega⟩)).trans k5)).1 i]
        simp [hx]
      case c2 =>
        intro x hx args w
        simp only [fmtFns, List.mem_cons, List.not_mem_nil, or_false] at hx
        rcases hx with rfl | rfl | rfl | rfl
        · exact enters_of Try.func72 (by kernel_rfl) rfl args w
        · exact enters_of Try.func72 (by kernel_rfl) rfl args w
        · exact enters_of Try.func20 (by kernel_rfl) rfl args w
        · exact enters_of Try.func73 (by kernel_rfl) rfl args w
      case c3 =>
        intro i x hx D w1 hG hO1 hh
        obtain ⟨g1, g2, g3⟩ := hG
        have hi : i < 4 := (List.getElem?_eq_some_iff.1 hx).1
        have hxm := List.mem_of_getElem? hx
        have hok : StepOk x.st := by
          simp only [fmtFns, List.mem_cons, List.not_mem_nil, or_false] at hxm
          rcases hxm with rfl | rfl | rfl | rfl
          · exact setE_ok 0 0
          · exact setE_ok n 0
          · exact fl_ok
          · exact wipe_ok n n 1
        obtain ⟨o1, o2, o3⟩ := hok D (by omega)
        have hcall : Calls Try.prog x.f (x.first ++ x.cap) w1 fun e w' => e = .returned (.int .i64 (x.st D).2) ∧ OwnR w0 w' (fun k => R k ∨ (w2.heap.size ≤ k ∧ k < w5.heap.size)) g (x.st D).1 ∧ Held w0 (fun k => R k ∨ (w2.heap.size ≤ k ∧ k < w5.heap.size)) w1 w' := by
          simp only [fmtFns, List.mem_cons, List.not_mem_nil, or_false] at hxm
          rcases hxm with rfl | rfl | rfl | rfl
          · exact blank_any 0 n hO1 (by omega) (by omega)
          · exact blank_any n n hO1 (by omega) (by omega)
          · exact ownr_flush hO1
          · exact vwipe_any n n hO1 (by omega) (by omega) (by omega) (by omega)
        refine hcall.mono ?_
        rintro e w' ⟨e1, e2, e3⟩
        exact ⟨e1, e2, e3, fun _ => ⟨by omega, by omega, by omega⟩⟩
      refine hall.mono ?_
      rintro e w6 ⟨rfl, h6, hh6⟩
      rw [HS.out] at h6 ⊢
      have HELD6 := Lib.hid ((Held.alloc' H.out (HB1.out.trans ((HB2.out.trans (hb25.mono HB2.out.size)).mono HB1.out.size))).trans (show Held w0 R w5 w6 from ⟨hh6.size, fun k q => hh6.block k (Or.inl q)⟩))
      have kl6 := (hh6.block w2.heap.size (Or.inr ⟨Nat.le_refl _, by omega⟩)).trans kl5
      have H6 := Lib.hid h6
      have hS6 : S.1.size = d.size ∧ S.1.queue.length ≤ d.queue.length + 20000 ∧ S.1.left ≤ d.left := by
        rw [← HS.out]
        exact seq_ok [fun d => d.setE 0 0, fun d => d.setE n 0, DevD.fl, fun d => d.wipe n n 1] (by
          intro st hst
          simp only [List.mem_cons, List.not_mem_nil, or_false] at hst
          rcases hst with rfl | rfl | rfl | rfl
          · exact setE_ok 0 0
          · exact setE_ok n 0
          · exact fl_ok
          · exact wipe_ok n n 1) d hd
      clear h6 hh6 hall hO k5 kl5 hb25 hb5 hsz hlt
      obtain ⟨E, hE⟩ : ∃ E, S.2 = E := ⟨_, rfl⟩
      rw [hE]
      by_cases e3 : E = 0
      · subst e3
        have HF2 := Lib.hid (show X = S.1.begin 0 n r 1 from by rw [HF.out, if_neg (by rw [hE]; decide)])
        have c0 : w6.cell? ⟨w2.heap.size, 0, none⟩ = some (.pointer (some ⟨g, 0, none⟩)) := (m_cells kl6).1 0
        have c1 : w6.cell? ⟨w2.heap.size, 1, none⟩ = some (.int .i64 0) := (m_cells kl6).1 1
        have c2 : w6.cell? ⟨w2.heap.size, 2, none⟩ = some (.int .i64 n) := (m_cells kl6).1 2
        clear kl6
        go_wp2_with fail
        refine (begin_any 0 n r 1 H6.out (by omega) (by omega) (by omega) hr (by omega) (by decide)).mono ?_
        rintro e w7 ⟨rfl, h7, hh7⟩
        rw [← HF2.out] at h7 ⊢
        have H7 := Lib.hid (h7.sub (fun k q => Or.inl q))
        have HELD7 := Lib.hid (HELD6.out.trans (show Held w0 R w6 w7 from ⟨hh7.size, fun k q => hh7.block k (Or.inl q)⟩))
        clear h7 hh7
        go_wp2_with fail
        go_ret
        exact ⟨rfl, H7.out, HELD7.out⟩
      · have HF2 := Lib.hid (show X = S from by rw [HF.out, if_pos (by rw [hE]; exact e3)])
        clear kl6
        go_wp2_with fail
        go_ret
        rw [HF2.out]
        exact ⟨by rw [hE]; rfl, H6.out.sub (fun k q => Or.inl q), HELD6.out⟩
    · have HF := Lib.hid (show X = (d, E) from by rw [HF0.out, if_pos e2])
      clear HF0
      go_wp2_with fail
      go_ret
      rw [HF.out]
      exact ⟨rfl, H4.out, HELD4.out⟩
  · have HF := Lib.hid (show X = (d, d.mayErr) from by rw [← HX.out]; unfold DevD.format; rw [if_pos e1])
    obtain ⟨E, hE⟩ : ∃ E, d.mayErr = E := ⟨_, rfl⟩
    rw [hE] at HF e1 ⊢
    clear hE
    go_wp2_with fail
    go_ret
    rw [HF.out]
    exact ⟨rfl, H1.out, Held.alloc' H.out HB1.out⟩
end
end Go.Proofs.Ytncbojocglcieaa

/- An operation whose guard holds, as one without a guard. -/
namespace Go.Proofs.Ytncbojocglcieaa
open Go.RowKit
theorem wpList_unguard {ops : Array Oper} {rest : List Oper} {o : Oper} {a : Act} {w : World} {Q : Exit → Act → World → Prop} (hw : Region.wanted o (yielded ops a.tmps) = true)
    (h : wpList Try.prog ops Q ({ o with guard := none } :: rest) a w) : wpList Try.prog ops Q (o :: rest) a w := by
  unfold wpList at h ⊢
  rw [if_pos (by simp [Region.wanted])] at h
  rw [if_pos hw]
  exact h
end Go.Proofs.Ytncbojocglcieaa
