/- bank: Head, SetEpoch. -/
import Derived.Test.YtncbojocglcieaaB6
namespace Go.Proofs.Ytncbojocglcieaa
open Go.RowKit
set_option linter.unusedSimpArgs false
set_option linter.unusedVariables false
/-- A head whose bytes behind the i-th are written. -/
def PartD (n i : Nat) (l : List UInt8) : Prop := l.length = 64 ∧ ∀ j, j < 64 → l[j]? = some (if i ≤ j ∧ j < 8 then nbyte n j else if 8 + i ≤ j ∧ j < 16 then 255 - nbyte n (j - 8) else 0)
theorem PartD.start (n : Nat) : PartD n 8 (List.replicate 64 0) := ⟨by simp, fun j hj => by rw [List.getElem?_replicate, if_pos hj, if_neg (by omega), if_neg (by omega)]⟩
theorem PartD.step {n i : Nat} {l : List UInt8} (h : PartD n (i + 1) l) (hi : i < 8) : PartD n i ((l.set i (nbyte n i)).set (8 + i) (255 - nbyte n i)) := by
  refine ⟨by simp [h.1], fun j hj => ?_⟩
  rw [List.getElem?_set, List.length_set, List.getElem?_set, h.1]
  by_cases e1 : 8 + i = j
  · subst e1
    rw [if_pos rfl, if_pos (by omega), if_neg (by omega), if_pos (by omega), Nat.add_sub_cancel_left]
  · rw [if_neg e1]
    by_cases e2 : i = j
    · subst e2
      rw [if_pos rfl, if_pos (by omega), if_pos (by omega)]
    · rw [if_neg e2, h.2 j hj]
      by_cases e3 : i + 1 ≤ j ∧ j < 8
      · rw [if_pos e3, if_pos (by omega)]
      · by_cases e4 : 8 + (i + 1) ≤ j ∧ j < 16
        · rw [if_neg e3, if_pos e4, if_neg (show ¬ (i ≤ j ∧ j < 8) by omega), if_pos (by omega)]
        · rw [if_neg e3, if_neg e4, if_neg (show ¬ (i ≤ j ∧ j < 8) by omega), if_neg (by omega)]
theorem PartD.done {n : Nat} {l : List UInt8} (h : PartD n 0 l) (hn : n ≠ 0) : l = hdr n := by
  apply List.ext_getElem?
  intro j
  by_cases hj : j < 64
  · rw [h.2 j hj, hdr_get n j hj]
    unfold hbyte
    rw [if_neg hn]
    by_cases e1 : j < 8
    · rw [if_pos ⟨Nat.zero_le _, e1⟩, if_pos e1]
    · rw [if_neg (by omega), if_neg e1]
      by_cases e2 : j < 16
      · rw [if_pos (by omega), if_pos e2]
      · rw [if_neg (by omega), if_neg e2]
  · rw [List.getElem?_eq_none (by rw [h.1]; omega), List.getElem?_eq_none (by rw [hdr_length]; omega)]
def HeadRel (w : World) (N n : Nat) (nv iv : Value) (wr : World) : Prop :=
  ∃ (i : Nat) (l : List UInt8), iv = .int .i64 ((i : Int) - 1) ∧ i ≤ 8 ∧ nv = .int .u64 (n / 256 ^ (8 - i) : Nat) ∧ PartD n i l ∧ Row EByt wr N (.slice (some ⟨N, 0, none⟩) 64 64) l ∧ Below N w wr
set_option maxRecDepth 100000 in
set_option maxHeartbeats 2000000 in
theorem head_any (n : Nat) (w : World) (hn : n < 18446744073709551616) : Calls Try.prog 33 #[.int .u64 n] w fun e w' => e = .returned (.string ⟨(hdr n).toArray⟩) ∧ Below w.heap.size w w' := by
  obtain ⟨N, hN⟩ : ∃ N, w.heap.size = N := ⟨_, rfl⟩
  by_cases h0 : n = 0
  · have n1 : ((n : Int) == 0) = true := by simpa using h0
    have n2 : (n == 0) = true := by simpa using h0
    have n3 : ((n : Int) = 0) := by omega
    have H0 := Lib.hid h0
    clear h0
    go_enter Try.func33, Try.ntmps33
    go_wp2_with (first
      | (refine make_row (E := EByt) (B := w.heap.size) (z := .int .u8 0) (0 : UInt8) (by kernel_rfl) (by rfl) rfl 60 Try.underlying60 _ _ rfl 64 64 64 rfl rfl rfl rfl (by decide) (by decide) (Nat.le_refl _) ?_; intro w1 hr1 hb1; rw [hN] at hr1 hb1)
      | (refine conv_row rfl _ rfl _ _ rfl hr1 ?_))
    go_ret
    exact ⟨by rw [H0.out, hdr_zero]; rfl, hN ▸ hb1⟩
  · have n1 : ((n : Int) == 0) = false := by simpa using h0
    have n2 : (n == 0) = false := by simpa using h0
    have H0 := Lib.hid h0
    clear h0
    go_enter Try.func33, Try.ntmps33
    go_wp2_with (refine make_row (E := EByt) (B := w.heap.size) (z := .int .u8 0) (0 : UInt8) (by kernel_rfl) (by rfl) rfl 60 Try.underlying60 _ _ rfl 64 64 64 rfl rfl rfl rfl (by decide) (by decide) (Nat.le_refl _) ?_; intro w1 hr1 hb1)
    rw [hN] at hr1 hb1
    go_loopw [0, 4] (fun nv iv wr => HeadRel w N n nv iv wr) (fun _ iv _ => ((intOf iv) + 1).toNat)
    case atStart => exact ⟨8, _, rfl, Nat.le_refl _, by simp, PartD.start n, hr1, hb1⟩
    case round =>
      obtain ⟨i, l, rfl, hi, rfl, hp, hr, hb⟩ := hrel
      by_cases hlt : 0 < i
      · obtain ⟨i, rfl⟩ : ∃ k, i = k + 1 := ⟨i - 1, by omega⟩
        have i1 : (i : Int) < 8 := by omega
        have hi8 : i < 8 := by omega
        obtain ⟨g, cap, e, _, hgl, _, _, hcell, hfr⟩ := hr.slice (by intro q; have := congrArg List.length q; have := hp.1; simp_all)
        simp only [Value.slice.injEq, Option.some.injEq, Addr.mk.injEq] at e
        obtain ⟨⟨rfl, -, -⟩, -, -⟩ := e
        have hl := hp.1
        have hx := hcell i _ (List.getElem?_eq_getElem (by rw [hl]; omega)) 0 (by decide)
        have hx8 := hcell (8 + i) _ (List.getElem?_eq_getElem (by rw [hl]; omega)) 0 (by decide)
        obtain ⟨v, hv⟩ : ∃ v, wr.cell? ⟨N, i, none⟩ = some v := ⟨_, by simpa [EByt] using hx⟩
        obtain ⟨v8, hv8⟩ : ∃ v, wr.cell? ⟨N, 8 + i, none⟩ = some v := ⟨_, by simpa [EByt] using hx8⟩
        have hf := hfr i
        have hf8 := hfr (8 + i)
        have hm : n / 256 ^ (8 - (i + 1)) % 256 = (nbyte n i).toNat := by
          unfold nbyte; rw [show 8 - (i + 1) = 7 - i from by omega]; simp
        have hd : n / 256 ^ (8 - (i + 1)) / 256 = n / 256 ^ (8 - i) := by rw [Nat.div_div_eq_div_mul, ← Nat.pow_succ]; congr 2; omega
        have hml : n / 256 ^ (8 - (i + 1)) < 18446744073709551616 := Nat.lt_of_le_of_lt (Nat.div_le_self _ _) hn
        generalize n / 256 ^ (8 - (i + 1)) = m at *
        have Hr := Lib.hid hr
        have Hp := Lib.hid hp
        have Hb := Lib.hid hb
        have Hm := Lib.hid hm
        have Hd := Lib.hid hd
        clear hcell hfr hx hx8 hr hp hb hm hd
        have z1 : ((i + 1 : Nat) : Int) - 1 = i := by omega
        rw [z1]
        go_wp2_with fail
        rw [show (m : Int) % 256 = ((nbyte n i).toNat : Nat) from by rw [← Hm.out]; omega, show (255 : Int) - ((nbyte n i).toNat : Nat) = ((255 - nbyte n i).toNat : Nat) from by have := (nbyte n i).toNat_lt; rw [UInt8.toNat_sub_of_le _ _ (by rw [UInt8.le_iff_toNat_le]; simp; omega)]; simp; omega, show (m : Int) / 256 = (n / 256 ^ (8 - i) : Nat) from by rw [← Hd.out]; omega]
        have h1 := (Hr.out.set1 rfl i (nbyte n i) (.int .u8 (nbyte n i).toNat) rfl).set1 rfl (8 + i) (255 - nbyte n i) (.int .u8 (255 - nbyte n i).toNat) rfl
        exact ⟨⟨i, _, rfl, by omega, rfl, Hp.out.step hi8, h1, Hb.out.trans ((((Keep.refl (fun k => k = N) wr).set N i _ (Or.inl rfl)).set N (8 + i) _ (Or.inl rfl)).toBelow (by have := Hb.out.size; omega) (fun k q => by omega))⟩, by simp [intOf]⟩
      · obtain rfl : i = 0 := by omega
        have e : l = hdr n := hp.done H0.out
        subst e
        have Hr := Lib.hid hr
        have Hb := Lib.hid hb
        clear hr hb hp
        go_wp2_with (refine conv_row rfl _ rfl _ _ rfl Hr.out ?_)
        go_ret
        exact ⟨rfl, hN ▸ Hb.out⟩
end Go.Proofs.Ytncbojocglcieaa
