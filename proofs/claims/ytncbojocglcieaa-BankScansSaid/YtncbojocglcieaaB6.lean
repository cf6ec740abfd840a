/- bank: label, Head. -/
import Derived.Test.YtncbojocglcieaaB5
namespace Go.Proofs.Ytncbojocglcieaa
open Go.RowKit
set_option linter.unusedSimpArgs false
set_option linter.unusedVariables false
def LabRel (w : World) (N n : Nat) (iv : Value) (wr : World) : Prop :=
  ∃ (i : Nat) (l : List UInt8), iv = .int .i64 i ∧ i ≤ 8 ∧ (n = 0 → i = 0) ∧ Part n i l ∧ Row EByt wr N (.slice (some ⟨N, 0, none⟩) 64 64) l ∧ Below N w wr
theorem part_zero {l : List UInt8} (h : Part 0 0 l) : l = hdr 0 := by
  rw [hdr_zero]
  apply List.ext_getElem?
  intro j
  by_cases hj : j < 64
  · rw [h.2 j hj, List.getElem?_replicate, if_pos hj, if_neg (by omega), if_neg (by omega)]
  · rw [List.getElem?_eq_none (by rw [h.1]; omega), List.getElem?_eq_none (by simp; omega)]
theorem nbyte_val (n i : Nat) (h : i < 8) : (n : Int) / 2 ^ (56 - 8 * i) % 256 = ((nbyte n i).toNat : Nat) := by
  have e := shr_byte n (7 - i)
  rw [show 8 * (7 - i) = 56 - 8 * i from by omega] at e
  simp only [Value.int.injEq, true_and] at e
  exact e
theorem nbyte_not (b : UInt8) : bits BinOp.xor IntKind.u8 (if IntKind.u8.signed = true then -1 else IntKind.u8.max) ((b.toNat : Nat) : Int) = ((255 - b).toNat : Nat) := by
  have h : ∀ k : Fin 256, bits BinOp.xor IntKind.u8 (if IntKind.u8.signed = true then -1 else IntKind.u8.max) ((k.val : Nat) : Int) = ((255 - UInt8.ofNat k.val).toNat : Nat) := by decide +kernel
  have := h ⟨b.toNat, b.toNat_lt⟩
  simpa using this
set_option maxRecDepth 100000 in
set_option maxHeartbeats 2000000 in
theorem label_any (n : Nat) (w : World) (hn : n < 18446744073709551616) : Calls Try.prog 59 #[.int .u64 n] w fun e w' => e = .returned (.string ⟨(hdr n).toArray⟩) ∧ Below w.heap.size w w' := by
  obtain ⟨N, hN⟩ : ∃ N, w.heap.size = N := ⟨_, rfl⟩
  go_enter Try.func59, Try.ntmps59
  go_wp2_with (refine make_row (E := EByt) (B := w.heap.size) (z := .int .u8 0) (0 : UInt8) (by kernel_rfl) (by rfl) rfl 60 Try.underlying60 _ _ rfl 64 64 64 rfl rfl rfl rfl (by decide) (by decide) (Nat.le_refl _) ?_; intro w1 hr1 hb1)
  rw [hN] at hr1 hb1
  go_loopw [4] (fun iv wr => LabRel w N n iv wr) (fun iv _ => 8 - (intOf iv).toNat)
  case atStart => exact ⟨0, _, rfl, Nat.zero_le _, fun _ => rfl, Part.start n, hr1, hb1⟩
  case round =>
    obtain ⟨i, l, rfl, hi, hz, hp, hr, hb⟩ := hrel
    by_cases hlt : i < 8
    · have i1 : (i : Int) < 8 := by omega
      by_cases h0 : n = 0
      · have h00 := hz h0
        have hd : decide (0 < n) = false := decide_eq_false (by omega)
        have hdn : ¬ 0 < n := by omega
        have e : l = hdr n := by rw [h0, h00] at hp; rw [h0]; exact part_zero hp
        subst e
        have Hr := Lib.hid hr
        have Hb := Lib.hid hb
        clear hr hb hp hz h0 h00
        go_wp2_with (refine conv_row rfl _ rfl _ _ rfl Hr.out ?_)
        go_ret
        exact ⟨rfl, hN ▸ Hb.out⟩
      · have hd : (0 : Int) < (n : Int) := by omega
        have hd2 : decide ((0 : Int) < (n : Int)) = true := decide_eq_true hd
        obtain ⟨g, cap, e, _, hgl, _, _, hcell, hfr⟩ := hr.slice (by intro q; have := congrArg List.length q; have := hp.1; simp_all)
        simp only [Value.slice.injEq, Option.some.injEq, Addr.mk.injEq] at e
        obtain ⟨⟨rfl, -, -⟩, -, -⟩ := e
        have hl := hp.1
        have hx := hcell i _ (List.getElem?_eq_getElem (by rw [hl]; omega)) 0 (by decide)
        have hx8 := hcell (8 + i) _ (List.getElem?_eq_getElem (by rw [hl]; omega)) 0 (by decide)
        obtain ⟨v, hv⟩ : ∃ v, wr.cell? ⟨N, i, none⟩ = some v := ⟨_, by simpa [EByt] using hx⟩
        obtain ⟨v8, hv8⟩ : ∃ v, wr.cell? ⟨N, 8 + i, none⟩ = some v := ⟨_, by simpa [EByt] using hx8⟩
        have hf := hfr i
        have hf8 := hfr (8 + i)
        have Hr := Lib.hid hr
        have Hp := Lib.hid hp
        have Hb := Lib.hid hb
        have H0 := Lib.hid h0
        clear hcell hfr hx hx8 hr hp hb hz h0
        go_wp2_with fail
        rw [nbyte_val n i hlt, nbyte_not]
        have h1 := (Hr.out.set1 rfl i (nbyte n i) (.int .u8 (nbyte n i).toNat) rfl).set1 rfl (8 + i) (255 - nbyte n i) (.int .u8 (255 - nbyte n i).toNat) rfl
        exact ⟨⟨i + 1, _, by go_num, hlt, fun q => absurd q H0.out, Hp.out.step hlt, h1, Hb.out.trans ((((Keep.refl (fun k => k = N) wr).set N i _ (Or.inl rfl)).set N (8 + i) _ (Or.inl rfl)).toBelow (by have := Hb.out.size; omega) (fun k q => by omega))⟩, by simp [intOf]; omega⟩
    · have ei : i = 8 := by omega
      subst ei
      by_cases h0 : n = 0
      · exact absurd (hz h0) (by decide)
      · have e : l = hdr n := hp.done h0
        subst e
        have Hr := Lib.hid hr
        have Hb := Lib.hid hb
        clear hr hb hp hz h0
        go_wp2_with (refine conv_row rfl _ rfl _ _ rfl Hr.out ?_)
        go_ret
        exact ⟨rfl, hN ▸ Hb.out⟩
end Go.Proofs.Ytncbojocglcieaa
