/- bank: all frames of a bank. -/
import Derived.Test.YtncbojocglcieaaP7
namespace Go.Proofs.Ytncbojocglcieaa
open Go.RowKit
set_option linter.unusedSimpArgs false
set_option linter.unusedVariables false
def DevD.secs (d : DevD) (f : Int) (n : Nat) : List ByteArray := (List.range n).map fun (i : Nat) => d.sec (f + i)
theorem secs_length (d : DevD) (f : Int) (n : Nat) : (d.secs f n).length = n := by simp [DevD.secs]
theorem secs_succ (d : DevD) (f : Int) (n : Nat) : d.secs f (n + 1) = d.secs f n ++ [d.sec (f + n)] := by simp [DevD.secs, List.range_succ]
def FrRel (w0 w : World) (R : Nat → Prop) (g : Nat) (d : DevD) (f : Int) (n B : Nat) (ov iv : Value) (wr : World) : Prop :=
  ∃ i : Nat, iv = .int .i64 i ∧ i ≤ n ∧ Row EStr wr B ov (d.secs f i) ∧ Below B w wr
set_option maxRecDepth 100000 in
set_option maxHeartbeats 2000000 in
theorem frames_ok {w0 w : World} {R : Nat → Prop} {g : Nat} {d : DevD} (f : Int) (n : Nat) (h : OwnR w0 w R g d) (hl : d.left ≠ 0) (hf : 0 ≤ f) (hn : f + n ≤ d.size) (hd : d.size ≤ 4096) :
    Calls Try.prog 63 #[.pointer (some ⟨g, 0, none⟩), .int .i64 f, .int .i64 n] w fun e w' => ∃ v, e = .returned (.tuple #[v, .int .i64 0]) ∧ Row EStr w' w.heap.size v (d.secs f n) ∧ OwnR w0 w' R g d ∧ Below w.heap.size w w' := by
  have H := Lib.hid h
  obtain ⟨B, hB⟩ : ∃ B, w.heap.size = B := ⟨_, rfl⟩
  rw [hB]
  have HB := Lib.hid hB
  clear h hB
  go_enter Try.func63, Try.ntmps63
  go_wp2_with fail
  go_loopw [8, 13] (fun ov iv wr => FrRel w0 w R g d f n B ov iv wr) (fun _ iv _ => n - (intOf iv).toNat)
  case atStart => exact ⟨0, rfl, Nat.zero_le _, Row.nil _ _ _, Below.refl _ _⟩
  case round =>
    obtain ⟨i, rfl, hi, hr, hb⟩ := hrel
    have ho := H.out.below (w' := wr) (by rw [HB.out]; exact hb)
    have HR := Lib.hid hr
    have HO := Lib.hid ho
    have HBW := Lib.hid hb
    have hBl : B ≤ wr.heap.size := by have := hb.size; rw [HB.out] at this; exact this
    obtain ⟨oa, oc, rfl⟩ := hr.shape
    rw [secs_length]
    rw [secs_length] at HR
    clear hr ho hb
    by_cases hlt : i < n
    · have i1 : (i : Int) < n := by omega
      have ha : d.ask (f + i) = 0 := by unfold DevD.ask; rw [if_neg hl, if_neg (by omega)]
      have hg : d.get (f + i) = d.sec (f + i) := by unfold DevD.get; rw [if_pos ha]
      have HA := Lib.hid ha
      have HG := Lib.hid hg
      have HS := Lib.hid (secs_succ d f i)
      clear ha hg
      go_wp2_with fail
      refine (ownr_get HO.out (f + i)).mono ?_
      rintro e w1 ⟨rfl, h1, hb1⟩
      rw [HA.out, HG.out]
      have HR1 := Lib.hid (HR.out.below hb1)
      have HO1 := Lib.hid h1
      have HB1 := Lib.hid (HBW.out.trans (hb1.mono hBl))
      have hBl1 : B ≤ w1.heap.size := Nat.le_trans hBl hb1.size
      clear hb1 h1
      generalize d.sec (f + i) = x at *
      go_wp2_with (first
        | (refine app_row EStr.laid rfl _ _ 49 49 Try.underlying49 Try.underlying49 rfl _ (d.secs f i) rfl (HR1.out.alloc _) _ [x] rfl ?c1 ?c2 ?c3 (by simp; omega) ?_
           case c1 => exact Arg.blk (m_alloc _ _ _ rfl) [x] rfl 1
           case c2 => rw [secs_length]; show (i + 1) * 16 ≤ _; omega
           case c3 => rw [secs_length]; show i + 1 ≤ maxLen; unfold maxLen; omega
           intro v3 w3 hr3 hv3 k3
           rw [← HS.out] at hr3))
      have hb3 : Below B w w3 := (HB1.out.alloc (by omega) _).trans (k3.toBelow (by simp; omega) (fun k q => HR1.out.ge q.symm))
      exact ⟨⟨i + 1, by go_num, hlt, hr3, hb3⟩, by simp [intOf]; omega⟩
    · have ei : i = n := by omega
      subst ei
      go_wp2_with fail
      go_ret2
      exact ⟨_, rfl, HR.out, HO.out, HBW.out⟩
end Go.Proofs.Ytncbojocglcieaa
