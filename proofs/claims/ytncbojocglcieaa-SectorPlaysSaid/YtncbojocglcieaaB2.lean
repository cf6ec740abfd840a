/- bank: a frame. -/
import Derived.Test.YtncbojocglcieaaB1
import Derived.Test.YtncbojocglcieaaByK
import Derived.Lib.Strings
import Derived.Deep.RegionWith
namespace Go.Proofs.Ytncbojocglcieaa
open Go.RowKit
set_option linter.unusedSimpArgs false
set_option linter.unusedVariables false
/-- A frame of what is left of a record. -/
def frameL (l : List UInt8) : List UInt8 := UInt8.ofNat (l.length / 256 % 256) :: UInt8.ofNat (l.length % 256) :: (l.take 62 ++ List.replicate (62 - min l.length 62) 0)
def frameB (s : ByteArray) : ByteArray := ⟨(frameL s.data.toList).toArray⟩
theorem rep_any (n : Nat) (w : World) (h : n ≤ 64) : Calls Try.prog 58 #[.string ⟨#[0]⟩, .int .i64 n] w fun e w' => e = .returned (.string ⟨(List.replicate n (0 : UInt8)).toArray⟩) ∧ Below w.heap.size w w' := by
  refine (Try.strings_Repeat ⟨#[0]⟩ n w (by omega) (by show 1 * n ≤ _; omega)).mono ?_
  rintro e w1 ⟨rfl, hb⟩
  refine ⟨?_, hb⟩
  have := Lib.repeatL_replicate 0 1 n
  rw [Nat.mul_one] at this
  rw [show (ByteArray.mk #[0]).data.toList = List.replicate 1 0 from rfl, this]
set_option maxRecDepth 100000 in
theorem conv_two (x y : Int) (w : World) (n : Nat) (h0 : w.cell? ⟨n, 0, none⟩ = some (.int .u8 x)) (h1 : w.cell? ⟨n, 1, none⟩ = some (.int .u8 y)) :
    (convert 60 9 (.slice (some ⟨n, 0, none⟩) 2 2)).run Try.prog w = .ok (.string ⟨#[UInt8.ofNat x.toNat, UInt8.ofNat y.toNat]⟩) w := by
  have := run_convert_bytes_arg (P := Try.prog) w 60 5 Try.underlying60 Try.underlying5 n 0 2 2 [x, y] (by simp) (fun i hi => by
    match i, hi with
    | 0, _ => exact h0
    | 1, _ => exact h1) 9 Try.underlying9
  rw [this]
  rfl
theorem frame_eq (s p rz : ByteArray) (m z : Nat) (x y : Int) (hm : min s.size 62 = m) (hE : s.extract 0 m = p) (hz : 62 - m = z) (hr : ByteArray.mk (List.replicate z (0 : UInt8)).toArray = rz) (hx : x = (s.size : Int) / 256 % 256) (hy : y = (s.size : Int) % 256) :
    ByteArray.mk #[UInt8.ofNat x.toNat, UInt8.ofNat y.toNat] ++ p ++ rz = frameB s := by
  subst hm; subst hE; subst hz; subst hr
  have e1 : x.toNat = s.size / 256 % 256 := by omega
  have e2 : y.toNat = s.size % 256 := by omega
  rw [e1, e2]
  have hl : s.data.toList.length = s.size := by rw [Array.length_toList]; rfl
  apply ByteArray.ext
  apply Array.ext'
  unfold frameB frameL
  rw [hl]
  simp only [ByteArray.data_append, Array.toList_append, Lib.extract_data]
  simp
  exact Nat.min_comm _ _
set_option maxRecDepth 100000 in
set_option maxHeartbeats 2000000 in
theorem frame_any (s : ByteArray) (w : World) (h : s.size ≤ 1000000) : Calls Try.prog 62 #[.string s] w fun e w' => e = .returned (.string (frameB s)) ∧ Below w.heap.size w w' := by
  obtain ⟨m, hm⟩ : ∃ m, min s.size 62 = m := ⟨_, rfl⟩
  have hm1 : m ≤ 62 := by omega
  have hm2 : m ≤ s.size := by omega
  have hmi : min (s.size : Int) 62 = m := by omega
  have HM := Lib.hid hm
  clear hm
  go_enter Try.func62, Try.ntmps62
  go_wp2_with fail
  have hx : (s.extract 0 m).size = m := by rw [ByteArray.size_extract]; omega
  generalize hE : s.extract 0 m = p at *
  have HE := Lib.hid hE
  clear hE
  obtain ⟨z, hz⟩ : ∃ z : Nat, 62 - m = z := ⟨_, rfl⟩
  have hz2 : (62 : Int) - m = z := by omega
  have hzi : wrap64 ((62 : Int) - m) = z := by unfold wrap64; omega
  have hz3 : z ≤ 62 := by omega
  have hcv := fun (w : World) (n : Nat) => conv_two (IntKind.u8.wrap ((s.size : Int) / 256)) (IntKind.u8.wrap (s.size : Int)) w n
  have ho1 : ¬ (9223372036854775807 < 2 + m) := by omega
  have ho2 : ¬ (9223372036854775807 < 2 + m + z) := by omega
  obtain ⟨rz, hrz⟩ : ∃ b : ByteArray, (ByteArray.mk (List.replicate z (0 : UInt8)).toArray) = b := ⟨_, rfl⟩
  have hrs : rz.size = z := by rw [← hrz]; simp [ByteArray.size]
  have hRZ := Lib.hid hrz
  clear hrz
  have hrep := fun w => rep_any z w (by omega)
  rw [hRZ.out] at hrep
  have hw1 : IntKind.u8.wrap ((s.size : Int) / 256) = (s.size : Int) / 256 % 256 := by simp [IntKind.wrap, IntKind.bits, IntKind.signed]
  have hw2 : IntKind.u8.wrap (s.size : Int) = (s.size : Int) % 256 := by simp [IntKind.wrap, IntKind.bits, IntKind.signed]
  simp only [hw1, hw2] at hcv
  have hwz : IntKind.i64.wrap (z : Int) = z := IntWalk.i64_in _ (by omega)
  go_region_with (go_at_call 58; (try rw [hwz]); refine (hrep _).mono ?_; rintro e w3 ⟨rfl, hb3⟩; have hbc := bcell hb3)
  all_goals
    go_wp2
    go_ret
    refine ⟨?_, ?_⟩
    · rw [← frame_eq s p rz m z ((s.size : Int) / 256 % 256) ((s.size : Int) % 256) HM.out HE.out hz hRZ.out rfl rfl]
      first | rfl | (simp only [hw1, hw2]; rfl)
    · have hs3 := hb3.size
      simp at hs3
      have q : Below w.heap.size w w3 := Below.trans (by repeat (first | exact Below.refl _ _ | assumption | (refine Below.drew ?_) | (refine below_drewN ?_ _) | (refine Below.alloc ?_ (by simp; done) _) | (refine Below.alloc ?_ (by simp; omega) _))) (hb3.mono (by simp))
      first
        | exact q
        | exact q.alloc (by omega) _
        | exact (q.alloc (by omega) _).drew
end Go.Proofs.Ytncbojocglcieaa
