/- deed: Encode; the reader. -/
import Derived.Test.YtepjflepnkfboaaD2
namespace Go.Proofs.Ytepjflepnkfboaa
open Go.RowKit
set_option linter.unusedSimpArgs false
/-- What Encode answers. -/
def DD.enc (x : DD) : ByteArray × Int := if x.may then (⟨x.bytes.toArray⟩, 0) else (⟨#[]⟩, 1)
set_option maxHeartbeats 1000000 in
theorem encode_any (x : DD) (w : World) :
    Calls Try.prog 9 #[.agg x.cells] w fun e w' => e = .returned (.tuple #[.string x.enc.1, .int .i64 x.enc.2]) ∧ Below w.heap.size w w' := by
  by_cases hm : x.may
  · obtain ⟨k, d, t, n, a, is, s⟩ := x
    have Hm := Lib.hid hm
    have hf : ∀ w, Calls Try.prog 27 #[.agg #[.int .i64 k, .int .i64 d, .int .i64 t, .string n, .string a, .bool is, .int .i64 s]] w fun e w' => e = .returned (.bool true) ∧ Below w.heap.size w w' := fun w => (formed_any k d t s n a is w).mono fun e w' ⟨h1, h2⟩ => ⟨by rw [h1, decide_eq_true hm], h2⟩
    have Hf := Lib.hid hf
    clear hf hm
    show Calls _ _ #[.agg #[.int .i64 k, .int .i64 d, .int .i64 t, .string n, .string a, .bool is, .int .i64 s]] w _
    go_enter Try.func9, Try.ntmps9
    go_wp2_with (first
      | (go_at_call 27; refine (Hf.out _).mono ?_; rintro e w1 ⟨rfl, hb1⟩; obtain ⟨hc, hfz⟩ := bcell hb1)
      | (go_at_call 28; refine (bytes_any ⟨k, d, t, n, a, is, s⟩ Hm.out _).mono ?_; rintro e w2 ⟨rfl, hb2⟩))
    go_ret2
    exact ⟨by simp [DD.enc, Hm.out], (((Below.refl _ _).alloc (Nat.le_refl _) _).trans (hb1.mono (by simp))).trans (hb2.mono (by have := hb1.size; simp at this; omega))⟩
  · obtain ⟨k, d, t, n, a, is, s⟩ := x
    have Hm := Lib.hid hm
    have hf : ∀ w, Calls Try.prog 27 #[.agg #[.int .i64 k, .int .i64 d, .int .i64 t, .string n, .string a, .bool is, .int .i64 s]] w fun e w' => e = .returned (.bool false) ∧ Below w.heap.size w w' := fun w => (formed_any k d t s n a is w).mono fun e w' ⟨h1, h2⟩ => ⟨by rw [h1, decide_eq_false hm], h2⟩
    have Hf := Lib.hid hf
    clear hf hm
    show Calls _ _ #[.agg #[.int .i64 k, .int .i64 d, .int .i64 t, .string n, .string a, .bool is, .int .i64 s]] w _
    go_enter Try.func9, Try.ntmps9
    go_wp2_with (go_at_call 27; refine (Hf.out _).mono ?_; rintro e w1 ⟨rfl, hb1⟩)
    go_ret2
    exact ⟨by simp [DD.enc, Hm.out], (((Below.refl _ _).alloc (Nat.le_refl _) _).trans (hb1.mono (by simp)))⟩
/-- The reader's bytes, and whether something was bad. -/
structure RD where
  (b : ByteArray) (bad : Bool)
def zeros (n : Nat) : ByteArray := ⟨Array.replicate n 0⟩
def RD.take (r : RD) (n : Nat) : ByteArray × RD := if n ≤ r.b.size then (r.b.extract 0 n, ⟨r.b.extract n r.b.size, r.bad⟩) else (zeros n, ⟨r.b, true⟩)
/-- The reader in memory. -/
def RDAt (w : World) (g : Nat) (r : RD) : Prop := w.heap[g]? = some (.cells #[.string r.b, .bool r.bad] 60 (0, 0))
theorem RDAt.c0 {w : World} {g : Nat} {r : RD} (h : RDAt w g r) : w.cell? ⟨g, 0, none⟩ = some (.string r.b) := by unfold RDAt at h; simp [World.cell?, h]
theorem RDAt.c1 {w : World} {g : Nat} {r : RD} (h : RDAt w g r) : w.cell? ⟨g, 1, none⟩ = some (.bool r.bad) := by unfold RDAt at h; simp [World.cell?, h]
theorem RDAt.f {w : World} {g : Nat} {r : RD} (h : RDAt w g r) (o : Nat) : w.frozen? ⟨g, o, none⟩ = false := by unfold RDAt at h; simp [World.frozen?, h]
theorem RDAt.set0 {w : World} {g : Nat} {r : RD} (h : RDAt w g r) (b : ByteArray) : RDAt (w.setCell ⟨g, 0, none⟩ (.string b)) g ⟨b, r.bad⟩ := by
  unfold RDAt at *; simp [World.setCell, Array.getElem?_modify, h]
theorem RDAt.set1 {w : World} {g : Nat} {r : RD} (h : RDAt w g r) (b : Bool) : RDAt (w.setCell ⟨g, 1, none⟩ (.bool b)) g ⟨r.b, b⟩ := by
  unfold RDAt at *; simp [World.setCell, Array.getElem?_modify, h]
theorem RDAt.kept {w w' : World} {g : Nat} {r : RD} (h : RDAt w g r) (hg : w'.heap[g]? = w.heap[g]?) : RDAt w' g r := by unfold RDAt at *; rw [hg]; exact h
theorem RDAt.lt {w : World} {g : Nat} {r : RD} (h : RDAt w g r) : g < w.heap.size := by
  unfold RDAt at h; rcases Nat.lt_or_ge g w.heap.size with h' | h'
  · exact h'
  · rw [Array.getElem?_eq_none h'] at h; cases h
set_option maxHeartbeats 1000000 in
theorem take_any (r : RD) (g n : Nat) (w : World) (hr : RDAt w g r) (hn : n ≤ 1000) (hb : r.b.size ≤ maxLen) :
    Calls Try.prog 42 #[.pointer (some ⟨g, 0, none⟩), .int .i64 n] w fun e w' => e = .returned (.string (r.take n).1) ∧ RDAt w' g (r.take n).2 ∧ w.grownBy w' (some g) := by
  have c0 := hr.c0
  have c1 := hr.c1
  have f0 := hr.f 0
  have f1 := hr.f 1
  unfold maxLen at hb
  by_cases hle : n ≤ r.b.size
  · have hp : r.take n = (r.b.extract 0 n, ⟨r.b.extract n r.b.size, r.bad⟩) := by simp [RD.take, hle]
    have Hp := Lib.hid hp
    clear hp
    go_enter Try.func42, Try.ntmps42
    go_wp2
    go_ret
    rw [Hp.out]
    exact ⟨rfl, hr.set0 _, grown_set _ _ _ _⟩
  · have hp : r.take n = (zeros n, ⟨r.b, true⟩) := by simp [RD.take, hle]
    have Hp := Lib.hid hp
    clear hp
    have hlt := hr.lt
    go_enter Try.func42, Try.ntmps42
    go_wp2_with (first | (at_make; refine make_bytes (B := 0) rfl _ _ rfl n rfl rfl (by omega) (Nat.zero_le _) ?_; intro w1 h1 hg1) | (refine conv_bytes rfl _ rfl _ _ rfl h1 ?_))
    go_ret
    rw [Hp.out]
    exact ⟨by simp [zeros], (hr.set1 true).kept (hg1.block g (by simpa using hlt) (by simp)), grown_trans (grown_set _ _ _ _) (grown_none hg1 _)⟩
end Go.Proofs.Ytepjflepnkfboaa
