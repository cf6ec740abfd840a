/- deed: the reader's name; Decode. -/
import Derived.Test.YtepjflepnkfboaaD4
namespace Go.Proofs.Ytepjflepnkfboaa
open Go.RowKit
set_option linter.unusedSimpArgs false
def RD.num (r : RD) (n : Nat) : Nat × RD := (numOf (r.take n).1.data.toList, (r.take n).2)
def RD.name (r : RD) : ByteArray × RD := (r.num 1).2.take (r.num 1).1
theorem RD.take_size (r : RD) (n : Nat) : (r.take n).2.b.size ≤ r.b.size := by
  unfold RD.take; split
  · simp [ByteArray.size_extract]
  · exact Nat.le_refl _
theorem RD.take_len (r : RD) (n : Nat) : (r.take n).1.size = n := by
  unfold RD.take; split
  · simp [ByteArray.size_extract]; omega
  · simp [zeros, ByteArray.size]
theorem RD.num_size (r : RD) (n : Nat) : (r.num n).2.b.size ≤ r.b.size := r.take_size n
theorem RD.name_size (r : RD) : r.name.2.b.size ≤ r.b.size := Nat.le_trans (RD.take_size _ _) (r.num_size 1)
theorem RD.num_lt (r : RD) (n : Nat) : (r.num n).1 < 256 ^ n := by
  have := numOf_lt (r.take n).1.data.toList
  rwa [show (r.take n).1.data.toList.length = n from r.take_len n] at this
theorem RD.num_le (r : RD) (n : Nat) (h : n ≤ 4) : (r.num n).1 ≤ 4294967295 := by
  have h1 := r.num_lt n
  have : 256 ^ n ≤ 256 ^ 4 := Nat.pow_le_pow_right (by decide) h
  omega
theorem RD.name_len (r : RD) : r.name.1.size ≤ 255 := by
  unfold RD.name; rw [RD.take_len]; have := r.num_lt 1; omega
theorem num_any (r : RD) (g n : Nat) (w : World) (hr : RDAt w g r) (hn : n ≤ 4) (hb : r.b.size ≤ maxLen) :
    Calls Try.prog 33 #[.pointer (some ⟨g, 0, none⟩), .int .i64 n] w fun e w' => e = .returned (.int .i64 (r.num n).1) ∧ RDAt w' g (r.num n).2 ∧ w.grownBy w' (some g) := rnum_any r g n w hr hn hb
set_option maxHeartbeats 1000000 in
theorem rname_any (r : RD) (g : Nat) (w : World) (hr : RDAt w g r) (hb : r.b.size ≤ maxLen) :
    Calls Try.prog 34 #[.pointer (some ⟨g, 0, none⟩)] w fun e w' => e = .returned (.string r.name.1) ∧ RDAt w' g r.name.2 ∧ w.grownBy w' (some g) := by
  have h1 := r.num_lt 1
  have h2 := r.num_size 1
  go_enter Try.func34, Try.ntmps34
  go_wp2_with (first
    | (go_at_call 33; refine (num_any r g 1 _ hr (by decide) hb).mono ?_; rintro e w1 ⟨rfl, hr1, hg1⟩)
    | (go_at_call 42; refine (take_any (r.num 1).2 g (r.num 1).1 _ hr1 (by omega) (by omega)).mono ?_; rintro e w2 ⟨rfl, hr2, hg2⟩))
  go_ret
  exact ⟨rfl, hr2, grown_trans hg1 hg2⟩
/-- What is read of some bytes, and the reader behind. -/
def dec (b : ByteArray) : DD × RD :=
  let k := (RD.mk b false).num 1
  let d := k.2.num 2
  let n := d.2.name
  if k.1 = 3 then
    let t := n.2.num 2
    let a := t.2.name
    let s := a.2.num 4
    (⟨k.1, d.1, t.1, n.1, a.1, false, s.1⟩, s.2)
  else
    let f := n.2.num 1
    if k.1 = 2 then (⟨k.1, d.1, 0, n.1, ⟨#[]⟩, decide (f.1 = 1), 0⟩, f.2)
    else let s := f.2.num 4
      (⟨k.1, d.1, 0, n.1, ⟨#[]⟩, decide (f.1 = 1), s.1⟩, s.2)
/-- What Decode answers. -/
def decD (b : ByteArray) : DD × Int :=
  if (dec b).2.bad = false ∧ (dec b).1.may ∧ (dec b).1.bytes = b.data.toList then ((dec b).1, 0) else (⟨0, 0, 0, ⟨#[]⟩, ⟨#[]⟩, false, 0⟩, 2)
end Go.Proofs.Ytepjflepnkfboaa
