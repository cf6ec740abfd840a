/- Small general lemmas: endings, byte rows, decimal of numbers into bytes. -/
import Derived.Test.YtolilbcpfdnkjaaGreatProg
import Derived.WalkKit
import Derived.WalkSpells
import Derived.WalkLawsBesides
import Derived.BigGuardPart
import Derived.BigQuiet
import Derived.Lib.Hide
import Derived.Lib.AppendStr
import Derived.Lib.ConvBytes
import Derived.Laws.BytesArg
import Derived.Deep.QuietTactic
namespace Go.Proofs.YtolilbcpfdnkjaaGreat
open Go.RowKit
theorem ret_bool {a b : Bool} (h : a = b) : Ending.returned (.bool a) = .returned (.bool b) := by rw [h]
theorem ret_int {k : IntKind} {a b : Int} (h : a = b) : Ending.returned (.int k a) = .returned (.int k b) := by rw [h]
/-- The cells of bytes. -/
def bv (l : List UInt8) : List Value := l.map fun c => Value.int .u8 c.toNat
theorem bv_length (l : List UInt8) : (bv l).length = l.length := by simp [bv]
theorem bv_append (a b : List UInt8) : bv (a ++ b) = bv a ++ bv b := by simp [bv]
theorem bv_one (c : UInt8) : bv [c] = [.int .u8 c.toNat] := rfl
theorem strCells_bv (s : ByteArray) : Go.Lib.strCells s = bv s.data.toList := rfl
/-- The big-endian bytes of a number, so many. -/
def numBytes : Nat → Nat → List UInt8
  | 0, _ => []
  | s + 1, n => UInt8.ofNat (n / 256 ^ s % 256) :: numBytes s n
theorem numBytes_length (s n : Nat) : (numBytes s n).length = s := by induction s with | zero => rfl | succ s ih => simp [numBytes, ih]
theorem numBytes_snoc (s n : Nat) : numBytes (s + 1) n = numBytes s (n / 256) ++ [UInt8.ofNat (n % 256)] := by
  induction s generalizing n with
  | zero => simp [numBytes]
  | succ s ih =>
    rw [numBytes, ih, numBytes, List.cons_append]
    congr 2
    rw [Nat.div_div_eq_div_mul, Nat.pow_succ, Nat.mul_comm]
theorem u8_ofNat_toNat (n : Nat) : (UInt8.ofNat (n % 256)).toNat = n % 256 := by simp
theorem shr_byte (n r : Nat) : Value.int .u8 ((n : Int) / 2 ^ (8 * r) % 256) = .int .u8 (UInt8.ofNat (n / 256 ^ r % 256)).toNat := by
  rw [u8_ofNat_toNat]
  congr 1
  have e0 : (2 : Nat) ^ (8 * r) = 256 ^ r := by rw [Nat.pow_mul]
  have e : (2 : Int) ^ (8 * r) = ((256 ^ r : Nat) : Int) := by rw [← e0]; simp
  rw [e]; omega
theorem wrap_u8 (k : Int) (h0 : 0 ≤ k) : Value.int .u8 (IntKind.u8.wrap k) = .int .u8 (UInt8.ofNat (k.toNat % 256)).toNat := by
  rw [u8_ofNat_toNat]
  congr 1
  obtain ⟨n, rfl⟩ := Int.eq_ofNat_of_zero_le h0
  simp [IntKind.wrap, IntKind.bits, IntKind.signed]
/-- What was there reads as before. -/
theorem bcell {W w1 : World} (hb : Below W.heap.size W w1) : (∀ b o, b < W.heap.size → w1.cell? ⟨b, o, none⟩ = W.cell? ⟨b, o, none⟩) ∧ (∀ b o, b < W.heap.size → w1.frozen? ⟨b, o, none⟩ = W.frozen? ⟨b, o, none⟩) :=
  ⟨fun b o h => hb.cell (p := ⟨b, o, none⟩) h, fun b o h => hb.frozen (p := ⟨b, o, none⟩) h⟩
theorem grown_refl (w : World) (r : Option Nat) : w.grownBy w r := ⟨rfl, rfl, rfl, Nat.le_refl _, fun _ _ _ => rfl⟩
theorem grown_trans {w w1 w2 : World} {r : Option Nat} (h : w.grownBy w1 r) (k : w1.grownBy w2 r) : w.grownBy w2 r :=
  ⟨k.os.trans h.os, k.tape.trans h.tape, k.output.trans h.output, Nat.le_trans h.size k.size, fun i hi hne => (k.block i (Nat.lt_of_lt_of_le hi h.size) hne).trans (h.block i hi hne)⟩
theorem grown_none {w w1 : World} (h : w.grownBy w1 none) (r : Option Nat) : w.grownBy w1 r := ⟨h.os, h.tape, h.output, h.size, fun i hi _ => h.block i hi (by simp)⟩
theorem grown_below {w w1 : World} (h : Below w.heap.size w w1) (r : Option Nat) : w.grownBy w1 r := ⟨h.os, h.tape, h.output, h.size, fun i hi _ => h.block i hi⟩
theorem grown_set (w : World) (g o : Nat) (v : Value) : w.grownBy (w.setCell ⟨g, o, none⟩ v) (some g) :=
  ⟨rfl, rfl, rfl, by simp [World.setCell], fun k _ hne => Below.heap_setCell _ _ _ _ (fun e => hne (by rw [e]))⟩
theorem grown_lift {w w1 : World} {g B : Nat} (h : w.grownBy w1 (some g)) (hB : B ≤ g) (hB2 : B ≤ w.heap.size) : Below B w w1 :=
  ⟨h.os, h.tape, h.output, h.size, fun k hk => h.block k (by omega) (by simp; omega)⟩
theorem i64_or_nat (a b : Nat) (ha : a < 4611686018427387904) (hb : b < 4611686018427387904) : bits .or .i64 (a : Int) (b : Int) = ((a ||| b : Nat) : Int) := by
  have hx : a ||| b < 2 ^ 62 := Nat.or_lt_two_pow (by omega) (by omega)
  have h1 : (BitVec.ofInt 64 (a : Int)).toNat = a := by
    rw [BitVec.ofInt_natCast, BitVec.toNat_ofNat]; exact Nat.mod_eq_of_lt (by omega)
  have h2 : (BitVec.ofInt 64 (b : Int)).toNat = b := by
    rw [BitVec.ofInt_natCast, BitVec.toNat_ofNat]; exact Nat.mod_eq_of_lt (by omega)
  show IntKind.i64.wrap ((BitVec.ofInt 64 (a : Int) ||| BitVec.ofInt 64 (b : Int)).toNat : Int) = _
  rw [BitVec.toNat_or, h1, h2]
  exact IntWalk.i64_in _ (by omega)
theorem or_byte (m c : Nat) (hm : m < 1099511627776) (hc : c < 256) : bits .or .i64 ((m : Int) * 256) (c : Int) = ((m * 256 + c : Nat) : Int) := by
  have h := i64_or_nat (m * 256) c (by omega) (by omega)
  rw [Int.natCast_mul] at h
  rw [show ((m : Int) * 256) = (m : Int) * ((256 : Nat) : Int) from rfl, h]
  have := Nat.shiftLeft_add_eq_or_of_lt (b := c) (i := 8) (by omega) m
  rw [Nat.shiftLeft_eq] at this
  rw [← this]
end Go.Proofs.YtolilbcpfdnkjaaGreat
