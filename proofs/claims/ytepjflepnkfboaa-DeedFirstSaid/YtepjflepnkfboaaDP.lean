/- deed: bytes and back, in plain Lean. -/
import Derived.Test.YtepjflepnkfboaaD9
import Derived.Lib.Strings
namespace Go.Proofs.Ytepjflepnkfboaa
open Go.RowKit
set_option linter.unusedSimpArgs false
def rdl (l : List UInt8) : RD := ⟨⟨l.toArray⟩, false⟩
theorem take_app (l m : List UInt8) : (rdl (l ++ m)).take l.length = (⟨l.toArray⟩, rdl m) := by
  unfold RD.take rdl
  have h1 : l.length ≤ (ByteArray.mk (l ++ m).toArray).size := by simp [ByteArray.size]
  rw [if_pos h1]
  have e1 : (ByteArray.mk (l ++ m).toArray).extract 0 l.length = ⟨l.toArray⟩ := by
    apply ByteArray.ext; apply Array.ext'; rw [Lib.extract_data]; simp
  have e2 : (ByteArray.mk (l ++ m).toArray).extract l.length (ByteArray.mk (l ++ m).toArray).size = ⟨m.toArray⟩ := by
    apply ByteArray.ext; apply Array.ext'; rw [Lib.extract_data]; simp [ByteArray.size]
  rw [e1, e2]
theorem numOf_append (a b : List UInt8) : numOf (a ++ b) = numOf a * 256 ^ b.length + numOf b := by
  induction b generalizing a with
  | nil => simp [numOf]
  | cons c b ih =>
    rw [show a ++ c :: b = (a ++ [c]) ++ b from by simp, ih, numOf_snoc, show (c :: b) = [c] ++ b from rfl, ih [c], List.length_append]
    have : numOf [c] = c.toNat := by simp [numOf]
    rw [this, List.length_singleton, Nat.add_mul, Nat.mul_assoc, Nat.pow_add, Nat.pow_one]
    omega
theorem numOf_numBytes (s n : Nat) : numOf (numBytes s n) = n % 256 ^ s := by
  induction s generalizing n with
  | zero => simp [numBytes, numOf, Nat.mod_one]
  | succ s ih =>
    rw [numBytes_snoc, numOf_snoc, ih, u8_ofNat_toNat, Nat.pow_succ, Nat.mul_comm (256 ^ s) 256, Nat.mod_mul]
    omega
theorem num_app (s n : Nat) (l : List UInt8) (h : n < 256 ^ s) : (rdl (numBytes s n ++ l)).num s = (n, rdl l) := by
  have := take_app (numBytes s n) l
  rw [numBytes_length] at this
  unfold RD.num
  rw [this]
  simp only [numOf_numBytes, Nat.mod_eq_of_lt h]
theorem one_app (n : Nat) (l : List UInt8) (h : n < 256) : (rdl (UInt8.ofNat (n % 256) :: l)).num 1 = (n, rdl l) := by
  have := num_app 1 n l h
  simpa [numBytes] using this
theorem name_app (s : ByteArray) (l : List UInt8) (h : s.size ≤ 255) : (rdl (nameBytes s ++ l)).name = (s, rdl l) := by
  unfold RD.name nameBytes
  rw [List.cons_append, one_app _ _ (by omega)]
  exact take_app s.data.toList l
theorem rdl_mk (l : List UInt8) : (RD.mk ⟨l.toArray⟩ false) = rdl l := rfl
theorem dec_bytes_app (x : DD) (hm : x.may) (rest : List UInt8) : dec ⟨(x.bytes ++ rest).toArray⟩ = (x, rdl rest) := by
  obtain ⟨k, d, t, n, a, is, s⟩ := x
  obtain ⟨h1, h2, h3, h4, h5, h6, h7, h8, h9⟩ := hm
  dsimp only at *
  obtain ⟨d, rfl⟩ := Int.eq_ofNat_of_zero_le h1
  obtain ⟨t, rfl⟩ := Int.eq_ofNat_of_zero_le h3
  obtain ⟨s, rfl⟩ := Int.eq_ofNat_of_zero_le h7
  have ha : a.toList = [] → a = ⟨#[]⟩ := by
    intro h; apply ByteArray.ext; apply Array.ext'; rw [ByteArray.toList_eq] at h; simpa using h
  rcases h9 with ⟨rfl, rfl', ea⟩ | ⟨rfl, ht, ea, hs⟩ | ⟨rfl, rfl⟩
  · have et : t = 0 := by omega
    subst et
    have := ha ea; subst this
    unfold dec DD.bytes
    simp only [rdl_mk, List.cons_append, List.append_assoc]
    rw [show ((1 : Int).toNat % 256) = 1 % 256 from rfl, one_app _ _ (by decide)]
    simp only [Int.toNat_natCast]
    rw [num_app _ _ _ (by omega), name_app _ _ (by omega)]
    cases is <;> simp <;> first | rw [show (1 : UInt8) = UInt8.ofNat (1 % 256) from rfl, one_app _ _ (by decide)] | rw [show (0 : UInt8) = UInt8.ofNat (0 % 256) from rfl, one_app _ _ (by decide)]
    all_goals
      simp only
      rw [num_app _ _ _ (by omega)]; simp
  · have et : t = 0 := by omega
    have es : s = 0 := by omega
    subst et; subst es
    have := ha ea; subst this
    unfold dec DD.bytes
    simp only [rdl_mk, List.cons_append, List.append_assoc]
    rw [show ((2 : Int).toNat % 256) = 2 % 256 from rfl, one_app _ _ (by decide)]
    simp only [Int.toNat_natCast]
    rw [num_app _ _ _ (by omega), name_app _ _ (by omega)]
    cases is <;> simp <;> first | rw [show (1 : UInt8) = UInt8.ofNat (1 % 256) from rfl, one_app _ _ (by decide)] | rw [show (0 : UInt8) = UInt8.ofNat (0 % 256) from rfl, one_app _ _ (by decide)]
    all_goals simp
  · unfold dec DD.bytes
    simp only [rdl_mk, List.cons_append, List.append_assoc]
    rw [show ((3 : Int).toNat % 256) = 3 % 256 from rfl, one_app _ _ (by decide)]
    simp only [Int.toNat_natCast]
    rw [num_app _ _ _ (by omega), name_app _ _ (by omega)]
    simp
    rw [num_app _ _ _ (by omega), name_app _ _ (by omega)]
    rw [num_app _ _ _ (by omega)]; simp
theorem dec_bytes (x : DD) (hm : x.may) : dec ⟨x.bytes.toArray⟩ = (x, rdl []) := by
  have := dec_bytes_app x hm []
  rwa [List.append_nil] at this
/-- No deed's bytes begin with another one's. -/
theorem bytes_first (x y : DD) (hx : x.may) (hy : y.may) (rest : List UInt8) (h : y.bytes = x.bytes ++ rest) : x = y := by
  have h1 := dec_bytes_app x hx rest
  rw [← h, dec_bytes y hy] at h1
  exact (Prod.mk.inj h1).1.symm
theorem decD_bytes (x : DD) (hm : x.may) : decD ⟨x.bytes.toArray⟩ = (x, 0) := by
  unfold decD
  rw [dec_bytes x hm, if_pos ⟨rfl, hm, rfl⟩]
theorem bytes_len (x : DD) (hm : x.may) : x.bytes.length ≤ 1000 := by
  obtain ⟨h1, h2, h3, h4, h5, h6, h7, h8, h9⟩ := hm
  unfold DD.bytes
  have e1 : x.n.data.toList.length = x.n.size := rfl
  have e2 : x.a.data.toList.length = x.a.size := rfl
  split <;> split <;> (try split) <;> simp only [nameBytes, List.length_append, List.length_cons, numBytes_length, List.length_nil, e1, e2] <;> omega
end Go.Proofs.Ytepjflepnkfboaa
