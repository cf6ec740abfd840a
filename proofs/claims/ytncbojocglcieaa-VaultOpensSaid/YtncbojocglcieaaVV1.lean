/- Lemmas for the laws of one seat, texts Lib0 Lib1 Rk Maps MapsM MapsA SHB; no condition beyond those that each states. -/
import Derived.Test.YtncbojocglcieaaProg
import Derived.WalkKit
import Derived.WalkSpells
import Derived.WalkLawsBesides
import Derived.BigGuardPart
import Derived.BigQuiet
import Derived.Lib.Hide
import Derived.Lib.AppendStr
import Derived.Lib.ConvBytes
import Derived.Laws.BytesArg
import Derived.Deep.QuietTactic
import Derived.Maps.AppendAt
import Derived.Deep.AppendLies
import Derived.Deep.Onto
import Derived.Deep.RegionLaw
import Derived.OwnWalk
import Derived.Shelf.Strings.Repeat
import Derived.Shelf.Slices.Turned
import Derived.Ground.Names2Prog
import Derived.Shelf.Slices.Clone
/- Small general lemmas: endings, byte rows, decimal of numbers into bytes. -/
namespace Go.Proofs.Ytncbojocglcieaa
open Go.RowKit
theorem ret_bool {a b : Bool} (h : a = b) : Ending.returned (.bool a) = .returned (.bool b) := by rw [h]
theorem ret_int {k : IntKind} {a b : Int} (h : a = b) : Ending.returned (.int k a) = .returned (.int k b) := by rw [h]
/-- The cells of bytes. -/
def bv (l : List UInt8) : List Value := l.map fun c => Value.int .u8 c.toNat
theorem bv_length (l : List UInt8) : (bv l).length = l.length := by simp [bv]
theorem bv_append (a b : List UInt8) : bv (a ++ b) = bv a ++ bv b := by simp [bv]
theorem bv_one (c : UInt8) : bv [c] = [.int .u8 c.toNat] := rfl
theorem strCells_bv (s : ByteArray) : Go.Lib.strCells s = bv s.data.toList := rfl
/-- The big-endian bytes of a number, so many. -/
def numBytes : Nat → Nat → List UInt8
  | 0, _ => []
  | s + 1, n => UInt8.ofNat (n / 256 ^ s % 256) :: numBytes s n
theorem numBytes_length (s n : Nat) : (numBytes s n).length = s := by induction s with | zero => rfl | succ s ih => simp [numBytes, ih]
theorem numBytes_snoc (s n : Nat) : numBytes (s + 1) n = numBytes s (n / 256) ++ [UInt8.ofNat (n % 256)] := by
  induction s generalizing n with
  | zero => simp [numBytes]
  | succ s ih =>
    rw [numBytes, ih, numBytes, List.cons_append]
    congr 2
    rw [Nat.div_div_eq_div_mul, Nat.pow_succ, Nat.mul_comm]
theorem u8_ofNat_toNat (n : Nat) : (UInt8.ofNat (n % 256)).toNat = n % 256 := by simp
theorem shr_byte (n r : Nat) : Value.int .u8 ((n : Int) / 2 ^ (8 * r) % 256) = .int .u8 (UInt8.ofNat (n / 256 ^ r % 256)).toNat := by
  rw [u8_ofNat_toNat]
  congr 1
  have e0 : (2 : Nat) ^ (8 * r) = 256 ^ r := by rw [Nat.pow_mul]
  have e : (2 : Int) ^ (8 * r) = ((256 ^ r : Nat) : Int) := by rw [← e0]; simp
  rw [e]; omega
theorem wrap_u8 (k : Int) (h0 : 0 ≤ k) : Value.int .u8 (IntKind.u8.wrap k) = .int .u8 (UInt8.ofNat (k.toNat % 256)).toNat := by
  rw [u8_ofNat_toNat]
  congr 1
  obtain ⟨n, rfl⟩ := Int.eq_ofNat_of_zero_le h0
  simp [IntKind.wrap, IntKind.bits, IntKind.signed]
/-- What was there reads as before. -/
theorem bcell {W w1 : World} (hb : Below W.heap.size W w1) : (∀ b o, b < W.heap.size → w1.cell? ⟨b, o, none⟩ = W.cell? ⟨b, o, none⟩) ∧ (∀ b o, b < W.heap.size → w1.frozen? ⟨b, o, none⟩ = W.frozen? ⟨b, o, none⟩) :=
  ⟨fun b o h => hb.cell (p := ⟨b, o, none⟩) h, fun b o h => hb.frozen (p := ⟨b, o, none⟩) h⟩
theorem grown_refl (w : World) (r : Option Nat) : w.grownBy w r := ⟨rfl, rfl, rfl, Nat.le_refl _, fun _ _ _ => rfl⟩
theorem grown_trans {w w1 w2 : World} {r : Option Nat} (h : w.grownBy w1 r) (k : w1.grownBy w2 r) : w.grownBy w2 r :=
  ⟨k.os.trans h.os, k.tape.trans h.tape, k.output.trans h.output, Nat.le_trans h.size k.size, fun i hi hne => (k.block i (Nat.lt_of_lt_of_le hi h.size) hne).trans (h.block i hi hne)⟩
theorem grown_none {w w1 : World} (h : w.grownBy w1 none) (r : Option Nat) : w.grownBy w1 r := ⟨h.os, h.tape, h.output, h.size, fun i hi _ => h.block i hi (by simp)⟩
theorem grown_below {w w1 : World} (h : Below w.heap.size w w1) (r : Option Nat) : w.grownBy w1 r := ⟨h.os, h.tape, h.output, h.size, fun i hi _ => h.block i hi⟩
theorem grown_set (w : World) (g o : Nat) (v : Value) : w.grownBy (w.setCell ⟨g, o, none⟩ v) (some g) :=
  ⟨rfl, rfl, rfl, by simp [World.setCell], fun k _ hne => Below.heap_setCell _ _ _ _ (fun e => hne (by rw [e]))⟩
theorem grown_lift {w w1 : World} {g B : Nat} (h : w.grownBy w1 (some g)) (hB : B ≤ g) (hB2 : B ≤ w.heap.size) : Below B w w1 :=
  ⟨h.os, h.tape, h.output, h.size, fun k hk => h.block k (by omega) (by simp; omega)⟩
theorem i64_or_nat (a b : Nat) (ha : a < 4611686018427387904) (hb : b < 4611686018427387904) : bits .or .i64 (a : Int) (b : Int) = ((a ||| b : Nat) : Int) := by
  have hx : a ||| b < 2 ^ 62 := Nat.or_lt_two_pow (by omega) (by omega)
  have h1 : (BitVec.ofInt 64 (a : Int)).toNat = a := by
    rw [BitVec.ofInt_natCast, BitVec.toNat_ofNat]; exact Nat.mod_eq_of_lt (by omega)
  have h2 : (BitVec.ofInt 64 (b : Int)).toNat = b := by
    rw [BitVec.ofInt_natCast, BitVec.toNat_ofNat]; exact Nat.mod_eq_of_lt (by omega)
  show IntKind.i64.wrap ((BitVec.ofInt 64 (a : Int) ||| BitVec.ofInt 64 (b : Int)).toNat : Int) = _
  rw [BitVec.toNat_or, h1, h2]
  exact IntWalk.i64_in _ (by omega)
theorem or_byte (m c : Nat) (hm : m < 1099511627776) (hc : c < 256) : bits .or .i64 ((m : Int) * 256) (c : Int) = ((m * 256 + c : Nat) : Int) := by
  have h := i64_or_nat (m * 256) c (by omega) (by omega)
  rw [Int.natCast_mul] at h
  rw [show ((m : Int) * 256) = (m : Int) * ((256 : Nat) : Int) from rfl, h]
  have := Nat.shiftLeft_add_eq_or_of_lt (b := c) (i := 8) (by omega) m
  rw [Nat.shiftLeft_eq] at this
  rw [← this]
end Go.Proofs.Ytncbojocglcieaa

/- What turns in memory, and what does not: Qt, Keep; blocks of cells. -/
namespace Go.Proofs.Ytncbojocglcieaa
open Go.RowKit
/-- Nothing in memory has turned (draws apart). -/
structure Qt (w w' : World) : Prop where
  heap : w'.heap = w.heap
  os : w'.os = w.os
  tape : w'.tape = w.tape
  output : w'.output = w.output
theorem Qt.refl (w : World) : Qt w w := ⟨rfl, rfl, rfl, rfl⟩
theorem Qt.drewN (w : World) (n : Nat) : Qt w (w.drewN n) := ⟨rfl, rfl, rfl, rfl⟩
theorem Qt.cell {w w' : World} (h : Qt w w') (a : Addr) : w'.cell? a = w.cell? a := by unfold World.cell?; rw [h.heap]
/-- Only blocks of F have turned; new ones may have come. -/
structure Keep (F : Nat → Prop) (w w' : World) : Prop where
  os : w'.os = w.os
  tape : w'.tape = w.tape
  output : w'.output = w.output
  size : w.heap.size ≤ w'.heap.size
  block : ∀ k, k < w.heap.size → ¬ F k → w'.heap[k]? = w.heap[k]?
theorem Keep.refl (F : Nat → Prop) (w : World) : Keep F w w := ⟨rfl, rfl, rfl, Nat.le_refl _, fun _ _ _ => rfl⟩
theorem Keep.trans {F : Nat → Prop} {a b c : World} (h : Keep F a b) (k : Keep F b c) : Keep F a c :=
  ⟨k.os.trans h.os, k.tape.trans h.tape, k.output.trans h.output, Nat.le_trans h.size k.size, fun i hi hn => (k.block i (Nat.lt_of_lt_of_le hi h.size) hn).trans (h.block i hi hn)⟩
/-- What is behind may also touch what is new. -/
theorem Keep.trans' {F G : Nat → Prop} {a b c : World} (h : Keep F a b) (k : Keep G b c) (hG : ∀ i, G i → F i ∨ a.heap.size ≤ i) : Keep F a c :=
  ⟨k.os.trans h.os, k.tape.trans h.tape, k.output.trans h.output, Nat.le_trans h.size k.size, fun i hi hn => (k.block i (Nat.lt_of_lt_of_le hi h.size) (fun g => (hG i g).elim hn (fun q => absurd hi (Nat.not_lt.mpr q)))).trans (h.block i hi hn)⟩
theorem Keep.mono {F G : Nat → Prop} {a b : World} (h : Keep F a b) (hG : ∀ i, F i → G i ∨ a.heap.size ≤ i) : Keep G a b :=
  ⟨h.os, h.tape, h.output, h.size, fun i hi hn => h.block i hi (fun f => (hG i f).elim hn (fun q => absurd hi (Nat.not_lt.mpr q)))⟩
theorem Keep.qt {F : Nat → Prop} {a b : World} (h : Qt a b) : Keep F a b := ⟨h.os, h.tape, h.output, by rw [h.heap]; exact Nat.le_refl _, fun i _ _ => by rw [h.heap]⟩
theorem Keep.grown {a b : World} {r : Option Nat} (h : a.grownBy b r) : Keep (fun k => some k = r) a b := ⟨h.os, h.tape, h.output, h.size, h.block⟩
theorem Keep.below {B : Nat} {a b : World} (h : Below B a b) : Keep (fun k => B ≤ k) a b := ⟨h.os, h.tape, h.output, h.size, fun i _ hn => h.block i (Nat.lt_of_not_le hn)⟩
theorem Keep.toBelow {F : Nat → Prop} {B : Nat} {a b : World} (h : Keep F a b) (hB : B ≤ a.heap.size) (hF : ∀ i, F i → B ≤ i) : Below B a b :=
  ⟨h.os, h.tape, h.output, h.size, fun i hi => h.block i (by omega) (fun f => by have := hF i f; omega)⟩
theorem Keep.set {F : Nat → Prop} {a b : World} (h : Keep F a b) (g o : Nat) (v : Value) (hg : F g ∨ a.heap.size ≤ g) : Keep F a (b.setCell ⟨g, o, none⟩ v) :=
  h.trans' (G := fun k => k = g) ⟨rfl, rfl, rfl, by simp [World.setCell], fun k _ hn => Below.heap_setCell _ _ _ _ hn⟩ (fun i hi => by subst hi; exact hg)
theorem Keep.alloc {F : Nat → Prop} {a b : World} (h : Keep F a b) (o : Obj) : Keep F a (b.alloc o) :=
  h.trans ⟨rfl, rfl, rfl, by simp, fun k hk _ => Below.heap_alloc _ _ _ hk⟩
theorem Keep.drew {F : Nat → Prop} {a b : World} (h : Keep F a b) : Keep F a b.drew := h.trans ⟨rfl, rfl, rfl, Nat.le_refl _, fun _ _ _ => rfl⟩
theorem Keep.drewN {F : Nat → Prop} {a b : World} (h : Keep F a b) (n : Nat) : Keep F a (b.drewN n) := h.trans ⟨rfl, rfl, rfl, Nat.le_refl _, fun _ _ _ => rfl⟩
theorem m_lt {w : World} {b : Nat} {o : Obj} (hb : w.heap[b]? = some o) : b < w.heap.size := by
  rcases Nat.lt_or_ge b w.heap.size with h' | h'
  · exact h'
  · rw [Array.getElem?_eq_none h'] at hb; cases hb
theorem m_alloc (w : World) (o : Obj) (n : Nat) (h : w.heap.size = n) : (w.alloc o).heap[n]? = some o := by subst h; exact heap_alloc_new w o
theorem m_old {w : World} {b : Nat} {x : Obj} (o : Obj) (hb : w.heap[b]? = some x) : (w.alloc o).heap[b]? = some x := by rw [Below.heap_alloc _ _ _ (m_lt hb)]; exact hb
theorem m_set {w : World} {b : Nat} {cs : Array Value} {t : TypeId} (h : w.heap[b]? = some (.cells cs t (0, 0))) (o : Nat) (v : Value) : (w.setCell ⟨b, o, none⟩ v).heap[b]? = some (.cells (cs.setIfInBounds o v) t (0, 0)) := by
  simp [World.setCell, Array.getElem?_modify, h]
theorem m_set_ne {w : World} {b : Nat} {x : Obj} (h : w.heap[b]? = some x) (g o : Nat) (v : Value) (hne : b ≠ g) : (w.setCell ⟨g, o, none⟩ v).heap[b]? = some x := by
  rw [Below.heap_setCell _ _ _ _ hne]; exact h
theorem m_keep {F : Nat → Prop} {w w' : World} {b : Nat} {x : Obj} (h : w.heap[b]? = some x) (k : Keep F w w') (hn : ¬ F b) : w'.heap[b]? = some x := by rw [k.block b (m_lt h) hn]; exact h
theorem m_cells {w : World} {b : Nat} {cs : Array Value} {t : TypeId} (h : w.heap[b]? = some (.cells cs t (0, 0))) : (∀ o, w.cell? ⟨b, o, none⟩ = cs[o]?) ∧ (∀ o, w.frozen? ⟨b, o, none⟩ = false) :=
  ⟨fun o => by simp [World.cell?, h], fun o => by simp [World.frozen?, h]⟩
end Go.Proofs.Ytncbojocglcieaa

/- Rows of whatever kind of element: what a slice of the call's own holds, what one that came in holds; appending. -/
namespace Go.Proofs.Ytncbojocglcieaa
open Go.RowKit
set_option linter.unusedSimpArgs false
/-- A kind of element: its type's number, its cells, its bytes. -/
structure EK (α : Type) where
  t : TypeId
  size : Nat
  bytes : Nat
  enc : α → List Value
  len : ∀ x, (enc x).length = size
  one : ∀ x, ∀ u ∈ enc x, u.oneCell' = true
  pos : 0 < size
/-- The kind lies so in this program. -/
def EK.Laid {α : Type} (E : EK α) : Prop := ∃ (i : TypeInfo) (z : Value), Try.prog.info? E.t = some i ∧ i.zero = some z ∧ i.size = E.size ∧ i.bytes = E.bytes ∧ z.cells.size = E.size
theorem EK.laid {α : Type} {E : EK α} {z : Value} (h : (Try.prog.info? E.t).map (fun i => (i.zero, i.size, i.bytes)) = some (some z, E.size, E.bytes)) (hz : z.cells.size = E.size) : E.Laid := by
  obtain ⟨i, h1, h2, h3, h4⟩ := info_parts h
  exact ⟨i, z, h1, h2, h3, h4, hz⟩
section plain
variable {α : Type} (E : EK α)
theorem EK.flat_len (l : List α) : (l.flatMap E.enc).length = l.length * E.size := by
  induction l with
  | nil => simp
  | cons x l ih => simp [ih, E.len, Nat.succ_mul, Nat.add_comm]
theorem EK.flat_get (l : List α) (i j : Nat) (hj : j < E.size) : (l.flatMap E.enc)[i * E.size + j]? = (l[i]?).bind (fun x => (E.enc x)[j]?) := by
  induction l generalizing i with
  | nil => simp
  | cons x l ih =>
    rw [List.flatMap_cons]
    rcases i with _ | i
    · rw [Nat.zero_mul, Nat.zero_add, List.getElem?_append_left (by rw [E.len]; exact hj)]; simp
    · rw [List.getElem?_append_right (by rw [E.len, Nat.succ_mul]; omega), E.len, show (i + 1) * E.size + j - E.size = i * E.size + j from by rw [Nat.succ_mul]; omega, ih i]; simp
theorem EK.flat_one (l : List α) : ∀ u ∈ l.flatMap E.enc, u.oneCell' = true := by
  intro u hu
  obtain ⟨x, _, h⟩ := List.mem_flatMap.1 hu
  exact E.one x u h
end plain
/-- A slice of the call's own. -/
def Row {α : Type} (E : EK α) (w : World) (B : Nat) (v : Value) (l : List α) : Prop := w.ownsRow B E.t E.size v l.length (l.flatMap E.enc)
/-- A slice that can be read. -/
def Arg {α : Type} (E : EK α) (w : World) (v : Value) (l : List α) : Prop :=
  ∃ a cap, v = .slice a l.length cap ∧ ((a = none ∧ cap = 0 ∧ l = []) ∨ ∃ x, a = some x ∧ ∀ j u, (l.flatMap E.enc)[j]? = some u → w.cell? (x.add j) = some u)
section
variable {α : Type} {E : EK α} {w w' : World} {B : Nat} {v : Value} {l : List α}
theorem Row.kept (h : Row E w B v l) (hk : ∀ k, v.ownBlock = some k → w'.heap[k]? = w.heap[k]?) : Row E w' B v l := by
  obtain ⟨h1, h2⟩ := h
  refine ⟨h1, ?_⟩
  rcases h2 with h2 | ⟨g, cap, cur, rfl, hg, hh, r⟩
  · exact Or.inl h2
  · exact Or.inr ⟨g, cap, cur, rfl, hg, by rw [hk g rfl]; exact hh, r⟩
theorem Row.qt (h : Row E w B v l) (q : Qt w w') : Row E w' B v l := h.kept fun _ _ => by rw [q.heap]
theorem Row.lt (h : Row E w B v l) {k : Nat} (hk : v.ownBlock = some k) : k < w.heap.size := (World.ownsRow.lt h k hk).2
theorem Row.ge (h : Row E w B v l) {k : Nat} (hk : v.ownBlock = some k) : B ≤ k := (World.ownsRow.lt h k hk).1
theorem Row.keep {F : Nat → Prop} (h : Row E w B v l) (k : Keep F w w') (hd : ∀ i, v.ownBlock = some i → ¬ F i) : Row E w' B v l := h.kept (fun j hj => k.block j (h.lt hj) (hd j hj))
theorem Row.below (h : Row E w B v l) (k : Below w.heap.size w w') : Row E w' B v l := h.kept (fun j hj => k.block j (h.lt hj))
theorem Row.mono {B' : Nat} (h : Row E w B v l) (hb : B' ≤ B) : Row E w B' v l := World.ownsRow.mono h hb
/-- Its blocks lie from B on. -/
theorem Row.raise {B' : Nat} (h : Row E w B v l) (hb : ∀ k, v.ownBlock = some k → B' ≤ k) : Row E w B' v l := by
  obtain ⟨h1, h2⟩ := h
  exact ⟨h1, h2.imp id (fun ⟨g, cap, cur, e, hg, r⟩ => ⟨g, cap, cur, e, hb g (by rw [e]; rfl), r⟩)⟩
theorem Row.alloc (h : Row E w B v l) (o : Obj) : Row E (w.alloc o) B v l := World.ownsRow.alloc h o
theorem Row.nil (E : EK α) (w : World) (B : Nat) : Row E w B (.slice none 0 0) [] := World.ownsRow_nil _ _ _ _
theorem Row.new (w : World) (B : Nat) (cs : Array Value) (l : List α) (hB : B ≤ w.heap.size) (e : cs.toList = l.flatMap E.enc) (hl : l.length ≤ maxLen) : Row E (w.alloc (.cells cs E.t)) B (.slice (some ⟨w.heap.size, 0, none⟩) l.length l.length) l := by
  have := World.ownsRow_lit (base := B) (e := E.t) (size := E.size) w cs l.length hB hl (by rw [← Array.length_toList, e, E.flat_len])
  rw [e] at this; exact this
theorem Row.isSlice (h : Row E w B v l) : ∃ a n c, v = .slice a n c := by
  rcases h.2 with ⟨rfl, _⟩ | ⟨_, _, _, rfl, _⟩
  · exact ⟨_, _, _, rfl⟩
  · exact ⟨_, _, _, rfl⟩
theorem Row.shape (h : Row E w B v l) : ∃ a c, v = .slice a l.length c := by
  rcases h.2 with ⟨rfl, q⟩ | ⟨_, _, _, rfl, _⟩
  · exact ⟨_, _, by rw [q]⟩
  · exact ⟨_, _, rfl⟩
theorem Row.len_eq {a : Option Addr} {n c : Nat} (h : Row E w B (.slice a n c) l) : n = l.length := by
  obtain ⟨_, _, e⟩ := h.shape
  simp only [Value.slice.injEq] at e; exact e.2.1
/-- What a row with something in it looks like. -/
theorem Row.slice (h : Row E w B v l) (hl : l ≠ []) : ∃ g cap, v = .slice (some ⟨g, 0, none⟩) l.length cap ∧ B ≤ g ∧ g < w.heap.size ∧ l.length ≤ cap ∧ cap ≤ maxLen ∧
    (∀ i x, l[i]? = some x → ∀ j, j < E.size → w.cell? ⟨g, i * E.size + j, none⟩ = (E.enc x)[j]?) ∧ (∀ i, w.frozen? ⟨g, i, none⟩ = false) := by
  have h0 := h
  obtain ⟨h1, h2⟩ := h
  rcases h2 with ⟨_, h2⟩ | ⟨g, cap, cur, rfl, hg, hh, hn, hc, _, _⟩
  · exact absurd (List.eq_nil_of_length_eq_zero h2) hl
  · refine ⟨g, cap, rfl, hg, (World.ownsRow.lt h0 g rfl).2, hn, hc, fun i x hx j hj => ?_, fun i => by simp [World.frozen?, hh]⟩
    have hi : i < l.length := (List.getElem?_eq_some_iff.1 hx).1
    have hb : i * E.size + j < l.length * E.size := by
      have : (i + 1) * E.size ≤ l.length * E.size := Nat.mul_le_mul_right _ hi
      rw [Nat.succ_mul] at this; omega
    rw [World.ownsRow.cellAt h0 _ hb, E.flat_get l i j hj, hx]; rfl
theorem Row.arg (h : Row E w B v l) : Arg E w v l := by
  rcases h.2 with ⟨rfl, q⟩ | ⟨g, cap, cur, rfl, _⟩
  · have := List.eq_nil_of_length_eq_zero q
    subst this
    exact ⟨none, 0, rfl, Or.inl ⟨rfl, rfl, rfl⟩⟩
  · exact ⟨_, _, rfl, Or.inr ⟨_, rfl, fun j u hj => World.ownsRow.cells h rfl j u hj⟩⟩
theorem Arg.nil (E : EK α) (w : World) : Arg E w (.slice none 0 0) [] := ⟨none, 0, rfl, Or.inl ⟨rfl, rfl, rfl⟩⟩
theorem Arg.below (h : Arg E w v l) (hb : Below w.heap.size w w') : Arg E w' v l := by
  obtain ⟨a, cap, rfl, h⟩ := h
  refine ⟨a, cap, rfl, ?_⟩
  rcases h with h | ⟨x, rfl, hc⟩
  · exact Or.inl h
  · refine Or.inr ⟨x, rfl, fun j u hj => ?_⟩
    have := hc j u hj
    rw [hb.cell (World.block_lt_of_cell? _ _ this)]; exact this
theorem Arg.below' (h : Arg E w v l) (hb : Below w.heap.size w w') : Arg E w' v l := h.below hb
theorem Arg.keep {F : Nat → Prop} (h : Arg E w v l) (k : Keep F w w') (hd : ∀ i, v.ownBlock = some i → ¬ F i) : Arg E w' v l := by
  obtain ⟨a, cap, rfl, h⟩ := h
  refine ⟨a, cap, rfl, ?_⟩
  rcases h with h | ⟨x, rfl, hc⟩
  · exact Or.inl h
  · refine Or.inr ⟨x, rfl, fun j u hj => ?_⟩
    have hx := hc j u hj
    have hb : (x.add j).block = x.block := by unfold Addr.add; split <;> rfl
    rw [World.cell?_of_block (k.block _ (World.block_lt_of_cell? _ _ hx) (by rw [hb]; exact hd _ rfl))]; exact hx
theorem Arg.shape (h : Arg E w v l) : ∃ a c, v = .slice a l.length c := by obtain ⟨a, cap, rfl, _⟩ := h; exact ⟨_, _, rfl⟩
theorem Arg.cells (h : Arg E w v l) (h0 : l ≠ []) : ∃ b off cap, v = .slice (some ⟨b, off, none⟩) l.length cap ∧ ∀ i x, l[i]? = some x → ∀ j, j < E.size → w.cell? ⟨b, off + (i * E.size + j), none⟩ = (E.enc x)[j]? := by
  obtain ⟨a, cap, rfl, h⟩ := h
  rcases h with ⟨_, _, e⟩ | ⟨x, rfl, hc⟩
  · exact absurd e h0
  · obtain ⟨b, off, spot⟩ := x
    have hall : ∀ i x, l[i]? = some x → ∀ j, j < E.size → w.cell? ((⟨b, off, spot⟩ : Addr).add (i * E.size + j)) = (E.enc x)[j]? := fun i x hx j hj => by
      have hjl : j < (E.enc x).length := by rw [E.len]; exact hj
      have := hc (i * E.size + j) (E.enc x)[j] (by rw [E.flat_get l i j hj, hx]; simp [hjl])
      rw [this]; simp [hjl]
    obtain ⟨y, ys, rfl⟩ := List.exists_cons_of_ne_nil h0
    have hjl : 0 < (E.enc y).length := by rw [E.len]; exact E.pos
    have hc0 := hall 0 y rfl 0 E.pos
    rw [List.getElem?_eq_getElem hjl] at hc0
    have hspot : spot = none := by simpa [Addr.add] using World.cell?_spot hc0
    subst hspot
    exact ⟨b, off, cap, rfl, fun i x hx j hj => by have := hall i x hx j hj; rwa [Addr.add_lit] at this⟩
end
section
variable {α : Type} {E : EK α} {ops : Array Oper} {rest : List Oper} {o : Oper} {a : Act} {w : World} {Q : Exit → Act → World → Prop} {B : Nat}
theorem append_types {P : Program} {t tx ty e e' : TypeId} {v x : Value} {w : World} (ht : P.underlying t = some (.slice e)) (hx : P.underlying tx = some (.slice e')) :
    (Builtin.append_ #[t, tx] ty #[v, x]).run P w = (Builtin.append_ #[t, t] ty #[v, x]).run P w := by
  unfold Builtin.append_
  cases v <;> simp [run_underlying ht, run_underlying hx]
/-- A row that came, behind one of the call's own: at the operation. -/
theorem wp_app {K : Act → World → Prop} (L : E.Laid) (s x : Operand) (ts tx : TypeId) (hts : Try.prog.underlying ts = some (.slice E.t)) (htx : Try.prog.underlying tx = some (.slice E.t)) (ho : o.op = .call { callee := .builtin .append, args := #[s, x], argTypes := #[ts, tx] })
    (v : Value) (l : List α) (hs : a.eval s = v) (hown : Row E w B v l) (tv : Value) (news : List α) (hx : a.eval x = tv) (harg : Arg E w tv news) (hbytes : (l.length + news.length) * E.bytes ≤ 140737488355328) (h63 : l.length + news.length ≤ maxLen) (hbase : B ≤ w.heap.size)
    (h : ∀ v' w', Row E w' B v' (l ++ news) → (∀ k, v'.ownBlock = some k → v.ownBlock = some k ∨ w.heap.size = k) → Keep (fun k => some k = v.ownBlock) w w' → K (a.put o.dst v') w') : o.wp Try.prog a w K Q := by
  obtain ⟨i0, z, hi, hz, hs0, hby, hzs⟩ := L
  obtain ⟨ad, cap, rfl, harg⟩ := harg
  rcases harg with ⟨rfl, rfl, rfl⟩ | ⟨ad, rfl, hc⟩
  · have hrun := run_append_owned_none (P := Try.prog) (w := w) B ts o.type E.t i0 E.size hts hi v l.length (l.flatMap E.enc) hown
    unfold Oper.wp execOp
    simp only [ho, resolve, invoke, builtin, Sem.run_bind, Sem.run_pure, Result.andThen_ok, List.map_toArray, List.map_cons, List.map_nil, hs, hx, append_types hts htx, List.length_nil, hrun]
    exact h v w (by rw [List.append_nil]; exact hown) (fun _ q => Or.inl q) (Keep.refl _ _)
  · obtain ⟨v', w', hr, h2, h3, _, h5⟩ := run_append_own_at (P := Try.prog) w B ts o.type E.t i0 z E.size E.bytes hts hi hz hs0 hby hzs E.pos v l.length (l.flatMap E.enc) hown ad news.length cap (news.flatMap E.enc) (E.flat_len news)
      hc (E.flat_one news) h63 hbytes hbase
    unfold Oper.wp execOp
    simp only [ho, resolve, invoke, builtin, Sem.run_bind, Sem.run_pure, Result.andThen_ok, List.map_toArray, List.map_cons, List.map_nil, hs, hx, append_types hts htx, hr]
    refine h v' w' ?_ (fun k q => ?_) (Keep.grown h3)
    · unfold Row; rw [List.length_append, List.flatMap_append]; exact h2
    · rcases h5 with h5 | h5
      · exact Or.inl (by rw [← h5]; exact q)
      · rw [h5] at q; exact Or.inr (by simpa using q)
/-- At the list of a plain region's operations. -/
theorem app_row (L : E.Laid) (hgd : o.guard = none) (s x : Operand) (ts tx : TypeId) (hts : Try.prog.underlying ts = some (.slice E.t)) (htx : Try.prog.underlying tx = some (.slice E.t)) (ho : o.op = .call { callee := .builtin .append, args := #[s, x], argTypes := #[ts, tx] })
    (v : Value) (l : List α) (hs : a.eval s = v) (hown : Row E w B v l) (tv : Value) (news : List α) (hx : a.eval x = tv) (harg : Arg E w tv news) (hbytes : (l.length + news.length) * E.bytes ≤ 140737488355328) (h63 : l.length + news.length ≤ maxLen) (hbase : B ≤ w.heap.size)
    (h : ∀ v' w', Row E w' B v' (l ++ news) → (∀ k, v'.ownBlock = some k → v.ownBlock = some k ∨ w.heap.size = k) → Keep (fun k => some k = v.ownBlock) w w' → wpList Try.prog ops Q rest (a.put o.dst v') w') : wpList Try.prog ops Q (o :: rest) a w :=
  wpList_plain hgd fun _ hK => wp_app L s x ts tx hts htx ho v l hs hown tv news hx harg hbytes h63 hbase fun v' w' h1 h2 h3 => hK _ _ (h v' w' h1 h2 h3)
/-- At a step of a region that draws. -/
theorem step_app {K : Act → World → Prop} {E1 : Prop} (L : E.Laid) (hgd : o.guard = none) (s x : Operand) (ts tx : TypeId) (hts : Try.prog.underlying ts = some (.slice E.t)) (htx : Try.prog.underlying tx = some (.slice E.t)) (ho : o.op = .call { callee := .builtin .append, args := #[s, x], argTypes := #[ts, tx] })
    (v : Value) (l : List α) (hs : a.eval s = v) (hown : Row E w B v l) (tv : Value) (news : List α) (hx : a.eval x = tv) (harg : Arg E w tv news) (hbytes : (l.length + news.length) * E.bytes ≤ 140737488355328) (h63 : l.length + news.length ≤ maxLen) (hbase : B ≤ w.heap.size)
    (h : ∀ v' w', Row E w' B v' (l ++ news) → (∀ k, v'.ownBlock = some k → v.ownBlock = some k ∨ w.heap.size = k) → Keep (fun k => some k = v.ownBlock) w w' → K (a.put o.dst v') w') :
    if Region.wanted o (yielded ops a.tmps) = true then Oper.wp Try.prog o a w K Q else E1 := by
  have hw : Region.wanted o (yielded ops a.tmps) = true := by simp [Region.wanted, hgd]
  rw [if_pos hw]
  exact wp_app L s x ts tx hts htx ho v l hs hown tv news hx harg hbytes h63 hbase h
end
/-- What was just laid. -/
theorem Arg.one {α : Type} {E : EK α} {w : World} (g : Nat) (y : α) (h : ∀ j, j < E.size → w.cell? ⟨g, j, none⟩ = (E.enc y)[j]?) : Arg E w (.slice (some ⟨g, 0, none⟩) 1 1) [y] := by
  refine ⟨_, _, rfl, Or.inr ⟨_, rfl, fun j u hj => ?_⟩⟩
  have hjl : j < E.size := by
    have := (List.getElem?_eq_some_iff.1 hj).1
    rw [E.flat_len] at this; simpa using this
  rw [Addr.add_lit, Nat.zero_add, h j hjl]
  simpa using hj
/-- A block that is known whole, as a slice. -/
theorem Arg.blk {α : Type} {E : EK α} {w : World} {g : Nat} {cs : Array Value} {t : TypeId} (hb : w.heap[g]? = some (.cells cs t (0, 0))) (l : List α) (h : cs.toList = l.flatMap E.enc) (c : Nat) : Arg E w (.slice (some ⟨g, 0, none⟩) l.length c) l := by
  refine ⟨_, _, rfl, Or.inr ⟨_, rfl, fun j u hj => ?_⟩⟩
  rw [Addr.add_lit, Nat.zero_add, (m_cells hb).1 j, ← Array.getElem?_toList, h]; exact hj
def EInt : EK Int := ⟨3, 1, 8, fun x => [.int .i64 x], fun _ => rfl, fun _ u hu => by simp at hu; subst hu; rfl, by decide⟩
def EStr : EK ByteArray := ⟨9, 1, 16, fun x => [.string x], fun _ => rfl, fun _ u hu => by simp at hu; subst hu; rfl, by decide⟩
theorem EInt.laid : EInt.Laid := EK.laid (z := .int .i64 0) (by kernel_rfl) (by decide)
theorem EStr.laid : EStr.Laid := EK.laid (z := .string ⟨#[]⟩) (by kernel_rfl) (by decide)
end Go.Proofs.Ytncbojocglcieaa

/- Maps with int keys: what is in memory as a list of pairs; look-up, store, delete, length. -/
namespace Go.Proofs.Ytncbojocglcieaa
open Go.RowKit
set_option linter.unusedSimpArgs false
/-- What a key leads to. -/
def mget {V : Type} (L : List (Int × V)) (k : Int) : Option V := (L.find? (fun p => p.1 == k)).map (·.2)
/-- A pair stored. -/
def mput {V : Type} (L : List (Int × V)) (k : Int) (v : V) : List (Int × V) :=
  if L.any (fun p => p.1 == k) then L.map (fun p => if p.1 == k then (k, v) else p) else L ++ [(k, v)]
/-- A key struck. -/
def mdel {V : Type} (L : List (Int × V)) (k : Int) : List (Int × V) := L.filter (fun p => !(p.1 == k))
def mkeys {V : Type} (L : List (Int × V)) : List Int := L.map (·.1)
section plain
variable {V : Type}
theorem mget_nil (k : Int) : mget ([] : List (Int × V)) k = none := rfl
theorem mget_cons (p : Int × V) (L : List (Int × V)) (k : Int) : mget (p :: L) k = if p.1 = k then some p.2 else mget L k := by
  unfold mget
  by_cases h : p.1 = k
  · simp [h]
  · simp [h]
theorem mget_none_iff (L : List (Int × V)) (k : Int) : mget L k = none ↔ k ∉ mkeys L := by
  induction L with
  | nil => simp [mget_nil, mkeys]
  | cons p L ih =>
    rw [mget_cons]
    by_cases h : p.1 = k
    · simp [h, mkeys]
    · rw [if_neg h, ih]; simp [mkeys, Ne.symm h]
theorem any_iff (L : List (Int × V)) (k : Int) : L.any (fun p => p.1 == k) = true ↔ k ∈ mkeys L := by
  simp [mkeys]
theorem any_false (L : List (Int × V)) (k : Int) (h : k ∉ mkeys L) : L.any (fun p => p.1 == k) = false := by
  rw [Bool.eq_false_iff]; intro q; exact h ((any_iff L k).1 q)
theorem mkeys_put (L : List (Int × V)) (k : Int) (v : V) : mkeys (mput L k v) = if k ∈ mkeys L then mkeys L else mkeys L ++ [k] := by
  unfold mput
  by_cases h : k ∈ mkeys L
  · rw [if_pos ((any_iff L k).2 h), if_pos h]
    unfold mkeys
    rw [List.map_map]
    apply List.map_congr_left
    intro p _
    by_cases e : p.1 = k <;> simp [e]
  · rw [if_neg (by rw [any_false L k h]; simp), if_neg h]; simp [mkeys]
theorem mget_put (L : List (Int × V)) (k : Int) (v : V) (k' : Int) : mget (mput L k v) k' = if k' = k then some v else mget L k' := by
  unfold mput
  by_cases h : k ∈ mkeys L
  · rw [if_pos ((any_iff L k).2 h)]
    induction L with
    | nil => simp [mkeys] at h
    | cons p L ih =>
      rw [List.map_cons, mget_cons]
      by_cases e : p.1 = k
      · simp only [e, beq_self_eq_true, if_true]
        by_cases e2 : k' = k
        · rw [if_pos e2.symm, if_pos e2]
        · rw [if_neg (fun q => e2 q.symm), if_neg e2, mget_cons, if_neg (by rw [e]; exact fun q => e2 q.symm)]
          by_cases h3 : k ∈ mkeys L
          · rw [ih h3, if_neg e2]
          · have : L.map (fun p => if (p.1 == k) = true then (k, v) else p) = L := by
              rw [List.map_congr_left (g := id) (fun q hq => ?_), List.map_id]
              have : q.1 ≠ k := fun e3 => h3 (by rw [← e3]; exact List.mem_map_of_mem hq)
              simp [this]
            rw [this]
      · have hk : k ∈ mkeys L := by simp [mkeys] at h; rcases h with h | h; exact absurd h.symm e; simpa [mkeys] using h
        simp only [e, beq_iff_eq, if_false]
        by_cases e2 : p.1 = k'
        · rw [if_pos e2, mget_cons, if_pos e2, if_neg (by rw [← e2]; exact e)]
        · rw [if_neg e2, mget_cons, if_neg e2]
          have := ih hk
          simpa using this
  · rw [if_neg (by rw [any_false L k h]; simp)]
    induction L with
    | nil =>
      rw [List.nil_append, mget_cons, mget_nil]
      by_cases e : k' = k
      · simp [e]
      · simp [e, Ne.symm e]
    | cons p L ih =>
      have h1 : k ∉ mkeys L := fun q => h (List.mem_cons_of_mem _ q)
      have h2 : p.1 ≠ k := fun q => h (by rw [← q]; exact List.mem_cons_self ..)
      rw [List.cons_append, mget_cons, mget_cons, ih h1]
      by_cases e : p.1 = k'
      · rw [if_pos e, if_pos e, if_neg (by rw [← e]; exact h2)]
      · rw [if_neg e, if_neg e]
theorem mkeys_del (L : List (Int × V)) (k : Int) : mkeys (mdel L k) = (mkeys L).filter (fun q => !(q == k)) := by
  unfold mkeys mdel
  rw [List.filter_map]; rfl
theorem mget_del (L : List (Int × V)) (k k' : Int) : mget (mdel L k) k' = if k' = k then none else mget L k' := by
  induction L with
  | nil => simp [mdel, mget_nil]
  | cons p L ih =>
    unfold mdel at *
    by_cases e : p.1 = k
    · rw [List.filter_cons_of_neg (by simp [e]), ih, mget_cons]
      by_cases e2 : k' = k
      · rw [if_pos e2, if_pos e2]
      · rw [if_neg e2, if_neg e2, if_neg (by rw [e]; exact fun q => e2 q.symm)]
    · rw [List.filter_cons_of_pos (by simp [e]), mget_cons, mget_cons, ih]
      by_cases e2 : p.1 = k'
      · rw [if_pos e2, if_pos e2, if_neg (by rw [← e2]; exact e)]
      · rw [if_neg e2, if_neg e2]
theorem nodup_put (L : List (Int × V)) (k : Int) (v : V) (h : (mkeys L).Nodup) : (mkeys (mput L k v)).Nodup := by
  rw [mkeys_put]
  by_cases e : k ∈ mkeys L
  · rw [if_pos e]; exact h
  · rw [if_neg e, List.nodup_append]
    exact ⟨h, by simp, fun a ha b hb => by simp at hb; rw [hb]; exact fun q => e (by rw [← q]; exact ha)⟩
theorem nodup_del (L : List (Int × V)) (k : Int) (h : (mkeys L).Nodup) : (mkeys (mdel L k)).Nodup := by
  rw [mkeys_del]; exact h.filter _
theorem mput_length (L : List (Int × V)) (k : Int) (v : V) : (mput L k v).length = if k ∈ mkeys L then L.length else L.length + 1 := by
  have := congrArg List.length (mkeys_put L k v)
  rw [show (mkeys (mput L k v)).length = (mput L k v).length from by simp [mkeys]] at this
  rw [this]
  by_cases e : k ∈ mkeys L
  · rw [if_pos e, if_pos e]; simp [mkeys]
  · rw [if_neg e, if_neg e]; simp [mkeys]
end plain
end Go.Proofs.Ytncbojocglcieaa

/- Maps with int keys in memory: the laws of the operations. -/
namespace Go.Proofs.Ytncbojocglcieaa
open Go.RowKit
set_option linter.unusedSimpArgs false
/-- Block b is a map that reads as L, its values by enc. -/
def IMap {V : Type} (enc : V → Value) (w : World) (b : Nat) (L : List (Int × V)) : Prop :=
  ∃ (E : Array MapEntry) (clock : Nat), w.heap[b]? = some (.map E clock) ∧ E.toList.map (fun e => (e.key, e.val)) = L.map (fun p => (Value.int .i64 p.1, enc p.2)) ∧ (mkeys L).Nodup
section
variable {V : Type} {enc : V → Value} {w w' : World} {b : Nat} {L : List (Int × V)}
theorem IMap.lt (h : IMap enc w b L) : b < w.heap.size := by obtain ⟨E, c, hb, _⟩ := h; exact m_lt hb
theorem IMap.nodup (h : IMap enc w b L) : (mkeys L).Nodup := by obtain ⟨_, _, _, _, h⟩ := h; exact h
theorem IMap.blk (h : IMap enc w b L) (hb : w'.heap[b]? = w.heap[b]?) : IMap enc w' b L := by obtain ⟨E, c, h1, h2⟩ := h; exact ⟨E, c, by rw [hb]; exact h1, h2⟩
theorem IMap.keep {F : Nat → Prop} (h : IMap enc w b L) (k : Keep F w w') (hn : ¬ F b) : IMap enc w' b L := h.blk (k.block b h.lt hn)
theorem IMap.qt (h : IMap enc w b L) (q : Qt w w') : IMap enc w' b L := h.blk (by rw [q.heap])
theorem IMap.new (w : World) : IMap enc (w.alloc (.map #[] 0)) w.heap.size [] := ⟨#[], 0, heap_alloc_new w _, rfl, by simp [mkeys]⟩
theorem findNow_int (k : Int) (q : IntKind) (hq : q = .i64) : ∀ (E : List MapEntry) (L : List (Int × V)) (i : Nat), E.map (fun e => (e.key, e.val)) = L.map (fun p => (Value.int .i64 p.1, enc p.2)) →
    (mget L k = none ∧ Instr.findNow (.int q) (.int .i64 k) E i = some none) ∨
    ∃ (j : Nat) (v : V), mget L k = some v ∧ Instr.findNow (.int q) (.int .i64 k) E i = some (some (i + j, enc v)) ∧ L[j]? = some (k, v) ∧ j < E.length := by
  subst hq
  intro E
  induction E with
  | nil =>
    intro L i h
    have : L = [] := by simpa using h.symm
    subst this
    exact Or.inl ⟨rfl, rfl⟩
  | cons e E ih =>
    intro L i h
    rcases L with _ | ⟨p, L⟩
    · simp at h
    · simp only [List.map_cons, List.cons.injEq, Prod.mk.injEq] at h
      obtain ⟨⟨hk, hv⟩, hr⟩ := h
      by_cases e1 : p.1 = k
      · refine Or.inr ⟨0, p.2, by rw [mget_cons, if_pos e1], ?_, by rw [← e1]; rfl, by simp⟩
        simp only [Instr.findNow, hk, Instr.sameNow, if_true, e1, beq_self_eq_true, hv, Nat.add_zero]
      · have hne : (k == p.1) = false := by simpa using Ne.symm e1
        rcases ih L (i + 1) hr with ⟨h1, h2⟩ | ⟨j, v, h1, h2, h3, h4⟩
        · refine Or.inl ⟨by rw [mget_cons, if_neg e1]; exact h1, ?_⟩
          simp only [Instr.findNow, hk, Instr.sameNow, if_true, hne]; exact h2
        · refine Or.inr ⟨j + 1, v, by rw [mget_cons, if_neg e1]; exact h1, ?_, by simpa using h3, by simp; exact h4⟩
          simp only [Instr.findNow, hk, Instr.sameNow, if_true, hne]; rw [h2]; congr 3; omega
end
section
variable {V : Type} {enc : V → Value} {w w' : World} {b : Nat} {L : List (Int × V)} {P : Program} {t tk te : TypeId}
theorem run_checkKey_int (hk : P.underlying tk = some (.int .i64)) (c : Bool) (n : Nat) (k : Int) (w : World) : (Instr.checkKey c (n + 1) tk (.int .i64 k)).run P w = .ok () w := by
  simp [Instr.checkKey, run_underlying hk]
theorem run_getObj {E : Array MapEntry} {clock : Nat} (hb : w.heap[b]? = some (.map E clock)) : (Sem.getObj b Sem.pure).run P w = .ok (.map E clock) w := by simp [Sem.run, hb]
theorem run_setObj {E : Array MapEntry} {clock : Nat} (hb : w.heap[b]? = some (.map E clock)) (o : Obj) : (Sem.setObj b o (Sem.pure ())).run P w = .ok () { w with heap := w.heap.setIfInBounds b o } := by simp [Sem.run, hb]
theorem IMap.lookup (h : IMap enc w b L) (ht : P.underlying t = some (.map tk te)) (hk : P.underlying tk = some (.int .i64)) {z : Value} (hz : ∀ w, (zeroValue te).run P w = .ok z w) (k : Int) (c : Bool) :
    (Instr.lookup t (.map (some b)) (.int .i64 k) c).run P w = .ok (match mget L k with
      | some v => (if c then .tuple #[enc v, .bool true] else enc v)
      | none => (if c then .tuple #[z, .bool false] else z)) w := by
  obtain ⟨E, clock, hb, hE, _⟩ := h
  have hg := run_getObj (P := P) hb
  rcases findNow_int (enc := enc) k .i64 rfl E.toList L 0 hE with ⟨h1, h2⟩ | ⟨j, v, h1, h2, _, _⟩
  · simp [Instr.lookup, run_underlying ht, getObj, run_getObj hb, run_checkKey_int hk, Instr.findKey, run_underlying hk, h2, h1, hz, Result.andThen]
  · simp [Instr.lookup, run_underlying ht, getObj, run_getObj hb, run_checkKey_int hk, Instr.findKey, run_underlying hk, h2, h1, hz, Result.andThen]
theorem IMap.len (h : IMap enc w b L) (ht : P.underlying t = some (.map tk te)) (ty : TypeId) : (Builtin.len_ #[t] ty #[.map (some b)]).run P w = .ok (.int .i64 L.length) w := by
  obtain ⟨E, clock, hb, hE, _⟩ := h
  have : E.size = L.length := by have := congrArg List.length hE; simpa using this
  simp [Builtin.len_, run_underlying ht, getObj, run_getObj hb, Result.andThen, goInt, this]
theorem IMap.update (h : IMap enc w b L) (ht : P.underlying t = some (.map tk te)) (hk : P.underlying tk = some (.int .i64)) (k : Int) (v : V) :
    ∃ w', (Instr.mapUpdate t (.map (some b)) (.int .i64 k) (enc v)).run P w = .ok () w' ∧ IMap enc w' b (mput L k v) ∧ Keep (fun i => i = b) w w' := by
  obtain ⟨E, clock, hb, hE, hn⟩ := h
  have hlt := m_lt hb
  rcases findNow_int (enc := enc) k .i64 rfl E.toList L 0 hE with ⟨h1, h2⟩ | ⟨j, v0, h1, h2, h3, h4⟩
  · refine ⟨{ w with heap := w.heap.setIfInBounds b (.map (E.push { key := .int .i64 k, val := enc v, born := clock }) (clock + 1)) }, ?_, ?_, ?_⟩
    · simp [Instr.mapUpdate, run_underlying ht, getObj, setObj, run_getObj hb, run_setObj hb, run_checkKey_int hk, Instr.findKey, run_underlying hk, h2, Result.andThen]
    · have hk' := (mget_none_iff L k).1 h1
      refine ⟨_, _, by rw [Array.getElem?_setIfInBounds_self_of_lt hlt], ?_, nodup_put L k v hn⟩
      unfold mput; rw [if_neg (by rw [any_false L k hk']; simp)]
      simp [hE]
    · exact ⟨rfl, rfl, rfl, by simp, fun i _ hi => by simp [Array.getElem?_setIfInBounds, Ne.symm hi]⟩
  · have hkey : E[j]?.map (·.key) = some (.int .i64 k) := by
      have := congrArg (fun l => l[j]?) hE
      simp only [List.getElem?_map, h3, Array.getElem?_toList, Option.map_some] at this
      cases hEj : E[j]? with
      | none => rw [hEj] at this; simp at this
      | some e => rw [hEj] at this; simp at this; simp [this.1]
    refine ⟨{ w with heap := w.heap.setIfInBounds b (.map (E.modify j fun e => { e with key := .int .i64 k, val := enc v }) clock) }, ?_, ?_, ?_⟩
    · simp [Instr.mapUpdate, run_underlying ht, getObj, setObj, run_getObj hb, run_setObj hb, run_checkKey_int hk, Instr.findKey, run_underlying hk, h2, Result.andThen, hkey, Instr.keyThatStays, Instr.sameBits]
    · refine ⟨_, _, by rw [Array.getElem?_setIfInBounds_self_of_lt hlt], ?_, nodup_put L k v hn⟩
      have hk' : k ∈ mkeys L := by
        have := List.mem_of_getElem? h3
        exact List.mem_map_of_mem (f := Prod.fst) this
      unfold mput; rw [if_pos ((any_iff L k).2 hk')]
      apply List.ext_getElem?
      intro i
      have hEi := congrArg (fun l => l[i]?) hE
      simp only [List.getElem?_map, Array.getElem?_toList] at hEi
      simp only [List.getElem?_map, Array.getElem?_toList, Array.getElem?_modify]
      by_cases e : j = i
      · subst e
        rw [if_pos rfl]
        rw [h3] at hEi ⊢
        cases hEj : E[j]? with
        | none => rw [hEj] at hkey; simp at hkey
        | some e => simp
      · rw [if_neg e]
        rw [hEi]
        cases hLi : L[i]? with
        | none => simp
        | some p =>
          have : p.1 ≠ k := by
            intro q
            apply e
            have a1 : (mkeys L)[j]? = some k := by simp [mkeys, h3]
            have a2 : (mkeys L)[i]? = some k := by simp [mkeys, hLi, q]
            have jl : j < (mkeys L).length := (List.getElem?_eq_some_iff.1 a1).1
            exact (List.getElem?_inj jl hn).1 (by rw [a1, a2])
          simp [this]
    · exact ⟨rfl, rfl, rfl, by simp, fun i _ hi => by simp [Array.getElem?_setIfInBounds, Ne.symm hi]⟩
theorem mdel_at (L : List (Int × V)) (k : Int) : ∀ (j : Nat) (v : V), (mkeys L).Nodup → L[j]? = some (k, v) → mdel L k = L.eraseIdx j := by
  induction L with
  | nil => intro j v _ h; simp at h
  | cons p L ih =>
    intro j v hn h
    unfold mdel at *
    have hn' : p.1 ∉ mkeys L ∧ (mkeys L).Nodup := by simpa [mkeys] using hn
    rcases j with _ | j
    · simp only [List.getElem?_cons_zero, Option.some.injEq] at h
      subst h
      rw [List.filter_cons_of_neg (by simp), List.eraseIdx_cons_zero, List.filter_eq_self]
      intro q hq
      have : q.1 ≠ k := fun e => hn'.1 (by have := List.mem_map_of_mem (f := Prod.fst) hq; rwa [e] at this)
      simp [this]
    · simp only [List.getElem?_cons_succ] at h
      have : p.1 ≠ k := fun e => hn'.1 (by rw [e]; exact List.mem_map_of_mem (f := Prod.fst) (List.mem_of_getElem? h))
      rw [List.filter_cons_of_pos (by simp [this]), List.eraseIdx_cons_succ, ih j v hn'.2 h]
theorem IMap.delete (h : IMap enc w b L) (ht : P.underlying t = some (.map tk te)) (hk : P.underlying tk = some (.int .i64)) (k : Int) (ty : TypeId) :
    ∃ w', (Builtin.delete_ #[t, tk] ty #[.map (some b), .int .i64 k]).run P w = .ok (.tuple #[]) w' ∧ IMap enc w' b (mdel L k) ∧ Keep (fun i => i = b) w w' := by
  obtain ⟨E, clock, hb, hE, hn⟩ := h
  have hlt := m_lt hb
  rcases findNow_int (enc := enc) k .i64 rfl E.toList L 0 hE with ⟨h1, h2⟩ | ⟨j, v0, h1, h2, h3, h4⟩
  · refine ⟨{ w with heap := w.heap.setIfInBounds b (.map E clock) }, ?_, ?_, ?_⟩
    · simp [Builtin.delete_, run_underlying ht, getObj, setObj, run_getObj hb, run_setObj hb, run_checkKey_int hk, Instr.findKey, run_underlying hk, h2, Result.andThen]
    · have hk' := (mget_none_iff L k).1 h1
      refine ⟨_, _, by rw [Array.getElem?_setIfInBounds_self_of_lt hlt], ?_, nodup_del L k hn⟩
      have : mdel L k = L := by
        unfold mdel; rw [List.filter_eq_self]
        intro p hp
        have : p.1 ≠ k := fun q => hk' (by rw [← q]; exact List.mem_map_of_mem hp)
        simp [this]
      rw [this]; exact hE
    · exact ⟨rfl, rfl, rfl, by simp, fun i _ hi => by simp [Array.getElem?_setIfInBounds, Ne.symm hi]⟩
  · refine ⟨{ w with heap := w.heap.setIfInBounds b (.map (E.eraseIdxIfInBounds j) clock) }, ?_, ?_, ?_⟩
    · simp [Builtin.delete_, run_underlying ht, getObj, setObj, run_getObj hb, run_setObj hb, run_checkKey_int hk, Instr.findKey, run_underlying hk, h2, Result.andThen]
    · refine ⟨_, _, by rw [Array.getElem?_setIfInBounds_self_of_lt hlt], ?_, nodup_del L k hn⟩
      have e1 : (E.eraseIdxIfInBounds j).toList = E.toList.eraseIdx j := by simp
      rw [e1]
      have e2 := mdel_at L k j v0 hn h3
      have e3 : ∀ {α β : Type} (f : α → β) (l : List α) (i : Nat), (l.eraseIdx i).map f = (l.map f).eraseIdx i := by
        intro α β f l
        induction l with
        | nil => intro i; simp
        | cons a l ih => intro i; cases i <;> simp [ih]
      rw [e2, e3, e3, hE]
    · exact ⟨rfl, rfl, rfl, by simp, fun i _ hi => by simp [Array.getElem?_setIfInBounds, Ne.symm hi]⟩
end
end Go.Proofs.Ytncbojocglcieaa

/- Maps with int keys: the operations' laws in a walk. -/
namespace Go.Proofs.Ytncbojocglcieaa
open Go.RowKit
set_option linter.unusedSimpArgs false
section
variable {V : Type} {enc : V → Value} {b : Nat} {L : List (Int × V)} {t tk te : TypeId} {ops : Array Oper} {rest : List Oper} {o : Oper} {a : Act} {w : World} {Q : Exit → Act → World → Prop}
theorem map_del (hgd : o.guard = none) (m x : Operand) (ho : o.op = .call { callee := .builtin .delete, args := #[m, x], argTypes := #[t, tk] }) (ht : Try.prog.underlying t = some (.map tk te)) (hk : Try.prog.underlying tk = some (.int .i64))
    (k : Int) (hm : a.eval m = .map (some b)) (hx : a.eval x = .int .i64 k) (hmap : IMap enc w b L)
    (h : ∀ w', IMap enc w' b (mdel L k) → Keep (fun i => i = b) w w' → wpList Try.prog ops Q rest (a.put o.dst (.tuple #[])) w') : wpList Try.prog ops Q (o :: rest) a w := by
  refine wpList_plain hgd fun K hK => ?_
  obtain ⟨w', hr, h1, h2⟩ := hmap.delete (P := Try.prog) ht hk k o.type
  unfold Oper.wp execOp
  simp only [ho, resolve, invoke, builtin, Sem.run_bind, Sem.run_pure, Result.andThen_ok, List.map_toArray, List.map_cons, List.map_nil, hm, hx, hr]
  exact hK _ _ (h w' h1 h2)
theorem map_put (hgd : o.guard = none) (m x v : Operand) (ho : o.op = .mapUpdate t m x v) (ht : Try.prog.underlying t = some (.map tk te)) (hk : Try.prog.underlying tk = some (.int .i64))
    (k : Int) (y : V) (hm : a.eval m = .map (some b)) (hx : a.eval x = .int .i64 k) (hv : a.eval v = enc y) (hmap : IMap enc w b L)
    (h : ∀ w', IMap enc w' b (mput L k y) → Keep (fun i => i = b) w w' → wpList Try.prog ops Q rest (a.put o.dst undef) w') : wpList Try.prog ops Q (o :: rest) a w := by
  refine wpList_plain hgd fun K hK => ?_
  obtain ⟨w', hr, h1, h2⟩ := hmap.update (P := Try.prog) ht hk k y
  unfold Oper.wp execOp
  simp only [ho, Sem.run_bind, Sem.run_pure, Result.andThen_ok, hm, hx, hv, hr]
  exact hK _ _ (h w' h1 h2)
theorem wp_put {K : Act → World → Prop} (m x v : Operand) (ho : o.op = .mapUpdate t m x v) (ht : Try.prog.underlying t = some (.map tk te)) (hk : Try.prog.underlying tk = some (.int .i64))
    (k : Int) (y : V) (hm : a.eval m = .map (some b)) (hx : a.eval x = .int .i64 k) (hv : a.eval v = enc y) (hmap : IMap enc w b L)
    (h : ∀ w', IMap enc w' b (mput L k y) → Keep (fun i => i = b) w w' → K (a.put o.dst undef) w') : o.wp Try.prog a w K Q := by
  obtain ⟨w', hr, h1, h2⟩ := hmap.update (P := Try.prog) ht hk k y
  unfold Oper.wp execOp
  simp only [ho, Sem.run_bind, Sem.run_pure, Result.andThen_ok, hm, hx, hv, hr]
  exact h w' h1 h2
/-- At a step of a region that draws. -/
theorem step_put {K : Act → World → Prop} {E1 : Prop} (hgd : o.guard = none) (m x v : Operand) (ho : o.op = .mapUpdate t m x v) (ht : Try.prog.underlying t = some (.map tk te)) (hk : Try.prog.underlying tk = some (.int .i64))
    (k : Int) (y : V) (hm : a.eval m = .map (some b)) (hx : a.eval x = .int .i64 k) (hv : a.eval v = enc y) (hmap : IMap enc w b L)
    (h : ∀ w', IMap enc w' b (mput L k y) → Keep (fun i => i = b) w w' → K (a.put o.dst undef) w') :
    if Region.wanted o (yielded ops a.tmps) = true then Oper.wp Try.prog o a w K Q else E1 := by
  have hw : Region.wanted o (yielded ops a.tmps) = true := by simp [Region.wanted, hgd]
  rw [if_pos hw]
  exact wp_put m x v ho ht hk k y hm hx hv hmap h
end
end Go.Proofs.Ytncbojocglcieaa

/- The shelf's contracts laid at this seat's dump (written by the kit's tools): strings.Repeat, slices.Contains, slices.Clone. -/
namespace Go.Proofs
open Go.Shelf
def Try.lays105_ren : Go.Shelf.Ren := ⟨fun | 105 => 58 | 212 => 79 | 99 => 80 | 165 => 81 | 166 => 82 | 170 => 83 | 169 => 84 | 263 => 87 | 264 => 88 | 206 => 89 | 240 => 90 | 241 => 91 | 276 => 92 | 277 => 93 | n => n, fun | 9 => 9 | 3 => 3 | 4 => 4 | 20 => 20 | 0 => 0 | 46 => 109 | 109 => 130 | 5 => 5 | 72 => 135 | 76 => 138 | 51 => 141 | 146 => 142 | 53 => 54 | 148 => 144 | 70 => 133 | 37 => 60 | 75 => 137 | 127 => 146 | 164 => 147 | 80 => 84 | n => n, fun | n => n⟩
theorem Try.lays105 : Go.Proofs.Lays.n105 Try.prog Try.lays105_ren := {
  mixed := by kernel_rfl
  f99 := Try.func80.trans (congrArg some (by kernel_rfl))
  f105 := Try.func58.trans (congrArg some (by kernel_rfl))
  f165 := Try.func81.trans (congrArg some (by kernel_rfl))
  f166 := Try.func82.trans (congrArg some (by kernel_rfl))
  f169 := Try.func84.trans (congrArg some (by kernel_rfl))
  f170 := Try.func83.trans (congrArg some (by kernel_rfl))
  f206 := Try.func89.trans (congrArg some (by kernel_rfl))
  f212 := Try.func79.trans (congrArg some (by kernel_rfl))
  f240 := Try.func90.trans (congrArg some (by kernel_rfl))
  f241 := Try.func91.trans (congrArg some (by kernel_rfl))
  f263 := Try.func87.trans (congrArg some (by kernel_rfl))
  f264 := Try.func88.trans (congrArg some (by kernel_rfl))
  f276 := Try.func92.trans (congrArg some (by kernel_rfl))
  f277 := Try.func93.trans (congrArg some (by kernel_rfl))
  t0 := Try.underlying0
  a0 := Try.isAgg0
  z0 := Try.sizeOf0
  v0 := Try.zeroValue0
  t3 := Try.underlying3
  a3 := Try.isAgg3
  z3 := Try.sizeOf3
  v3 := Try.zeroValue3
  t4 := Try.underlying4
  a4 := Try.isAgg4
  z4 := Try.sizeOf4
  v4 := Try.zeroValue4
  t5 := Try.underlying5
  a5 := Try.isAgg5
  z5 := Try.sizeOf5
  v5 := Try.zeroValue5
  t9 := Try.underlying9
  a9 := Try.isAgg9
  z9 := Try.sizeOf9
  v9 := Try.zeroValue9
  t20 := Try.underlying20
  a20 := Try.isAgg20
  z20 := Try.sizeOf20
  v20 := Try.zeroValue20
  t37 := Try.underlying60
  a37 := Try.isAgg60
  z37 := Try.sizeOf60
  v37 := Try.zeroValue60
  t46 := Try.underlying109
  a46 := Try.isAgg109
  z46 := Try.sizeOf109
  v46 := Try.zeroValue109
  t51 := Try.underlying141
  a51 := Try.isAgg141
  z51 := Try.sizeOf141
  v51 := Try.zeroValue141
  t53 := Try.underlying54
  a53 := Try.isAgg54
  z53 := Try.sizeOf54
  v53 := Try.zeroValue54
  t70 := Try.underlying133
  a70 := Try.isAgg133
  z70 := Try.sizeOf133
  v70 := Try.zeroValue133
  t72 := Try.underlying135
  a72 := Try.isAgg135
  z72 := Try.sizeOf135
  v72 := Try.zeroValue135
  t75 := Try.underlying137
  a75 := Try.isAgg137
  z75 := Try.sizeOf137
  v75 := Try.zeroValue137
  t76 := Try.underlying138
  a76 := Try.isAgg138
  z76 := Try.sizeOf138
  v76 := Try.zeroValue138
  t109 := Try.underlying130
  a109 := Try.isAgg130
  z109 := Try.sizeOf130
  v109 := Try.zeroValue130
  t127 := Try.underlying146
  a127 := Try.isAgg146
  z127 := Try.sizeOf146
  v127 := Try.zeroValue146
  t146 := Try.underlying142
  a146 := Try.isAgg142
  z146 := Try.sizeOf142
  v146 := Try.zeroValue142
  t148 := Try.underlying144
  a148 := Try.isAgg144
  z148 := Try.sizeOf144
  v148 := Try.zeroValue144
  t164 := Try.underlying147
  a164 := Try.isAgg147
  z164 := Try.sizeOf147
  v164 := Try.zeroValue147 }
theorem Try.Builder_Extra_105 : Builder.Extra Try.prog Try.lays105_ren := {
  sizeBuilder := by kernel_rfl
  liesBuilder := by kernel_rfl
  t5 := Try.underlying5
  a5 := Try.isAgg5
  z5 := Try.sizeOf5
  v5 := Try.zeroValue5
  infoByte := by kernel_rfl
  cellsByte := by kernel_rfl
  sizeByte := by kernel_rfl
  neB5 := by decide }
open Go.RowKit Go.Lib in
/-- **strings.Repeat: count ≥ 0, the result within one allocation: count copies of s.** (LAID: no walk: one application.) -/
theorem Try.strings_Repeat (s : ByteArray) (c : Nat) (w : World) (hc : c ≤ 9223372036854775807) (hlen : s.size * c ≤ 140737488355328) :
    Calls Try.prog 58 #[.string s, .int .i64 c] w fun e w' => e = .returned (.string ⟨(Lib.repeatL s.data.toList c).toArray⟩) ∧ Below w.heap.size w w' := Any.strings_Repeat Try.lays105 Try.Builder_Extra_105 s c w hc hlen
def Try.lays107_ren : Go.Shelf.Ren := ⟨fun | 107 => 57 | 108 => 78 | n => n, fun | 28 => 23 | 3 => 3 | 4 => 4 | 0 => 0 | n => n, fun | n => n⟩
theorem Try.lays107 : Go.Proofs.Lays.n107 Try.prog Try.lays107_ren := {
  mixed := by kernel_rfl
  f107 := Try.func57.trans (congrArg some (by kernel_rfl))
  f108 := Try.func78.trans (congrArg some (by kernel_rfl))
  t0 := Try.underlying0
  a0 := Try.isAgg0
  z0 := Try.sizeOf0
  v0 := Try.zeroValue0
  t3 := Try.underlying3
  a3 := Try.isAgg3
  z3 := Try.sizeOf3
  v3 := Try.zeroValue3
  t4 := Try.underlying4
  a4 := Try.isAgg4
  z4 := Try.sizeOf4
  v4 := Try.zeroValue4
  t28 := Try.underlying23
  a28 := Try.isAgg23
  z28 := Try.sizeOf23
  v28 := Try.zeroValue23 }
open Go.Lib in
/-- slices.Contains at []int: "Contains reports whether v is present in s.": IT RETURNS 'elements.contains v'; the world is as it was. ITS CALLEE slices.Index IS MET BY ITS OWN CONTRACT OFF THE SHELF (lay that first): no loop is walked here. (LAID: no walk: one application.) -/
theorem Try.slices_Contains_int (b off n c : Nat) (zs : List Int) (x : Int) (w : World) (hz : n ≤ zs.length) (hbig : n ≤ 9223372036854775807) (hc : ∀ j, j < zs.length → w.cell? ⟨b, off + j, none⟩ = some (.int .i64 (zs.getD j 0))) :
    Calls Try.prog 57 #[.slice (some ⟨b, off, none⟩) n c, .int .i64 x] w fun e w' => e = .returned (.bool ((zs.take n).contains x)) ∧ w' = w := Any.slices_Contains_int Try.lays107 b off n c zs x w hz hbig hc
open Go.Lib in
/-- The same at a slice of length 0, a nil one too. (LAID: no walk: one application.) -/
theorem Try.slices_Contains_int_empty (a : Option Addr) (c : Nat) (x : Int) (w : World) :
    Calls Try.prog 57 #[.slice a 0 c, .int .i64 x] w fun e w' => e = .returned (.bool false) ∧ w' = w := Any.slices_Contains_int_empty Try.lays107 a c x w
def Try.laysNm216_ren : Go.Shelf.Ren := ⟨fun | 16 => 69 | n => n, fun | 24 => 49 | 9 => 9 | 4 => 4 | n => n, fun | n => n⟩
theorem Try.laysNm216 : Go.Proofs.Lays2.n16 Try.prog Try.laysNm216_ren := {
  mixed := by kernel_rfl
  f16 := Try.func69.trans (congrArg some (by kernel_rfl))
  t4 := Try.underlying4
  a4 := Try.isAgg4
  z4 := Try.sizeOf4
  v4 := Try.zeroValue4
  t9 := Try.underlying9
  a9 := Try.isAgg9
  z9 := Try.sizeOf9
  v9 := Try.zeroValue9
  t24 := Try.underlying49
  a24 := Try.isAgg49
  z24 := Try.sizeOf49
  v24 := Try.zeroValue49
  i9 := by kernel_rfl }
open Go.RowKit Go.Lib in
/-- slices.Clone at []string: "Clone returns a copy of the slice. The elements are copied using assignment, so this is a shallow clone. The result may have additional unused capacity. The result preserves the nilness of s.": OF A SLICE THAT IS NOT nil IT RETURNS A SLICE THAT IS NOT nil, OF THE SAME ELEMENTS, IN MEMORY OF THE CALL's OWN: in the how-to's words (6f): 'w'.ownsRow B e 1 v' n cells': v' begins at the head of a row among the blocks from B on (B: the heap's size at the call), not frozen, whose first cells are the elements · 'Below B w w'': below B all is as it was. The capacity is whatever the run-time gives. 'zs': what the cells behind the slice's address hold; 'zs.take n': its elements. (LAID: no walk: one application.) -/
theorem Try.slices_Clone_string (b off n c : Nat) (zs : List ByteArray) (w : World) (hz : n ≤ zs.length) (hbig : n * 16 ≤ 140737488355328) (hc : ∀ j, j < zs.length → w.cell? ⟨b, off + j, none⟩ = some (.string (zs.getD j ByteArray.empty))) :
    Calls Try.prog 69 #[.slice (some ⟨b, off, none⟩) n c] w fun e w' => ∃ v', e = .returned v' ∧ w'.ownsRow w.heap.size 9 1 v' n ((zs.take n).map (Value.string)) ∧ v' ≠ .slice none 0 0 ∧ Below w.heap.size w w' := Any.slices_Clone_string Try.laysNm216 b off n c zs w hz hbig hc
open Go.RowKit Go.Lib in
/-- The same at nil: nil comes back; the world is as it was. (LAID: no walk: one application.) -/
theorem Try.slices_Clone_string_nil (n c : Nat) (w : World) :
    Calls Try.prog 69 #[.slice none n c] w fun e w' => e = .returned (.slice none 0 0) ∧ w' = w := Any.slices_Clone_string_nil Try.laysNm216 n c w
open Go.RowKit Go.Lib in
/-- The same at a slice of length 0 that is not nil, WHATEVER ITS ADDRESS (no cell is asked for): a slice that is not nil and owns nothing comes back. (LAID: no walk: one application.) -/
theorem Try.slices_Clone_string_zero (a : Addr) (c : Nat) (w : World) :
    Calls Try.prog 69 #[.slice (some a) 0 c] w fun e w' => ∃ v', e = .returned v' ∧ w'.ownsRow w.heap.size 9 1 v' 0 [] ∧ v' ≠ .slice none 0 0 ∧ Below w.heap.size w w' := Any.slices_Clone_string_zero Try.laysNm216 a c w
end Go.Proofs
