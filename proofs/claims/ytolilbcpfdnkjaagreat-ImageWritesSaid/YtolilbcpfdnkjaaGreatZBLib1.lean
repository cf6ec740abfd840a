/- What turns in memory, and what does not: Qt, Keep; blocks of cells. -/
import Derived.Test.YtolilbcpfdnkjaaGreatZBLib0
namespace Go.Proofs.YtolilbcpfdnkjaaGreat
open Go.RowKit
/-- Nothing in memory has turned (draws apart). -/
structure Qt (w w' : World) : Prop where
  heap : w'.heap = w.heap
  os : w'.os = w.os
  tape : w'.tape = w.tape
  output : w'.output = w.output
theorem Qt.refl (w : World) : Qt w w := ⟨rfl, rfl, rfl, rfl⟩
theorem Qt.drewN (w : World) (n : Nat) : Qt w (w.drewN n) := ⟨rfl, rfl, rfl, rfl⟩
theorem Qt.cell {w w' : World} (h : Qt w w') (a : Addr) : w'.cell? a = w.cell? a := by unfold World.cell?; rw [h.heap]
/-- Only blocks of F have turned; new ones may have come. -/
structure Keep (F : Nat → Prop) (w w' : World) : Prop where
  os : w'.os = w.os
  tape : w'.tape = w.tape
  output : w'.output = w.output
  size : w.heap.size ≤ w'.heap.size
  block : ∀ k, k < w.heap.size → ¬ F k → w'.heap[k]? = w.heap[k]?
theorem Keep.refl (F : Nat → Prop) (w : World) : Keep F w w := ⟨rfl, rfl, rfl, Nat.le_refl _, fun _ _ _ => rfl⟩
theorem Keep.trans {F : Nat → Prop} {a b c : World} (h : Keep F a b) (k : Keep F b c) : Keep F a c :=
  ⟨k.os.trans h.os, k.tape.trans h.tape, k.output.trans h.output, Nat.le_trans h.size k.size, fun i hi hn => (k.block i (Nat.lt_of_lt_of_le hi h.size) hn).trans (h.block i hi hn)⟩
/-- What is behind may also touch what is new. -/
theorem Keep.trans' {F G : Nat → Prop} {a b c : World} (h : Keep F a b) (k : Keep G b c) (hG : ∀ i, G i → F i ∨ a.heap.size ≤ i) : Keep F a c :=
  ⟨k.os.trans h.os, k.tape.trans h.tape, k.output.trans h.output, Nat.le_trans h.size k.size, fun i hi hn => (k.block i (Nat.lt_of_lt_of_le hi h.size) (fun g => (hG i g).elim hn (fun q => absurd hi (Nat.not_lt.mpr q)))).trans (h.block i hi hn)⟩
theorem Keep.mono {F G : Nat → Prop} {a b : World} (h : Keep F a b) (hG : ∀ i, F i → G i ∨ a.heap.size ≤ i) : Keep G a b :=
  ⟨h.os, h.tape, h.output, h.size, fun i hi hn => h.block i hi (fun f => (hG i f).elim hn (fun q => absurd hi (Nat.not_lt.mpr q)))⟩
theorem Keep.qt {F : Nat → Prop} {a b : World} (h : Qt a b) : Keep F a b := ⟨h.os, h.tape, h.output, by rw [h.heap]; exact Nat.le_refl _, fun i _ _ => by rw [h.heap]⟩
theorem Keep.grown {a b : World} {r : Option Nat} (h : a.grownBy b r) : Keep (fun k => some k = r) a b := ⟨h.os, h.tape, h.output, h.size, h.block⟩
theorem Keep.below {B : Nat} {a b : World} (h : Below B a b) : Keep (fun k => B ≤ k) a b := ⟨h.os, h.tape, h.output, h.size, fun i _ hn => h.block i (Nat.lt_of_not_le hn)⟩
theorem Keep.toBelow {F : Nat → Prop} {B : Nat} {a b : World} (h : Keep F a b) (hB : B ≤ a.heap.size) (hF : ∀ i, F i → B ≤ i) : Below B a b :=
  ⟨h.os, h.tape, h.output, h.size, fun i hi => h.block i (by omega) (fun f => by have := hF i f; omega)⟩
theorem Keep.set {F : Nat → Prop} {a b : World} (h : Keep F a b) (g o : Nat) (v : Value) (hg : F g ∨ a.heap.size ≤ g) : Keep F a (b.setCell ⟨g, o, none⟩ v) :=
  h.trans' (G := fun k => k = g) ⟨rfl, rfl, rfl, by simp [World.setCell], fun k _ hn => Below.heap_setCell _ _ _ _ hn⟩ (fun i hi => by subst hi; exact hg)
theorem Keep.alloc {F : Nat → Prop} {a b : World} (h : Keep F a b) (o : Obj) : Keep F a (b.alloc o) :=
  h.trans ⟨rfl, rfl, rfl, by simp, fun k hk _ => Below.heap_alloc _ _ _ hk⟩
theorem Keep.drew {F : Nat → Prop} {a b : World} (h : Keep F a b) : Keep F a b.drew := h.trans ⟨rfl, rfl, rfl, Nat.le_refl _, fun _ _ _ => rfl⟩
theorem Keep.drewN {F : Nat → Prop} {a b : World} (h : Keep F a b) (n : Nat) : Keep F a (b.drewN n) := h.trans ⟨rfl, rfl, rfl, Nat.le_refl _, fun _ _ _ => rfl⟩
theorem m_lt {w : World} {b : Nat} {o : Obj} (hb : w.heap[b]? = some o) : b < w.heap.size := by
  rcases Nat.lt_or_ge b w.heap.size with h' | h'
  · exact h'
  · rw [Array.getElem?_eq_none h'] at hb; cases hb
theorem m_alloc (w : World) (o : Obj) (n : Nat) (h : w.heap.size = n) : (w.alloc o).heap[n]? = some o := by subst h; exact heap_alloc_new w o
theorem m_old {w : World} {b : Nat} {x : Obj} (o : Obj) (hb : w.heap[b]? = some x) : (w.alloc o).heap[b]? = some x := by rw [Below.heap_alloc _ _ _ (m_lt hb)]; exact hb
theorem m_set {w : World} {b : Nat} {cs : Array Value} {t : TypeId} (h : w.heap[b]? = some (.cells cs t (0, 0))) (o : Nat) (v : Value) : (w.setCell ⟨b, o, none⟩ v).heap[b]? = some (.cells (cs.setIfInBounds o v) t (0, 0)) := by
  simp [World.setCell, Array.getElem?_modify, h]
theorem m_set_ne {w : World} {b : Nat} {x : Obj} (h : w.heap[b]? = some x) (g o : Nat) (v : Value) (hne : b ≠ g) : (w.setCell ⟨g, o, none⟩ v).heap[b]? = some x := by
  rw [Below.heap_setCell _ _ _ _ hne]; exact h
theorem m_keep {F : Nat → Prop} {w w' : World} {b : Nat} {x : Obj} (h : w.heap[b]? = some x) (k : Keep F w w') (hn : ¬ F b) : w'.heap[b]? = some x := by rw [k.block b (m_lt h) hn]; exact h
theorem m_cells {w : World} {b : Nat} {cs : Array Value} {t : TypeId} (h : w.heap[b]? = some (.cells cs t (0, 0))) : (∀ o, w.cell? ⟨b, o, none⟩ = cs[o]?) ∧ (∀ o, w.frozen? ⟨b, o, none⟩ = false) :=
  ⟨fun o => by simp [World.cell?, h], fun o => by simp [World.frozen?, h]⟩
end Go.Proofs.YtolilbcpfdnkjaaGreat
