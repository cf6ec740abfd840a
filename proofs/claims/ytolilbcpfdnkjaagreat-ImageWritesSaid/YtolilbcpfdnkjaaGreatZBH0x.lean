/- A heap of numbers behind an interface: what is in memory; Len, Less, Swap, Pop. -/
import Derived.Test.YtolilbcpfdnkjaaGreatZBLib1
import Derived.Test.YtolilbcpfdnkjaaGreatZBHP
import Derived.Deep.RegionWith
import Derived.BigRegion
namespace Go.Proofs.YtolilbcpfdnkjaaGreat
open Go.RowKit
set_option linter.unusedSimpArgs false
/-- A row of ints of the call's own. -/
def Ints (w : World) (B : Nat) (v : Value) (l : List Int) : Prop := w.ownsRow B 3 1 v l.length (l.map (Value.int .i64))
theorem Ints.kept {w w' : World} {B : Nat} {v : Value} {l : List Int} (h : Ints w B v l) (hk : ∀ k, v.ownBlock = some k → w'.heap[k]? = w.heap[k]?) : Ints w' B v l := by
  obtain ⟨h1, h2⟩ := h
  refine ⟨h1, ?_⟩
  rcases h2 with h2 | ⟨g, cap, cur, rfl, hg, hh, r⟩
  · exact Or.inl h2
  · exact Or.inr ⟨g, cap, cur, rfl, hg, by rw [hk g rfl]; exact hh, r⟩
theorem Ints.qt {w w' : World} {B : Nat} {v : Value} {l : List Int} (h : Ints w B v l) (q : Qt w w') : Ints w' B v l := h.kept fun _ _ => by rw [q.heap]
theorem Ints.slice {w : World} {B : Nat} {v : Value} {l : List Int} (h : Ints w B v l) (hl : l ≠ []) : ∃ g cap, v = .slice (some ⟨g, 0, none⟩) l.length cap ∧ B ≤ g ∧ g < w.heap.size ∧ l.length ≤ cap ∧ cap ≤ maxLen ∧
    (∀ i, i < l.length → w.cell? ⟨g, i, none⟩ = some (.int .i64 (l.getD i 0))) ∧ (∀ i, w.frozen? ⟨g, i, none⟩ = false) := by
  have h0 := h
  obtain ⟨h1, h2⟩ := h
  rcases h2 with ⟨_, h2⟩ | ⟨g, cap, cur, rfl, hg, hh, hn, hc, _, _⟩
  · exact absurd (List.eq_nil_of_length_eq_zero h2) hl
  · refine ⟨g, cap, rfl, hg, (World.ownsRow.lt h0 g rfl).2, hn, hc, fun i hi => ?_, fun i => by simp [World.frozen?, hh]⟩
    rw [World.ownsRow.cellAt h0 i (by omega)]; simp [hi]
theorem Ints.set {w : World} {B g n cap : Nat} {l : List Int} (h : Ints w B (.slice (some ⟨g, 0, none⟩) n cap) l) (i : Nat) (x : Int) : Ints (w.setCell ⟨g, i, none⟩ (.int .i64 x)) B (.slice (some ⟨g, 0, none⟩) n cap) (l.set i x) := by
  have hn : l.length = n := by
    obtain ⟨_, h2⟩ := h
    rcases h2 with ⟨h2, _⟩ | ⟨_, _, _, h2, _⟩
    · cases h2
    · simp only [Value.slice.injEq] at h2; exact h2.2.1.symm
  subst hn
  have := World.ownsRow.stored h i (.int .i64 x)
  unfold Ints
  rw [List.length_set, List.map_set]; exact this.1
theorem Ints.shrink {w : World} {B g n cap : Nat} {l : List Int} {x : Int} (h : Ints w B (.slice (some ⟨g, 0, none⟩) (n + 1) cap) (l ++ [x])) : Ints w B (.slice (some ⟨g, 0, none⟩) n cap) l := by
  obtain ⟨_, h2⟩ := h
  rcases h2 with ⟨h2, _⟩ | ⟨g', cap', cur, h2, hB, hh, hn, hc, hs, ht⟩
  · cases h2
  · simp only [Value.slice.injEq, Option.some.injEq, Addr.mk.injEq] at h2
    obtain ⟨⟨rfl, _, _⟩, hl, rfl⟩ := h2
    simp only [List.length_append, List.length_singleton] at hl hn ht
    have e : n = l.length := by omega
    subst e
    refine ⟨by simp, Or.inr ⟨g, cap, cur, rfl, hB, hh, by omega, hc, hs, ?_⟩⟩
    have := congrArg (List.take l.length) ht
    rw [List.take_take] at this
    rw [show l.length * 1 = min l.length ((l.length + 1) * 1) from by omega, this]
    simp
/-- A slice of ints in a cell of a block: where a heap lies. -/
structure HAt (w : World) (B g o : Nat) (cs : Array Value) (t : TypeId) (v : Value) (l : List Int) : Prop where
  blk : w.heap[g]? = some (.cells cs t (0, 0))
  slot : cs[o]? = some v
  row : Ints w B v l
  ne : v.ownBlock ≠ some g
theorem HAt.cell {w : World} {B g o : Nat} {cs : Array Value} {t : TypeId} {v : Value} {l : List Int} (h : HAt w B g o cs t v l) : w.cell? ⟨g, o, none⟩ = some v := by
  simp [World.cell?, h.blk, h.slot]
theorem HAt.frozen {w : World} {B g o : Nat} {cs : Array Value} {t : TypeId} {v : Value} {l : List Int} (h : HAt w B g o cs t v l) : w.frozen? ⟨g, o, none⟩ = false := by
  simp [World.frozen?, h.blk]
theorem HAt.lt {w : World} {B g o : Nat} {cs : Array Value} {t : TypeId} {v : Value} {l : List Int} (h : HAt w B g o cs t v l) : g < w.heap.size := by
  rcases Nat.lt_or_ge g w.heap.size with h' | h'
  · exact h'
  · have := h.blk; rw [Array.getElem?_eq_none h'] at this; cases this
theorem HAt.qt {w w' : World} {B g o : Nat} {cs : Array Value} {t : TypeId} {v : Value} {l : List Int} (h : HAt w B g o cs t v l) (q : Qt w w') : HAt w' B g o cs t v l :=
  ⟨by rw [q.heap]; exact h.blk, h.slot, h.row.qt q, h.ne⟩
/-- The row's numbers have turned, nothing else. -/
theorem HAt.turned {w w' : World} {B g o : Nat} {cs : Array Value} {t : TypeId} {v : Value} {l l' : List Int} (h : HAt w B g o cs t v l) (hr : Ints w' B v l') (hk : Keep (fun k => some k = v.ownBlock) w w') : HAt w' B g o cs t v l' :=
  ⟨by rw [hk.block g h.lt (fun e => h.ne e.symm)]; exact h.blk, h.slot, hr, h.ne⟩
/-- A post that the walk does not look into. -/
def PopPost (w : World) (B g o : Nat) (cs : Array Value) (t : TypeId) (v : Value) (l : List Int) (x : Int) (e : Ending) (w' : World) : Prop :=
  e = .returned (.iface 3 (.int .i64 x)) ∧ ∃ v', HAt w' B g o (cs.setIfInBounds o v') t v' l ∧ v'.ownBlock = v.ownBlock ∧ Keep (fun k => k = g) w w'
end Go.Proofs.YtolilbcpfdnkjaaGreat
