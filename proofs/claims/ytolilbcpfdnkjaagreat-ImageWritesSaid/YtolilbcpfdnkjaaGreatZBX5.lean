/- tree: a tree of a law's own beside other blocks. -/
import Derived.Test.YtolilbcpfdnkjaaGreatZBUB
namespace Go.Proofs.YtolilbcpfdnkjaaGreat
open Go.RowKit
set_option linter.unusedSimpArgs false
set_option linter.unusedVariables false
/-- The blocks R read as before. -/
def Stays (R : Nat → Prop) (w w' : World) : Prop := ∀ k, R k → w'.heap[k]? = w.heap[k]?
/-- A law's own tree, apart from the blocks R. -/
def OwnTR (w0 w : World) (R : Nat → Prop) (g : Nat) (L : List Itm) (next : Int) : Prop :=
  ∃ F, TreeM w F g L next ∧ (∀ k, F k → w0.heap.size ≤ k) ∧ Below w0.heap.size w0 w ∧ (∀ k, R k → k < w.heap.size ∧ ¬ F k)
def ownBk (v : Value) (k : Nat) : Prop := v.ownBlock = some k
section
variable {w0 w w' : World} {g : Nat} {L L' : List Itm} {next next' : Int} {R R' : Nat → Prop}
theorem OwnTR.bel (h : OwnTR w0 w R g L next) : Below w0.heap.size w0 w := by obtain ⟨F, _, _, h, _⟩ := h; exact h
theorem OwnTR.own (h : OwnTR w0 w R g L next) : OwnT w0 w g L next := by obtain ⟨F, a, b, c, _⟩ := h; exact ⟨F, a, b, c⟩
theorem OwnT.beside (h : OwnT w0 w g L next) : OwnTR w0 w (fun _ => False) g L next := by obtain ⟨F, a, b, c⟩ := h; exact ⟨F, a, b, c, fun k q => q.elim⟩
/-- Others have turned, behind w. -/
theorem OwnTR.turn (h : OwnTR w0 w R g L next) (hb : Below w.heap.size w w') (hR : ∀ k, R' k → (R k ∨ w.heap.size ≤ k) ∧ k < w'.heap.size) : OwnTR w0 w' R' g L next := by
  obtain ⟨F, a, b, c, d⟩ := h
  refine ⟨F, a.below hb, b, c.trans (hb.mono c.size), fun k q => ?_⟩
  obtain ⟨e1, e2⟩ := hR k q
  refine ⟨e2, fun f => ?_⟩
  rcases e1 with e1 | e1
  · exact (d k e1).2 f
  · exact absurd (a.lt f) (Nat.not_lt.2 e1)
theorem OwnTR.below (h : OwnTR w0 w R g L next) (hb : Below w.heap.size w w') : OwnTR w0 w' R g L next := by
  refine h.turn hb (fun k q => ⟨Or.inl q, ?_⟩)
  obtain ⟨F, a, b, c, d⟩ := h
  exact Nat.lt_of_lt_of_le (d k q).1 hb.size
theorem OwnTR.less (h : OwnTR w0 w R g L next) (hR : ∀ k, R' k → R k) : OwnTR w0 w R' g L next := by
  obtain ⟨F, a, b, c, d⟩ := h
  exact ⟨F, a, b, c, fun k q => d k (hR k q)⟩
theorem OwnTR.step {F : Nat → Prop} (h1 : TreeM w F g L next) (h2 : ∀ k, F k → w0.heap.size ≤ k) (h3 : Below w0.heap.size w0 w) (h4 : ∀ k, R k → k < w.heap.size ∧ ¬ F k) (hs : TStep w F g L' next' w') : OwnTR w0 w' R g L' next' ∧ Stays R w w' := by
  obtain ⟨F', k1, k2, k3⟩ := hs
  refine ⟨⟨F', k1, fun k q => (k2 k q).elim (h2 k) (fun q => Nat.le_trans h3.size q), h3.trans (k3.toBelow h3.size h2), fun k q => ⟨Nat.lt_of_lt_of_le (h4 k q).1 k3.size, fun f => (k2 k f).elim (h4 k q).2 (fun e => Nat.lt_irrefl _ (Nat.lt_of_lt_of_le (h4 k q).1 e))⟩⟩, fun k q => k3.block k (h4 k q).1 (h4 k q).2⟩
theorem Row.stays {α : Type} {E : EK α} {B : Nat} {v : Value} {l : List α} (h : Row E w B v l) (hs : Stays R w w') (hR : ∀ k, v.ownBlock = some k → R k) : Row E w' B v l := h.kept (fun k q => hs k (hR k q))
theorem ownr_do (h : OwnTR w0 w R g L next) (hi : TInv L next) (hn : next ≤ 1000000000) (o : Op1) (hk : o.kind < 256) (h1 : o.name.size ≤ maxLen) (h2 : o.as_.size ≤ maxLen) :
    Calls Tryz.prog 13 #[.pointer (some ⟨g, 0, none⟩), o.val] w fun e w' =>
      e = .returned (.tuple #[.int .i64 (doT L next o).node, .int .i64 (doT L next o).err]) ∧ OwnTR w0 w' R g (doT L next o).L (doT L next o).next ∧ Stays R w w' := by
  obtain ⟨F, k1, k2, k3, k4⟩ := h
  exact (tdo_any o k1 hi hn hk h1 h2).mono fun e w' ⟨a, b⟩ => ⟨a, OwnTR.step k1 k2 k3 k4 b⟩
theorem ownr_list (h : OwnTR w0 w R g L next) (hi : TInv L next) (d : Int) :
    Calls Tryz.prog 23 #[.pointer (some ⟨g, 0, none⟩), .int .i64 d] w fun e w' => ∃ v l, e = .returned (.tuple #[v, .int .i64 (listErr L d)]) ∧ Row EEnt w' w.heap.size v l ∧ (listErr L d = 0 → l = entries L d) ∧ OwnTR w0 w' R g L next ∧ Below w.heap.size w w' := by
  have hl := hi.len
  have h0 := h
  obtain ⟨F, k1, k2, k3, k4⟩ := h
  exact (tlist_any d k1 (by omega)).mono fun e w' ⟨v, l, a, b, c, hb⟩ => ⟨v, l, a, b, c, h0.below hb, hb⟩
end
end Go.Proofs.YtolilbcpfdnkjaaGreat
