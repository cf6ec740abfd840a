/- The reference's tree beside the go tree. -/
import Derived.Test.YtolilbcpfdnkjaaGreatZBYC
import Derived.Test.YtolilbcpfdnkjaaGreatZBUB
import Derived.Outline
import Derived.Deep.Cut
namespace Go.Proofs.YtolilbcpfdnkjaaGreat
open Go.RowKit
set_option linter.unusedSimpArgs false
set_option linter.unusedVariables false
theorem Arg.stays {α : Type} {E : EK α} {w w' : World} {R : Nat → Prop} {v : Value} {l : List α} (h : Arg E w v l) (hs : Stays R w w') (hR : ∀ k, v.ownBlock = some k → R k) : Arg E w' v l := by
  obtain ⟨a, cap, rfl, h⟩ := h
  refine ⟨a, cap, rfl, ?_⟩
  rcases h with h | ⟨x, rfl, hc⟩
  · exact Or.inl h
  · refine Or.inr ⟨x, rfl, fun j u hj => ?_⟩
    have hx := hc j u hj
    have hb : (x.add j).block = x.block := by unfold Addr.add; split <;> rfl
    rw [World.cell?_of_block (hs _ (by rw [hb]; exact hR _ rfl))]; exact hx
/-- A block beside the tree is written. -/
theorem OwnTR.set {w0 w : World} {R : Nat → Prop} {g : Nat} {L : List Itm} {next : Int} (h : OwnTR w0 w R g L next) (b o : Nat) (v : Value) (hb : R b) (hB : w0.heap.size ≤ b) : OwnTR w0 (w.setCell ⟨b, o, none⟩ v) R g L next := by
  obtain ⟨F, k1, k2, k3, k4⟩ := h
  refine ⟨F, k1.keep (G := fun k => k = b) ((Keep.refl _ w).set b o v (Or.inl rfl)) (fun i q e => ?_), k2, k3.setCell hB _, fun k q => ⟨by have := (k4 k q).1; simpa [World.setCell] using this, (k4 k q).2⟩⟩
  subst e
  exact (k4 i hb).2 q
/-- The reference's tree in its variable, beside the go tree. -/
structure Both (w0 w : World) (g B : Nat) (v : Value) (L : List Itm) (next : Int) : Prop where
  own : OwnTR w0 w (fun k => k = B ∨ ownBk v k) g L next
  blk : w.heap[B]? = some (.cells #[v, .int .i64 next] 29 (0, 0))
  arg : Arg EItm w v L
  ne : ∀ k, v.ownBlock = some k → k ≠ B
  ge : w0.heap.size ≤ B
theorem Both.below {w0 w w' : World} {g B : Nat} {v : Value} {L : List Itm} {next : Int} (h : Both w0 w g B v L next) (hb : Below w.heap.size w w') : Both w0 w' g B v L next :=
  ⟨h.own.below hb, (hb.block _ (m_lt h.blk)).trans h.blk, h.arg.below hb, h.ne, h.ge⟩
theorem Both.lt {w0 w : World} {g B : Nat} {v : Value} {L : List Itm} {next : Int} (h : Both w0 w g B v L next) : ∀ k, v.ownBlock = some k → k < w.heap.size := fun k q => by
  obtain ⟨F, _, _, _, k4⟩ := h.own
  exact (k4 k (Or.inr q)).1
theorem Both.cells {w0 w : World} {g B : Nat} {v : Value} {L : List Itm} {next : Int} (h : Both w0 w g B v L next) : w.cell? ⟨B, 0, none⟩ = some v ∧ w.cell? ⟨B, 1, none⟩ = some (.int .i64 next) ∧ w.frozen? ⟨B, 0, none⟩ = false ∧ w.frozen? ⟨B, 1, none⟩ = false :=
  ⟨(m_cells h.blk).1 0, (m_cells h.blk).1 1, (m_cells h.blk).2 0, (m_cells h.blk).2 1⟩
/-- Behind the reference's call. -/
def MidX (w0 : World) (g B : Nat) (v0 : Value) (next0 : Int) (R : LR) (s8 s9 s10 : Value) (wx : World) : Prop :=
  ∃ (X : Nat) (v6 : Value), s8 = .pointer (some ⟨X, 0, none⟩) ∧ s9 = .int .i64 R.node ∧ s10 = .int .i64 R.err ∧ OwnTR w0 wx (fun k => k = B ∨ ownBk v6 k ∨ k = X) g R.L R.next ∧
    wx.heap[B]? = some (.cells #[v0, .int .i64 next0] 29 (0, 0)) ∧ wx.heap[X]? = some (.cells #[v6, .int .i64 R.next] 29 (0, 0)) ∧ Arg EItm wx v6 R.L ∧ (∀ k, v6.ownBlock = some k → k ≠ B)
section
variable {w0 w5 w6 : World} {g B : Nat} {v0 v6 : Value} {next0 : Int} {R : LR}
theorem midx1 (ho : OwnTR w0 w5 (fun k => k = B ∨ ownBk v0 k) g R.L R.next) (hB : w5.heap[B]? = some (.cells #[v0, .int .i64 next0] 29 (0, 0))) (hne : ∀ k, v0.ownBlock = some k → k ≠ B) (hb : Below w5.heap.size w5 w6) (ha : Arg EItm w6 v6 R.L)
    (hw : ∀ k, v6.ownBlock = some k → v0.ownBlock = some k ∨ (w5.heap.size ≤ k ∧ k < w6.heap.size)) : MidX w0 g B v0 next0 R (.pointer (some ⟨w6.heap.size, 0, none⟩)) (.int .i64 R.node) (.int .i64 R.err) (w6.alloc (.cells #[v6, .int .i64 R.next] 29)) := by
  have hb' : Below w5.heap.size w5 (w6.alloc (.cells #[v6, .int .i64 R.next] 29)) := hb.alloc hb.size _
  have hBl := m_lt hB
  have hsz : (w6.alloc (.cells #[v6, .int .i64 R.next] 29)).heap.size = w6.heap.size + 1 := by simp
  have hs := hb.size
  refine ⟨_, v6, rfl, rfl, rfl, ho.turn hb' (fun k q => ?_), (hb'.block _ hBl).trans hB, m_alloc _ _ _ rfl, ha.below ((Below.refl _ w6).alloc (Nat.le_refl _) _), fun k q => ?_⟩
  · rcases q with q | q | q
    · subst q; exact ⟨Or.inl (Or.inl rfl), by omega⟩
    · rcases hw k q with z | z
      · obtain ⟨F, _, _, _, k4⟩ := ho
        have := (k4 k (Or.inr z)).1
        exact ⟨Or.inl (Or.inr z), by omega⟩
      · exact ⟨Or.inr z.1, by omega⟩
    · subst q; exact ⟨Or.inr hs, by omega⟩
  · rcases hw k q with z | z
    · exact hne k z
    · omega
theorem midx2 (ho : OwnTR w0 w5 (fun k => k = B ∨ ownBk v0 k) g R.L R.next) (hB : w5.heap[B]? = some (.cells #[v0, .int .i64 next0] 29 (0, 0))) (hne : ∀ k, v0.ownBlock = some k → k ≠ B) (hb : Below w5.heap.size w5 w6) (ha : Arg EItm w6 v6 R.L)
    (hX : w6.heap[w5.heap.size]? = some (.cells #[.slice none 0 0, .int .i64 0] 29 (0, 0)))
    (hw : ∀ k, v6.ownBlock = some k → v0.ownBlock = some k ∨ (w5.heap.size + 1 ≤ k ∧ k < w6.heap.size)) : MidX w0 g B v0 next0 R (.pointer (some ⟨w5.heap.size, 0, none⟩)) (.int .i64 R.node) (.int .i64 R.err) ((w6.setCell ⟨w5.heap.size, 0, none⟩ v6).setCell ⟨w5.heap.size, 1, none⟩ (.int .i64 R.next)) := by
  have hBl := m_lt hB
  have hXl := m_lt hX
  have hs := hb.size
  have hvl : ∀ k, v0.ownBlock = some k → k < w5.heap.size := fun k z => by
    obtain ⟨F, _, _, _, k4⟩ := ho
    exact (k4 k (Or.inr z)).1
  have h0 := ho.bel.size
  have ho6 : OwnTR w0 w6 (fun k => k = B ∨ ownBk v6 k ∨ k = w5.heap.size) g R.L R.next := ho.turn hb (fun k q => by
    rcases q with q | q | q
    · subst q; exact ⟨Or.inl (Or.inl rfl), by omega⟩
    · rcases hw k q with z | z
      · have := hvl k z
        exact ⟨Or.inl (Or.inr z), by omega⟩
      · exact ⟨Or.inr (by omega), by omega⟩
    · subst q; exact ⟨Or.inr (Nat.le_refl _), hXl⟩)
  refine ⟨_, v6, rfl, rfl, rfl, (ho6.set _ _ _ (Or.inr (Or.inr rfl)) h0).set _ _ _ (Or.inr (Or.inr rfl)) h0, m_set_ne (m_set_ne ((hb.block _ hBl).trans hB) _ _ _ (by omega)) _ _ _ (by omega), ?_, ?_, fun k q => ?_⟩
  · have := m_set (m_set hX 0 v6) 1 (.int .i64 R.next)
    exact this
  · refine ha.keep (F := fun k => k = w5.heap.size) (((Keep.refl (fun k => k = w5.heap.size) w6).set w5.heap.size _ _ (Or.inl rfl)).set w5.heap.size _ _ (Or.inl rfl)) (fun k q e => ?_)
    subst e
    rcases hw _ q with z | z
    · have := hvl _ z; omega
    · omega
  · rcases hw k q with z | z
    · exact hne k z
    · omega
end
/-- An entry's cells, to be written. -/
theorem efacts {w : World} {A : Nat} (h : w.heap[A]? = some (.cells #[.string ⟨#[]⟩, .int .i64 0, .bool false, .int .i64 0, .int .i64 0] 84 (0, 0))) : w.cell? ⟨A, 0, none⟩ = some (.string ⟨#[]⟩) ∧ w.cell? ⟨A, 1, none⟩ = some (.int .i64 0) ∧ w.cell? ⟨A, 2, none⟩ = some (.bool false) ∧ w.cell? ⟨A, 3, none⟩ = some (.int .i64 0) ∧ w.cell? ⟨A, 4, none⟩ = some (.int .i64 0) ∧
    w.frozen? ⟨A, 0, none⟩ = false ∧ w.frozen? ⟨A, 1, none⟩ = false ∧ w.frozen? ⟨A, 2, none⟩ = false ∧ w.frozen? ⟨A, 3, none⟩ = false ∧ w.frozen? ⟨A, 4, none⟩ = false :=
  ⟨(m_cells h).1 0, (m_cells h).1 1, (m_cells h).1 2, (m_cells h).1 3, (m_cells h).1 4, (m_cells h).2 0, (m_cells h).2 1, (m_cells h).2 2, (m_cells h).2 3, (m_cells h).2 4⟩
theorem esets {w : World} {A : Nat} {t : TypeId} (h : w.heap[A]? = some (.cells #[.string ⟨#[]⟩, .int .i64 0, .bool false, .int .i64 0, .int .i64 0] t (0, 0))) (x : Ent) :
    (((((w.setCell ⟨A, 0, none⟩ (.string x.name)).setCell ⟨A, 1, none⟩ (.int .i64 x.node)).setCell ⟨A, 2, none⟩ (.bool x.dir)).setCell ⟨A, 3, none⟩ (.int .i64 x.cookie)).setCell ⟨A, 4, none⟩ (.int .i64 x.short)).heap[A]? = some (.cells #[.string x.name, .int .i64 x.node, .bool x.dir, .int .i64 x.cookie, .int .i64 x.short] t (0, 0)) :=
  m_set (m_set (m_set (m_set (m_set h 0 _) 1 _) 2 _) 3 _) 4 _
theorem bsets {w w' : World} {A : Nat} (h : Below w.heap.size w w') (hA : w.heap.size ≤ A) (x : Ent) :
    Below w.heap.size w (((((w'.setCell ⟨A, 0, none⟩ (.string x.name)).setCell ⟨A, 1, none⟩ (.int .i64 x.node)).setCell ⟨A, 2, none⟩ (.bool x.dir)).setCell ⟨A, 3, none⟩ (.int .i64 x.cookie)).setCell ⟨A, 4, none⟩ (.int .i64 x.short)) :=
  ((((h.setCell hA _).setCell hA _).setCell hA _).setCell hA _).setCell hA _
def MidA (w0 : World) (g B : Nat) (v : Value) (L : List Itm) (next : Int) (x : Ent) (E : Int) (s11 s12 : Value) (wx : World) : Prop :=
  ∃ A, s11 = .pointer (some ⟨A, 0, none⟩) ∧ s12 = .int .i64 E ∧ wx.heap[A]? = some (.cells #[.string x.name, .int .i64 x.node, .bool x.dir, .int .i64 x.cookie, .int .i64 x.short] 84 (0, 0)) ∧ Both w0 wx g B v L next
def MidB (w0 : World) (g B A : Nat) (v : Value) (L : List Itm) (next : Int) (x : Ent) (E : Int) (s13 s14 : Value) (wx : World) : Prop :=
  ∃ A2, s13 = .pointer (some ⟨A2, 0, none⟩) ∧ s14 = .int .i64 E ∧ wx.heap[A2]? = some (.cells #[.string x.name, .int .i64 x.node, .bool x.dir, .int .i64 x.cookie, .int .i64 x.short] 84 (0, 0)) ∧ wx.heap[A]? = some (.cells #[.string x.name, .int .i64 x.node, .bool x.dir, .int .i64 x.cookie, .int .i64 x.short] 84 (0, 0)) ∧ Both w0 wx g B v L next
def MidL (w0 : World) (g B A A2 : Nat) (v : Value) (L : List Itm) (next : Int) (x : Ent) (E : Int) (s17 s18 : Value) (wx : World) : Prop :=
  s18 = .int .i64 E ∧ wx.heap[A2]? = some (.cells #[.string x.name, .int .i64 x.node, .bool x.dir, .int .i64 x.cookie, .int .i64 x.short] 84 (0, 0)) ∧ wx.heap[A]? = some (.cells #[.string x.name, .int .i64 x.node, .bool x.dir, .int .i64 x.cookie, .int .i64 x.short] 84 (0, 0)) ∧ Both w0 wx g B v L next
def PlayT (w0 : World) (g B : Nat) (iv : Value) (n : Nat) (wr : World) : Prop :=
  ∃ (i : Nat) (v : Value) (L : List Itm) (next : Int), iv = .int .i64 i ∧ i ≤ n ∧ Both w0 wr g B v L next ∧ TInv L next ∧ next ≤ i + 1
end Go.Proofs.YtolilbcpfdnkjaaGreat
