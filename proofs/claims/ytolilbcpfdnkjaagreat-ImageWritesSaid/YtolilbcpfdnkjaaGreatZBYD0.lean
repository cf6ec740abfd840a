/- Lemmas, texts YD0 YE DOT; no condition beyond those that each states. -/
import Derived.Test.YtolilbcpfdnkjaaGreatZBYC
import Derived.Test.YtolilbcpfdnkjaaGreatZBUB
import Derived.Outline
import Derived.Deep.Cut
import Derived.Test.YtolilbcpfdnkjaaGreatZBByK
/- The reference's tree beside the go tree. -/
namespace Go.Proofs.YtolilbcpfdnkjaaGreat
open Go.RowKit
set_option linter.unusedSimpArgs false
set_option linter.unusedVariables false
theorem Arg.stays {α : Type} {E : EK α} {w w' : World} {R : Nat → Prop} {v : Value} {l : List α} (h : Arg E w v l) (hs : Stays R w w') (hR : ∀ k, v.ownBlock = some k → R k) : Arg E w' v l := by
  obtain ⟨a, cap, rfl, h⟩ := h
  refine ⟨a, cap, rfl, ?_⟩
  rcases h with h | ⟨x, rfl, hc⟩
  · exact Or.inl h
  · refine Or.inr ⟨x, rfl, fun j u hj => ?_⟩
    have hx := hc j u hj
    have hb : (x.add j).block = x.block := by unfold Addr.add; split <;> rfl
    rw [World.cell?_of_block (hs _ (by rw [hb]; exact hR _ rfl))]; exact hx
/-- A block beside the tree is written. -/
theorem OwnTR.set {w0 w : World} {R : Nat → Prop} {g : Nat} {L : List Itm} {next : Int} (h : OwnTR w0 w R g L next) (b o : Nat) (v : Value) (hb : R b) (hB : w0.heap.size ≤ b) : OwnTR w0 (w.setCell ⟨b, o, none⟩ v) R g L next := by
  obtain ⟨F, k1, k2, k3, k4⟩ := h
  refine ⟨F, k1.keep (G := fun k => k = b) ((Keep.refl _ w).set b o v (Or.inl rfl)) (fun i q e => ?_), k2, k3.setCell hB _, fun k q => ⟨by have := (k4 k q).1; simpa [World.setCell] using this, (k4 k q).2⟩⟩
  subst e
  exact (k4 i hb).2 q
/-- The reference's tree in its variable, beside the go tree. -/
structure Both (w0 w : World) (g B : Nat) (v : Value) (L : List Itm) (next : Int) : Prop where
  own : OwnTR w0 w (fun k => k = B ∨ ownBk v k) g L next
  blk : w.heap[B]? = some (.cells #[v, .int .i64 next] 29 (0, 0))
  arg : Arg EItm w v L
  ne : ∀ k, v.ownBlock = some k → k ≠ B
  ge : w0.heap.size ≤ B
theorem Both.below {w0 w w' : World} {g B : Nat} {v : Value} {L : List Itm} {next : Int} (h : Both w0 w g B v L next) (hb : Below w.heap.size w w') : Both w0 w' g B v L next :=
  ⟨h.own.below hb, (hb.block _ (m_lt h.blk)).trans h.blk, h.arg.below hb, h.ne, h.ge⟩
theorem Both.lt {w0 w : World} {g B : Nat} {v : Value} {L : List Itm} {next : Int} (h : Both w0 w g B v L next) : ∀ k, v.ownBlock = some k → k < w.heap.size := fun k q => by
  obtain ⟨F, _, _, _, k4⟩ := h.own
  exact (k4 k (Or.inr q)).1
theorem Both.cells {w0 w : World} {g B : Nat} {v : Value} {L : List Itm} {next : Int} (h : Both w0 w g B v L next) : w.cell? ⟨B, 0, none⟩ = some v ∧ w.cell? ⟨B, 1, none⟩ = some (.int .i64 next) ∧ w.frozen? ⟨B, 0, none⟩ = false ∧ w.frozen? ⟨B, 1, none⟩ = false :=
  ⟨(m_cells h.blk).1 0, (m_cells h.blk).1 1, (m_cells h.blk).2 0, (m_cells h.blk).2 1⟩
/-- Behind the reference's call. -/
def MidX (w0 : World) (g B : Nat) (v0 : Value) (next0 : Int) (R : LR) (s8 s9 s10 : Value) (wx : World) : Prop :=
  ∃ (X : Nat) (v6 : Value), s8 = .pointer (some ⟨X, 0, none⟩) ∧ s9 = .int .i64 R.node ∧ s10 = .int .i64 R.err ∧ OwnTR w0 wx (fun k => k = B ∨ ownBk v6 k ∨ k = X) g R.L R.next ∧
    wx.heap[B]? = some (.cells #[v0, .int .i64 next0] 29 (0, 0)) ∧ wx.heap[X]? = some (.cells #[v6, .int .i64 R.next] 29 (0, 0)) ∧ Arg EItm wx v6 R.L ∧ (∀ k, v6.ownBlock = some k → k ≠ B)
section
variable {w0 w5 w6 : World} {g B : Nat} {v0 v6 : Value} {next0 : Int} {R : LR}
theorem midx1 (ho : OwnTR w0 w5 (fun k => k = B ∨ ownBk v0 k) g R.L R.next) (hB : w5.heap[B]? = some (.cells #[v0, .int .i64 next0] 29 (0, 0))) (hne : ∀ k, v0.ownBlock = some k → k ≠ B) (hb : Below w5.heap.size w5 w6) (ha : Arg EItm w6 v6 R.L)
    (hw : ∀ k, v6.ownBlock = some k → v0.ownBlock = some k ∨ (w5.heap.size ≤ k ∧ k < w6.heap.size)) : MidX w0 g B v0 next0 R (.pointer (some ⟨w6.heap.size, 0, none⟩)) (.int .i64 R.node) (.int .i64 R.err) (w6.alloc (.cells #[v6, .int .i64 R.next] 29)) := by
  have hb' : Below w5.heap.size w5 (w6.alloc (.cells #[v6, .int .i64 R.next] 29)) := hb.alloc hb.size _
  have hBl := m_lt hB
  have hsz : (w6.alloc (.cells #[v6, .int .i64 R.next] 29)).heap.size = w6.heap.size + 1 := by simp
  have hs := hb.size
  refine ⟨_, v6, rfl, rfl, rfl, ho.turn hb' (fun k q => ?_), (hb'.block _ hBl).trans hB, m_alloc _ _ _ rfl, ha.below ((Below.refl _ w6).alloc (Nat.le_refl _) _), fun k q => ?_⟩
  · rcases q with q | q | q
    · subst q; exact ⟨Or.inl (Or.inl rfl), by omega⟩
    · rcases hw k q with z | z
      · obtain ⟨F, _, _, _, k4⟩ := ho
        have := (k4 k (Or.inr z)).1
        exact ⟨Or.inl (Or.inr z), by omega⟩
      · exact ⟨Or.inr z.1, by omega⟩
    · subst q; exact ⟨Or.inr hs, by omega⟩
  · rcases hw k q with z | z
    · exact hne k z
    · omega
theorem midx2 (ho : OwnTR w0 w5 (fun k => k = B ∨ ownBk v0 k) g R.L R.next) (hB : w5.heap[B]? = some (.cells #[v0, .int .i64 next0] 29 (0, 0))) (hne : ∀ k, v0.ownBlock = some k → k ≠ B) (hb : Below w5.heap.size w5 w6) (ha : Arg EItm w6 v6 R.L)
    (hX : w6.heap[w5.heap.size]? = some (.cells #[.slice none 0 0, .int .i64 0] 29 (0, 0)))
    (hw : ∀ k, v6.ownBlock = some k → v0.ownBlock = some k ∨ (w5.heap.size + 1 ≤ k ∧ k < w6.heap.size)) : MidX w0 g B v0 next0 R (.pointer (some ⟨w5.heap.size, 0, none⟩)) (.int .i64 R.node) (.int .i64 R.err) ((w6.setCell ⟨w5.heap.size, 0, none⟩ v6).setCell ⟨w5.heap.size, 1, none⟩ (.int .i64 R.next)) := by
  have hBl := m_lt hB
  have hXl := m_lt hX
  have hs := hb.size
  have hvl : ∀ k, v0.ownBlock = some k → k < w5.heap.size := fun k z => by
    obtain ⟨F, _, _, _, k4⟩ := ho
    exact (k4 k (Or.inr z)).1
  have h0 := ho.bel.size
  have ho6 : OwnTR w0 w6 (fun k => k = B ∨ ownBk v6 k ∨ k = w5.heap.size) g R.L R.next := ho.turn hb (fun k q => by
    rcases q with q | q | q
    · subst q; exact ⟨Or.inl (Or.inl rfl), by omega⟩
    · rcases hw k q with z | z
      · have := hvl k z
        exact ⟨Or.inl (Or.inr z), by omega⟩
      · exact ⟨Or.inr (by omega), by omega⟩
    · subst q; exact ⟨Or.inr (Nat.le_refl _), hXl⟩)
  refine ⟨_, v6, rfl, rfl, rfl, (ho6.set _ _ _ (Or.inr (Or.inr rfl)) h0).set _ _ _ (Or.inr (Or.inr rfl)) h0, m_set_ne (m_set_ne ((hb.block _ hBl).trans hB) _ _ _ (by omega)) _ _ _ (by omega), ?_, ?_, fun k q => ?_⟩
  · have := m_set (m_set hX 0 v6) 1 (.int .i64 R.next)
    exact this
  · refine ha.keep (F := fun k => k = w5.heap.size) (((Keep.refl (fun k => k = w5.heap.size) w6).set w5.heap.size _ _ (Or.inl rfl)).set w5.heap.size _ _ (Or.inl rfl)) (fun k q e => ?_)
    subst e
    rcases hw _ q with z | z
    · have := hvl _ z; omega
    · omega
  · rcases hw k q with z | z
    · exact hne k z
    · omega
end
/-- An entry's cells, to be written. -/
theorem efacts {w : World} {A : Nat} (h : w.heap[A]? = some (.cells #[.string ⟨#[]⟩, .int .i64 0, .bool false, .int .i64 0, .int .i64 0] 84 (0, 0))) : w.cell? ⟨A, 0, none⟩ = some (.string ⟨#[]⟩) ∧ w.cell? ⟨A, 1, none⟩ = some (.int .i64 0) ∧ w.cell? ⟨A, 2, none⟩ = some (.bool false) ∧ w.cell? ⟨A, 3, none⟩ = some (.int .i64 0) ∧ w.cell? ⟨A, 4, none⟩ = some (.int .i64 0) ∧
    w.frozen? ⟨A, 0, none⟩ = false ∧ w.frozen? ⟨A, 1, none⟩ = false ∧ w.frozen? ⟨A, 2, none⟩ = false ∧ w.frozen? ⟨A, 3, none⟩ = false ∧ w.frozen? ⟨A, 4, none⟩ = false :=
  ⟨(m_cells h).1 0, (m_cells h).1 1, (m_cells h).1 2, (m_cells h).1 3, (m_cells h).1 4, (m_cells h).2 0, (m_cells h).2 1, (m_cells h).2 2, (m_cells h).2 3, (m_cells h).2 4⟩
theorem esets {w : World} {A : Nat} {t : TypeId} (h : w.heap[A]? = some (.cells #[.string ⟨#[]⟩, .int .i64 0, .bool false, .int .i64 0, .int .i64 0] t (0, 0))) (x : Ent) :
    (((((w.setCell ⟨A, 0, none⟩ (.string x.name)).setCell ⟨A, 1, none⟩ (.int .i64 x.node)).setCell ⟨A, 2, none⟩ (.bool x.dir)).setCell ⟨A, 3, none⟩ (.int .i64 x.cookie)).setCell ⟨A, 4, none⟩ (.int .i64 x.short)).heap[A]? = some (.cells #[.string x.name, .int .i64 x.node, .bool x.dir, .int .i64 x.cookie, .int .i64 x.short] t (0, 0)) :=
  m_set (m_set (m_set (m_set (m_set h 0 _) 1 _) 2 _) 3 _) 4 _
theorem bsets {w w' : World} {A : Nat} (h : Below w.heap.size w w') (hA : w.heap.size ≤ A) (x : Ent) :
    Below w.heap.size w (((((w'.setCell ⟨A, 0, none⟩ (.string x.name)).setCell ⟨A, 1, none⟩ (.int .i64 x.node)).setCell ⟨A, 2, none⟩ (.bool x.dir)).setCell ⟨A, 3, none⟩ (.int .i64 x.cookie)).setCell ⟨A, 4, none⟩ (.int .i64 x.short)) :=
  ((((h.setCell hA _).setCell hA _).setCell hA _).setCell hA _).setCell hA _
def MidA (w0 : World) (g B : Nat) (v : Value) (L : List Itm) (next : Int) (x : Ent) (E : Int) (s11 s12 : Value) (wx : World) : Prop :=
  ∃ A, s11 = .pointer (some ⟨A, 0, none⟩) ∧ s12 = .int .i64 E ∧ wx.heap[A]? = some (.cells #[.string x.name, .int .i64 x.node, .bool x.dir, .int .i64 x.cookie, .int .i64 x.short] 84 (0, 0)) ∧ Both w0 wx g B v L next
def MidB (w0 : World) (g B A : Nat) (v : Value) (L : List Itm) (next : Int) (x : Ent) (E : Int) (s13 s14 : Value) (wx : World) : Prop :=
  ∃ A2, s13 = .pointer (some ⟨A2, 0, none⟩) ∧ s14 = .int .i64 E ∧ wx.heap[A2]? = some (.cells #[.string x.name, .int .i64 x.node, .bool x.dir, .int .i64 x.cookie, .int .i64 x.short] 84 (0, 0)) ∧ wx.heap[A]? = some (.cells #[.string x.name, .int .i64 x.node, .bool x.dir, .int .i64 x.cookie, .int .i64 x.short] 84 (0, 0)) ∧ Both w0 wx g B v L next
def MidL (w0 : World) (g B A A2 : Nat) (v : Value) (L : List Itm) (next : Int) (x : Ent) (E : Int) (s17 s18 : Value) (wx : World) : Prop :=
  s18 = .int .i64 E ∧ wx.heap[A2]? = some (.cells #[.string x.name, .int .i64 x.node, .bool x.dir, .int .i64 x.cookie, .int .i64 x.short] 84 (0, 0)) ∧ wx.heap[A]? = some (.cells #[.string x.name, .int .i64 x.node, .bool x.dir, .int .i64 x.cookie, .int .i64 x.short] 84 (0, 0)) ∧ Both w0 wx g B v L next
def PlayT (w0 : World) (g B : Nat) (iv : Value) (n : Nat) (wr : World) : Prop :=
  ∃ (i : Nat) (v : Value) (L : List Itm) (next : Int), iv = .int .i64 i ∧ i ≤ n ∧ Both w0 wr g B v L next ∧ TInv L next ∧ next ≤ i + 1
end Go.Proofs.YtolilbcpfdnkjaaGreat

/- A tree and the reference's variable, that may tell different trees. -/
namespace Go.Proofs.YtolilbcpfdnkjaaGreat
open Go.RowKit
set_option linter.unusedSimpArgs false
set_option linter.unusedVariables false
structure Pair (w0 w : World) (g B : Nat) (v : Value) (L1 : List Itm) (n1 : Int) (L2 : List Itm) (n2 : Int) : Prop where
  own : OwnTR w0 w (fun k => k = B ∨ ownBk v k) g L1 n1
  blk : w.heap[B]? = some (.cells #[v, .int .i64 n2] 29 (0, 0))
  arg : Arg EItm w v L2
  ne : ∀ k, v.ownBlock = some k → k ≠ B
  ge : w0.heap.size ≤ B
section
variable {w0 w w' : World} {g B : Nat} {v : Value} {L L1 L2 : List Itm} {next n1 n2 : Int}
theorem Both.pair (h : Both w0 w g B v L next) : Pair w0 w g B v L next L next := ⟨h.own, h.blk, h.arg, h.ne, h.ge⟩
theorem Pair.both (h : Pair w0 w g B v L next L next) : Both w0 w g B v L next := ⟨h.own, h.blk, h.arg, h.ne, h.ge⟩
theorem Pair.below (h : Pair w0 w g B v L1 n1 L2 n2) (hb : Below w.heap.size w w') : Pair w0 w' g B v L1 n1 L2 n2 :=
  ⟨h.own.below hb, (hb.block _ (m_lt h.blk)).trans h.blk, h.arg.below hb, h.ne, h.ge⟩
theorem Pair.lt (h : Pair w0 w g B v L1 n1 L2 n2) : ∀ k, v.ownBlock = some k → k < w.heap.size := fun k q => by
  obtain ⟨F, _, _, _, k4⟩ := h.own
  exact (k4 k (Or.inr q)).1
theorem Pair.cells (h : Pair w0 w g B v L1 n1 L2 n2) : w.cell? ⟨B, 0, none⟩ = some v ∧ w.cell? ⟨B, 1, none⟩ = some (.int .i64 n2) ∧ w.frozen? ⟨B, 0, none⟩ = false ∧ w.frozen? ⟨B, 1, none⟩ = false :=
  ⟨(m_cells h.blk).1 0, (m_cells h.blk).1 1, (m_cells h.blk).2 0, (m_cells h.blk).2 1⟩
/-- The go tree has turned. -/
theorem Pair.turned (h : Pair w0 w g B v L1 n1 L2 n2) {L3 : List Itm} {n3 : Int} (ho : OwnTR w0 w' (fun k => k = B ∨ ownBk v k) g L3 n3) (hs : Stays (fun k => k = B ∨ ownBk v k) w w') : Pair w0 w' g B v L3 n3 L2 n2 :=
  ⟨ho, (hs B (Or.inl rfl)).trans h.blk, h.arg.stays hs (fun k q => Or.inr q), h.ne, h.ge⟩
theorem ownr_link {R : Nat → Prop} (h : OwnTR w0 w R g L next) (hi : TInv L next) (hn : next ≤ 1000000000) (dir : Int) (name : ByteArray) (isDir : Bool) (short : Int) (hs : name.size ≤ maxLen) :
    Calls Tryz.prog 27 #[.pointer (some ⟨g, 0, none⟩), .int .i64 dir, .string name, .bool isDir, .int .i64 short] w fun e w' =>
      e = .returned (.tuple #[.int .i64 (linkT L next dir name isDir short).node, .int .i64 (linkT L next dir name isDir short).err]) ∧ OwnTR w0 w' R g (linkT L next dir name isDir short).L (linkT L next dir name isDir short).next ∧ Stays R w w' := by
  obtain ⟨F, h1, h2, h3, h4⟩ := h
  exact (tlink_any dir name isDir short h1 hi hn hs).mono fun e w' ⟨a, b⟩ => ⟨a, OwnTR.step h1 h2 h3 h4 b⟩
theorem ownr_unlink {R : Nat → Prop} (h : OwnTR w0 w R g L next) (hi : TInv L next) (hn : next ≤ 1000000000) (dir : Int) (name : ByteArray) (isDir : Bool) :
    Calls Tryz.prog 38 #[.pointer (some ⟨g, 0, none⟩), .int .i64 dir, .string name, .bool isDir] w fun e w' =>
      e = .returned (.int .i64 (unlinkT L dir name isDir).2) ∧ OwnTR w0 w' R g (unlinkT L dir name isDir).1 next ∧ Stays R w w' := by
  obtain ⟨F, h1, h2, h3, h4⟩ := h
  exact (tunlink_any dir name isDir h1 hi hn).mono fun e w' ⟨a, b⟩ => ⟨a, OwnTR.step h1 h2 h3 h4 b⟩
theorem linkT_next (L : List Itm) (next dir : Int) (name : ByteArray) (isDir : Bool) (short : Int) : next ≤ (linkT L next dir name isDir short).next ∧ (linkT L next dir name isDir short).next ≤ next + 1 := by
  unfold linkT
  repeat' split
  all_goals (constructor <;> simp <;> omega)
end
/-- Behind the reference's call: its answer stands in a variable of its own. -/
def MidZ (w0 : World) (g B : Nat) (v0 : Value) (next0 : Int) (L1 : List Itm) (n1 : Int) (L2 : List Itm) (n2 : Int) (X : Nat) (v6 : Value) (wx : World) : Prop :=
  OwnTR w0 wx (fun k => k = B ∨ ownBk v6 k ∨ k = X) g L1 n1 ∧
    wx.heap[B]? = some (.cells #[v0, .int .i64 next0] 29 (0, 0)) ∧ wx.heap[X]? = some (.cells #[v6, .int .i64 n2] 29 (0, 0)) ∧ Arg EItm wx v6 L2 ∧ (∀ k, v6.ownBlock = some k → k ≠ B)
section
variable {w0 w5 w6 : World} {g B : Nat} {v0 v6 : Value} {next0 n1 n2 : Int} {L0 L1 L2 : List Itm}
theorem midz1 (hp : Pair w0 w5 g B v0 L1 n1 L0 next0) (hb : Below w5.heap.size w5 w6) (ha : Arg EItm w6 v6 L2)
    (hw : ∀ k, v6.ownBlock = some k → v0.ownBlock = some k ∨ (w5.heap.size ≤ k ∧ k < w6.heap.size)) : MidZ w0 g B v0 next0 L1 n1 L2 n2 w6.heap.size v6 (w6.alloc (.cells #[v6, .int .i64 n2] 29)) := by
  have ho := hp.own
  have hB := hp.blk
  have hne := hp.ne
  have hb' : Below w5.heap.size w5 (w6.alloc (.cells #[v6, .int .i64 n2] 29)) := hb.alloc hb.size _
  have hBl := m_lt hB
  have hsz : (w6.alloc (.cells #[v6, .int .i64 n2] 29)).heap.size = w6.heap.size + 1 := by simp
  have hs := hb.size
  refine ⟨ho.turn hb' (fun k q => ?_), (hb'.block _ hBl).trans hB, m_alloc _ _ _ rfl, ha.below ((Below.refl _ w6).alloc (Nat.le_refl _) _), fun k q => ?_⟩
  · rcases q with q | q | q
    · subst q; exact ⟨Or.inl (Or.inl rfl), by omega⟩
    · rcases hw k q with z | z
      · obtain ⟨F, _, _, _, k4⟩ := ho
        have := (k4 k (Or.inr z)).1
        exact ⟨Or.inl (Or.inr z), by omega⟩
      · exact ⟨Or.inr z.1, by omega⟩
    · subst q; exact ⟨Or.inr hs, by omega⟩
  · rcases hw k q with z | z
    · exact hne k z
    · omega
/-- The answer is stored. -/
theorem midy_stored {w7 : World} {X : Nat} (ho7 : OwnTR w0 w7 (fun k => k = B ∨ ownBk v6 k ∨ k = X) g L1 n1) (hB : w7.heap[B]? = some (.cells #[v0, .int .i64 next0] 29 (0, 0))) (ha7 : Arg EItm w7 v6 L2) (hne7 : ∀ k, v6.ownBlock = some k → k ≠ B) (hwB : w0.heap.size ≤ B) :
    Pair w0 ((w7.setCell ⟨B, 0, none⟩ v6).setCell ⟨B, 1, none⟩ (.int .i64 n2)) g B v6 L1 n1 L2 n2 :=
  ⟨((ho7.set _ _ _ (Or.inl rfl) hwB).set _ _ _ (Or.inl rfl) hwB).less (fun k q => q.imp id Or.inl), m_set (m_set hB 0 _) 1 _, ha7.keep (F := fun k => k = B) (((Keep.refl (fun k => k = B) w7).set B _ _ (Or.inl rfl)).set B _ _ (Or.inl rfl)) hne7, hne7, hwB⟩
end
/-- Two bytes into a string. -/
theorem two_bytes (w : World) (x y : UInt8) (p q : Int) (hp : p = x.toNat) (hq : q = y.toNat) :
    ∃ nm : ByteArray, nm.size = 2 ∧ (convert 69 9 (.slice (some ⟨w.heap.size, 0, none⟩) 2 2)).run Tryz.prog (w.alloc (.cells #[.int .u8 p, .int .u8 q] 5)) = .ok (.string nm) (w.alloc (.cells #[.int .u8 p, .int .u8 q] 5)) := by
  subst hp hq
  have h := Row.new (E := EByt) w w.heap.size #[.int .u8 x.toNat, .int .u8 y.toNat] [x, y] (Nat.le_refl _) rfl (show 2 ≤ maxLen by decide)
  exact ⟨_, rfl, h.convert⟩
theorem two_bytes2 (w : World) (p q : Int) :
    ∃ nm : ByteArray, nm.size = 2 ∧ (convert 69 9 (.slice (some ⟨w.heap.size, 0, none⟩) 2 2)).run Tryz.prog (w.alloc (.cells #[.int .u8 (IntKind.u8.wrap p), .int .u8 (IntKind.u8.wrap q)] 5)).drew = .ok (.string nm) (w.alloc (.cells #[.int .u8 (IntKind.u8.wrap p), .int .u8 (IntKind.u8.wrap q)] 5)).drew := by
  have key : ∀ z : Int, IntKind.u8.wrap z = (UInt8.ofNat (IntKind.u8.wrap z).toNat).toNat := fun z => by
    have : 0 ≤ IntKind.u8.wrap z ∧ IntKind.u8.wrap z < 256 := by rw [IntKind.wrap_u8]; omega
    simp; omega
  have h := Row.new (E := EByt) w w.heap.size #[.int .u8 (IntKind.u8.wrap p), .int .u8 (IntKind.u8.wrap q)] [UInt8.ofNat (IntKind.u8.wrap p).toNat, UInt8.ofNat (IntKind.u8.wrap q).toNat] (Nat.le_refl _) (by
    conv => lhs; rw [key p, key q]
    rfl) (show 2 ≤ maxLen by decide)
  exact ⟨_, rfl, (h.below (Below.refl _ _).drew).convert⟩
theorem byte_of (n : Nat) (h : n < 256) : ((n : Nat) : Int) = (UInt8.ofNat n).toNat := by
  simp; omega
end Go.Proofs.YtolilbcpfdnkjaaGreat

/- The loops of calls on a tree and the reference's. -/
namespace Go.Proofs.YtolilbcpfdnkjaaGreat
open Go.RowKit
set_option linter.unusedSimpArgs false
set_option linter.unusedVariables false
/-- The loops of calls: the tree of the law's beside the reference's. -/
def DosT (w0 : World) (g B : Nat) (iv : Value) (n : Nat) (wr : World) : Prop :=
  ∃ (i : Nat) (v : Value) (L : List Itm) (next : Int), iv = .int .i64 i ∧ i ≤ n ∧ Both w0 wr g B v L next ∧ TInv L next ∧ next ≤ i + 1
end Go.Proofs.YtolilbcpfdnkjaaGreat
