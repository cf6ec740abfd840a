/- TreePlays: the walk. -/
import Derived.Test.YtolilbcpfdnkjaaTJYC
import Derived.Test.YtolilbcpfdnkjaaTJUB
import Derived.Outline
import Derived.Deep.Cut
namespace Go.Proofs.Ytolilbcpfdnkjaa
open Go.RowKit
set_option linter.unusedSimpArgs false
set_option linter.unusedVariables false
theorem Arg.stays {α : Type} {E : EK α} {w w' : World} {R : Nat → Prop} {v : Value} {l : List α} (h : Arg E w v l) (hs : Stays R w w') (hR : ∀ k, v.ownBlock = some k → R k) : Arg E w' v l := by
  obtain ⟨a, cap, rfl, h⟩ := h
  refine ⟨a, cap, rfl, ?_⟩
  rcases h with h | ⟨x, rfl, hc⟩
  · exact Or.inl h
  · refine Or.inr ⟨x, rfl, fun j u hj => ?_⟩
    have hx := hc j u hj
    have hb : (x.add j).block = x.block := by unfold Addr.add; split <;> rfl
    rw [World.cell?_of_block (hs _ (by rw [hb]; exact hR _ rfl))]; exact hx
/-- A block beside the tree is written. -/
theorem OwnTR.set {w0 w : World} {R : Nat → Prop} {g : Nat} {L : List Itm} {next : Int} (h : OwnTR w0 w R g L next) (b o : Nat) (v : Value) (hb : R b) (hB : w0.heap.size ≤ b) : OwnTR w0 (w.setCell ⟨b, o, none⟩ v) R g L next := by
  obtain ⟨F, k1, k2, k3, k4⟩ := h
  refine ⟨F, k1.keep (G := fun k => k = b) ((Keep.refl _ w).set b o v (Or.inl rfl)) (fun i q e => ?_), k2, k3.setCell hB _, fun k q => ⟨by have := (k4 k q).1; simpa [World.setCell] using this, (k4 k q).2⟩⟩
  subst e
  exact (k4 i hb).2 q
/-- The reference's tree in its variable, beside the go tree. -/
structure Both (w0 w : World) (g B : Nat) (v : Value) (L : List Itm) (next : Int) : Prop where
  own : OwnTR w0 w (fun k => k = B ∨ ownBk v k) g L next
  blk : w.heap[B]? = some (.cells #[v, .int .i64 next] 59 (0, 0))
  arg : Arg EItm w v L
  ne : ∀ k, v.ownBlock = some k → k ≠ B
  ge : w0.heap.size ≤ B
theorem Both.below {w0 w w' : World} {g B : Nat} {v : Value} {L : List Itm} {next : Int} (h : Both w0 w g B v L next) (hb : Below w.heap.size w w') : Both w0 w' g B v L next :=
  ⟨h.own.below hb, (hb.block _ (m_lt h.blk)).trans h.blk, h.arg.below hb, h.ne, h.ge⟩
theorem Both.lt {w0 w : World} {g B : Nat} {v : Value} {L : List Itm} {next : Int} (h : Both w0 w g B v L next) : ∀ k, v.ownBlock = some k → k < w.heap.size := fun k q => by
  obtain ⟨F, _, _, _, k4⟩ := h.own
  exact (k4 k (Or.inr q)).1
theorem Both.cells {w0 w : World} {g B : Nat} {v : Value} {L : List Itm} {next : Int} (h : Both w0 w g B v L next) : w.cell? ⟨B, 0, none⟩ = some v ∧ w.cell? ⟨B, 1, none⟩ = some (.int .i64 next) ∧ w.frozen? ⟨B, 0, none⟩ = false ∧ w.frozen? ⟨B, 1, none⟩ = false :=
  ⟨(m_cells h.blk).1 0, (m_cells h.blk).1 1, (m_cells h.blk).2 0, (m_cells h.blk).2 1⟩
/-- Behind the reference's call. -/
def MidX (w0 : World) (g B : Nat) (v0 : Value) (next0 : Int) (R : LR) (s8 s9 s10 : Value) (wx : World) : Prop :=
  ∃ (X : Nat) (v6 : Value), s8 = .pointer (some ⟨X, 0, none⟩) ∧ s9 = .int .i64 R.node ∧ s10 = .int .i64 R.err ∧ OwnTR w0 wx (fun k => k = B ∨ ownBk v6 k ∨ k = X) g R.L R.next ∧
    wx.heap[B]? = some (.cells #[v0, .int .i64 next0] 59 (0, 0)) ∧ wx.heap[X]? = some (.cells #[v6, .int .i64 R.next] 59 (0, 0)) ∧ Arg EItm wx v6 R.L ∧ (∀ k, v6.ownBlock = some k → k ≠ B)
section
variable {w0 w5 w6 : World} {g B : Nat} {v0 v6 : Value} {next0 : Int} {R : LR}
theorem midx1 (ho : OwnTR w0 w5 (fun k => k = B ∨ ownBk v0 k) g R.L R.next) (hB : w5.heap[B]? = some (.cells #[v0, .int .i64 next0] 59 (0, 0))) (hne : ∀ k, v0.ownBlock = some k → k ≠ B) (hb : Below w5.heap.size w5 w6) (ha : Arg EItm w6 v6 R.L)
    (hw : ∀ k, v6.ownBlock = some k → v0.ownBlock = some k ∨ (w5.heap.size ≤ k ∧ k < w6.heap.size)) : MidX w0 g B v0 next0 R (.pointer (some ⟨w6.heap.size, 0, none⟩)) (.int .i64 R.node) (.int .i64 R.err) (w6.alloc (.cells #[v6, .int .i64 R.next] 59)) := by
  have hb' : Below w5.heap.size w5 (w6.alloc (.cells #[v6, .int .i64 R.next] 59)) := hb.alloc hb.size _
  have hBl := m_lt hB
  have hsz : (w6.alloc (.cells #[v6, .int .i64 R.next] 59)).heap.size = w6.heap.size + 1 := by simp
  have hs := hb.size
  refine ⟨_, v6, rfl, rfl, rfl, ho.turn hb' (fun k q => ?_), (hb'.block _ hBl).trans hB, m_alloc _ _ _ rfl, ha.below ((Below.refl _ w6).alloc (Nat.le_refl _) _), fun k q => ?_⟩
  · rcases q with q | q | q
    · subst q; exact ⟨Or.inl (Or.inl rfl), by omega⟩
    · rcases hw k q with z | z
      · obtain ⟨F, _, _, _, k4⟩ := ho
        have := (k4 k (Or.inr z)).1
        exact ⟨Or.inl (Or.inr z), by omega⟩
      · exact ⟨Or.inr z.1, by omega⟩
    · subst q; exact ⟨Or.inr hs, by omega⟩
  · rcases hw k q with z | z
    · exact hne k z
    · omega
theorem midx2 (ho : OwnTR w0 w5 (fun k => k = B ∨ ownBk v0 k) g R.L R.next) (hB : w5.heap[B]? = some (.cells #[v0, .int .i64 next0] 59 (0, 0))) (hne : ∀ k, v0.ownBlock = some k → k ≠ B) (hb : Below w5.heap.size w5 w6) (ha : Arg EItm w6 v6 R.L)
    (hX : w6.heap[w5.heap.size]? = some (.cells #[.slice none 0 0, .int .i64 0] 59 (0, 0)))
    (hw : ∀ k, v6.ownBlock = some k → v0.ownBlock = some k ∨ (w5.heap.size + 1 ≤ k ∧ k < w6.heap.size)) : MidX w0 g B v0 next0 R (.pointer (some ⟨w5.heap.size, 0, none⟩)) (.int .i64 R.node) (.int .i64 R.err) ((w6.setCell ⟨w5.heap.size, 0, none⟩ v6).setCell ⟨w5.heap.size, 1, none⟩ (.int .i64 R.next)) := by
  have hBl := m_lt hB
  have hXl := m_lt hX
  have hs := hb.size
  have hvl : ∀ k, v0.ownBlock = some k → k < w5.heap.size := fun k z => by
    obtain ⟨F, _, _, _, k4⟩ := ho
    exact (k4 k (Or.inr z)).1
  have h0 := ho.bel.size
  have ho6 : OwnTR w0 w6 (fun k => k = B ∨ ownBk v6 k ∨ k = w5.heap.size) g R.L R.next := ho.turn hb (fun k q => by
    rcases q with q | q | q
    · subst q; exact ⟨Or.inl (Or.inl rfl), by omega⟩
    · rcases hw k q with z | z
      · have := hvl k z
        exact ⟨Or.inl (Or.inr z), by omega⟩
      · exact ⟨Or.inr (by omega), by omega⟩
    · subst q; exact ⟨Or.inr (Nat.le_refl _), hXl⟩)
  refine ⟨_, v6, rfl, rfl, rfl, (ho6.set _ _ _ (Or.inr (Or.inr rfl)) h0).set _ _ _ (Or.inr (Or.inr rfl)) h0, m_set_ne (m_set_ne ((hb.block _ hBl).trans hB) _ _ _ (by omega)) _ _ _ (by omega), ?_, ?_, fun k q => ?_⟩
  · have := m_set (m_set hX 0 v6) 1 (.int .i64 R.next)
    exact this
  · refine ha.keep (F := fun k => k = w5.heap.size) (((Keep.refl (fun k => k = w5.heap.size) w6).set w5.heap.size _ _ (Or.inl rfl)).set w5.heap.size _ _ (Or.inl rfl)) (fun k q e => ?_)
    subst e
    rcases hw _ q with z | z
    · have := hvl _ z; omega
    · omega
  · rcases hw k q with z | z
    · exact hne k z
    · omega
end
/-- An entry's cells, to be written. -/
theorem efacts {w : World} {A : Nat} (h : w.heap[A]? = some (.cells #[.string ⟨#[]⟩, .int .i64 0, .bool false, .int .i64 0, .int .i64 0] 40 (0, 0))) : w.cell? ⟨A, 0, none⟩ = some (.string ⟨#[]⟩) ∧ w.cell? ⟨A, 1, none⟩ = some (.int .i64 0) ∧ w.cell? ⟨A, 2, none⟩ = some (.bool false) ∧ w.cell? ⟨A, 3, none⟩ = some (.int .i64 0) ∧ w.cell? ⟨A, 4, none⟩ = some (.int .i64 0) ∧
    w.frozen? ⟨A, 0, none⟩ = false ∧ w.frozen? ⟨A, 1, none⟩ = false ∧ w.frozen? ⟨A, 2, none⟩ = false ∧ w.frozen? ⟨A, 3, none⟩ = false ∧ w.frozen? ⟨A, 4, none⟩ = false :=
  ⟨(m_cells h).1 0, (m_cells h).1 1, (m_cells h).1 2, (m_cells h).1 3, (m_cells h).1 4, (m_cells h).2 0, (m_cells h).2 1, (m_cells h).2 2, (m_cells h).2 3, (m_cells h).2 4⟩
theorem esets {w : World} {A : Nat} {t : TypeId} (h : w.heap[A]? = some (.cells #[.string ⟨#[]⟩, .int .i64 0, .bool false, .int .i64 0, .int .i64 0] t (0, 0))) (x : Ent) :
    (((((w.setCell ⟨A, 0, none⟩ (.string x.name)).setCell ⟨A, 1, none⟩ (.int .i64 x.node)).setCell ⟨A, 2, none⟩ (.bool x.dir)).setCell ⟨A, 3, none⟩ (.int .i64 x.cookie)).setCell ⟨A, 4, none⟩ (.int .i64 x.short)).heap[A]? = some (.cells #[.string x.name, .int .i64 x.node, .bool x.dir, .int .i64 x.cookie, .int .i64 x.short] t (0, 0)) :=
  m_set (m_set (m_set (m_set (m_set h 0 _) 1 _) 2 _) 3 _) 4 _
theorem bsets {w w' : World} {A : Nat} (h : Below w.heap.size w w') (hA : w.heap.size ≤ A) (x : Ent) :
    Below w.heap.size w (((((w'.setCell ⟨A, 0, none⟩ (.string x.name)).setCell ⟨A, 1, none⟩ (.int .i64 x.node)).setCell ⟨A, 2, none⟩ (.bool x.dir)).setCell ⟨A, 3, none⟩ (.int .i64 x.cookie)).setCell ⟨A, 4, none⟩ (.int .i64 x.short)) :=
  ((((h.setCell hA _).setCell hA _).setCell hA _).setCell hA _).setCell hA _
def MidA (w0 : World) (g B : Nat) (v : Value) (L : List Itm) (next : Int) (x : Ent) (E : Int) (s11 s12 : Value) (wx : World) : Prop :=
  ∃ A, s11 = .pointer (some ⟨A, 0, none⟩) ∧ s12 = .int .i64 E ∧ wx.heap[A]? = some (.cells #[.string x.name, .int .i64 x.node, .bool x.dir, .int .i64 x.cookie, .int .i64 x.short] 40 (0, 0)) ∧ Both w0 wx g B v L next
def MidB (w0 : World) (g B A : Nat) (v : Value) (L : List Itm) (next : Int) (x : Ent) (E : Int) (s13 s14 : Value) (wx : World) : Prop :=
  ∃ A2, s13 = .pointer (some ⟨A2, 0, none⟩) ∧ s14 = .int .i64 E ∧ wx.heap[A2]? = some (.cells #[.string x.name, .int .i64 x.node, .bool x.dir, .int .i64 x.cookie, .int .i64 x.short] 40 (0, 0)) ∧ wx.heap[A]? = some (.cells #[.string x.name, .int .i64 x.node, .bool x.dir, .int .i64 x.cookie, .int .i64 x.short] 40 (0, 0)) ∧ Both w0 wx g B v L next
def MidL (w0 : World) (g B A A2 : Nat) (v : Value) (L : List Itm) (next : Int) (x : Ent) (E : Int) (s17 s18 : Value) (wx : World) : Prop :=
  s18 = .int .i64 E ∧ wx.heap[A2]? = some (.cells #[.string x.name, .int .i64 x.node, .bool x.dir, .int .i64 x.cookie, .int .i64 x.short] 40 (0, 0)) ∧ wx.heap[A]? = some (.cells #[.string x.name, .int .i64 x.node, .bool x.dir, .int .i64 x.cookie, .int .i64 x.short] 40 (0, 0)) ∧ Both w0 wx g B v L next
def PlayT (w0 : World) (g B : Nat) (iv : Value) (n : Nat) (wr : World) : Prop :=
  ∃ (i : Nat) (v : Value) (L : List Itm) (next : Int), iv = .int .i64 i ∧ i ≤ n ∧ Both w0 wr g B v L next ∧ TInv L next ∧ next ≤ i + 1
set_option maxRecDepth 100000 in
set_option maxHeartbeats 4000000 in
theorem treeplays_walk (w : World) (v : Value) (l : List Op1) (h : Arg EOp w v l) (ml : l.length ≤ maxLen) (hok : ∀ o ∈ l, (o.name.size ≤ maxLen ∧ o.as_.size ≤ maxLen) ∧ o.kind < 256) :
    Calls Try.prog 8 #[v] w fun e w' => e = .returned (.bool true) ∧ Below w.heap.size w w' := by
  obtain ⟨va, vc, rfl⟩ := h.shape
  have H := Lib.hid h
  have HOK := Lib.hid hok
  clear h hok
  go_enter Try.func8, Try.ntmps8
  go_wp2_with fail
  refine (awake10_any w).mono ?_
  rintro e w1 ⟨rfl, hb1⟩
  have HB1 := Lib.hid hb1
  clear hb1
  go_wp2_with fail
  refine (few10_any w1 _ l 100 (H.out.below HB1.out) ml (fun o ho => (HOK.out o ho).1)).mono ?_
  rintro e w2 ⟨b, rfl, ⟨fw, rfl, hfew⟩, hb2⟩
  have HB2 := Lib.hid (HB1.out.trans (hb2.mono HB1.out.size))
  have HFEW := Lib.hid hfew
  clear hb2 HB1 hfew
  cases fw
  · go_wp2_with fail
    refine (awake10_any _).mono ?_
    rintro e w3 ⟨rfl, hb3⟩
    go_wp2_with fail
    go_ret
    exact ⟨rfl, HB2.out.trans (hb3.mono HB2.out.size)⟩
  obtain ⟨hl100, hsm⟩ := HFEW.out rfl
  have hl100' : l.length ≤ 100 := by omega
  have HOW := Lib.hid (own_new w HB2.out)
  clear hl100 hsm HFEW
  go_wp2_with fail
  refine HOW.out.mono ?_
  rintro e w3 ⟨g, rfl, hown⟩
  have HOWN := Lib.hid hown
  clear hown HOW
  go_wp2_with fail
  refine (rnew_any w3).mono ?_
  rintro e w4 ⟨rfl, hb4⟩
  obtain ⟨B, hB⟩ : ∃ B, w4.heap.size = B := ⟨_, rfl⟩
  have hst : Both w (w4.alloc (.cells #[.slice none 0 0, .int .i64 1] 59)) g B (.slice none 0 0) [] 1 := by
    have hbb : Below w3.heap.size w3 (w4.alloc (.cells #[.slice none 0 0, .int .i64 1] 59)) := hb4.alloc hb4.size _
    refine ⟨HOWN.out.beside.turn hbb (fun k q => ?_), m_alloc _ _ _ hB, Arg.nil _ _, fun k q => (by cases q), ?_⟩
    · rcases q with q | q
      · subst q; exact ⟨Or.inr (by rw [← hB]; exact hb4.size), by rw [← hB]; simp⟩
      · cases q
    · obtain ⟨_, _, _, q⟩ := HOWN.out
      rw [← hB]; exact Nat.le_trans q.size hb4.size
  obtain ⟨W4, hW4⟩ : ∃ W4, w4.alloc (.cells #[.slice none 0 0, .int .i64 1] 59) = W4 := ⟨_, rfl⟩
  rw [hW4] at hst
  have HST := Lib.hid hst
  clear hst HOWN hb4
  go_wp2_with fail
  clear hW4 hB
  go_loopw [5] (fun iv wr => PlayT w g B iv l.length wr) (fun iv _ => l.length - (intOf iv).toNat)
  case atStart => exact ⟨0, _, _, _, rfl, Nat.zero_le _, HST.out, TInv.new, by decide⟩
  case round =>
    obtain ⟨i, v, L, next, rfl, hi, hbo, hti, hnx⟩ := hrel
    have HBO := Lib.hid hbo
    obtain ⟨av, cv, rfl⟩ := hbo.arg.shape
    have hnx1 := hti.nx
    by_cases hlt : i < l.length
    · have i1 : (i : Int) < l.length := by omega
      obtain ⟨o, ho⟩ : ∃ o, l[i]? = some o := ⟨_, List.getElem?_eq_getElem hlt⟩
      have HOO := Lib.hid (HOK.out o (List.mem_of_getElem? ho))
      obtain ⟨gb, off, rfl, -, q0, q1, q2, q3, q4, q5, q6⟩ := op1_cells H.out i o ho
      have HLC := Lib.hid (show ∀ w', Below w.heap.size w w' → (w'.cell? ⟨gb, off + i * 7, none⟩ = some (.int .u8 o.kind) ∧ w'.cell? ⟨gb, off + i * 7 + 1, none⟩ = some (.int .i64 o.dir) ∧ w'.cell? ⟨gb, off + i * 7 + 2, none⟩ = some (.int .i64 o.to_) ∧ w'.cell? ⟨gb, off + i * 7 + 3, none⟩ = some (.string o.name) ∧ w'.cell? ⟨gb, off + i * 7 + 4, none⟩ = some (.string o.as_) ∧ w'.cell? ⟨gb, off + i * 7 + 5, none⟩ = some (.bool o.is_) ∧ w'.cell? ⟨gb, off + i * 7 + 6, none⟩ = some (.int .i64 o.short)) from fun w' k =>
        ⟨cell_later k q0, cell_later k q1, cell_later k q2, cell_later k q3, cell_later k q4, cell_later k q5, cell_later k q6⟩)
      obtain ⟨k0, k1, k2, k3, k4, k5, k6⟩ := HLC.out wr hbo.own.bel
      obtain ⟨b0, b1, b2, b3⟩ := hbo.cells
      have HDO := Lib.hid (ownr_do hbo.own hti (by omega) o HOO.out.2 HOO.out.1.1 HOO.out.1.2)
      clear ho q0 q1 q2 q3 q4 q5 q6 hbo
      go_wp2_with fail
      refine HDO.out.mono ?_
      rintro e w5 ⟨rfl, ho5, hs5⟩
      have hbw5 := ho5.bel
      have hblk5 := (hs5 B (Or.inl rfl)).trans HBO.out.blk
      have harg5 := HBO.out.arg.stays hs5 (fun k q => Or.inr q)
      have HO5 := Lib.hid ho5
      have hlt5 : ∀ k, (Value.slice av L.length cv).ownBlock = some k → k < w5.heap.size := fun k q => by
        obtain ⟨F, _, _, _, k4⟩ := ho5
        exact (k4 k (Or.inr q)).1
      have HR5 := Lib.hid (fun (W : World) (hb : Below w5.heap.size w5 W) => rdo_any W next o (harg5.below hb) (fun k q => Nat.lt_of_lt_of_le (hlt5 k q) hb.size) hti (by omega) HOO.out.2 HOO.out.1.1 HOO.out.1.2)
      have HBK5 := Lib.hid hblk5
      clear k0 k1 k2 k3 k4 k5 k6 b0 b1 b2 b3
      obtain ⟨k0, k1, k2, k3, k4, k5, k6⟩ := HLC.out w5 hbw5
      have b0 : w5.cell? ⟨B, 0, none⟩ = some (.slice av L.length cv) := (m_cells hblk5).1 0
      have b1 : w5.cell? ⟨B, 1, none⟩ = some (.int .i64 next) := (m_cells hblk5).1 1
      have HTI := Lib.hid (hti.do_ o)
      have hnx2 := (doT_next L next o).2
      generalize doT L next o = R at *
      have HLT5 := Lib.hid hlt5
      have HNE5 := Lib.hid HBO.out.ne
      have hB5 := m_lt hblk5
      have hwB := HBO.out.ge
      clear ho5 hs5 hblk5 harg5 HDO hbw5 HBO hlt5
      go_wp2_with fail
      have HS5 := Lib.hid (show ∀ w', Below w5.heap.size w5 w' → (w'.cell? ⟨B, 0, none⟩ = some (.slice av L.length cv) ∧ w'.cell? ⟨B, 1, none⟩ = some (.int .i64 next) ∧ w'.cell? ⟨gb, off + i * 7, none⟩ = some (.int .u8 o.kind) ∧ w'.cell? ⟨gb, off + i * 7 + 1, none⟩ = some (.int .i64 o.dir) ∧ w'.cell? ⟨gb, off + i * 7 + 2, none⟩ = some (.int .i64 o.to_) ∧ w'.cell? ⟨gb, off + i * 7 + 3, none⟩ = some (.string o.name) ∧ w'.cell? ⟨gb, off + i * 7 + 4, none⟩ = some (.string o.as_) ∧ w'.cell? ⟨gb, off + i * 7 + 5, none⟩ = some (.bool o.is_) ∧ w'.cell? ⟨gb, off + i * 7 + 6, none⟩ = some (.int .i64 o.short)) from fun w' k =>
        ⟨cell_later k b0, cell_later k b1, cell_later k k0, cell_later k k1, cell_later k k2, cell_later k k3, cell_later k k4, cell_later k k5, cell_later k k6⟩)
      go_cut [8, 9, 10] from 1000 (fun s8 s9 s10 wx => MidX w g B (.slice av L.length cv) next R s8 s9 s10 wx)
      case first =>
        go_region_held3 (fun w' => w'.cell? ⟨B, 0, none⟩ = some (.slice av L.length cv) ∧ w'.cell? ⟨B, 1, none⟩ = some (.int .i64 next) ∧ w'.cell? ⟨gb, off + i * 7, none⟩ = some (.int .u8 o.kind) ∧ w'.cell? ⟨gb, off + i * 7 + 1, none⟩ = some (.int .i64 o.dir) ∧ w'.cell? ⟨gb, off + i * 7 + 2, none⟩ = some (.int .i64 o.to_) ∧ w'.cell? ⟨gb, off + i * 7 + 3, none⟩ = some (.string o.name) ∧ w'.cell? ⟨gb, off + i * 7 + 4, none⟩ = some (.string o.as_) ∧ w'.cell? ⟨gb, off + i * 7 + 5, none⟩ = some (.bool o.is_) ∧ w'.cell? ⟨gb, off + i * 7 + 6, none⟩ = some (.int .i64 o.short))
          (first | exact HS5.out _ ((HBB6.out.setCell (Nat.le_refl _) _).setCell (Nat.le_refl _) _) | exact HS5.out _ (HBB6.out.alloc HBB6.out.size _) | exact HS5.out _ HBB6.out | exact HS5.out _ (show Below w5.heap.size w5 _ from (by repeat (first | exact Below.refl _ _ | assumption | (refine Below.drew ?_) | (refine below_drewN ?_ _) | (refine Below.alloc ?_ (by simp; done) _) | (refine Below.alloc ?_ (by simp; omega) _)))))
          (first
           | (go_at_call 32
              refine (HR5.out w5.drew (Below.refl _ w5).drew).mono ?_
              rintro e w6 ⟨v6, rfl, ha6, hw6, hb6⟩
              have HBB6 := Lib.hid ((Below.refl _ w5).drew.trans hb6)
              have HA6 := Lib.hid ha6
              have HW6 := Lib.hid hw6
              obtain ⟨a6, c6, rfl⟩ := ha6.shape
              have ONE : True := trivial
              clear ha6 hw6 hb6)
           | (go_at_call 32
              refine (HR5.out (w5.alloc _).drew ((Below.refl _ w5).alloc (Nat.le_refl _) _).drew).mono ?_
              rintro e w6 ⟨v6, rfl, ha6, hw6, hb6⟩
              have TWO : True := trivial
              have hx6 := (hb6.block w5.heap.size (by simp [World.drew])).trans (m_alloc w5 (.cells #[.slice none 0 0, .int .i64 0] 59) w5.heap.size rfl)
              have HX6 := Lib.hid hx6
              have hb6' : Below w5.heap.size w5 w6 := ((Below.refl _ w5).alloc (Nat.le_refl _) _).drew.trans (hb6.mono (by simp [World.drew]))
              have HBB6 := Lib.hid hb6'
              have HA6 := Lib.hid ha6
              have HW6 := Lib.hid hw6
              obtain ⟨r0, r1, r2, r3⟩ := rfacts hx6
              obtain ⟨a6, c6, rfl⟩ := ha6.shape
              clear ha6 hw6 hb6 hb6' hx6))
        all_goals
          go_wp2
          go_meet
          case rel =>
            first
            | exact midx1 HO5.out HBK5.out HNE5.out HBB6.out HA6.out (fun k q => HW6.out k q)
            | exact midx2 HO5.out HBK5.out HNE5.out HBB6.out HA6.out HX6.out (fun k q => (HW6.out k q).imp id (fun z => ⟨by have := z.1; simp [World.drew] at this; omega, z.2⟩))
      case rest =>
        rename World => w7
        obtain ⟨X, v6, rfl, rfl, rfl, ho7, hblk7, hx7, ha7, hne7⟩ := hcut
        obtain ⟨a6, c6, rfl⟩ := ha7.shape
        have x0 : w7.cell? ⟨X, 0, none⟩ = some (.slice a6 R.L.length c6) := (m_cells hx7).1 0
        have x1 : w7.cell? ⟨X, 1, none⟩ = some (.int .i64 R.next) := (m_cells hx7).1 1
        have z0 : w7.cell? ⟨B, 0, none⟩ = some (.slice av L.length cv) := (m_cells hblk7).1 0
        have z1 : w7.cell? ⟨B, 1, none⟩ = some (.int .i64 next) := (m_cells hblk7).1 1
        have z2 : w7.frozen? ⟨B, 0, none⟩ = false := (m_cells hblk7).2 0
        have z3 : w7.frozen? ⟨B, 1, none⟩ = false := (m_cells hblk7).2 1
        have hbo8 : Both w ((w7.setCell ⟨B, 0, none⟩ (.slice a6 R.L.length c6)).setCell ⟨B, 1, none⟩ (.int .i64 R.next)) g B (.slice a6 R.L.length c6) R.L R.next :=
          ⟨((ho7.set _ _ _ (Or.inl rfl) hwB).set _ _ _ (Or.inl rfl) hwB).less (fun k q => q.imp id Or.inl), m_set (m_set hblk7 0 _) 1 _, ha7.keep (F := fun k => k = B) (((Keep.refl (fun k => k = B) w7).set B _ _ (Or.inl rfl)).set B _ _ (Or.inl rfl)) hne7, hne7, hwB⟩
        obtain ⟨w8, hw8⟩ : ∃ w8, (w7.setCell ⟨B, 0, none⟩ (.slice a6 R.L.length c6)).setCell ⟨B, 1, none⟩ (.int .i64 R.next) = w8 := ⟨_, rfl⟩
        rw [hw8] at hbo8
        have HB8 := Lib.hid hbo8
        clear ho7 hblk7 hx7 ha7 hne7 HO5 HR5 HBK5 HS5 HLT5 HNE5 hbo8 b0 b1 k0 k1 k2 k3 k4 k5 k6 HST
        go_wp2_with fail
        clear x0 x1 z0 z1 z2 z3 hw8
        obtain ⟨x, hx8⟩ : ∃ x, (findRes R.L o.dir o.name).1 = x := ⟨_, rfl⟩
        obtain ⟨E, hE8⟩ : ∃ E, (findRes R.L o.dir o.name).2 = E := ⟨_, rfl⟩
        have HSS := Lib.hid (show ∀ w', Below w8.heap.size w8 w' → (w'.cell? ⟨gb, off + i * 7 + 1, none⟩ = some (.int .i64 o.dir) ∧ w'.cell? ⟨gb, off + i * 7 + 3, none⟩ = some (.string o.name)) from fun w' k => by
          obtain ⟨-, q1, -, q3, -⟩ := HLC.out w' (HB8.out.own.bel.trans (k.mono HB8.out.own.bel.size))
          exact ⟨q1, q3⟩)
        have HFN := Lib.hid (fun (W : World) (hb : Below w8.heap.size w8 W) => (ownr_find (HB8.out.below hb).own HTI.out o.dir o.name).mono fun e w' ⟨a, _, c⟩ => (⟨a, c⟩ : _ ∧ _))
        obtain ⟨q1, q3⟩ := HSS.out w8 (Below.refl _ _)
        go_cut [11, 12] from 1000 (fun s11 s12 wx => MidA w g B (.slice a6 R.L.length c6) R.L R.next x E s11 s12 wx)
        case first =>
          go_region_held3 (fun w' => w'.cell? ⟨gb, off + i * 7 + 1, none⟩ = some (.int .i64 o.dir) ∧ w'.cell? ⟨gb, off + i * 7 + 3, none⟩ = some (.string o.name))
            (first | exact HSS.out _ (((((HBB9.out.setCell (Nat.le_refl _) _).setCell (Nat.le_refl _) _).setCell (Nat.le_refl _) _).setCell (Nat.le_refl _) _).setCell (Nat.le_refl _) _) | exact HSS.out _ (HBB9.out.alloc HBB9.out.size _) | exact HSS.out _ HBB9.out | exact HSS.out _ (show Below w8.heap.size w8 _ from (by repeat (first | exact Below.refl _ _ | assumption | (refine Below.drew ?_) | (refine below_drewN ?_ _) | (refine Below.alloc ?_ (by simp; done) _) | (refine Below.alloc ?_ (by simp; omega) _)))))
            (first
             | (go_at_call 18
                refine (HFN.out w8.drew (Below.refl _ w8).drew).mono ?_
                rintro e w9 ⟨rfl, hb9⟩
                rw [hx8, hE8]
                have HBB9 := Lib.hid ((Below.refl _ w8).drew.trans hb9)
                have ONE9 : True := trivial
                clear hb9)
             | (go_at_call 18
                refine (HFN.out (w8.alloc _).drew ((Below.refl _ w8).alloc (Nat.le_refl _) _).drew).mono ?_
                rintro e w9 ⟨rfl, hb9⟩
                rw [hx8, hE8]
                have hx9 := (hb9.block w8.heap.size (by simp [World.drew])).trans (m_alloc w8 (.cells #[.string ⟨#[]⟩, .int .i64 0, .bool false, .int .i64 0, .int .i64 0] 40) w8.heap.size rfl)
                have HX9 := Lib.hid hx9
                have HBB9 := Lib.hid (show Below w8.heap.size w8 w9 from ((Below.refl _ w8).alloc (Nat.le_refl _) _).drew.trans (hb9.mono (by simp [World.drew])))
                obtain ⟨r0, r1, r2, r3, r4, r5, r6, r7, r8, r9⟩ := efacts hx9
                have TWO9 : True := trivial
                clear hb9 hx9))
          all_goals
            go_wp2
            go_meet
            case rel =>
              first
              | (have _hh := ONE9; exact ⟨_, rfl, rfl, m_alloc _ _ _ rfl, HB8.out.below (HBB9.out.alloc HBB9.out.size _)⟩)
              | (have _hh := TWO9; exact ⟨_, rfl, rfl, esets HX9.out x, HB8.out.below (((((HBB9.out.setCell (Nat.le_refl _) _).setCell (Nat.le_refl _) _).setCell (Nat.le_refl _) _).setCell (Nat.le_refl _) _).setCell (Nat.le_refl _) _)⟩)
        case rest =>
          rename World => w10
          obtain ⟨A, rfl, rfl, hA10, hbo10⟩ := hcut
          have HB10 := Lib.hid hbo10
          have HA10 := Lib.hid hA10
          clear hbo10 hA10 HB8 HSS HFN q1 q3
          go_wp2_with fail
          have hsz10 := HB10.out.own.bel.size
          have HSB := Lib.hid (show ∀ w', Below w10.heap.size w10 w' → (w'.cell? ⟨B, 0, none⟩ = some (.slice a6 R.L.length c6) ∧ w'.cell? ⟨B, 1, none⟩ = some (.int .i64 R.next) ∧ w'.cell? ⟨gb, off + i * 7 + 1, none⟩ = some (.int .i64 o.dir) ∧ w'.cell? ⟨gb, off + i * 7 + 3, none⟩ = some (.string o.name)) from fun w' k => by
            obtain ⟨-, q1, -, q3, -⟩ := HLC.out w' (HB10.out.own.bel.trans (k.mono hsz10))
            obtain ⟨y0, y1, -, -⟩ := (HB10.out.below k).cells
            exact ⟨y0, y1, q1, q3⟩)
          have HFN := Lib.hid (fun (W : World) (hb : Below w10.heap.size w10 W) => rfind_any W R.next o.dir o.name (HB10.out.arg.below hb) HTI.out)
          obtain ⟨y0, y1, q1, q3⟩ := HSB.out w10 (Below.refl _ _)
          go_cut [13, 14] from 1000 (fun s13 s14 wx => MidB w g B A (.slice a6 R.L.length c6) R.L R.next x E s13 s14 wx)
          case first =>
            go_region_held3 (fun w' => w'.cell? ⟨B, 0, none⟩ = some (.slice a6 R.L.length c6) ∧ w'.cell? ⟨B, 1, none⟩ = some (.int .i64 R.next) ∧ w'.cell? ⟨gb, off + i * 7 + 1, none⟩ = some (.int .i64 o.dir) ∧ w'.cell? ⟨gb, off + i * 7 + 3, none⟩ = some (.string o.name))
              (first | exact HSB.out _ (((((HBB11.out.setCell (Nat.le_refl _) _).setCell (Nat.le_refl _) _).setCell (Nat.le_refl _) _).setCell (Nat.le_refl _) _).setCell (Nat.le_refl _) _) | exact HSB.out _ (HBB11.out.alloc HBB11.out.size _) | exact HSB.out _ HBB11.out | exact HSB.out _ (show Below w10.heap.size w10 _ from (by repeat (first | exact Below.refl _ _ | assumption | (refine Below.drew ?_) | (refine below_drewN ?_ _) | (refine Below.alloc ?_ (by simp; done) _) | (refine Below.alloc ?_ (by simp; omega) _)))))
              (first
               | (go_at_call 33
                  refine (HFN.out w10.drew (Below.refl _ w10).drew).mono ?_
                  rintro e w11 ⟨rfl, hb11⟩
                  rw [hx8, hE8]
                  have HBB11 := Lib.hid ((Below.refl _ w10).drew.trans hb11)
                  have ONE11 : True := trivial
                  clear hb11)
               | (go_at_call 33
                  refine (HFN.out (w10.alloc _).drew ((Below.refl _ w10).alloc (Nat.le_refl _) _).drew).mono ?_
                  rintro e w11 ⟨rfl, hb11⟩
                  rw [hx8, hE8]
                  have hx11 := (hb11.block w10.heap.size (by simp [World.drew])).trans (m_alloc w10 (.cells #[.string ⟨#[]⟩, .int .i64 0, .bool false, .int .i64 0, .int .i64 0] 40) w10.heap.size rfl)
                  have HX11 := Lib.hid hx11
                  have HBB11 := Lib.hid (show Below w10.heap.size w10 w11 from ((Below.refl _ w10).alloc (Nat.le_refl _) _).drew.trans (hb11.mono (by simp [World.drew])))
                  obtain ⟨r0, r1, r2, r3, r4, r5, r6, r7, r8, r9⟩ := efacts hx11
                  have TWO11 : True := trivial
                  clear hb11 hx11))
            all_goals
              go_wp2
              go_meet
              case rel =>
                first
                | (have _hh := ONE11; have hbb := HBB11.out.alloc HBB11.out.size (.cells #[.string x.name, .int .i64 x.node, .bool x.dir, .int .i64 x.cookie, .int .i64 x.short] 40); exact ⟨_, rfl, rfl, m_alloc _ _ _ rfl, (hbb.block _ (m_lt HA10.out)).trans HA10.out, HB10.out.below hbb⟩)
                | (have _hh := TWO11; have hbb := bsets HBB11.out (Nat.le_refl _) x; exact ⟨_, rfl, rfl, esets HX11.out x, (hbb.block _ (m_lt HA10.out)).trans HA10.out, HB10.out.below hbb⟩)
          case rest =>
            rename World => w12
            obtain ⟨A2, rfl, rfl, hA2, hA1, hbo12⟩ := hcut
            have HB12 := Lib.hid hbo12
            have HA1 := Lib.hid hA1
            have HA2 := Lib.hid hA2
            clear hbo12 hA1 hA2 HB10 HA10 HSB HFN y0 y1 q1 q3
            obtain ⟨-, -, q1, -⟩ := HLC.out w12 HB12.out.own.bel
            go_wp2_with fail
            refine (ownr_list HB12.out.own HTI.out o.to_).mono ?_
            rintro e w13 ⟨v13, l13, rfl, -, -, -, hb13⟩
            have HB13 := Lib.hid (HB12.out.below hb13)
            have HA3 := Lib.hid ((hb13.block _ (m_lt HA1.out)).trans HA1.out)
            have HA4 := Lib.hid ((hb13.block _ (m_lt HA2.out)).trans HA2.out)
            clear hb13 HB12 HA1 HA2 q1
            go_wp2_with fail
            have HSC := Lib.hid (show ∀ w', Below w13.heap.size w13 w' → (w'.cell? ⟨B, 0, none⟩ = some (.slice a6 R.L.length c6) ∧ w'.cell? ⟨B, 1, none⟩ = some (.int .i64 R.next) ∧ w'.cell? ⟨gb, off + i * 7 + 2, none⟩ = some (.int .i64 o.to_)) from fun w' k => by
              obtain ⟨-, -, q1, -⟩ := HLC.out w' (HB13.out.own.bel.trans (k.mono HB13.out.own.bel.size))
              obtain ⟨y0, y1, -, -⟩ := (HB13.out.below k).cells
              exact ⟨y0, y1, q1⟩)
            have HRL := Lib.hid (fun (W : World) (hb : Below w13.heap.size w13 W) => rlist_any W R.next o.to_ (HB13.out.arg.below hb) HTI.out)
            obtain ⟨y0, y1, q1⟩ := HSC.out w13 (Below.refl _ _)
            go_cut [17, 18] from 1000 (fun s17 s18 wx => MidL w g B A A2 (.slice a6 R.L.length c6) R.L R.next x (listErr R.L o.to_) s17 s18 wx)
            case first =>
              go_region_held3 (fun w' => w'.cell? ⟨B, 0, none⟩ = some (.slice a6 R.L.length c6) ∧ w'.cell? ⟨B, 1, none⟩ = some (.int .i64 R.next) ∧ w'.cell? ⟨gb, off + i * 7 + 2, none⟩ = some (.int .i64 o.to_))
                (first | exact HSC.out _ HBB14.out | exact HSC.out _ (show Below w13.heap.size w13 _ from (by repeat (first | exact Below.refl _ _ | assumption | (refine Below.drew ?_) | (refine below_drewN ?_ _) | (refine Below.alloc ?_ (by simp; done) _) | (refine Below.alloc ?_ (by simp; omega) _)))))
                (first
                 | (go_at_call 34
                    refine (HRL.out w13.drew (Below.refl _ w13).drew).mono ?_
                    rintro e w14 ⟨v14, l14, rfl, -, -, -, hb14⟩
                    have HBB14 := Lib.hid ((Below.refl _ w13).drew.trans hb14)
                    clear hb14))
              all_goals
                go_wp2
                go_meet
                case rel =>
                  exact ⟨rfl, (HBB14.out.block _ (m_lt HA4.out)).trans HA4.out, (HBB14.out.block _ (m_lt HA3.out)).trans HA3.out, HB13.out.below HBB14.out⟩
            case rest =>
              rename World => w15
              obtain ⟨rfl, hA6, hA5, hbo15⟩ := hcut
              have HB15 := Lib.hid hbo15
              obtain ⟨f0, f1, f2, f3, f4⟩ : w15.cell? ⟨A, 0, none⟩ = some (.string x.name) ∧ w15.cell? ⟨A, 1, none⟩ = some (.int .i64 x.node) ∧ w15.cell? ⟨A, 2, none⟩ = some (.bool x.dir) ∧ w15.cell? ⟨A, 3, none⟩ = some (.int .i64 x.cookie) ∧ w15.cell? ⟨A, 4, none⟩ = some (.int .i64 x.short) :=
                ⟨(m_cells hA5).1 0, (m_cells hA5).1 1, (m_cells hA5).1 2, (m_cells hA5).1 3, (m_cells hA5).1 4⟩
              obtain ⟨g0, g1, g2, g3, g4⟩ : w15.cell? ⟨A2, 0, none⟩ = some (.string x.name) ∧ w15.cell? ⟨A2, 1, none⟩ = some (.int .i64 x.node) ∧ w15.cell? ⟨A2, 2, none⟩ = some (.bool x.dir) ∧ w15.cell? ⟨A2, 3, none⟩ = some (.int .i64 x.cookie) ∧ w15.cell? ⟨A2, 4, none⟩ = some (.int .i64 x.short) :=
                ⟨(m_cells hA6).1 0, (m_cells hA6).1 1, (m_cells hA6).1 2, (m_cells hA6).1 3, (m_cells hA6).1 4⟩
              have hne : ∀ w : World, (binOp .neq 40 x.val x.val).run Try.prog w = .ok (.bool false) w := fun w => by have := neq_ent x x w; rw [decide_eq_true rfl] at this; exact this
              clear hbo15 hA5 hA6 HA3 HA4 HB13 HSC HRL y0 y1 q1
              go_wp2_with fail
              exact ⟨⟨i + 1, .slice a6 R.L.length c6, R.L, R.next, rfl, hlt, HB15.out, HTI.out, by omega⟩, by simp [intOf]; omega⟩
    · have ei : i = l.length := by omega
      subst ei
      have i2 : ¬ ((l.length : Int) < l.length) := by omega
      obtain ⟨b0, b1, b2, b3⟩ := hbo.cells
      obtain ⟨F, m1, m2, m3, m4⟩ := hbo.own
      have HAL := Lib.hid (alike_any m1 hbo.arg hti)
      have HBL := Lib.hid m3
      clear hbo m1 m2 m3 m4
      go_wp2_with fail
      refine HAL.out.mono ?_
      rintro e w9 ⟨rfl, hb9⟩
      go_wp2_with fail
      go_ret
      exact ⟨rfl, HBL.out.trans (hb9.mono HBL.out.size)⟩
end Go.Proofs.Ytolilbcpfdnkjaa
