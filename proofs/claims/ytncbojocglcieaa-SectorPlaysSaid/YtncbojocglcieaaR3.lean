/- sector's reference: Get, Cut. -/
import Derived.Test.YtncbojocglcieaaR2
namespace Go.Proofs.Ytncbojocglcieaa
open Go.RowKit
set_option linter.unusedSimpArgs false
set_option linter.unusedVariables false
def RefD.cut (r : RefD) (n : Int) : RefD := if r.left = 0 then r else { r with left := if n < 0 then -1 else n }
set_option maxRecDepth 100000 in
set_option maxHeartbeats 4000000 in
theorem do_get {w : World} {g : Nat} {sv ev av dv : Value} {r : RefD} (o : OpD) (h : RAt w g sv ev av dv r) (hk : o.kind.toNat % 5 = 1) (hl : r.left ≠ 0) (hi : 0 ≤ o.i ∧ o.i < r.seen.length) (hbs : o.b.size ≤ maxLen) :
    Calls Try.prog 29 #[.pointer (some ⟨g, 0, none⟩), .agg o.cells.toArray] w fun e w' => e = .returned (.tuple #[.string (r.seen.getD o.i.toNat ⟨#[]⟩), .int .i64 0]) ∧ Below w.heap.size w w' := by
  unfold maxLen at hbs
  unfold OpD.cells OpD.kv
  obtain ⟨q, hq⟩ : ∃ q, o.kind.toNat % 5 = q := ⟨_, rfl⟩
  have hk5 : (o.kind.toNat : Int) % 5 = q := by omega
  obtain ⟨sa, sc, rfl⟩ := h.safe.shape
  obtain ⟨ea, ec, rfl⟩ := h.seen.shape
  obtain ⟨aa, ac, rfl⟩ := h.ats.shape
  obtain ⟨da, dc, rfl⟩ := h.data.shape
  obtain ⟨c, f⟩ := m_cells h.blk
  have c1 : w.cell? ⟨g, 1, none⟩ = some (.slice ea r.seen.length ec) := c 1
  have c4 : w.cell? ⟨g, 4, none⟩ = some (.int .i64 r.left) := c 4
  have hgl := m_lt h.blk
  have hgn : ¬ (g = w.heap.size) := by omega
  have hgn2 : ¬ (w.heap.size = g) := by omega
  have hq1 : q = 1 := by omega
  subst hq1
  obtain ⟨i, hi2⟩ : ∃ i : Nat, o.i = i := ⟨o.i.toNat, by omega⟩
  rw [hi2] at hi ⊢
  obtain ⟨x, hx⟩ : ∃ x, r.seen[i]? = some x := ⟨_, List.getElem?_eq_getElem (by omega)⟩
  have hxd : r.seen.getD ((i : Int).toNat) ⟨#[]⟩ = x := by simp [List.getD, hx]
  rw [hxd]
  obtain ⟨ge, cpe, e', _, _, _, hst⟩ := h.seen.strs (by intro q; rw [q] at hx; simp at hx)
  simp only [Value.slice.injEq] at e'
  obtain ⟨rfl, -, rfl⟩ := e'
  have cx : w.cell? ⟨ge, i, none⟩ = some (.string x) := by have := hst i x hx; rwa [Nat.zero_add] at this
  have hgel : ge < w.heap.size := h.seen.lt rfl
  have z3 : (r.left == 0) = false := by rw [beq_eq_false_iff_ne]; exact hl
  have q1 : (0 : Int) ≤ i := hi.1
  have q2 : (i : Int) < r.seen.length := hi.2
  have q3 : decide ((i : Int) < 0) = false := decide_eq_false (by omega)
  have H := Lib.hid h
  have HST := Lib.hid hst
  clear h c f hq hk hxd hx hst hl
  go_enter Try.func29, Try.ntmps29
  go_wp2_with fail
  go_quiet (fail)
  generalize hW1 : World.drewN _ nq = w1 at *
  have hb1 : Below w.heap.size w w1 := by rw [← hW1]; exact ((Below.refl _ w).alloc (Nat.le_refl _) _).trans ((qt_below (Qt.drewN _ nq)).mono (by simp))
  have hob : w1.heap[w.heap.size]? = some (.cells #[.int .u8 o.kind.toNat, .int .i64 i, .int .i64 o.n, .string o.b, .slice o.ka o.kn o.kc] 46 (0, 0)) := by rw [← hW1]; exact m_alloc w _ _ rfl
  have HB1 := Lib.hid hb1
  have HOB := Lib.hid hob
  clear hW1 hb1 hob
  have co1 : w1.cell? ⟨w.heap.size, 1, none⟩ = some (.int .i64 i) := (m_cells HOB.out).1 1
  have c1' : w1.cell? ⟨g, 1, none⟩ = some (.slice (some ⟨ge, 0, none⟩) r.seen.length ec) := cell_later HB1.out c1
  have cx' : w1.cell? ⟨ge, i, none⟩ = some (.string x) := cell_later HB1.out cx
  go_wp2_with fail
  go_quiet (fail)
  have HB2 := Lib.hid (HB1.out.trans ((qt_below (Qt.drewN w1 nq)).mono HB1.out.size))
  go_wp2_with fail
  go_ret2
  exact ⟨rfl, HB2.out⟩
set_option maxRecDepth 100000 in
set_option maxHeartbeats 4000000 in
theorem do_cut {w : World} {g : Nat} {sv ev av dv : Value} {r : RefD} (o : OpD) (h : RAt w g sv ev av dv r) (hk : o.kind.toNat % 5 = 3) (hbs : o.b.size ≤ maxLen) :
    Calls Try.prog 29 #[.pointer (some ⟨g, 0, none⟩), .agg o.cells.toArray] w fun e w' => e = .returned (.tuple #[.string ⟨#[]⟩, .int .i64 0]) ∧ RStepped w (rfoot g sv ev av dv) g (r.cut o.n) w' := by
  unfold maxLen at hbs
  unfold OpD.cells OpD.kv
  obtain ⟨q, hq⟩ : ∃ q, o.kind.toNat % 5 = q := ⟨_, rfl⟩
  have hk5 : (o.kind.toNat : Int) % 5 = q := by omega
  obtain ⟨sa, sc, rfl⟩ := h.safe.shape
  obtain ⟨ea, ec, rfl⟩ := h.seen.shape
  obtain ⟨aa, ac, rfl⟩ := h.ats.shape
  obtain ⟨da, dc, rfl⟩ := h.data.shape
  obtain ⟨c, f⟩ := m_cells h.blk
  have c1 : w.cell? ⟨g, 1, none⟩ = some (.slice ea r.seen.length ec) := c 1
  have c4 : w.cell? ⟨g, 4, none⟩ = some (.int .i64 r.left) := c 4
  have hgl := m_lt h.blk
  have hgn : ¬ (g = w.heap.size) := by omega
  have hgn2 : ¬ (w.heap.size = g) := by omega
  have hq1 : q = 3 := by omega
  subst hq1
  have f4 := f 4
  have hst : RDev w (rfoot g (.slice sa r.safe.length sc) (.slice ea r.seen.length ec) (.slice aa r.at_.length ac) (.slice da r.data.length dc)) g r := ⟨_, _, _, _, rfl, h⟩
  have HST := Lib.hid hst
  have H := Lib.hid h
  clear h c hq hk hst
  go_enter Try.func29, Try.ntmps29
  go_wp2_with fail
  go_quiet (fail)
  generalize hW1 : World.drewN _ nq = w1 at *
  have hb1 : Below w.heap.size w w1 := by rw [← hW1]; exact ((Below.refl _ w).alloc (Nat.le_refl _) _).trans ((qt_below (Qt.drewN _ nq)).mono (by simp))
  have hob : w1.heap[w.heap.size]? = some (.cells #[.int .u8 o.kind.toNat, .int .i64 o.i, .int .i64 o.n, .string o.b, .slice o.ka o.kn o.kc] 46 (0, 0)) := by rw [← hW1]; exact m_alloc w _ _ rfl
  have HB1 := Lib.hid hb1
  have HOB := Lib.hid hob
  clear hW1 hb1 hob
  have co2 : w1.cell? ⟨w.heap.size, 2, none⟩ = some (.int .i64 o.n) := (m_cells HOB.out).1 2
  have hblk1 := (HB1.out.block _ hgl).trans H.out.blk
  obtain ⟨c', f'⟩ := m_cells hblk1
  have c4' : w1.cell? ⟨g, 4, none⟩ = some (.int .i64 r.left) := c' 4
  have f4' := f' 4
  have HBK := Lib.hid hblk1
  clear c' f' hblk1 c1 c4 f4 f
  by_cases hl : r.left = 0
  · have e : r.cut o.n = r := by unfold RefD.cut; rw [if_pos hl]
    have HE := Lib.hid e
    have z3 : (r.left != 0) = false := by rw [hl]; rfl
    clear e
    go_wp2_with fail
    go_ret2
    exact ⟨rfl, by rw [HE.out]; exact RStepped.still HST.out HB1.out⟩
  · have z3 : (r.left != 0) = true := by simpa using hl
    have hfin : ∀ v : Int, (r.cut o.n) = { r with left := v } → ∀ w2 : World, Keep (fun k => k = g) w1 w2 → w2.heap[g]? = some (.cells #[.slice sa r.safe.length sc, .slice ea r.seen.length ec, .slice aa r.at_.length ac, .slice da r.data.length dc, .int .i64 v] 51 (0, 0)) → RStepped w (rfoot g (.slice sa r.safe.length sc) (.slice ea r.seen.length ec) (.slice aa r.at_.length ac) (.slice da r.data.length dc)) g (r.cut o.n) w2 := by
      intro v hv w2 hk hb
      rw [hv]
      have h1 := H.out.below HB1.out
      refine ⟨_, ⟨_, _, _, _, rfl, ⟨hb, h1.safe.keep hk (fun i hi q => h1.ngs (by rw [hi, q])), h1.seen.keep hk (fun i hi q => h1.nge (by rw [hi, q])), h1.ats.keep hk (fun i hi q => h1.nga (by rw [hi, q])), h1.data.keep hk (fun i hi q => h1.ngd (by rw [hi, q])), h1.ngs, h1.nge, h1.nga, h1.ngd, h1.nse, h1.nsa, h1.nsd, h1.nea, h1.ned, h1.nad⟩⟩, fun k q => Or.inl q, ?_⟩
      exact (keepBelow HB1.out).trans (hk.mono (fun i q => Or.inl (Or.inl q)))
    by_cases hn : o.n < 0
    · have e : r.cut o.n = { r with left := -1 } := by unfold RefD.cut; rw [if_neg hl, if_pos hn]
      have HE := Lib.hid e
      have HFIN := Lib.hid hfin
      clear e hfin
      go_wp2_with fail
      go_ret2
      refine ⟨rfl, HFIN.out _ HE.out _ (((Keep.refl (fun k => k = g) w1).set g 4 _ (Or.inl rfl)).set g 4 _ (Or.inl rfl)) ?_⟩
      have := m_set (m_set HBK.out 4 (.int .i64 o.n)) 4 (.int .i64 (-1))
      simpa using this
    · have n2 : decide (o.n < 0) = false := decide_eq_false hn
      have e : r.cut o.n = { r with left := o.n } := by unfold RefD.cut; rw [if_neg hl, if_neg hn]
      have HE := Lib.hid e
      have HFIN := Lib.hid hfin
      clear e hfin
      go_wp2_with fail
      go_ret2
      refine ⟨rfl, HFIN.out _ HE.out _ ((Keep.refl (fun k => k = g) w1).set g 4 _ (Or.inl rfl)) ?_⟩
      have := m_set HBK.out 4 (.int .i64 o.n)
      simpa using this
end Go.Proofs.Ytncbojocglcieaa
