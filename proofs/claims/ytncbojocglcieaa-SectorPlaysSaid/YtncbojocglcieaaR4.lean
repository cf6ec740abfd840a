/- sector's reference: Flush. -/
import Derived.Test.YtncbojocglcieaaR3
import Derived.Deep.RegionLaw
namespace Go.Proofs.Ytncbojocglcieaa
open Go.RowKit
set_option linter.unusedSimpArgs false
set_option linter.unusedVariables false
theorem RStepped.mk' {w wf : World} {F : Nat → Prop} {g : Nat} {sv ev av dv : Value} {r : RefD} (h : RAt wf g sv ev av dv r) (hk : Keep F w wf) (hg : F g ∨ w.heap.size ≤ g) (h1 : ∀ k, sv.ownBlock = some k → F k ∨ w.heap.size ≤ k) (h2 : ∀ k, ev.ownBlock = some k → F k ∨ w.heap.size ≤ k) (h3 : ∀ k, av.ownBlock = some k → F k ∨ w.heap.size ≤ k) (h4 : ∀ k, dv.ownBlock = some k → F k ∨ w.heap.size ≤ k) : RStepped w F g r wf :=
  ⟨_, ⟨_, _, _, _, rfl, h⟩, fun k q => by
    rcases q with rfl | q | q | q | q
    · exact hg
    · exact h1 k q
    · exact h2 k q
    · exact h3 k q
    · exact h4 k q, hk⟩
theorem own_nil (n c : Nat) (k : Nat) : (Value.slice none n c).ownBlock ≠ some k := by simp [Value.ownBlock]
def RefD.flush (r : RefD) : RefD := { r with safe := r.seen, at_ := [], data := [] }
set_option maxRecDepth 100000 in
set_option maxHeartbeats 4000000 in
theorem do_flush {w : World} {g : Nat} {sv ev av dv : Value} {r : RefD} (o : OpD) (h : RAt w g sv ev av dv r) (hk : o.kind.toNat % 5 = 2) (hl : r.left ≠ 0) (hsl : r.seen.length ≤ 4096) (hbs : o.b.size ≤ maxLen) :
    Calls Try.prog 29 #[.pointer (some ⟨g, 0, none⟩), .agg o.cells.toArray] w fun e w' => e = .returned (.tuple #[.string ⟨#[]⟩, .int .i64 0]) ∧ RStepped w (rfoot g sv ev av dv) g r.flush w' := by
  unfold maxLen at hbs
  unfold OpD.cells OpD.kv
  obtain ⟨q, hq⟩ : ∃ q, o.kind.toNat % 5 = q := ⟨_, rfl⟩
  have hk5 : (o.kind.toNat : Int) % 5 = q := by omega
  obtain ⟨sa, sc, rfl⟩ := h.safe.shape
  obtain ⟨ea, ec, rfl⟩ := h.seen.shape
  obtain ⟨aa, ac, rfl⟩ := h.ats.shape
  obtain ⟨da, dc, rfl⟩ := h.data.shape
  obtain ⟨c, f⟩ := m_cells h.blk
  have c1 : w.cell? ⟨g, 1, none⟩ = some (.slice ea r.seen.length ec) := c 1
  have c4 : w.cell? ⟨g, 4, none⟩ = some (.int .i64 r.left) := c 4
  have hgl := m_lt h.blk
  have hgn : ¬ (g = w.heap.size) := by omega
  have hgn2 : ¬ (w.heap.size = g) := by omega
  have hq1 : q = 2 := by omega
  subst hq1
  have z3 : (r.left == 0) = false := by rw [beq_eq_false_iff_ne]; exact hl
  have H := Lib.hid h
  clear h c f hq hk hl
  go_enter Try.func29, Try.ntmps29
  go_wp2_with fail
  go_quiet (fail)
  generalize hW1 : World.drewN _ nq = w1 at *
  have hb1 : Below w.heap.size w w1 := by rw [← hW1]; exact ((Below.refl _ w).alloc (Nat.le_refl _) _).trans ((qt_below (Qt.drewN _ nq)).mono (by simp))
  have hob : w1.heap[w.heap.size]? = some (.cells #[.int .u8 o.kind.toNat, .int .i64 o.i, .int .i64 o.n, .string o.b, .slice o.ka o.kn o.kc] 46 (0, 0)) := by rw [← hW1]; exact m_alloc w _ _ rfl
  have HB1 := Lib.hid hb1
  have HOB := Lib.hid hob
  clear hW1 hb1 hob
  have h1 := H.out.below HB1.out
  obtain ⟨c', f'⟩ := m_cells h1.blk
  have c1' : w1.cell? ⟨g, 1, none⟩ = some (.slice ea r.seen.length ec) := c' 1
  have c0' := c' 0
  have c2' := c' 2
  have c3' := c' 3
  have f0' := f' 0
  have f2' := f' 2
  have f3' := f' 3
  have H1 := Lib.hid h1
  clear c' f' h1 c1 c4
  have hg1 := HB1.out.size
  have hgl1 : g < w1.heap.size := by omega
  have hgm : ¬ (g = w1.heap.size) := by omega
  have hgm2 : ¬ (w1.heap.size = g) := by omega
  go_wp2_with (first
    | (refine app_row EStr.laid rfl _ _ 49 49 Try.underlying49 Try.underlying49 rfl (.slice (some ⟨w1.heap.size, 0, none⟩) 0 0) [] rfl (Row.new (E := EStr) w1 w1.heap.size #[] [] (Nat.le_refl _) rfl (by decide)) _ r.seen rfl ((H1.out.seen.alloc _).arg) ?e2 ?e3 (by simp) ?_
       case e2 => (show (0 + r.seen.length) * 16 ≤ _; omega)
       case e3 => (show 0 + r.seen.length ≤ maxLen; unfold maxLen; omega)
       intro v3 w3 hr3 hv3 k3
       rw [List.nil_append] at hr3
       obtain ⟨v3a, v3c, rfl⟩ := hr3.shape
       have hkk : Keep (fun _ => False) w1 w3 := ((Keep.refl _ w1).alloc _).trans' k3 (fun i q => Or.inr (by simp [Value.ownBlock] at q; omega))
       have H3 := Lib.hid (H1.out.keep hkk (fun _ _ q => q))
       obtain ⟨c'', f''⟩ := m_cells H3.out.blk
       have c0'' := c'' 0
       have c2'' := c'' 2
       have c3'' := c'' 3
       have f0'' := f'' 0
       have f2'' := f'' 2
       have f3'' := f'' 3
       clear c'' f''))
  go_ret2
  have hgf : Keep (fun k => k = g) w3 (((w3.setCell ⟨g, 0, none⟩ (.slice v3a r.seen.length v3c)).setCell ⟨g, 2, none⟩ (.slice none 0 0)).setCell ⟨g, 3, none⟩ (.slice none 0 0)) := (((Keep.refl (fun k => k = g) w3).set g 0 _ (Or.inl rfl)).set g 2 _ (Or.inl rfl)).set g 3 _ (Or.inl rfl)
  have hblk : (((w3.setCell ⟨g, 0, none⟩ (.slice v3a r.seen.length v3c)).setCell ⟨g, 2, none⟩ (.slice none 0 0)).setCell ⟨g, 3, none⟩ (.slice none 0 0)).heap[g]? = some (.cells #[.slice v3a r.seen.length v3c, .slice ea r.seen.length ec, .slice none 0 0, .slice none 0 0, .int .i64 r.left] 51 (0, 0)) := by
    have := m_set (m_set (m_set H3.out.blk 0 (.slice v3a r.seen.length v3c)) 2 (.slice none 0 0)) 3 (.slice none 0 0)
    simpa using this
  have hsg : ∀ k, (Value.slice v3a r.seen.length v3c).ownBlock = some k → w1.heap.size ≤ k := fun k q => by
    have := hr3.ge (k := k) q
    exact this
  have hr3' : Row EStr w3 0 (.slice v3a r.seen.length v3c) r.seen := by simpa using hr3.mono (Nat.zero_le _)
  have hel : ∀ k, (Value.slice ea r.seen.length ec).ownBlock = some k → k < w1.heap.size := fun k q => H1.out.seen.lt q
  refine ⟨rfl, RStepped.mk' (sv := .slice v3a r.seen.length v3c) (ev := .slice ea r.seen.length ec) (av := .slice none 0 0) (dv := .slice none 0 0) ⟨hblk, hr3'.keep hgf (fun i hi q => by have := hsg i hi; omega), H3.out.seen.keep hgf (fun i hi q => H3.out.nge (by rw [hi, q])), Row.nil _ _ _, Row.nil _ _ _, fun e => by have := hsg g e; omega, H1.out.nge, own_nil _ _ _, own_nil _ _ _, fun k q e => by have := hsg k q; have := hel k e; omega, fun k q => own_nil _ _ _, fun k q => own_nil _ _ _, fun k q => own_nil _ _ _, fun k q => own_nil _ _ _, fun k q => own_nil _ _ _⟩ ?_ (Or.inl (Or.inl rfl)) (fun k q => Or.inr (Nat.le_trans HB1.out.size (hsg k q))) (fun k q => Or.inl (Or.inr (Or.inr (Or.inl q)))) (fun k q => absurd q (own_nil _ _ _)) (fun k q => absurd q (own_nil _ _ _))⟩
  exact ((keepBelow HB1.out).trans (hkk.mono (fun i q => q.elim))).trans (hgf.mono (fun i q => Or.inl (Or.inl q)))
end Go.Proofs.Ytncbojocglcieaa
