/- sector's reference: a device, and its calls. -/
import Derived.Test.YtncbojocglcieaaR1
namespace Go.Proofs.Ytncbojocglcieaa
open Go.RowKit
set_option linter.unusedSimpArgs false
set_option linter.unusedVariables false
structure RefD where
  safe : List ByteArray
  seen : List ByteArray
  at_ : List Int
  data : List ByteArray
  left : Int
structure RAt (w : World) (g : Nat) (sv ev av dv : Value) (r : RefD) : Prop where
  blk : w.heap[g]? = some (.cells #[sv, ev, av, dv, .int .i64 r.left] 51 (0, 0))
  safe : Row EStr w 0 sv r.safe
  seen : Row EStr w 0 ev r.seen
  ats : Row EInt w 0 av r.at_
  data : Row EStr w 0 dv r.data
  ngs : sv.ownBlock ≠ some g
  nge : ev.ownBlock ≠ some g
  nga : av.ownBlock ≠ some g
  ngd : dv.ownBlock ≠ some g
  nse : ∀ k, sv.ownBlock = some k → ev.ownBlock ≠ some k
  nsa : ∀ k, sv.ownBlock = some k → av.ownBlock ≠ some k
  nsd : ∀ k, sv.ownBlock = some k → dv.ownBlock ≠ some k
  nea : ∀ k, ev.ownBlock = some k → av.ownBlock ≠ some k
  ned : ∀ k, ev.ownBlock = some k → dv.ownBlock ≠ some k
  nad : ∀ k, av.ownBlock = some k → dv.ownBlock ≠ some k
def rfoot (g : Nat) (sv ev av dv : Value) (k : Nat) : Prop := k = g ∨ sv.ownBlock = some k ∨ ev.ownBlock = some k ∨ av.ownBlock = some k ∨ dv.ownBlock = some k
def RDev (w : World) (F : Nat → Prop) (g : Nat) (r : RefD) : Prop := ∃ sv ev av dv, F = rfoot g sv ev av dv ∧ RAt w g sv ev av dv r
def RStepped (w : World) (F : Nat → Prop) (g : Nat) (r : RefD) (w' : World) : Prop := ∃ F', RDev w' F' g r ∧ (∀ k, F' k → F k ∨ w.heap.size ≤ k) ∧ Keep F w w'
theorem RAt.keep {w w' : World} {g : Nat} {sv ev av dv : Value} {r : RefD} {G : Nat → Prop} (h : RAt w g sv ev av dv r) (k : Keep G w w') (hd : ∀ i, rfoot g sv ev av dv i → ¬ G i) : RAt w' g sv ev av dv r :=
  ⟨m_keep h.blk k (hd _ (Or.inl rfl)), h.safe.keep k (fun i hi => hd _ (Or.inr (Or.inl hi))), h.seen.keep k (fun i hi => hd _ (Or.inr (Or.inr (Or.inl hi)))), h.ats.keep k (fun i hi => hd _ (Or.inr (Or.inr (Or.inr (Or.inl hi))))), h.data.keep k (fun i hi => hd _ (Or.inr (Or.inr (Or.inr (Or.inr hi))))), h.ngs, h.nge, h.nga, h.ngd, h.nse, h.nsa, h.nsd, h.nea, h.ned, h.nad⟩
theorem RAt.lt {w : World} {g : Nat} {sv ev av dv : Value} {r : RefD} (h : RAt w g sv ev av dv r) {k : Nat} (hk : rfoot g sv ev av dv k) : k < w.heap.size := by
  rcases hk with rfl | hk | hk | hk | hk
  · exact m_lt h.blk
  · exact h.safe.lt hk
  · exact h.seen.lt hk
  · exact h.ats.lt hk
  · exact h.data.lt hk
theorem RAt.below {w w' : World} {g : Nat} {sv ev av dv : Value} {r : RefD} (h : RAt w g sv ev av dv r) (hb : Below w.heap.size w w') : RAt w' g sv ev av dv r := h.keep (Keep.below hb) (fun i hi q => absurd (h.lt hi) (Nat.not_lt.2 q))
theorem RDev.below {w w' : World} {F : Nat → Prop} {g : Nat} {r : RefD} (h : RDev w F g r) (hb : Below w.heap.size w w') : RDev w' F g r := by
  obtain ⟨sv, ev, av, dv, e, h⟩ := h
  exact ⟨sv, ev, av, dv, e, h.below hb⟩
theorem RDev.keep {w w' : World} {F : Nat → Prop} {g : Nat} {r : RefD} (h : RDev w F g r) (hb : ∀ k, F k → w'.heap[k]? = w.heap[k]?) : RDev w' F g r := by
  obtain ⟨sv, ev, av, dv, rfl, h⟩ := h
  refine ⟨sv, ev, av, dv, rfl, ⟨(hb _ (Or.inl rfl)).trans h.blk, h.safe.kept (fun k q => hb _ (Or.inr (Or.inl q))), h.seen.kept (fun k q => hb _ (Or.inr (Or.inr (Or.inl q)))), h.ats.kept (fun k q => hb _ (Or.inr (Or.inr (Or.inr (Or.inl q))))), h.data.kept (fun k q => hb _ (Or.inr (Or.inr (Or.inr (Or.inr q))))), h.ngs, h.nge, h.nga, h.ngd, h.nse, h.nsa, h.nsd, h.nea, h.ned, h.nad⟩⟩
theorem RStepped.still {w w' : World} {F : Nat → Prop} {g : Nat} {r : RefD} (h : RDev w F g r) (hb : Below w.heap.size w w') : RStepped w F g r w' := ⟨F, h.below hb, fun _ q => Or.inl q, keepBelow hb⟩
/-- What is wrong with a call. -/
def RefD.bad (r : RefD) (o : OpD) : Int := if o.kind.toNat % 5 < 3 ∧ r.left = 0 then 13 else if o.kind.toNat % 5 < 2 ∧ (o.i < 0 ∨ (r.seen.length : Int) ≤ o.i) then 1 else if o.kind.toNat % 5 = 0 ∧ o.b.size ≠ 64 then 1 else 0
set_option maxRecDepth 100000 in
set_option maxHeartbeats 4000000 in
theorem do_bad {w : World} {g : Nat} {sv ev av dv : Value} {r : RefD} (o : OpD) (h : RAt w g sv ev av dv r) (hb : r.bad o ≠ 0) (hbs : o.b.size ≤ maxLen) :
    Calls Try.prog 29 #[.pointer (some ⟨g, 0, none⟩), .agg o.cells.toArray] w fun e w' => e = .returned (.tuple #[.string ⟨#[]⟩, .int .i64 (r.bad o)]) ∧ Below w.heap.size w w' := by
  obtain ⟨E, hE⟩ : ∃ E, r.bad o = E := ⟨_, rfl⟩
  rw [hE] at hb ⊢
  unfold RefD.bad at hE
  unfold maxLen at hbs
  unfold OpD.cells OpD.kv
  obtain ⟨q, hq⟩ : ∃ q, o.kind.toNat % 5 = q := ⟨_, rfl⟩
  have hk5 : (o.kind.toNat : Int) % 5 = q := by omega
  obtain ⟨sa, sc, rfl⟩ := h.safe.shape
  obtain ⟨ea, ec, rfl⟩ := h.seen.shape
  obtain ⟨aa, ac, rfl⟩ := h.ats.shape
  obtain ⟨da, dc, rfl⟩ := h.data.shape
  obtain ⟨c, f⟩ := m_cells h.blk
  have c1 : w.cell? ⟨g, 1, none⟩ = some (.slice ea r.seen.length ec) := c 1
  have c4 : w.cell? ⟨g, 4, none⟩ = some (.int .i64 r.left) := c 4
  have hgl := m_lt h.blk
  have hgn : ¬ (g = w.heap.size) := by omega
  have hgn2 : ¬ (w.heap.size = g) := by omega
  rw [hq] at hE
  have hq5 : q < 5 := by omega
  have H := Lib.hid h
  clear h c f hq
  by_cases e1 : q < 3 ∧ r.left = 0
  · rw [if_pos e1] at hE
    subst hE
    obtain ⟨e1, e2⟩ := e1
    have e3 : (q : Int) < 3 := by omega
    have e4 : (r.left == 0) = true := by rw [e2]; rfl
    go_enter Try.func29, Try.ntmps29
    go_wp2_with fail
    go_ret2
    exact ⟨rfl, (Below.refl _ w).alloc (Nat.le_refl _) _⟩
  · rw [if_neg e1] at hE
    by_cases e2 : q < 2 ∧ (o.i < 0 ∨ (r.seen.length : Int) ≤ o.i)
    · rw [if_pos e2] at hE
      subst hE
      obtain ⟨e2, e3⟩ := e2
      have z1 : (q : Int) < 3 := by omega
      have z2 : (q : Int) < 2 := by omega
      have z3 : (r.left == 0) = false := by rw [beq_eq_false_iff_ne]; omega
      have hcs : o.i < 0 ∨ (¬ (o.i < 0) ∧ (r.seen.length : Int) ≤ o.i) := by omega
      clear e1 e3
      rcases hcs with q1 | ⟨q1, q2⟩
      · skip
        go_enter Try.func29, Try.ntmps29
        go_wp2_with fail
        go_quiet (fail)
        generalize hW1 : World.drewN _ nq = w1 at *
        have hb1 : Below w.heap.size w w1 := by rw [← hW1]; exact ((Below.refl _ w).alloc (Nat.le_refl _) _).trans ((qt_below (Qt.drewN _ nq)).mono (by simp))
        have hob : w1.heap[w.heap.size]? = some (.cells #[.int .u8 o.kind.toNat, .int .i64 o.i, .int .i64 o.n, .string o.b, .slice o.ka o.kn o.kc] 46 (0, 0)) := by rw [← hW1]; exact m_alloc w _ _ rfl
        have HB1 := Lib.hid hb1
        have HOB := Lib.hid hob
        clear hW1 hb1 hob
        go_wp2_with fail
        go_ret2
        exact ⟨rfl, HB1.out⟩
      · have q3 : decide (o.i < 0) = false := decide_eq_false q1
        go_enter Try.func29, Try.ntmps29
        go_wp2_with fail
        go_quiet (fail)
        generalize hW1 : World.drewN _ nq = w1 at *
        have hb1 : Below w.heap.size w w1 := by rw [← hW1]; exact ((Below.refl _ w).alloc (Nat.le_refl _) _).trans ((qt_below (Qt.drewN _ nq)).mono (by simp))
        have hob : w1.heap[w.heap.size]? = some (.cells #[.int .u8 o.kind.toNat, .int .i64 o.i, .int .i64 o.n, .string o.b, .slice o.ka o.kn o.kc] 46 (0, 0)) := by rw [← hW1]; exact m_alloc w _ _ rfl
        have HB1 := Lib.hid hb1
        have HOB := Lib.hid hob
        clear hW1 hb1 hob
        go_wp2_with fail
        go_ret2
        exact ⟨rfl, HB1.out⟩
    · rw [if_neg e2] at hE
      by_cases e3 : q = 0 ∧ o.b.size ≠ 64
      · rw [if_pos e3] at hE
        subst hE
        obtain ⟨rfl, e4⟩ := e3
        have z3 : (r.left == 0) = false := by rw [beq_eq_false_iff_ne]; omega
        have q1 : 0 ≤ o.i := by omega
        have q2 : o.i < r.seen.length := by omega
        have q3 : decide (o.i < 0) = false := decide_eq_false (by omega)
        have q4 : ((o.b.size : Int) != 64) = true := by simp; omega
        clear e1 e2
        go_enter Try.func29, Try.ntmps29
        go_wp2_with fail
        go_quiet (fail)
        generalize hW1 : World.drewN _ nq = w1 at *
        have hb1 : Below w.heap.size w w1 := by rw [← hW1]; exact ((Below.refl _ w).alloc (Nat.le_refl _) _).trans ((qt_below (Qt.drewN _ nq)).mono (by simp))
        have hob : w1.heap[w.heap.size]? = some (.cells #[.int .u8 o.kind.toNat, .int .i64 o.i, .int .i64 o.n, .string o.b, .slice o.ka o.kn o.kc] 46 (0, 0)) := by rw [← hW1]; exact m_alloc w _ _ rfl
        have HB1 := Lib.hid hb1
        have HOB := Lib.hid hob
        clear hW1 hb1 hob
        have co3 : w1.cell? ⟨w.heap.size, 3, none⟩ = some (.string o.b) := (m_cells HOB.out).1 3
        go_wp2_with fail
        go_ret2
        exact ⟨rfl, HB1.out⟩
      · rw [if_neg e3] at hE
        exact absurd hE.symm hb
end Go.Proofs.Ytncbojocglcieaa
