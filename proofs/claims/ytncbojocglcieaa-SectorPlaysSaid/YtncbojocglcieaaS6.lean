/- sector: a device beside other blocks of the call's own. -/
import Derived.Test.YtncbojocglcieaaS4
namespace Go.Proofs.Ytncbojocglcieaa
open Go.RowKit
set_option linter.unusedSimpArgs false
set_option linter.unusedVariables false
/-- A device that came since w0, apart from the blocks R; nothing that was there has turned. -/
def OwnR (w0 w : World) (R : Nat → Prop) (g : Nat) (d : DevD) : Prop :=
  ∃ F, Dev w F g d ∧ (∀ k, F k → w0.heap.size ≤ k ∧ ¬ R k) ∧ (∀ k, R k → w0.heap.size ≤ k ∧ k < w.heap.size) ∧ Below w0.heap.size w0 w
/-- The blocks R are as they were; what was there at first, too. -/
structure Held (w0 : World) (R : Nat → Prop) (w w' : World) : Prop where
  size : w.heap.size ≤ w'.heap.size
  block : ∀ k, R k → w'.heap[k]? = w.heap[k]?
theorem Held.refl (w0 : World) (R : Nat → Prop) (w : World) : Held w0 R w w := ⟨Nat.le_refl _, fun _ _ => rfl⟩
theorem Held.trans {w0 a b c : World} {R : Nat → Prop} (h : Held w0 R a b) (k : Held w0 R b c) : Held w0 R a c := ⟨Nat.le_trans h.size k.size, fun i q => (k.block i q).trans (h.block i q)⟩
theorem Held.below {w0 w w' : World} {R : Nat → Prop} (hR : ∀ k, R k → k < w.heap.size) (h : Below w.heap.size w w') : Held w0 R w w' := ⟨h.size, fun k q => h.block k (hR k q)⟩
section
variable {w0 w w' : World} {R R' : Nat → Prop} {g : Nat} {d d' : DevD}
theorem OwnR.bel (h : OwnR w0 w R g d) : Below w0.heap.size w0 w := by obtain ⟨F, _, _, _, h⟩ := h; exact h
theorem OwnR.lt (h : OwnR w0 w R g d) {k : Nat} (q : R k) : k < w.heap.size := by obtain ⟨F, _, _, h, _⟩ := h; exact (h k q).2
theorem OwnR.ge (h : OwnR w0 w R g d) {k : Nat} (q : R k) : w0.heap.size ≤ k := by obtain ⟨F, _, _, h, _⟩ := h; exact (h k q).1
theorem OwnR.below (h : OwnR w0 w R g d) (hb : Below w.heap.size w w') : OwnR w0 w' R g d := by
  obtain ⟨F, h1, h2, h3, h4⟩ := h
  exact ⟨F, h1.below hb, h2, fun k q => ⟨(h3 k q).1, Nat.lt_of_lt_of_le (h3 k q).2 hb.size⟩, h4.trans (hb.mono h4.size)⟩
/-- The others have turned. -/
theorem OwnR.turn (h : OwnR w0 w R g d) (hk : Keep R w w') (hR : ∀ k, R' k → (R k ∨ w.heap.size ≤ k) ∧ k < w'.heap.size) : OwnR w0 w' R' g d := by
  obtain ⟨F, h1, h2, h3, h4⟩ := h
  refine ⟨F, h1.keep hk (fun i q => (h2 i q).2), fun k q => ⟨(h2 k q).1, fun r => ?_⟩, fun k q => ⟨?_, (hR k q).2⟩, h4.trans (hk.toBelow h4.size (fun i q => (h3 i q).1))⟩
  · rcases (hR k r).1 with e | e
    · exact (h2 k q).2 e
    · exact absurd (h1.lt q) (Nat.not_lt.2 e)
  · rcases (hR k q).1 with e | e
    · exact (h3 k e).1
    · exact Nat.le_trans h4.size e
theorem OwnR.sub (h : OwnR w0 w R g d) (hR : ∀ k, R' k → R k) : OwnR w0 w R' g d := by
  obtain ⟨F, h1, h2, h3, h4⟩ := h
  exact ⟨F, h1, fun k q => ⟨(h2 k q).1, fun r => (h2 k q).2 (hR k r)⟩, fun k q => h3 k (hR k q), h4⟩
theorem Own.r (h : Own w0 w g d) : OwnR w0 w (fun _ => False) g d := by
  obtain ⟨F, h1, h2, h3⟩ := h
  exact ⟨F, h1, fun k q => ⟨h2 k q, fun r => r⟩, fun k r => r.elim, h3⟩
theorem OwnR.own (h : OwnR w0 w R g d) : Own w0 w g d := by
  obtain ⟨F, h1, h2, h3, h4⟩ := h
  exact ⟨F, h1, fun k q => (h2 k q).1, h4⟩
theorem OwnR.step {F : Nat → Prop} (h1 : Dev w F g d) (h2 : ∀ k, F k → w0.heap.size ≤ k ∧ ¬ R k) (h3 : ∀ k, R k → w0.heap.size ≤ k ∧ k < w.heap.size) (h4 : Below w0.heap.size w0 w) (s : Stepped w F g d' w') : OwnR w0 w' R g d' ∧ Held w0 R w w' := by
  obtain ⟨F', q1, q2, q3⟩ := s
  refine ⟨⟨F', q1, fun k q => ?_, fun k q => ⟨(h3 k q).1, Nat.lt_of_lt_of_le (h3 k q).2 q3.size⟩, h4.trans (q3.toBelow h4.size (fun k q => (h2 k q).1))⟩, ⟨q3.size, fun k q => q3.block k (h3 k q).2 (fun f => (h2 k f).2 q)⟩⟩
  rcases q2 k q with e | e
  · exact h2 k e
  · exact ⟨Nat.le_trans h4.size e, fun r => absurd (h3 k r).2 (Nat.not_lt.2 e)⟩
theorem ownr_new (w0 w : World) (n : Int) (hb : Below w0.heap.size w0 w) (hR : ∀ k, R k → w0.heap.size ≤ k ∧ k < w.heap.size) : Calls Try.prog 17 #[.int .i64 n] w fun e w' => ∃ g, e = .returned (.pointer (some ⟨g, 0, none⟩)) ∧ OwnR w0 w' R g ⟨(min (max n 0) 4096).toNat, [], [], [], -1⟩ ∧ Below w.heap.size w w' := by
  refine (newdev_any n w).mono ?_
  rintro e w' ⟨F, g, rfl, hd, hF, hB⟩
  exact ⟨g, rfl, ⟨F, hd, fun k q => ⟨Nat.le_trans hb.size (hF k q), fun r => absurd (hR k r).2 (Nat.not_lt.2 (hF k q))⟩, fun k q => ⟨(hR k q).1, Nat.lt_of_lt_of_le (hR k q).2 hB.size⟩, hb.trans (hB.mono hb.size)⟩, hB⟩
theorem ownr_put (h : OwnR w0 w R g d) (i : Int) (x : ByteArray) (hq : d.queue.length ≤ 1000000) (hleft : d.left ≤ 9223372036854775807) :
    Calls Try.prog 18 #[.pointer (some ⟨g, 0, none⟩), .int .i64 i, .string x] w fun e w' => e = .returned (.int .i64 (d.putErr i x)) ∧ OwnR w0 w' R g (if d.putErr i x = 0 then d.put i x else d) ∧ Held w0 R w w' := by
  obtain ⟨F, h1, h2, h3, h4⟩ := h
  refine (put_any w F g d i x h1 hq hleft).mono ?_
  rintro e w' ⟨rfl, hs⟩
  exact ⟨rfl, OwnR.step h1 h2 h3 h4 hs⟩
theorem ownr_get (h : OwnR w0 w R g d) (i : Int) :
    Calls Try.prog 23 #[.pointer (some ⟨g, 0, none⟩), .int .i64 i] w fun e w' => e = .returned (.tuple #[.string (d.get i), .int .i64 (d.ask i)]) ∧ OwnR w0 w' R g d ∧ Below w.heap.size w w' := by
  have h0 := h
  obtain ⟨F, h1, h2, h3⟩ := h
  refine (get_any w F g d i h1).mono ?_
  rintro e w' ⟨rfl, hb⟩
  exact ⟨rfl, h0.below hb, hb⟩
theorem ownr_cut (h : OwnR w0 w R g d) (n : Int) :
    Calls Try.prog 28 #[.pointer (some ⟨g, 0, none⟩), .int .i64 n] w fun e w' => e = .returned (.tuple #[]) ∧ OwnR w0 w' R g (d.cut n) ∧ Held w0 R w w' := by
  obtain ⟨F, h1, h2, h3, h4⟩ := h
  refine (cut_any w F g d n h1).mono ?_
  rintro e w' ⟨rfl, hs⟩
  exact ⟨rfl, OwnR.step h1 h2 h3 h4 hs⟩
theorem ownr_flush (h : OwnR w0 w R g d) :
    Calls Try.prog 20 #[.pointer (some ⟨g, 0, none⟩)] w fun e w' => e = .returned (.int .i64 (if d.left = 0 then 13 else 0)) ∧ OwnR w0 w' R g (if d.left = 0 then d else d.flush) ∧ Held w0 R w w' := by
  obtain ⟨F, h1, h2, h3, h4⟩ := h
  refine (flush_any w F g d h1).mono ?_
  rintro e w' ⟨rfl, hs⟩
  exact ⟨rfl, OwnR.step h1 h2 h3 h4 hs⟩
theorem ownr_restart (h : OwnR w0 w R g d) (kv : Value) (kept : List Int) (harg : Arg EInt w0 kv kept) (hk : kept.length ≤ maxLen) (hq : d.queue.length ≤ 1000000) :
    Calls Try.prog 22 #[.pointer (some ⟨g, 0, none⟩), kv] w fun e w' => e = .returned (.tuple #[]) ∧ OwnR w0 w' R g (d.restart kept) ∧ Held w0 R w w' := by
  obtain ⟨F, h1, h2, h3, h4⟩ := h
  refine (restart_any w F g d kv kept h1 (fun w' k => harg.below (h4.trans (k.toBelow h4.size (fun k q => (h2 k q).1)))) hk hq).mono ?_
  rintro e w' ⟨rfl, hs⟩
  exact ⟨rfl, OwnR.step h1 h2 h3 h4 hs⟩
theorem ownr_pending (h : OwnR w0 w R g d) :
    Calls Try.prog 21 #[.pointer (some ⟨g, 0, none⟩)] w fun e w' => e = .returned (.int .i64 d.queue.length) ∧ w' = w := own_pending h.own
theorem ownr_size (h : OwnR w0 w R g d) :
    Calls Try.prog 30 #[.pointer (some ⟨g, 0, none⟩)] w fun e w' => e = .returned (.int .i64 d.size) ∧ w' = w := own_size h.own
theorem ownr_put_ok (h : OwnR w0 w R g d) (i : Int) (x : ByteArray) (hq : d.queue.length ≤ 1000000) (hleft : d.left ≤ 9223372036854775807) (he : d.putErr i x = 0) :
    Calls Try.prog 18 #[.pointer (some ⟨g, 0, none⟩), .int .i64 i, .string x] w fun e w' => e = .returned (.int .i64 0) ∧ OwnR w0 w' R g (d.put i x) ∧ Held w0 R w w' := by
  have := ownr_put h i x hq hleft
  rw [he, if_pos rfl] at this
  exact this
end
end Go.Proofs.Ytncbojocglcieaa
