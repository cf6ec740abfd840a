/- tree: below. -/
import Derived.Test.YtolilbcpfdnkjaaU5
namespace Go.Proofs.Ytolilbcpfdnkjaa
open Go.RowKit
set_option linter.unusedSimpArgs false
set_option linter.unusedVariables false
/-- A node, or what is below it. -/
inductive Under (L : List Itm) (top : Int) : Int → Prop
  | refl : Under L top top
  | step (i : Itm) : i ∈ L → Under L top i.d → Under L top i.e.node
theorem Under.trans {L : List Itm} {a b c : Int} (h : Under L a b) (k : Under L b c) : Under L a c := by
  induction k with
  | refl => exact h
  | step i hi _ ih => exact .step i hi ih
theorem Under.down {L : List Itm} {a n : Int} (h : Under L a n) : a = n ∨ ∃ i ∈ L, i.d = a ∧ Under L i.e.node n := by
  induction h with
  | refl => exact Or.inl rfl
  | step i hi h ih =>
    rcases ih with e | ⟨j, hj, e, k⟩
    · exact Or.inr ⟨i, hi, e.symm, .refl⟩
    · exact Or.inr ⟨j, hj, e, k.trans (.step i hi .refl)⟩
noncomputable def underB (L : List Itm) (top n : Int) : Bool := by classical exact decide (Under L top n)
theorem underB_iff {L : List Itm} {top n : Int} : underB L top n = true ↔ Under L top n := by unfold underB; simp
theorem underB_down (L : List Itm) (a n : Int) : underB L a n = (decide (a = n) || (entries L a).any (fun e => underB L e.node n)) := by
  rw [Bool.eq_iff_iff, underB_iff, Bool.or_eq_true, List.any_eq_true]
  constructor
  · intro h
    rcases h.down with e | ⟨i, hi, e, k⟩
    · exact Or.inl (by simpa using e)
    · exact Or.inr ⟨i.e, mem_entries.2 ⟨i, hi, e, rfl⟩, underB_iff.2 k⟩
  · rintro (e | ⟨x, hx, k⟩)
    · have : a = n := by simpa using e
      subst this; exact .refl
    · obtain ⟨i, hi, e1, e2⟩ := mem_entries.1 hx
      subst e2; subst e1
      exact Under.trans (.step i hi .refl) (underB_iff.1 k)
theorem bound_of (L : List Itm) (r : Int → Nat) : ∃ M, ∀ i ∈ L, r i.e.node ≤ M := by
  induction L with
  | nil => exact ⟨0, fun i hi => by cases hi⟩
  | cons a t ih =>
    obtain ⟨M, hM⟩ := ih
    exact ⟨M + r a.e.node, fun i hi => by
      rcases List.mem_cons.1 hi with e | q
      · subst e; omega
      · have := hM i q; omega⟩
theorem idxP_any (l : List Ent) (p : Ent → Bool) : (idxP l p = -1 ∧ l.any p = false) ∨ ∃ i : Nat, idxP l p = i ∧ l.any p = true := by
  rcases idxP_spec l p with ⟨i, x, h1, h2, h3⟩ | ⟨h1, h2⟩
  · exact Or.inr ⟨i, h1, List.any_eq_true.2 ⟨x, List.mem_of_find?_eq_some h3, List.find?_some h3⟩⟩
  · refine Or.inl ⟨h1, ?_⟩
    rw [List.any_eq_false]
    intro x hx
    have := List.find?_eq_none.1 h2 x hx
    simpa using this
/-- slices.ContainsFunc over entries. -/
theorem containsfunc_any {v : Value} {l : List Ent} (w : World) (p : Ent → Bool) (f : Nat) (cap : Array Value) (h : Arg EEnt w v l) (hl : l.length ≤ 1000000)
    (heg : ∀ args w, (callFunc f args).run Try.prog w = .ok (.enter f args) w)
    (hf : ∀ x ∈ l, ∀ w', Below w.heap.size w w' → Calls Try.prog f (#[x.val] ++ cap) w' fun e w2 => e = .returned (.bool (p x)) ∧ Below w'.heap.size w' w2) :
    Calls Try.prog 73 #[v, .func (.func f) #[] cap] w fun e w' => e = .returned (.bool (l.any p)) ∧ Below w.heap.size w w' := by
  have H := Lib.hid (indexfunc_any w p f cap h hl heg hf)
  obtain ⟨a, c, rfl⟩ := h.shape
  clear h hf heg
  go_enter Try.func73, Try.ntmps73
  go_wp2_with fail
  refine H.out.mono ?_
  rintro e w1 ⟨rfl, hb⟩
  have HB := Lib.hid hb
  clear hb
  rcases idxP_any l p with ⟨e1, e2⟩ | ⟨i, e1, e2⟩
  · have HE := Lib.hid e2
    rw [e1]
    clear e1 e2 H
    go_wp2_with fail
    go_ret
    exact ⟨ret_bool HE.out.symm, HB.out⟩
  · have HE := Lib.hid e2
    rw [e1]
    clear e1 e2 H
    have i1 : decide ((0 : Int) ≤ i) = true := by simp
    have i2 : (0 : Int) ≤ i := by omega
    go_wp2_with fail
    go_ret
    exact ⟨ret_bool HE.out.symm, HB.out⟩
end Go.Proofs.Ytolilbcpfdnkjaa
