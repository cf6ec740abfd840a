/- A heap of numbers behind an interface: Init, Pop. -/
import Derived.Test.YtolilbcpfdnkjaaGreatZBH1x
namespace Go.Proofs.YtolilbcpfdnkjaaGreat
open Go.RowKit
set_option linter.unusedSimpArgs false
def InitRel (w : World) (B g o : Nat) (cs : Array Value) (t : TypeId) (v : Value) (l : List Int) (iv : Value) (wr : World) : Prop :=
  ∃ (m : Nat) (l1 : List Int), iv = .int .i64 ((m : Int) - 1) ∧ m ≤ l.length / 2 ∧ HAt wr B g o cs t v l1 ∧ (∀ k, m ≤ k → HCond l1 l.length k) ∧ l1.Perm l ∧ Keep (fun k => some k = v.ownBlock) w wr
def InitPost (w : World) (B g o : Nat) (cs : Array Value) (t : TypeId) (v : Value) (l : List Int) (e : Ending) (w' : World) : Prop :=
  ∃ l', e = .returned (.tuple #[]) ∧ HAt w' B g o cs t v l' ∧ l'.Perm l ∧ (∀ k, HCond l' l'.length k) ∧ Keep (fun k => some k = v.ownBlock) w w'
theorem getD_dropLast (l : List Int) (n : Nat) (h : l.length = n + 1) : l = l.take n ++ [l.getD n 0] := by
  have h1 := List.take_append_drop n l
  have h2 : l.drop n = [l.getD n 0] := by
    rw [List.drop_eq_getElem_cons (by omega), List.getD_eq_getElem?_getD, List.getElem?_eq_getElem (by omega), Option.getD_some]
    congr 1
    exact List.drop_eq_nil_of_le (by omega)
  rw [h2] at h1; exact h1.symm
theorem getD_take (l : List Int) (n k : Nat) (h : k < n) : (l.take n).getD k 0 = l.getD k 0 := by
  rw [List.getD_eq_getElem?_getD, List.getD_eq_getElem?_getD, List.getElem?_take_of_lt h]
def HPopPost (w : World) (B g o : Nat) (cs : Array Value) (t : TypeId) (v : Value) (l : List Int) (e : Ending) (w' : World) : Prop :=
  ∃ l' v', e = .returned (.iface 3 (.int .i64 (l.getD 0 0))) ∧ HAt w' B g o (cs.setIfInBounds o v') t v' l' ∧ (l.getD 0 0 :: l').Perm l ∧ (∀ k, HCond l' l'.length k) ∧ v'.ownBlock = v.ownBlock ∧ Keep (fun k => k = g ∨ some k = v.ownBlock) w w'
end Go.Proofs.YtolilbcpfdnkjaaGreat
