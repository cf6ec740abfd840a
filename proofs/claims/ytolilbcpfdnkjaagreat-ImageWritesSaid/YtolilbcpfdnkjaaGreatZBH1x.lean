/- A heap of numbers behind an interface: down, Init, Pop. -/
import Derived.Test.YtolilbcpfdnkjaaGreatZBH0x
namespace Go.Proofs.YtolilbcpfdnkjaaGreat
open Go.RowKit
set_option linter.unusedSimpArgs false
/-- What holds in the midst of sifting. -/
def DownRel (w : World) (B g o : Nat) (cs : Array Value) (t : TypeId) (v : Value) (l : List Int) (i0 n : Nat) (iv : Value) (wr : World) : Prop :=
  ∃ (i : Nat) (l1 : List Int), iv = .int .i64 i ∧ i ≤ 1000000 ∧ HAt wr B g o cs t v l1 ∧ HInv l1 i0 i n ∧ l1.Perm l ∧ (∀ k, n ≤ k → l1.getD k 0 = l.getD k 0) ∧ Keep (fun k => some k = v.ownBlock) w wr
def DownPost (w : World) (B g o : Nat) (cs : Array Value) (t : TypeId) (v : Value) (l : List Int) (i0 n : Nat) (e : Ending) (w' : World) : Prop :=
  ∃ b l', e = .returned (.bool b) ∧ HAt w' B g o cs t v l' ∧ Sifted l l' i0 n ∧ Keep (fun k => some k = v.ownBlock) w w'
end Go.Proofs.YtolilbcpfdnkjaaGreat
