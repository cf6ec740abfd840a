/- A heap of numbers behind *ids.back: heap.Push. -/
import Derived.Test.YtolilbcpfdnkjaaTKG3x
namespace Go.Proofs.Ytolilbcpfdnkjaa.Bk
open Go.RowKit
set_option linter.unusedSimpArgs false
def HPushPost (w : World) (B g o : Nat) (cs : Array Value) (t : TypeId) (v : Value) (l : List Int) (x : Int) (e : Ending) (w' : World) : Prop :=
  e = .returned (.tuple #[]) ∧ ∃ l' v', HAt w' B g o (cs.setIfInBounds o v') t v' l' ∧ l'.Perm (l ++ [x]) ∧ (∀ k, HCond l' l'.length k) ∧ (∀ k, v'.ownBlock = some k → v.ownBlock = some k ∨ w.heap.size ≤ k) ∧ Keep (fun k => k = g ∨ some k = v.ownBlock) w w'
set_option maxHeartbeats 1000000 in
theorem hpush_any (B g o : Nat) (cs : Array Value) (t : TypeId) (v : Value) (l : List Int) (x : Int) (w : World) (h : HAt w B g o cs t v l) (hl : l.length < 300000) (hB : B ≤ w.heap.size) (hc : ∀ k, HCond l l.length k) :
    Calls Try.prog 71 #[.iface 128 (.pointer (some ⟨g, o, none⟩)), .iface 3 (.int .i64 x)] w (HPushPost w B g o cs t v l x) := by
  have m1 := mth_Len
  have m2 := mth_Push
  have Hc := Lib.hid hc
  clear hc
  go_enter Try.func71, Try.ntmps71
  go_wp2_with fail
  refine (mpush_any B g o cs t v l x _ h (by omega) hB).mono ?_
  rintro e w1 ⟨rfl, v1, h1, hv1, k1⟩
  have c1 := h1.cell
  go_wp2_with fail
  refine (len_any v1 B (l ++ [x]) _ h1.row).mono ?_
  rintro e w2 ⟨rfl, q2⟩
  have h2 := h1.qt q2
  have k2 := k1.trans (Keep.qt q2)
  have hlen : (l ++ [x]).length = l.length + 1 := by simp
  have hb2 : (l ++ [x]).length ≤ 400000 := by omega
  have hs : UInv (l ++ [x]) l.length (l ++ [x]).length := by rw [hlen]; exact UInv.start l x Hc.out
  have U := up_any B g o l.length _ t v1 (l ++ [x]) w2 h2 (by omega) hb2 hs
  have HU := Lib.hid U
  have Hv1 := Lib.hid hv1
  rw [hlen]
  clear hs U hlen hv1 c1 h1 k1
  go_wp2_with fail
  refine HU.out.mono ?_
  rintro e w3 ⟨l3, rfl, h3, hp3, hc3, k3⟩
  go_wp2_with fail
  refine bodyPost_ret (v := .tuple #[]) (by simp [results, Try.results71, go_sem]) rfl ⟨rfl, l3, v1, h3, hp3, hc3, Hv1.out, k2.trans' k3 (fun i hi => ?_)⟩
  rcases Hv1.out i hi.symm with q | q
  · exact Or.inl (Or.inr q.symm)
  · exact Or.inr q
end Go.Proofs.Ytolilbcpfdnkjaa.Bk
