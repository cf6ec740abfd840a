/- A heap of numbers behind *ids.back: Pop. -/
import Derived.Test.YtolilbcpfdnkjaaTKG1x
import Derived.Test.YtolilbcpfdnkjaaTKH2x
namespace Go.Proofs.Ytolilbcpfdnkjaa.Bk
open Go.RowKit
set_option linter.unusedSimpArgs false
set_option maxHeartbeats 400000 in
theorem len_any (v : Value) (B : Nat) (l : List Int) (w : World) (h : Ints w B v l) :
    Calls Try.prog 68 #[v] w fun e w' => e = .returned (.int .i64 l.length) ∧ Qt w w' := by
  rcases h.2 with ⟨rfl, h0⟩ | ⟨g, cap, cur, rfl, _⟩
  · have : l = [] := List.eq_nil_of_length_eq_zero h0
    subst this
    go_enter Try.func68, Try.ntmps68
    go_wp2
    go_ret
    exact ⟨rfl, Qt.refl _⟩
  · go_enter Try.func68, Try.ntmps68
    go_wp2
    go_ret
    exact ⟨rfl, Qt.refl _⟩
set_option maxHeartbeats 1000000 in
theorem hpop_any (B g o : Nat) (cs : Array Value) (t : TypeId) (v : Value) (l : List Int) (w : World) (h : HAt w B g o cs t v l) (hl : l.length ≤ 400000) (h0 : l ≠ []) (hc : ∀ k, HCond l l.length k) :
    Calls Try.prog 69 #[.iface 128 (.pointer (some ⟨g, o, none⟩))] w (HPopPost w B g o cs t v l) := by
  have m1 := mth_Len
  have m2 := mth_Swap
  have m3 := mth_Pop
  have c0 := h.cell
  obtain ⟨n, hn⟩ : ∃ n, l.length = n + 1 := ⟨l.length - 1, by have := List.length_pos_iff.2 h0; omega⟩
  have Hn := Lib.hid hn
  have Hc := Lib.hid hc
  have len1 : (l.length : Int) - 1 = n := by omega
  have Hlen1 := Lib.hid len1
  have hn1 : n < l.length := by omega
  have hn2 : n < 400000 := by omega
  have hl0 : 0 < l.length := by omega
  clear hc hn h0 len1
  go_enter Try.func69, Try.ntmps69
  go_wp2_with fail
  refine (len_any v B l _ h.row).mono ?_
  rintro e w1 ⟨rfl, q1⟩
  have h1 := h.qt q1
  have k1 := Keep.qt (F := fun k => k = g ∨ some k = v.ownBlock) q1
  have c1 := h1.cell
  clear q1
  go_wp2_with fail
  try rw [Hlen1.out]
  refine (swap_i B v l _ _ 0 n _ rfl (by first | rfl | exact Hlen1.out) h1.row hl0 hn1).mono ?_
  rintro e w2 ⟨rfl, hr2, k2⟩
  have h2 := h1.turned hr2 k2
  have k2' := k1.trans' k2 (fun i hi => Or.inl (Or.inr hi))
  have c2 := h2.cell
  clear k2 hr2
  go_wp2_with fail
  have D := down_any B g o 0 n cs t v (swapL l 0 n) w2 h2 (by rw [swapL_length]; omega) (by rw [swapL_length]; omega) (by omega) (fun k hk => by
    have G := fun k => swapL_getD l 0 n k hl0 hn1
    refine ⟨fun q => ?_, fun q => ?_⟩
    · rw [G, G, if_neg (by omega), if_neg (by omega), if_neg (by omega), if_neg (by omega)]; exact (Hc.out k).1 (by omega)
    · rw [G, G, if_neg (by omega), if_neg (by omega), if_neg (by omega), if_neg (by omega)]; exact (Hc.out k).2 (by omega))
  refine D.mono ?_
  rintro e w3 ⟨b, l3, rfl, h3, hsift, k3⟩
  have k3' := k2'.trans' k3 (fun i hi => Or.inl (Or.inr hi))
  have hlen3 : l3.length = n + 1 := by rw [hsift.perm.length_eq, swapL_length]; exact Hn.out
  have hx : l3.getD n 0 = l.getD 0 0 := by
    rw [hsift.tail n (Nat.le_refl _), swapL_getD l 0 n n hl0 hn1, if_pos rfl]
  have hsplit := getD_dropLast l3 n hlen3
  rw [hx] at hsplit
  have hperm : (l.getD 0 0 :: l3.take n).Perm l := by
    have p1 : (l3.take n ++ [l.getD 0 0]).Perm l := by rw [← hsplit]; exact hsift.perm.trans (swapL_perm l 0 n hl0 hn1)
    exact (List.perm_append_comm (l₁ := [l.getD 0 0])).trans p1
  have hcond : ∀ k, HCond (l3.take n) (l3.take n).length k := by
    intro k
    have hl4 : (l3.take n).length = n := by rw [List.length_take]; omega
    rw [hl4]
    have := hsift.cond k (Nat.zero_le _)
    exact ⟨fun q => by rw [getD_take _ _ _ (by omega), getD_take _ _ _ q]; exact this.1 q, fun q => by rw [getD_take _ _ _ (by omega), getD_take _ _ _ q]; exact this.2 q⟩
  have h3' : HAt w3 B g o cs t v (l3.take n ++ [l.getD 0 0]) := by rw [← hsplit]; exact h3
  have P := mpop_any B g o cs t v (l3.take n) (l.getD 0 0) w3 h3' (by rw [List.length_take]; omega)
  have HP := Lib.hid P
  have HF := Lib.hid (And.intro hperm hcond)
  clear P hperm hcond hsplit hx hlen3 hsift h3' D h3
  go_wp2_with fail
  refine (HP.out).mono ?_
  rintro e w4 ⟨rfl, v', h4, e4, k4⟩
  go_wp2_with fail
  go_ret
  exact ⟨_, v', by simp [hl0], h4, HF.out.1, HF.out.2, e4, k3'.trans' k4 (fun i hi => Or.inl (Or.inl hi))⟩
end Go.Proofs.Ytolilbcpfdnkjaa.Bk
