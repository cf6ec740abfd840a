/- the reference's Dirs; the tree's Nodes; a tree of a law's own: Dirs, Nodes, Cookie, Find. -/
import Derived.Test.YtolilbcpfdnkjaaGreatZBY7
import Derived.Test.YtolilbcpfdnkjaaGreatZBY3
import Derived.Test.YtolilbcpfdnkjaaGreatZBX5
namespace Go.Proofs.YtolilbcpfdnkjaaGreat
open Go.RowKit
set_option linter.unusedSimpArgs false
set_option linter.unusedVariables false
def dirsUp (L : List Itm) (i : Nat) : List Int := ((List.range i).map (fun n : Nat => (n : Int))).filter (fun n => isDirB L n)
theorem dirsUp_succ (L : List Itm) (i : Nat) : dirsUp L (i + 1) = dirsUp L i ++ if isDirB L i = true then [(i : Int)] else [] := by
  unfold dirsUp
  rw [List.range_succ, List.map_append, List.filter_append]
  cases h : isDirB L i <;> simp [h]
theorem dirsUp_len (L : List Itm) (i : Nat) : (dirsUp L i).length ≤ i := by
  unfold dirsUp
  exact Nat.le_trans (List.length_filter_le _ _) (by simp)
set_option maxRecDepth 100000 in
set_option maxHeartbeats 2000000 in
theorem rdirs_any {v : Value} {L : List Itm} (w : World) (next : Int) (h : Arg EItm w v L) (hi : TInv L next) :
    Calls Tryz.prog 45 #[.agg #[v, .int .i64 next]] w fun e w' => ∃ v', e = .returned v' ∧ Row EInt w' w.heap.size v' (dirsT L) ∧ Below w.heap.size w w' := by
  obtain ⟨a, c, rfl⟩ := h.shape
  obtain ⟨hbw, ht0, ht1⟩ := rtree_laid (a := a) (c := c) (L := L) w next
  obtain ⟨W, hW⟩ : ∃ W, w.alloc (.cells #[.slice a L.length c, .int .i64 next] 29) = W := ⟨_, rfl⟩
  rw [hW] at hbw ht0 ht1
  have H := Lib.hid (h.below hbw)
  have HBW := Lib.hid hbw
  have hlen := hi.len
  clear h hbw
  go_enter Tryz.func45, Tryz.ntmps45
  go_wp2_with fail
  clear hW
  go_loopw [3, 4] (fun ov iv wr => ∃ i : Nat, iv = .int .i64 i ∧ i ≤ 201 ∧ Row EInt wr W.heap.size ov (dirsUp L i) ∧ Below W.heap.size W wr) (fun _ iv _ => 201 - (intOf iv).toNat)
  case atStart => exact ⟨0, rfl, Nat.zero_le _, Row.nil _ _ _, Below.refl _ _⟩
  case round =>
    obtain ⟨i, rfl, hi2, hro, hb⟩ := hrel
    obtain ⟨ao, co, rfl⟩ := hro.shape
    have HRO := Lib.hid hro
    have HB := Lib.hid hb
    have ht0 := cell_later hb ht0
    have ht1 := cell_later hb ht1
    have hdl := dirsUp_len L i
    clear hro hb
    by_cases hlt : i ≤ 200
    · have i1 : (i : Int) ≤ 200 := by omega
      have HKD := Lib.hid (rkind_any wr next i (H.out.below HB.out) (by omega))
      have hkd := (kind_dir hi i).1
      have HT := Lib.hid (dirsUp_succ L i)
      obtain ⟨A, hA⟩ : ∃ A, dirsUp L i = A := ⟨_, rfl⟩
      obtain ⟨K, hK⟩ : ∃ K, kindT L i = K := ⟨_, rfl⟩
      rw [hK] at HKD hkd
      rw [hA] at HRO HT hdl
      rw [hA]
      clear hA hK
      by_cases k2 : K = 2
      · subst k2
        have hd := hkd.1 rfl
        rw [if_pos hd] at HT
        clear hkd hd
        go_wp2_with fail
        refine HKD.out.mono ?_
        rintro e w4 ⟨rfl, hb4⟩
        have HB4 := Lib.hid (HB.out.trans (hb4.mono HB.out.size))
        have HR4 := Lib.hid (HRO.out.below hb4)
        clear hb4
        go_wp2_with (first
          | (refine app_on EInt.laid rfl _ _ 54 54 Tryz.underlying54 Tryz.underlying54 rfl _ A rfl ((HR4.out).alloc _) ((HB4.out).alloc (HB4.out).size _) (Nat.le_refl _) _ [(i : Int)] rfl ?e1 ?e2 ?e3 ?_
             case e1 => exact Arg.blk (m_alloc _ _ _ rfl) [(i : Int)] rfl 1
             case e2 => (show (A.length + 1) * 8 ≤ _; omega)
             case e3 => (show A.length + 1 ≤ maxLen; unfold maxLen; omega)
             intro v6 w6 hr6 hb6
             have HR6 := Lib.hid hr6
             have HB6 := Lib.hid hb6
             obtain ⟨a6, c6', rfl⟩ := hr6.shape
             clear hr6 hb6))
        refine ⟨⟨i + 1, by go_num, by omega, ?_, HB6.out⟩, by simp [intOf]; omega⟩
        have z := HR6.out
        rw [List.length_append] at z
        rw [HT.out]; exact z
      · have k3 : (K == 2) = false := by simpa using k2
        have hd : isDirB L i = false := by rw [Bool.eq_false_iff]; intro q; exact k2 (hkd.2 q)
        rw [hd] at HT
        clear hkd hd
        go_wp2_with fail
        refine HKD.out.mono ?_
        rintro e w4 ⟨rfl, hb4⟩
        have HB4 := Lib.hid (HB.out.trans (hb4.mono HB.out.size))
        have HR4 := Lib.hid (HRO.out.below hb4)
        clear hb4
        go_wp2_with fail
        refine ⟨⟨i + 1, by go_num, by omega, ?_, HB4.out⟩, by simp [intOf]; omega⟩
        rw [HT.out]; simpa using HR4.out
    · have ei : i = 201 := by omega
      subst ei
      have i2 : ¬ ((201 : Nat) : Int) ≤ 200 := by decide
      go_wp2_with fail
      go_ret
      exact ⟨_, rfl, HRO.out.mono HBW.out.size, HBW.out.trans (HB.out.mono HBW.out.size)⟩
theorem perm_nodes {D : List (Int × DE)} {F : List (Int × Int)} {p : PD} {L : List Itm} {next : Int} (hr : TRep D F p L) (hi : TInv L next) (hn : (mkeys p.out).Nodup) : p.out.length = L.length := by
  have h1 : (mkeys p.out).Perm (nodes L) := (List.perm_ext_iff_of_nodup hn hi.nd).2 (fun x => by rw [hr.r4 x, mem_nodes])
  have := h1.length_eq
  simpa [mkeys, nodes] using this
set_option maxHeartbeats 1000000 in
theorem tnodes_any {w : World} {F : Nat → Prop} {g : Nat} {L : List Itm} {next : Int} (h : TreeM w F g L next) (hi : TInv L next) :
    Calls Tryz.prog 26 #[.pointer (some ⟨g, 0, none⟩)] w fun e w' => e = .returned (.int .i64 L.length) ∧ w' = w := by
  obtain ⟨bd, bf, gp, bp, vp, D, Fm, p, rfl, hm, hr⟩ := h
  have c2 : w.cell? ⟨g, 2, none⟩ = some (.pointer (some ⟨gp, 0, none⟩)) := (m_cells hm.blk).1 2
  have hc := perm_nodes hr hi hm.pl.mp.nodup
  have HO := Lib.hid (out_any w gp bp vp p hm.pl)
  rw [hc] at HO
  clear hc hm
  go_enter Tryz.func26, Tryz.ntmps26
  go_wp2_with fail
  refine HO.out.mono ?_
  rintro e w1 ⟨rfl, rfl⟩
  go_wp2_with fail
  go_ret
  exact ⟨rfl, rfl⟩
section
variable {w0 w w' : World} {g : Nat} {L L' : List Itm} {next next' : Int} {R R' : Nat → Prop}
theorem ownr_find (h : OwnTR w0 w R g L next) (hi : TInv L next) (d : Int) (name : ByteArray) :
    Calls Tryz.prog 70 #[.pointer (some ⟨g, 0, none⟩), .int .i64 d, .string name] w fun e w' => e = .returned (.tuple #[(findRes L d name).1.val, .int .i64 (findRes L d name).2]) ∧ OwnTR w0 w' R g L next ∧ Below w.heap.size w w' := by
  have hl := hi.len
  have h0 := h
  obtain ⟨F, k1, k2, k3, k4⟩ := h
  exact (tfind_any d name k1 (by omega)).mono fun e w' ⟨a, hb⟩ => ⟨a, h0.below hb, hb⟩
end
end Go.Proofs.YtolilbcpfdnkjaaGreat
