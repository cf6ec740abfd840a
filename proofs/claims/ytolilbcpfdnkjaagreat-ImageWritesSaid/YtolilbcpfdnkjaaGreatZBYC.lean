/- tree's law: Alike. -/
import Derived.Test.YtolilbcpfdnkjaaGreatZBYB
import Derived.Test.YtolilbcpfdnkjaaGreatZBUB
namespace Go.Proofs.YtolilbcpfdnkjaaGreat
open Go.RowKit
set_option linter.unusedSimpArgs false
set_option linter.unusedVariables false
theorem int_cell {w : World} {a : Option Addr} {n c : Nat} {l : List Int} (h : Arg EInt w (.slice a n c) l) (i : Nat) (x : Int) (hx : l[i]? = some x) : ∃ g off, a = some ⟨g, off, none⟩ ∧ w.cell? ⟨g, off + i, none⟩ = some (.int .i64 x) := by
  obtain ⟨g, off, cap, e, hc⟩ := h.cells (by intro q; rw [q] at hx; simp at hx)
  simp only [Value.slice.injEq] at e
  have := hc i x hx 0 (by decide)
  rw [show off + (i * EInt.size + 0) = off + i from by show off + (i * 1 + 0) = _; omega] at this
  exact ⟨g, off, e.1, this⟩
set_option maxRecDepth 100000 in
set_option maxHeartbeats 4000000 in
theorem alike_any {w : World} {F : Nat → Prop} {g : Nat} {v : Value} {L : List Itm} {next : Int} (h : TreeM w F g L next) (ha : Arg EItm w v L) (hi : TInv L next) :
    Calls Tryz.prog 16 #[.pointer (some ⟨g, 0, none⟩), .agg #[v, .int .i64 next]] w fun e w' => e = .returned (.bool true) ∧ Below w.heap.size w w' := by
  obtain ⟨a, c, rfl⟩ := ha.shape
  obtain ⟨hbw, ht0, ht1⟩ := rtree_laid (a := a) (c := c) (L := L) w next
  obtain ⟨W, hW⟩ : ∃ W, w.alloc (.cells #[.slice a L.length c, .int .i64 next] 29) = W := ⟨_, rfl⟩
  rw [hW] at hbw ht0 ht1
  have HM := Lib.hid (h.below hbw)
  have HA := Lib.hid (ha.below hbw)
  have HBW := Lib.hid hbw
  have hlen := hi.len
  clear h ha hbw
  go_enter Tryz.func16, Tryz.ntmps16
  go_wp2_with fail
  clear hW
  have HS := Lib.hid (show ∀ w', Below W.heap.size W w' → (w'.cell? ⟨w.heap.size, 0, none⟩ = some (.slice a L.length c) ∧ w'.cell? ⟨w.heap.size, 1, none⟩ = some (.int .i64 next)) from fun w' k => ⟨cell_later k ht0, cell_later k ht1⟩)
  go_region_held3 (fun w' => w'.cell? ⟨w.heap.size, 0, none⟩ = some (.slice a L.length c) ∧ w'.cell? ⟨w.heap.size, 1, none⟩ = some (.int .i64 next))
    (first | exact HS.out _ HB2.out | exact HS.out _ HB1.out | exact HS.out _ (Below.refl _ W).drew)
    (first
     | (go_at_call 22
        refine (tdirs_any (HM.out.below (Below.refl _ W).drew) hi).mono ?_
        rintro e w1 ⟨v1, rfl, hr1, hb1⟩
        have HB1 := Lib.hid ((Below.refl _ W).drew.trans hb1)
        have HR1 := Lib.hid hr1
        obtain ⟨a1, c1, rfl⟩ := hr1.shape
        clear hr1 hb1)
     | (go_at_call 45
        refine (rdirs_any w1 next (HA.out.below HB1.out) hi).mono ?_
        rintro e w2 ⟨v2, rfl, hr2, hb2⟩
        have HB2 := Lib.hid (HB1.out.trans (hb2.mono HB1.out.size))
        have HR2 := Lib.hid (HR1.out.below hb2)
        have HR3 := Lib.hid hr2
        obtain ⟨a2, c2, rfl⟩ := hr2.shape
        clear hr2 hb2))
  all_goals
    have hdl : (dirsT L).length ≤ 201 := by
      unfold dirsT
      exact Nat.le_trans (List.length_filter_le _ _) (by simp)
    obtain ⟨DD, hDD⟩ : ∃ DD, dirsT L = DD := ⟨_, rfl⟩
    rw [hDD] at hdl HR2 HR3
    rw [hDD]
    obtain ⟨hs0, hs1⟩ := HS.out _ HB2.out
    go_wp2_with fail
    have HM2 := Lib.hid (HM.out.below HB2.out.drew)
    have HSD := Lib.hid (show w2.drew.cell? ⟨w.heap.size, 0, none⟩ = some (.slice a L.length c) ∧ w2.drew.cell? ⟨w.heap.size, 1, none⟩ = some (.int .i64 next) from ⟨hs0, hs1⟩)
    go_region_held3 (fun w' => w'.cell? ⟨w.heap.size, 0, none⟩ = some (.slice a L.length c) ∧ w'.cell? ⟨w.heap.size, 1, none⟩ = some (.int .i64 next))
      (first | exact HSD.out)
      (first
       | (go_at_call 25
          refine (tcookie_any HM2.out).mono ?_
          rintro e w3 ⟨rfl, rfl⟩)
       | (go_at_call 26
          refine (tnodes_any HM2.out hi).mono ?_
          rintro e w3 ⟨rfl, rfl⟩))
    all_goals
      go_wp2_with fail
      have HB4 := Lib.hid (show Below W.heap.size W w2.drew from HB2.out.drew)
      have HR4 := Lib.hid (show Row EInt w2.drew W.drew.heap.size (.slice a1 DD.length c1) DD from HR2.out)
      have HR5 := Lib.hid (show Row EInt w2.drew w1.heap.size (.slice a2 DD.length c2) DD from HR3.out)
      have HDD := Lib.hid hDD
      generalize w2.drew = w4 at *
      clear hDD
      go_loopw [7] (fun iv wr => ∃ i : Nat, iv = .int .i64 i ∧ i ≤ DD.length ∧ Below w4.heap.size w4 wr) (fun iv _ => DD.length - (intOf iv).toNat)
      case atStart => exact ⟨0, rfl, Nat.zero_le _, Below.refl _ _⟩
      case round =>
        obtain ⟨i, rfl, hi2, hb⟩ := hrel
        have HB := Lib.hid hb
        have HBx := Lib.hid (HB4.out.trans (hb.mono HB4.out.size))
        clear hb
        obtain ⟨ht0, ht1⟩ := HS.out _ HBx.out
        by_cases hlt : i < DD.length
        · have i1 : (i : Int) < DD.length := by omega
          obtain ⟨x, hx⟩ : ∃ x, DD[i]? = some x := ⟨_, List.getElem?_eq_getElem hlt⟩
          obtain ⟨g1, off1, hg1, d1⟩ := int_cell HR4.out.arg i x hx
          obtain ⟨g2, off2, hg2, d2⟩ := int_cell HR5.out.arg i x hx
          subst hg1
          subst hg2
          have d1 := cell_later HB.out d1
          have d2 := cell_later HB.out d2
          have hdx : isDirB L x = true := by
            have := List.mem_of_getElem? hx
            rw [← HDD.out] at this
            unfold dirsT at this
            exact (List.mem_filter.1 this).2
          have HLE := Lib.hid (show listErr L x = 0 from by unfold listErr; rw [if_pos hdx])
          have HMr := Lib.hid (HM.out.below HBx.out)
          have HEL := Lib.hid (ents_len hi x)
          clear hx hdx
          go_wp2_with fail
          refine (tlist_any x HMr.out (by omega)).mono ?_
          rintro e w5 ⟨lv, l1, rfl, hr5, hle, hb5⟩
          have hle := hle HLE.out
          subst hle
          rw [HLE.out]
          have HB5 := Lib.hid (HB.out.trans (hb5.mono HB.out.size))
          have HBx5 := Lib.hid (HBx.out.trans (hb5.mono HBx.out.size))
          have HL1 := Lib.hid hr5
          obtain ⟨a5, c5, rfl⟩ := hr5.shape
          have d1 := cell_later hb5 d1
          have d2 := cell_later hb5 d2
          obtain ⟨ht0, ht1⟩ := HS.out _ HBx5.out
          clear hr5 hb5
          generalize hEN : entries L x = EN at *
          go_wp2_with fail
          have HS5 := Lib.hid (show ∀ w', Below w5.heap.size w5 w' → (w'.cell? ⟨w.heap.size, 0, none⟩ = some (.slice a L.length c) ∧ w'.cell? ⟨w.heap.size, 1, none⟩ = some (.int .i64 next) ∧ w'.cell? ⟨g2, off2 + i, none⟩ = some (.int .i64 x)) from fun w' k => ⟨cell_later k ht0, cell_later k ht1, cell_later k d2⟩)
          go_region_held3 (fun w' => w'.cell? ⟨w.heap.size, 0, none⟩ = some (.slice a L.length c) ∧ w'.cell? ⟨w.heap.size, 1, none⟩ = some (.int .i64 next) ∧ w'.cell? ⟨g2, off2 + i, none⟩ = some (.int .i64 x))
            (first | exact HS5.out _ HBB6.out | exact HS5.out _ (Below.refl _ w5).drew)
            (first
             | (go_at_call 46
                refine (rlist_any w5.drew next x (HA.out.below HBx5.out.drew) hi).mono ?_
                rintro e w6 ⟨rv, l2, rfl, hr6, hle2, -, hb6⟩
                have hle2 := hle2 HLE.out
                rw [hEN] at hle2
                rw [hle2] at hr6
                clear hle2
                rw [HLE.out]
                have HBB6 := Lib.hid ((Below.refl _ w5).drew.trans hb6)
                have HB6 := Lib.hid (HB5.out.trans (HBB6.out.mono HB5.out.size))
                have HBx6 := Lib.hid (HBx5.out.trans (HBB6.out.mono HBx5.out.size))
                have HL2 := Lib.hid (HL1.out.below HBB6.out)
                have HL3 := Lib.hid hr6
                obtain ⟨a6, c6, rfl⟩ := hr6.shape
                clear hr6 hb6))
          all_goals
            have e1 := cell_later HBB6.out d1
            have e2 := cell_later HBB6.out d2
            have HSM := Lib.hid (same_any w6.drew EN EN (HL2.out.arg.below (Below.refl _ w6).drew) (HL3.out.arg.below (Below.refl _ w6).drew) (by have := HEL.out; unfold maxLen; omega) (by have := HEL.out; unfold maxLen; omega))
            rw [decide_eq_true (rfl : EN = EN)] at HSM
            clear hEN d1 d2
            go_wp2_with fail
            have HS6 := Lib.hid (show ∀ w', Below w6.heap.size w6 w' → (w'.cell? ⟨g1, off1 + i, none⟩ = some (.int .i64 x) ∧ w'.cell? ⟨g2, off2 + i, none⟩ = some (.int .i64 x)) from fun w' k => ⟨cell_later k e1, cell_later k e2⟩)
            go_region_held3 (fun w' => w'.cell? ⟨g1, off1 + i, none⟩ = some (.int .i64 x) ∧ w'.cell? ⟨g2, off2 + i, none⟩ = some (.int .i64 x))
              (first | exact HS6.out _ HBB7.out | exact HS6.out _ (Below.refl _ w6).drew)
              (first
               | (go_at_call 47
                  refine HSM.out.mono ?_
                  rintro e w7 ⟨rfl, hb7⟩
                  have HBB7 := Lib.hid ((Below.refl _ w6).drew.trans hb7)
                  clear hb7))
            all_goals
              go_wp2_with fail
              exact ⟨⟨i + 1, by go_num, hlt, HB6.out.trans (HBB7.out.mono HB6.out.size)⟩, by simp [intOf]; omega⟩
        · have ei : i = DD.length := by omega
          subst ei
          have i2 : ¬ ((DD.length : Int) < DD.length) := by omega
          go_wp2_with fail
          go_ret
          exact ⟨rfl, HBW.out.trans (HBx.out.mono HBW.out.size)⟩
end Go.Proofs.YtolilbcpfdnkjaaGreat
