/- tree: Same. -/
import Derived.Test.YtolilbcpfdnkjaaGreatZBCL1
import Derived.Test.YtolilbcpfdnkjaaGreatZBUB
namespace Go.Proofs.YtolilbcpfdnkjaaGreat
open Go.RowKit
set_option linter.unusedSimpArgs false
set_option linter.unusedVariables false
set_option maxRecDepth 100000 in
set_option maxHeartbeats 2000000 in
theorem eqents_any {v1 v2 : Value} {l : List Ent} (w : World) (h1 : Arg EEnt w v1 l) (h2 : Arg EEnt w v2 l) (hl : l.length ≤ 1000000) :
    Calls Tryz.prog 44 #[v1, v2] w fun e w' => e = .returned (.bool true) ∧ Below w.heap.size w w' := by
  obtain ⟨a1, c1, rfl⟩ := h1.shape
  obtain ⟨a2, c2, rfl⟩ := h2.shape
  have H1 := Lib.hid h1
  have H2 := Lib.hid h2
  clear h1 h2
  go_enter Tryz.func44, Tryz.ntmps44
  go_wp2_with fail
  go_loopw [13] (fun iv wr => ∃ i : Nat, iv = .int .i64 i ∧ i ≤ l.length ∧ Below w.heap.size w wr) (fun iv _ => l.length - (intOf iv).toNat)
  case atStart => exact ⟨0, rfl, Nat.zero_le _, Below.refl _ _⟩
  case round =>
    obtain ⟨i, rfl, hi, hb⟩ := hrel
    by_cases hlt : i < l.length
    · have i1 : (i : Int) < l.length := by omega
      obtain ⟨x, hx⟩ : ∃ x, l[i]? = some x := ⟨_, List.getElem?_eq_getElem hlt⟩
      obtain ⟨g1, o1, rfl, -, p0, p1, p2, p3, p4⟩ := ent_cells (H1.out.below hb) i x hx
      obtain ⟨g2, o2, rfl, -, q0, q1, q2, q3, q4⟩ := ent_cells (H2.out.below hb) i x hx
      have hne : ∀ w : World, (binOp .neq 84 x.val x.val).run Tryz.prog w = .ok (.bool false) w := fun w => by have := neq_ent x x w; rw [decide_eq_true rfl] at this; exact this
      have HB := Lib.hid hb
      clear hb hx
      go_wp2_with fail
      go_quiet (fail)
      have hbq : Below wr.heap.size wr (wr.drewN nq) := ⟨rfl, rfl, rfl, Nat.le_refl _, fun _ _ => rfl⟩
      have HBQ := Lib.hid (HB.out.trans (hbq.mono HB.out.size))
      clear hbq
      go_wp2_with fail
      exact ⟨⟨i + 1, by go_num, hlt, HBQ.out⟩, by simp [intOf]; omega⟩
    · have ei : i = l.length := by omega
      subst ei
      have i2 : ¬ ((l.length : Int) < l.length) := by omega
      go_wp2_with fail
      go_ret
      exact ⟨rfl, hb⟩
set_option maxRecDepth 100000 in
set_option maxHeartbeats 2000000 in
theorem eqmap_any {b1 b2 : Nat} {D1 D2 : List (Int × DE)} (w : World) (h1 : IMap encDE w b1 D1) (h2 : IMap encDE w b2 D2) (r1 : ∀ x ∈ D1, RowO EEnt w 0 x.2.1 x.2.2) (r2 : ∀ x ∈ D2, RowO EEnt w 0 x.2.1 x.2.2)
    (hl : D1.length = D2.length) (hh : ∀ k v l, mget D1 k = some (v, l) → ∃ v', mget D2 k = some (v', l)) (ml : ∀ x ∈ D1, x.2.2.length ≤ 1000000) :
    Calls Tryz.prog 43 #[.map (some b1), .map (some b2), .func (.func 44) #[] #[]] w fun e w' => e = .returned (.bool true) ∧ Below w.heap.size w w' := by
  have l1 := fun ty => h1.len (P := Tryz.prog) Tryz.underlying53 ty
  have l2 := fun ty => h2.len (P := Tryz.prog) Tryz.underlying53 ty
  rw [← hl] at l2
  have H1 := Lib.hid h1
  have H2 := Lib.hid h2
  have R1 := Lib.hid r1
  have R2 := Lib.hid r2
  have HH := Lib.hid hh
  have ML := Lib.hid ml
  clear h2 r1 r2 hh ml hl
  go_enter Tryz.func43, Tryz.ntmps43
  go_wp2_with (first | (at_range; refine map_range (enc := encDE) rfl _ 53 rfl _ _ Tryz.underlying53 rfl H1.out ?_; intro w4 hir hb4 hs4) | go_in)
  go_frame
  clear l1 l2 h1
  have HIR4 := Lib.hid hir
  have HB4 := Lib.hid hb4
  clear hir hb4 hs4
  go_loopw [7] (fun _ wr => ∃ left, IRange encDE wr b1 w.heap.size D1 left ∧ Below w.heap.size w wr) (fun _ wr => wr.rangeLeft b1 w.heap.size)
  case atStart => exact ⟨_, HIR4.out, HB4.out⟩
  case round =>
    obtain ⟨left, hir, hbw⟩ := hrel
    clear HIR4 HB4
    have HIR := Lib.hid hir
    have HBW := Lib.hid hbw
    clear hir hbw
    go_wp2_with (first
      | (at_next; refine map_next (enc := encDE) rfl _ rfl rfl HIR.out ?_ ?_)
      | go_in)
    · intro hl0
      go_wp2_with fail
      go_ret
      exact ⟨rfl, HBW.out⟩
    · intro k xv xl w5 hgk hlk hir5 hlt5 hk5 hen
      have hb5 : Below w.heap.size w w5 := HBW.out.trans (hk5.toBelow HBW.out.size (fun i q => by omega))
      obtain ⟨yv, hy⟩ := HH.out k xv xl hgk
      have m1 := mget_mem hgk
      have m2 := mget_mem hy
      have q1 : RowO EEnt w5 0 xv xl := (R1.out _ m1).below hb5
      have q2 : RowO EEnt w5 0 yv xl := (R2.out _ m2).below hb5
      have hlu := (H2.out.keep (Keep.below hb5) (fun q => by have := H2.out.lt; omega)).lookup (P := Tryz.prog) Tryz.underlying53 Tryz.underlying3 zero_ents k true
      rw [hy] at hlu
      simp only [if_true, encDE] at hlu
      have HCL := Lib.hid (eqents_any w5 q1.arg q2.arg (ML.out _ m1))
      have HB5 := Lib.hid hb5
      have HIR5 := Lib.hid hir5
      have HLT5 := Lib.hid hlt5
      obtain ⟨xa, xc, rfl⟩ := q1.shape
      obtain ⟨ya, yc, rfl⟩ := q2.shape
      clear hgk hlk hir5 hlt5 hk5 hb5 hy m1 m2 q1 q2
      simp only [encDE] at hen ⊢
      go_wp2_with fail
      refine HCL.out.mono ?_
      rintro e w6 ⟨rfl, hb6⟩
      go_wp2_with fail
      obtain ⟨hir6, hrl6⟩ := HIR5.out.keep (Keep.below hb6) (fun q => by have := H1.out.lt; have := HB5.out.size; omega) (fun q => by have := HIR5.out.lt; omega)
      exact ⟨⟨_, hir6, HB5.out.trans (hb6.mono HB5.out.size)⟩, by rw [hrl6]; exact HLT5.out⟩
set_option maxRecDepth 100000 in
set_option maxHeartbeats 2000000 in
/-- Two trees with the same items are the same. -/
theorem tsame_any {w : World} {F1 F2 : Nat → Prop} {g1 g2 : Nat} {L : List Itm} {next : Int} (h1 : TreeM w F1 g1 L next) (h2 : TreeM w F2 g2 L next) (hl : L.length ≤ 100000) :
    Calls Tryz.prog 15 #[.pointer (some ⟨g1, 0, none⟩), .pointer (some ⟨g2, 0, none⟩)] w fun e w' => e = .returned (.bool true) ∧ Below w.heap.size w w' := by
  obtain ⟨bd1, bf1, gp1, bp1, vp1, D1, Fm1, p1, rfl, h1, hr1⟩ := h1
  obtain ⟨bd2, bf2, gp2, bp2, vp2, D2, Fm2, p2, rfl, h2, hr2⟩ := h2
  have c0 : w.cell? ⟨g1, 0, none⟩ = some (.map (some bd1)) := (m_cells h1.blk).1 0
  have c3 : w.cell? ⟨g1, 3, none⟩ = some (.int .i64 next) := (m_cells h1.blk).1 3
  have d0 : w.cell? ⟨g2, 0, none⟩ = some (.map (some bd2)) := (m_cells h2.blk).1 0
  have d3 : w.cell? ⟨g2, 3, none⟩ = some (.int .i64 next) := (m_cells h2.blk).1 3
  have hkeys : ∀ {D : List (Int × DE)} {Fm : List (Int × Int)} {p : PD}, TRep D Fm p L → ∀ x, x ∈ mkeys D ↔ isDirB L x = true := fun {D Fm p} hr x => by
    constructor
    · intro q
      cases c : isDirB L x with
      | true => rfl
      | false => exact absurd q ((mget_none_iff D x).1 (hr.r2 x c))
    · intro q
      obtain ⟨v, hv⟩ := hr.r1 x q
      by_cases c : x ∈ mkeys D
      · exact c
      · rw [(mget_none_iff D x).2 c] at hv; cases hv
  have hlen : D1.length = D2.length := by
    have := ((List.perm_ext_iff_of_nodup h1.dm.nodup h2.dm.nodup).2 (fun x => by rw [hkeys hr1, hkeys hr2])).length_eq
    simpa [mkeys] using this
  have hval : ∀ {D : List (Int × DE)} {Fm : List (Int × Int)} {p : PD}, TRep D Fm p L → ∀ k v l, mget D k = some (v, l) → isDirB L k = true ∧ l = entries L k := fun {D Fm p} hr k v l e => by
    cases hb : isDirB L k with
    | false => rw [hr.r2 _ hb] at e; cases e
    | true =>
      obtain ⟨v', hv⟩ := hr.r1 _ hb
      rw [e] at hv
      exact ⟨rfl, congrArg Prod.snd (Option.some.inj hv)⟩
  have HEQ := Lib.hid (fun (W : World) (hb : Below w.heap.size w W) => eqmap_any W (h1.below hb).dm (h2.below hb).dm (h1.below hb).rows (h2.below hb).rows hlen (fun k v l e => by
    obtain ⟨q1, rfl⟩ := hval hr1 k v l e
    exact hr2.r1 k q1) (fun x hx => by
    obtain ⟨_, e⟩ := hval hr1 x.1 x.2.1 x.2.2 (mget_of_mem h1.dm.nodup hx)
    rw [e]
    unfold entries; rw [List.length_map]
    exact Nat.le_trans (List.length_filter_le _ _) (by omega)))
  clear h1 h2 hr1 hr2 hkeys hlen hval
  go_enter Tryz.func15, Tryz.ntmps15
  go_wp2_with fail
  have HS := Lib.hid (show ∀ w', Below w.heap.size w w' → (w'.cell? ⟨g1, 0, none⟩ = some (.map (some bd1)) ∧ w'.cell? ⟨g1, 3, none⟩ = some (.int .i64 next) ∧ w'.cell? ⟨g2, 0, none⟩ = some (.map (some bd2)) ∧ w'.cell? ⟨g2, 3, none⟩ = some (.int .i64 next)) from fun w' k => ⟨cell_later k c0, cell_later k c3, cell_later k d0, cell_later k d3⟩)
  go_region_held3 (fun w' => w'.cell? ⟨g1, 0, none⟩ = some (.map (some bd1)) ∧ w'.cell? ⟨g1, 3, none⟩ = some (.int .i64 next) ∧ w'.cell? ⟨g2, 0, none⟩ = some (.map (some bd2)) ∧ w'.cell? ⟨g2, 3, none⟩ = some (.int .i64 next))
    (first | exact HS.out _ HBB1.out | exact HS.out _ (show Below w.heap.size w _ from (by repeat (first | exact Below.refl _ _ | assumption | (refine Below.drew ?_) | (refine below_drewN ?_ _) | (refine Below.alloc ?_ (by simp; done) _) | (refine Below.alloc ?_ (by simp; omega) _)))))
    (first
     | (go_at_call 43
        refine (HEQ.out w.drew (Below.refl _ w).drew).mono ?_
        rintro e w1 ⟨rfl, hb1⟩
        have HBB1 := Lib.hid ((Below.refl _ w).drew.trans hb1)
        clear hb1))
  all_goals
    go_wp2
    go_ret
    exact ⟨rfl, HBB1.out⟩
end Go.Proofs.YtolilbcpfdnkjaaGreat
