/- Lemmas, texts CL1 SM1; no condition beyond those that each states. -/
import Derived.Test.YtolilbcpfdnkjaaGreatZBI4x
import Derived.Test.YtolilbcpfdnkjaaGreatZBMR
import Derived.Test.YtolilbcpfdnkjaaGreatZBUB
import Derived.Outline
import Derived.Deep.Cut
import Derived.Deep.RegionHeld3
/- tree: Clone. -/
namespace Go.Proofs.YtolilbcpfdnkjaaGreat
open Go.RowKit
set_option linter.unusedSimpArgs false
set_option linter.unusedVariables false
/-- A clone: a tree of blocks of its own. -/
def TClonePost (w : World) (L : List Itm) (next : Int) (e : Ending) (w' : World) : Prop := ∃ (g : Nat) (F : Nat → Prop), e = .returned (.pointer (some ⟨g, 0, none⟩)) ∧ TreeM w' F g L next ∧ (∀ k, F k → w.heap.size ≤ k) ∧ Below w.heap.size w w'
/-- The clone's block is laid: no directory stands in it yet. -/
theorem clone_mat {w wx : World} {bd bf gp bp : Nat} {vp : Value} {Fm : List (Int × Int)} {p : PD} {next : Int} (hb : Below w.heap.size w wx) (hd : IMap encDE wx bd []) (hf : IMap (Value.int .i64) wx bf Fm) (hp : PAt wx gp vp bp p) (hi : PInv p) (hm : p.most = 200)
    (h1 : w.heap.size ≤ bd) (h2 : w.heap.size ≤ bf) (h3 : ∀ k, pfoot gp vp bp k → w.heap.size ≤ k ∧ k ≠ bd ∧ k ≠ bf) (h4 : bf ≠ bd) {G : Nat} (hG : wx.heap.size = G) :
    MAt (wx.alloc (.cells #[.map (some bd), .map (some bf), .pointer (some ⟨gp, 0, none⟩), .int .i64 next] 79)) G bd bf gp bp vp [] Fm p next ∧
    (∀ k, tfoot G bd bf gp bp vp [] k → w.heap.size ≤ k) ∧ Below w.heap.size w (wx.alloc (.cells #[.map (some bd), .map (some bf), .pointer (some ⟨gp, 0, none⟩), .int .i64 next] 79)) := by
  subst hG
  have k22 : Below wx.heap.size wx (wx.alloc (.cells #[.map (some bd), .map (some bf), .pointer (some ⟨gp, 0, none⟩), .int .i64 next] 79)) := (Below.refl _ _).alloc (Nat.le_refl _) _
  have l1 := hd.lt
  have l2 := hf.lt
  have l3 := m_lt hp.blk
  have l4 := hp.mp.lt
  have l5 : ∀ k, pfoot gp vp bp k → k < wx.heap.size := fun k q => by
    rcases q with q | q | q
    · omega
    · omega
    · exact (World.ownsRow.lt hp.row k q.symm).2
  refine ⟨⟨m_alloc _ _ _ rfl, hd.keep (Keep.below k22) (fun q => by omega), hf.keep (Keep.below k22) (fun q => by omega),
      ⟨m_keep hp.blk (Keep.below k22) (fun q => by omega), World.ownsRow.alloc hp.row _, hp.mp.keep (Keep.below k22) (fun q => by omega), hp.ne1, hp.ne2, hp.ne3⟩, hi, hm,
      fun x hx => (by cases hx), ⟨by omega, by omega, h4⟩, fun k q => ⟨by have := l5 k q; omega, (h3 k q).2⟩, fun x hx => (by cases hx)⟩, fun k q => ?_, hb.alloc hb.size _⟩
  rcases q with q | q | q | q | ⟨x, hx, _⟩
  · have := hb.size; omega
  · omega
  · omega
  · exact (h3 k q).1
  · cases hx
def CloneMid (w : World) (Fm : List (Int × Int)) (p : PD) (next : Int) (s3 : Value) (wx : World) : Prop :=
  ∃ g bd bf gp bp vp, s3 = .pointer (some ⟨g, 0, none⟩) ∧ MAt wx g bd bf gp bp vp [] Fm p next ∧ (∀ k, tfoot g bd bf gp bp vp [] k → w.heap.size ≤ k) ∧ Below w.heap.size w wx
theorem below_alloc2 {B : Nat} {w w' : World} (h : Below B w w') (hB : B ≤ w'.heap.size) (o o' : Obj) : Below B w ((w'.alloc o).alloc o') := (h.alloc hB o).alloc (by simp; omega) o'
theorem plat {w : World} {gp bp : Nat} {vp : Value} {p : PD} {o : Obj} (hp : PAt w gp vp bp p) : PAt (w.alloc o) gp vp bp p :=
  ⟨m_old _ hp.blk, World.ownsRow.alloc hp.row _, hp.mp.keep (F := fun _ => False) ((Keep.refl _ w).alloc _) (fun q => q), hp.ne1, hp.ne2, hp.ne3⟩
theorem pfoot_lt {w : World} {gp bp k : Nat} {vp : Value} {p : PD} (hp : PAt w gp vp bp p) (q : pfoot gp vp bp k) : k < w.heap.size := by
  rcases q with q | q | q
  · have := m_lt hp.blk; omega
  · have := hp.mp.lt; omega
  · exact (World.ownsRow.lt hp.row k q.symm).2
theorem clfoot {gp bp : Nat} {vp : Value} {n k : Nat} (h1 : n ≤ gp) (h2 : n ≤ bp) (h3 : ∀ k, vp.ownBlock = some k → n ≤ k) (h : pfoot gp vp bp k) : n ≤ k := by
  rcases h with q | q | q
  · omega
  · omega
  · exact h3 k q.symm
/-- The loop of Clone. -/
def CloneT (w : World) (r bd : Nat) (D : List (Int × DE)) (g bdn bfn gpn bpn : Nat) (vpn : Value) (Fm : List (Int × Int)) (p : PD) (next : Int) (wr : World) : Prop :=
  ∃ (left : Int → Bool) (D' : List (Int × DE)), IRange encDE wr bd r D left ∧ MAt wr g bdn bfn gpn bpn vpn D' Fm p next ∧ (∀ k, tfoot g bdn bfn gpn bpn vpn D' k → w.heap.size ≤ k ∧ k ≠ r) ∧ Below w.heap.size w wr ∧
    (∀ d v l, mget D d = some (v, l) → left d = false → ∃ v', mget D' d = some (v', l)) ∧ (∀ d, mget D d = none → mget D' d = none)
set_option maxRecDepth 100000 in
set_option maxHeartbeats 4000000 in
theorem tclone_any {w : World} {F : Nat → Prop} {g : Nat} {L : List Itm} {next : Int} (h : TreeM w F g L next) (hl : L.length ≤ 100000) :
    Calls Tryz.prog 12 #[.pointer (some ⟨g, 0, none⟩)] w (TClonePost w L next) := by
  obtain ⟨bd, bf, gp, bp, vp, D, Fm, p, rfl, h, hr⟩ := h
  have c0 : w.cell? ⟨g, 0, none⟩ = some (.map (some bd)) := (m_cells h.blk).1 0
  have c1 : w.cell? ⟨g, 1, none⟩ = some (.map (some bf)) := (m_cells h.blk).1 1
  have c2 : w.cell? ⟨g, 2, none⟩ = some (.pointer (some ⟨gp, 0, none⟩)) := (m_cells h.blk).1 2
  have c3 : w.cell? ⟨g, 3, none⟩ = some (.int .i64 next) := (m_cells h.blk).1 3
  have HM := Lib.hid h
  have HR := Lib.hid hr
  have HBD := Lib.hid h.dm.lt
  have HLN := Lib.hid (show ∀ x ∈ D, x.2.2.length ≤ 100000 from fun x hx => by
    have hg := mget_of_mem h.dm.nodup hx
    cases hb : isDirB L x.1 with
    | false => rw [hr.r2 _ hb] at hg; cases hg
    | true =>
      obtain ⟨v, hv⟩ := hr.r1 _ hb
      rw [hg] at hv
      have hx2 : x.2.2 = entries L x.1 := congrArg Prod.snd (Option.some.inj hv)
      rw [hx2]
      unfold entries; rw [List.length_map]
      exact Nat.le_trans (List.length_filter_le _ _) hl)
  clear h hr
  go_enter Tryz.func12, Tryz.ntmps12
  obtain ⟨es, clock, hmb, hcopy⟩ := HM.out.fm.copy
  have HMB := Lib.hid hmb
  have HCO := Lib.hid hcopy
  have HS := Lib.hid (show ∀ w', Below w.heap.size w w' → (w'.cell? ⟨g, 0, none⟩ = some (.map (some bd)) ∧ w'.cell? ⟨g, 1, none⟩ = some (.map (some bf)) ∧ w'.cell? ⟨g, 2, none⟩ = some (.pointer (some ⟨gp, 0, none⟩)) ∧ w'.cell? ⟨g, 3, none⟩ = some (.int .i64 next)) from fun w' k => ⟨cell_later k c0, cell_later k c1, cell_later k c2, cell_later k c3⟩)
  have hblt := HM.out.fm.lt
  clear hmb hcopy
  have hmm := @run_makeMap Tryz.prog
  go_wp2_with fail
  go_cut [3] from 1000 (fun s3 wx => CloneMid w Fm p next s3 wx)
  case first =>
    go_region_held3 (fun w' => w'.cell? ⟨g, 0, none⟩ = some (.map (some bd)) ∧ w'.cell? ⟨g, 1, none⟩ = some (.map (some bf)) ∧ w'.cell? ⟨g, 2, none⟩ = some (.pointer (some ⟨gp, 0, none⟩)) ∧ w'.cell? ⟨g, 3, none⟩ = some (.int .i64 next))
      (first | exact HS.out _ HBB2.out | exact HS.out _ (HBB2.out.alloc HBB2.out.size _) | exact HS.out _ (below_alloc2 HBB2.out HBB2.out.size _ _) | exact HS.out _ HBB1.out | exact HS.out _ (HBB1.out.alloc HBB1.out.size _) | exact HS.out _ (show Below w.heap.size w _ from (by repeat (first | exact Below.refl _ _ | assumption | (refine Below.drew ?_) | (refine below_drewN ?_ _) | (refine Below.alloc ?_ (by simp; done) _) | (refine Below.alloc ?_ (by simp; omega) _)))))
      (first
       | (go_at_call 35
          refine (mclone_any bf es clock w.drew HMB.out).mono ?_
          rintro e w1 ⟨rfl, hw1⟩
          have HF1 := Lib.hid (HCO.out w1 w.heap.size (by rw [hw1]; exact m_alloc w.drew _ _ rfl))
          have HBB1 := Lib.hid (show Below w.heap.size w w1 from by rw [hw1]; exact (Below.refl _ w).drew.alloc (Nat.le_refl _) _)
          have hs1 : w1.heap.size = w.heap.size + 1 := by rw [hw1]; show (w.alloc _).heap.size = _; simp
          have HSZ1 := Lib.hid hs1
          have LATE : True := trivial
          clear hw1 hs1)
       | (go_at_call 35
          refine (mclone_any bf es clock (w.alloc _).drew ((Below.heap_alloc _ _ _ hblt).trans HMB.out)).mono ?_
          rintro e w1 ⟨rfl, hw1⟩
          have HF1 := Lib.hid (HCO.out w1 (w.heap.size + 1) (by rw [hw1]; exact m_alloc _ _ _ (by show (w.alloc _).heap.size = _; simp)))
          have HD1 := Lib.hid (show IMap encDE w1 w.heap.size [] from by
            rw [hw1]
            exact (IMap.new (enc := encDE) w).keep (F := fun _ => False) ((Keep.refl _ _).drew.alloc _) (fun q => q))
          have HBB1 := Lib.hid (show Below w.heap.size w w1 from by rw [hw1]; exact ((Below.refl _ w).alloc (Nat.le_refl _) _).drew.alloc (by show w.heap.size ≤ (w.alloc _).heap.size; simp) _)
          have hs1 : w1.heap.size = w.heap.size + 2 := by rw [hw1]; show ((w.alloc _).alloc _).heap.size = _; simp
          have HSZ1 := Lib.hid hs1
          have EARLY : True := trivial
          have hpp : (w.alloc (.map #[] 0)).drew.heap.size = w.heap.size + 1 := by show (w.alloc _).heap.size = _; simp
          rw [hpp]
          clear hw1 hs1 hpp)
       | (go_at_call 36
          have _hh := EARLY
          refine (clone_any w1 gp bp vp p (HM.out.below HBB1.out).pl HM.out.inv).mono ?_
          rintro e w2 ⟨gq, bq, vq, rfl, hp, q1, q2, q3, hb2⟩
          have HBB2 := Lib.hid (HBB1.out.trans (hb2.mono HBB1.out.size))
          have HP := Lib.hid hp
          have HD2 := Lib.hid (HD1.out.keep (Keep.below hb2) (fun q => by have := HSZ1.out; omega))
          have HF2 := Lib.hid (HF1.out.keep (Keep.below hb2) (fun q => by have := HSZ1.out; omega))
          have HFT := Lib.hid (fun k (q : pfoot gq vq bq k) => clfoot q1 q2 q3 q)
          clear hp q1 q2 q3 hb2)
       | (go_at_call 36
          have _hh := LATE
          refine (clone_any w1 gp bp vp p (HM.out.below HBB1.out).pl HM.out.inv).mono ?_
          rintro e w2 ⟨gq, bq, vq, rfl, hp, q1, q2, q3, hb2⟩
          have LAST : True := trivial
          have HBB2 := Lib.hid (HBB1.out.trans (hb2.mono HBB1.out.size))
          have HP := Lib.hid hp
          have HF2 := Lib.hid (HF1.out.keep (Keep.below hb2) (fun q => by have := HSZ1.out; omega))
          have HFT := Lib.hid (fun k (q : pfoot gq vq bq k) => clfoot q1 q2 q3 q)
          clear hp q1 q2 q3 hb2)
       | (go_at_call 36
          have _hh := LATE
          have HBBA := Lib.hid (HBB1.out.alloc HBB1.out.size (.map #[] 0))
          refine (clone_any (w1.alloc (.map #[] 0)) gp bp vp p (HM.out.below HBBA.out).pl HM.out.inv).mono ?_
          rintro e w2 ⟨gq, bq, vq, rfl, hp, q1, q2, q3, hb2⟩
          have MIDD : True := trivial
          have HBB2 := Lib.hid (HBBA.out.trans (hb2.mono HBBA.out.size))
          have HP := Lib.hid hp
          have hss : (w1.alloc (.map #[] 0)).heap.size = w1.heap.size + 1 := by simp
          have HD2 := Lib.hid ((IMap.new (enc := encDE) w1).keep (Keep.below hb2) (fun q => by omega))
          have HF2 := Lib.hid ((HF1.out.keep (F := fun _ => False) ((Keep.refl _ w1).alloc (.map #[] 0)) (fun q => q)).keep (Keep.below hb2) (fun q => by have := HSZ1.out; omega))
          have HFT := Lib.hid (fun k (q : pfoot gq vq bq k) => clfoot q1 q2 q3 q)
          have HSS := Lib.hid hss
          clear hp q1 q2 q3 hb2 hss))
    all_goals
      go_wp2
      go_meet
      case rel =>
        first
        | (have _hh := EARLY; exact ⟨_, _, _, _, _, _, rfl, clone_mat HBB2.out HD2.out HF2.out HP.out HM.out.inv HM.out.most (Nat.le_refl _) (Nat.le_succ _) (fun k q => by have := HFT.out k q; have := HSZ1.out; exact ⟨by omega, by omega, by omega⟩) (by omega) rfl⟩)
        | (have _hh := MIDD; exact ⟨_, _, _, _, _, _, rfl, clone_mat HBB2.out HD2.out HF2.out HP.out HM.out.inv HM.out.most HBB1.out.size (Nat.le_refl _) (fun k q => by have := HFT.out k q; have := HSZ1.out; have := HSS.out; exact ⟨by omega, by omega, by omega⟩) (by have := HSZ1.out; omega) rfl⟩)
        | (have _hh := LAST; exact ⟨_, _, _, _, _, _, rfl, clone_mat (HBB2.out.alloc HBB2.out.size (.map #[] 0)) (IMap.new (enc := encDE) w2) (HF2.out.keep (F := fun _ => False) ((Keep.refl _ w2).alloc (.map #[] 0)) (fun q => q)) (plat HP.out) HM.out.inv HM.out.most HBB2.out.size (Nat.le_refl _) (fun k q => by have := HFT.out k q; have := HSZ1.out; have := pfoot_lt HP.out q; exact ⟨by omega, by omega, by omega⟩) (by have := HF2.out.lt; omega) (by simp)⟩)
  case rest =>
    rename World => w3
    obtain ⟨gn, bdn, bfn, gpn, bpn, vpn, rfl, hmat, hfr, hb3⟩ := hcut
    have c0' := cell_later hb3 c0
    have hD3 := (HM.out.below hb3).dm
    have HMT := Lib.hid hmat
    have HFR := Lib.hid hfr
    have HB3 := Lib.hid hb3
    clear hmat hfr hb3 hmm c1 c2 c3
    go_wp2_with (at_range; refine map_range (enc := encDE) rfl _ 53 rfl _ _ Tryz.underlying53 rfl hD3 ?_; intro w4 hir hb4 hs4)
    go_frame
    have HB4 := Lib.hid (HB3.out.trans (hb4.mono HB3.out.size))
    have hst : CloneT w w3.heap.size bd D gn bdn bfn gpn bpn vpn Fm p next w4 := by
      refine ⟨_, [], hir, HMT.out.below hb4, fun k q => ⟨HFR.out k q, by have := HMT.out.foot_lt q; omega⟩, HB4.out, fun d v l e q => ?_, fun d e => rfl⟩
      have := mget_mem e
      simp only [decide_eq_false_iff_not] at q
      exact absurd (List.mem_map_of_mem (f := Prod.fst) this) q
    have HST := Lib.hid hst
    have HR3 := Lib.hid HB3.out.size
    clear hst hir hb4 hD3 HB4 hs4
    go_loopw [4] (fun _ wr => CloneT w w3.heap.size bd D gn bdn bfn gpn bpn vpn Fm p next wr) (fun _ wr => wr.rangeLeft bd w3.heap.size)
    case atStart => exact HST.out
    case round =>
      obtain ⟨left, D', hir, hmt, hfr, hbw, hj1, hj2⟩ := hrel
      clear HST HMT HFR HB3
      have HIR := Lib.hid hir
      have HMT := Lib.hid hmt
      have HFR := Lib.hid hfr
      have HBW := Lib.hid hbw
      have HJ1 := Lib.hid hj1
      have HJ2 := Lib.hid hj2
      clear hir hmt hfr hbw hj1 hj2
      go_wp2_with (first
        | (at_next; refine map_next (enc := encDE) rfl _ rfl rfl HIR.out ?_ ?_)
        | go_in)
      · intro hl0
        go_wp2_with fail
        go_ret
        refine ⟨gn, _, rfl, ⟨_, _, _, _, _, _, _, _, rfl, HMT.out, ?_⟩, fun k q => (HFR.out k q).1, HBW.out⟩
        refine ⟨fun d hd => ?_, fun d hd => HJ2.out d (HR.out.r2 d hd), HR.out.r3, HR.out.r4⟩
        obtain ⟨v, hv⟩ := HR.out.r1 d hd
        obtain ⟨v', hv'⟩ := HJ1.out d v _ hv (hl0 d)
        exact ⟨v', hv'⟩
      · intro k xv xl w5 hgk hlk hir5 hlt5 hk5 hen
        have hmem := mget_mem hgk
        have hfw : ∀ i, tfoot gn bdn bfn gpn bpn vpn D' i → ¬ i = w3.heap.size := fun i q => (HFR.out i q).2
        have hmt5 := HMT.out.keep hk5 hfw
        have hbw5 : Below w.heap.size w w5 := HBW.out.trans (hk5.toBelow HBW.out.size (fun i q => by subst q; exact HR3.out))
        have hrow := (HM.out.below hbw5).rows _ hmem
        have hrow : RowO EEnt w5 0 xv xl := hrow
        have hln : xl.length ≤ 100000 := HLN.out _ hmem
        have g0 : w5.cell? ⟨gn, 0, none⟩ = some (.map (some bdn)) := (m_cells hmt5.blk).1 0
        have HS5 := Lib.hid (show ∀ w', Keep (fun i => i = bdn) w5 w' → w'.cell? ⟨gn, 0, none⟩ = some (.map (some bdn)) from fun w' k => (m_cells (m_keep hmt5.blk k (fun e => hmt5.s1.1 e.symm))).1 0)
        have HCL := Lib.hid (show ∀ W, Below w5.heap.size w5 W → Calls Tryz.prog 37 #[xv] W (fun e w' => ∃ v', e = .returned v' ∧ Row EEnt w' W.heap.size v' xl ∧ Below W.heap.size W w') from fun W hb => eclone_any (l := xl) W (hrow.arg.below hb) (by omega))
        have HMT5 := Lib.hid hmt5
        have HB5 := Lib.hid hbw5
        have HIR5 := Lib.hid hir5
        have HK5 := Lib.hid hk5
        have HGK := Lib.hid hgk
        have HLK := Lib.hid hlk
        have HLT5 := Lib.hid hlt5
        obtain ⟨xa, xc, rfl⟩ := hrow.shape
        clear hmem hfw hmt5 hbw5 hrow hir5 hk5 hgk hlk hlt5 c0'
        simp only [encDE] at hen ⊢
        go_wp2_with fail
        go_region_held3 (fun w' => w'.cell? ⟨gn, 0, none⟩ = some (.map (some bdn)))
          (first | exact HS5.out _ hk7 | exact HS5.out _ hk6 | exact HS5.out _ ((Keep.refl _ _).drew))
          (first
           | (go_at_call 37
              refine (HCL.out w5.drew (Below.refl _ w5).drew).mono ?_
              rintro e w6 ⟨v6, rfl, hr6, hb6⟩
              have hb6 : Below w5.heap.size w5 w6 := (Below.refl _ w5).drew.trans hb6
              have hr6 : Row EEnt w6 w5.heap.size v6 xl := hr6
              have hk6 : Keep (fun i => i = bdn) w5 w6 := (Keep.below hb6).mono (fun i q => Or.inr q)
              obtain ⟨w7, hrun, hm7, hk7'⟩ := (HMT5.out.below hb6).dm.update (P := Tryz.prog) Tryz.underlying53 Tryz.underlying3 k (v6, xl)
              simp only [encDE] at hrun
              have hk7 : Keep (fun i => i = bdn) w5 w7 := hk6.trans hk7'
              have HM7 := Lib.hid hm7
              have HR6 := Lib.hid hr6
              have HKK := Lib.hid hk7'
              have hb6s := hb6.size
              clear hm7 hr6 hk7' hb6))
        all_goals
          go_wp2_with fail
          have hbdn : w.heap.size ≤ bdn ∧ bdn ≠ w3.heap.size := HFR.out bdn (Or.inr (Or.inl rfl))
          obtain ⟨hir7, hrl7⟩ := HIR5.out.keep hk7 (fun e => by have := HBD.out; omega) (fun e => hbdn.2 e.symm)
          refine ⟨⟨_, _, hir7, HMT5.out.turned (hk7.mono (fun i q => Or.inl (Or.inr q))) (m_keep HMT5.out.blk hk7 (fun e => HMT5.out.s1.1 e.symm)) HM7.out
            (RowO.of_row ((HR6.out.keep HKK.out (fun i hi e => by have := HR6.out.ge hi; have := HMT5.out.dm.lt; omega)).mono (Nat.zero_le _))) (fun i hi => HR6.out.ge hi), fun i q => ?_, HB5.out.trans (hk7.toBelow HB5.out.size (fun i q => by omega)), fun d v l e q => ?_, fun d e => ?_⟩, ?_⟩
          · rcases q with q | q | q | q | ⟨x, hx, q⟩
            · exact HFR.out i (Or.inl q)
            · exact HFR.out i (Or.inr (Or.inl q))
            · exact HFR.out i (Or.inr (Or.inr (Or.inl q)))
            · exact HFR.out i (Or.inr (Or.inr (Or.inr (Or.inl q))))
            · rcases mem_mput_de hx with z | z
              · exact HFR.out i (Or.inr (Or.inr (Or.inr (Or.inr ⟨x, z, q⟩))))
              · rw [z] at q
                have h1 := HR6.out.ge q
                have h2 := HB5.out.size
                have h3 := HIR5.out.lt
                omega
          · rw [mget_put]
            by_cases ed : d = k
            · subst ed
              rw [HGK.out] at e
              simp only [Option.some.injEq, Prod.mk.injEq] at e
              exact ⟨_, by rw [if_pos rfl, e.2]⟩
            · rw [if_neg ed]
              exact HJ1.out d v l e (by simpa [ed] using q)
          · rw [mget_put]
            have ed : d ≠ k := fun q => by rw [q, HGK.out] at e; cases e
            rw [if_neg ed]
            exact HJ2.out d e
          · rw [hrl7]; exact HLT5.out
end Go.Proofs.YtolilbcpfdnkjaaGreat

/- tree: Same. -/
namespace Go.Proofs.YtolilbcpfdnkjaaGreat
open Go.RowKit
set_option linter.unusedSimpArgs false
set_option linter.unusedVariables false
set_option maxRecDepth 100000 in
set_option maxHeartbeats 2000000 in
theorem eqents_any {v1 v2 : Value} {l : List Ent} (w : World) (h1 : Arg EEnt w v1 l) (h2 : Arg EEnt w v2 l) (hl : l.length ≤ 1000000) :
    Calls Tryz.prog 44 #[v1, v2] w fun e w' => e = .returned (.bool true) ∧ Below w.heap.size w w' := by
  obtain ⟨a1, c1, rfl⟩ := h1.shape
  obtain ⟨a2, c2, rfl⟩ := h2.shape
  have H1 := Lib.hid h1
  have H2 := Lib.hid h2
  clear h1 h2
  go_enter Tryz.func44, Tryz.ntmps44
  go_wp2_with fail
  go_loopw [13] (fun iv wr => ∃ i : Nat, iv = .int .i64 i ∧ i ≤ l.length ∧ Below w.heap.size w wr) (fun iv _ => l.length - (intOf iv).toNat)
  case atStart => exact ⟨0, rfl, Nat.zero_le _, Below.refl _ _⟩
  case round =>
    obtain ⟨i, rfl, hi, hb⟩ := hrel
    by_cases hlt : i < l.length
    · have i1 : (i : Int) < l.length := by omega
      obtain ⟨x, hx⟩ : ∃ x, l[i]? = some x := ⟨_, List.getElem?_eq_getElem hlt⟩
      obtain ⟨g1, o1, rfl, -, p0, p1, p2, p3, p4⟩ := ent_cells (H1.out.below hb) i x hx
      obtain ⟨g2, o2, rfl, -, q0, q1, q2, q3, q4⟩ := ent_cells (H2.out.below hb) i x hx
      have hne : ∀ w : World, (binOp .neq 84 x.val x.val).run Tryz.prog w = .ok (.bool false) w := fun w => by have := neq_ent x x w; rw [decide_eq_true rfl] at this; exact this
      have HB := Lib.hid hb
      clear hb hx
      go_wp2_with fail
      go_quiet (fail)
      have hbq : Below wr.heap.size wr (wr.drewN nq) := ⟨rfl, rfl, rfl, Nat.le_refl _, fun _ _ => rfl⟩
      have HBQ := Lib.hid (HB.out.trans (hbq.mono HB.out.size))
      clear hbq
      go_wp2_with fail
      exact ⟨⟨i + 1, by go_num, hlt, HBQ.out⟩, by simp [intOf]; omega⟩
    · have ei : i = l.length := by omega
      subst ei
      have i2 : ¬ ((l.length : Int) < l.length) := by omega
      go_wp2_with fail
      go_ret
      exact ⟨rfl, hb⟩
set_option maxRecDepth 100000 in
set_option maxHeartbeats 2000000 in
theorem eqmap_any {b1 b2 : Nat} {D1 D2 : List (Int × DE)} (w : World) (h1 : IMap encDE w b1 D1) (h2 : IMap encDE w b2 D2) (r1 : ∀ x ∈ D1, RowO EEnt w 0 x.2.1 x.2.2) (r2 : ∀ x ∈ D2, RowO EEnt w 0 x.2.1 x.2.2)
    (hl : D1.length = D2.length) (hh : ∀ k v l, mget D1 k = some (v, l) → ∃ v', mget D2 k = some (v', l)) (ml : ∀ x ∈ D1, x.2.2.length ≤ 1000000) :
    Calls Tryz.prog 43 #[.map (some b1), .map (some b2), .func (.func 44) #[] #[]] w fun e w' => e = .returned (.bool true) ∧ Below w.heap.size w w' := by
  have l1 := fun ty => h1.len (P := Tryz.prog) Tryz.underlying53 ty
  have l2 := fun ty => h2.len (P := Tryz.prog) Tryz.underlying53 ty
  rw [← hl] at l2
  have H1 := Lib.hid h1
  have H2 := Lib.hid h2
  have R1 := Lib.hid r1
  have R2 := Lib.hid r2
  have HH := Lib.hid hh
  have ML := Lib.hid ml
  clear h2 r1 r2 hh ml hl
  go_enter Tryz.func43, Tryz.ntmps43
  go_wp2_with (first | (at_range; refine map_range (enc := encDE) rfl _ 53 rfl _ _ Tryz.underlying53 rfl H1.out ?_; intro w4 hir hb4 hs4) | go_in)
  go_frame
  clear l1 l2 h1
  have HIR4 := Lib.hid hir
  have HB4 := Lib.hid hb4
  clear hir hb4 hs4
  go_loopw [7] (fun _ wr => ∃ left, IRange encDE wr b1 w.heap.size D1 left ∧ Below w.heap.size w wr) (fun _ wr => wr.rangeLeft b1 w.heap.size)
  case atStart => exact ⟨_, HIR4.out, HB4.out⟩
  case round =>
    obtain ⟨left, hir, hbw⟩ := hrel
    clear HIR4 HB4
    have HIR := Lib.hid hir
    have HBW := Lib.hid hbw
    clear hir hbw
    go_wp2_with (first
      | (at_next; refine map_next (enc := encDE) rfl _ rfl rfl HIR.out ?_ ?_)
      | go_in)
    · intro hl0
      go_wp2_with fail
      go_ret
      exact ⟨rfl, HBW.out⟩
    · intro k xv xl w5 hgk hlk hir5 hlt5 hk5 hen
      have hb5 : Below w.heap.size w w5 := HBW.out.trans (hk5.toBelow HBW.out.size (fun i q => by omega))
      obtain ⟨yv, hy⟩ := HH.out k xv xl hgk
      have m1 := mget_mem hgk
      have m2 := mget_mem hy
      have q1 : RowO EEnt w5 0 xv xl := (R1.out _ m1).below hb5
      have q2 : RowO EEnt w5 0 yv xl := (R2.out _ m2).below hb5
      have hlu := (H2.out.keep (Keep.below hb5) (fun q => by have := H2.out.lt; omega)).lookup (P := Tryz.prog) Tryz.underlying53 Tryz.underlying3 zero_ents k true
      rw [hy] at hlu
      simp only [if_true, encDE] at hlu
      have HCL := Lib.hid (eqents_any w5 q1.arg q2.arg (ML.out _ m1))
      have HB5 := Lib.hid hb5
      have HIR5 := Lib.hid hir5
      have HLT5 := Lib.hid hlt5
      obtain ⟨xa, xc, rfl⟩ := q1.shape
      obtain ⟨ya, yc, rfl⟩ := q2.shape
      clear hgk hlk hir5 hlt5 hk5 hb5 hy m1 m2 q1 q2
      simp only [encDE] at hen ⊢
      go_wp2_with fail
      refine HCL.out.mono ?_
      rintro e w6 ⟨rfl, hb6⟩
      go_wp2_with fail
      obtain ⟨hir6, hrl6⟩ := HIR5.out.keep (Keep.below hb6) (fun q => by have := H1.out.lt; have := HB5.out.size; omega) (fun q => by have := HIR5.out.lt; omega)
      exact ⟨⟨_, hir6, HB5.out.trans (hb6.mono HB5.out.size)⟩, by rw [hrl6]; exact HLT5.out⟩
set_option maxRecDepth 100000 in
set_option maxHeartbeats 2000000 in
/-- Two trees with the same items are the same. -/
theorem tsame_any {w : World} {F1 F2 : Nat → Prop} {g1 g2 : Nat} {L : List Itm} {next : Int} (h1 : TreeM w F1 g1 L next) (h2 : TreeM w F2 g2 L next) (hl : L.length ≤ 100000) :
    Calls Tryz.prog 15 #[.pointer (some ⟨g1, 0, none⟩), .pointer (some ⟨g2, 0, none⟩)] w fun e w' => e = .returned (.bool true) ∧ Below w.heap.size w w' := by
  obtain ⟨bd1, bf1, gp1, bp1, vp1, D1, Fm1, p1, rfl, h1, hr1⟩ := h1
  obtain ⟨bd2, bf2, gp2, bp2, vp2, D2, Fm2, p2, rfl, h2, hr2⟩ := h2
  have c0 : w.cell? ⟨g1, 0, none⟩ = some (.map (some bd1)) := (m_cells h1.blk).1 0
  have c3 : w.cell? ⟨g1, 3, none⟩ = some (.int .i64 next) := (m_cells h1.blk).1 3
  have d0 : w.cell? ⟨g2, 0, none⟩ = some (.map (some bd2)) := (m_cells h2.blk).1 0
  have d3 : w.cell? ⟨g2, 3, none⟩ = some (.int .i64 next) := (m_cells h2.blk).1 3
  have hkeys : ∀ {D : List (Int × DE)} {Fm : List (Int × Int)} {p : PD}, TRep D Fm p L → ∀ x, x ∈ mkeys D ↔ isDirB L x = true := fun {D Fm p} hr x => by
    constructor
    · intro q
      cases c : isDirB L x with
      | true => rfl
      | false => exact absurd q ((mget_none_iff D x).1 (hr.r2 x c))
    · intro q
      obtain ⟨v, hv⟩ := hr.r1 x q
      by_cases c : x ∈ mkeys D
      · exact c
      · rw [(mget_none_iff D x).2 c] at hv; cases hv
  have hlen : D1.length = D2.length := by
    have := ((List.perm_ext_iff_of_nodup h1.dm.nodup h2.dm.nodup).2 (fun x => by rw [hkeys hr1, hkeys hr2])).length_eq
    simpa [mkeys] using this
  have hval : ∀ {D : List (Int × DE)} {Fm : List (Int × Int)} {p : PD}, TRep D Fm p L → ∀ k v l, mget D k = some (v, l) → isDirB L k = true ∧ l = entries L k := fun {D Fm p} hr k v l e => by
    cases hb : isDirB L k with
    | false => rw [hr.r2 _ hb] at e; cases e
    | true =>
      obtain ⟨v', hv⟩ := hr.r1 _ hb
      rw [e] at hv
      exact ⟨rfl, congrArg Prod.snd (Option.some.inj hv)⟩
  have HEQ := Lib.hid (fun (W : World) (hb : Below w.heap.size w W) => eqmap_any W (h1.below hb).dm (h2.below hb).dm (h1.below hb).rows (h2.below hb).rows hlen (fun k v l e => by
    obtain ⟨q1, rfl⟩ := hval hr1 k v l e
    exact hr2.r1 k q1) (fun x hx => by
    obtain ⟨_, e⟩ := hval hr1 x.1 x.2.1 x.2.2 (mget_of_mem h1.dm.nodup hx)
    rw [e]
    unfold entries; rw [List.length_map]
    exact Nat.le_trans (List.length_filter_le _ _) (by omega)))
  clear h1 h2 hr1 hr2 hkeys hlen hval
  go_enter Tryz.func15, Tryz.ntmps15
  go_wp2_with fail
  have HS := Lib.hid (show ∀ w', Below w.heap.size w w' → (w'.cell? ⟨g1, 0, none⟩ = some (.map (some bd1)) ∧ w'.cell? ⟨g1, 3, none⟩ = some (.int .i64 next) ∧ w'.cell? ⟨g2, 0, none⟩ = some (.map (some bd2)) ∧ w'.cell? ⟨g2, 3, none⟩ = some (.int .i64 next)) from fun w' k => ⟨cell_later k c0, cell_later k c3, cell_later k d0, cell_later k d3⟩)
  go_region_held3 (fun w' => w'.cell? ⟨g1, 0, none⟩ = some (.map (some bd1)) ∧ w'.cell? ⟨g1, 3, none⟩ = some (.int .i64 next) ∧ w'.cell? ⟨g2, 0, none⟩ = some (.map (some bd2)) ∧ w'.cell? ⟨g2, 3, none⟩ = some (.int .i64 next))
    (first | exact HS.out _ HBB1.out | exact HS.out _ (show Below w.heap.size w _ from (by repeat (first | exact Below.refl _ _ | assumption | (refine Below.drew ?_) | (refine below_drewN ?_ _) | (refine Below.alloc ?_ (by simp; done) _) | (refine Below.alloc ?_ (by simp; omega) _)))))
    (first
     | (go_at_call 43
        refine (HEQ.out w.drew (Below.refl _ w).drew).mono ?_
        rintro e w1 ⟨rfl, hb1⟩
        have HBB1 := Lib.hid ((Below.refl _ w).drew.trans hb1)
        clear hb1))
  all_goals
    go_wp2
    go_ret
    exact ⟨rfl, HBB1.out⟩
end Go.Proofs.YtolilbcpfdnkjaaGreat
