/- ids: Take. -/
import Derived.Test.YtolilbcpfdnkjaaGreatZBI1x
namespace Go.Proofs.YtolilbcpfdnkjaaGreat
open Go.RowKit
set_option linter.unusedSimpArgs false
def TakePost (w : World) (g b : Nat) (v : Value) (p : PD) (e : Ending) (w' : World) : Prop :=
  ∃ (p' : PD) (v' : Value) (n : Nat), LeastFree (mkeys p.out) n ∧ e = .returned (.tuple #[.int .i64 (if n ≤ p.most then (n : Int) else 0), .bool (decide (n ≤ p.most))]) ∧ PAt w' g v' b p' ∧ PInv p' ∧ p'.most = p.most ∧
    (∀ k, k ∈ mkeys p'.out ↔ k ∈ mkeys p.out ∨ (n ≤ p.most ∧ k = n)) ∧ (∀ k, v'.ownBlock = some k → v.ownBlock = some k ∨ w.heap.size ≤ k) ∧ Keep (pfoot g v b) w w'
/-- The number in a cell. -/
def numAt (w : World) (g o : Nat) : Int := match w.cell? ⟨g, o, none⟩ with | some (.int _ n) => n | _ => 0
def TakeRel (w : World) (g b : Nat) (v : Value) (p : PD) (wr : World) : Prop :=
  ∃ f : Nat, PAt wr g v b { p with fresh := f } ∧ PInv { p with fresh := f } ∧ Keep (pfoot g v b) w wr
theorem PAt.qt {w w' : World} {g b : Nat} {v : Value} {p : PD} (h : PAt w g v b p) (q : Qt w w') : PAt w' g v b p :=
  ⟨by rw [q.heap]; exact h.blk, h.row.qt q, h.mp.qt q, h.ne1, h.ne2, h.ne3⟩
theorem PInv.next {p : PD} (h : PInv p) (hf : (p.fresh : Int) ∈ mkeys p.out) : PInv { p with fresh := p.fresh + 1 } := by
  have := h.keys _ hf
  refine ⟨h.most, h.ones, h.keys, h.nodup, h.heap, h.bnodup, by have := h.f1; show 1 ≤ p.fresh + 1; omega, by show p.fresh + 1 ≤ p.most + 1; omega, fun x hx => ?_, fun m q1 q2 => ?_⟩
  · have := h.back x hx
    exact ⟨this.1, by show x < ((p.fresh + 1 : Nat) : Int); omega, this.2.2⟩
  · have q2' : m < p.fresh + 1 := q2
    by_cases e : m = p.fresh
    · subst e; exact Or.inl hf
    · exact h.below m q1 (by omega)
theorem PAt.setFresh {w : World} {g b : Nat} {v : Value} {p : PD} (h : PAt w g v b p) (f : Nat) : PAt (w.setCell ⟨g, 1, none⟩ (.int .i64 f)) g v b { p with fresh := f } :=
  ⟨m_set h.blk _ _, h.row.kept (fun k hk => Below.heap_setCell _ _ _ _ (fun e => h.ne1 (by rw [hk, e]))), h.mp.blk (Below.heap_setCell _ _ _ _ h.ne2), h.ne1, h.ne2, h.ne3⟩
theorem PAt.lt {w : World} {g b : Nat} {v : Value} {p : PD} (h : PAt w g v b p) : g < w.heap.size := m_lt h.blk
theorem mem_mput {V : Type} (L : List (Int × V)) (n k : Int) (x : V) : k ∈ mkeys (mput L n x) ↔ k ∈ mkeys L ∨ k = n := by
  rw [mkeys_put]
  by_cases e : n ∈ mkeys L
  · rw [if_pos e]; exact ⟨Or.inl, fun q => q.elim id (fun q => by rw [q]; exact e)⟩
  · rw [if_neg e]; simp
theorem ones_put {L : List (Int × Int)} (h : ∀ q ∈ L, q.2 = 1) (n : Int) : ∀ q ∈ mput L n 1, q.2 = 1 := by
  intro q hq
  unfold mput at hq
  split at hq
  · obtain ⟨r, hr, rfl⟩ := List.mem_map.1 hq
    split
    · rfl
    · exact h r hr
  · rcases List.mem_append.1 hq with q1 | q1
    · exact h q q1
    · simp at q1; rw [q1]
theorem PInv.free_fresh {p : PD} (h : PInv p) (he : (p.fresh : Int) ∉ mkeys p.out) (hb : p.back = []) : LeastFree (mkeys p.out) p.fresh :=
  ⟨h.f1, he, fun m q1 q2 => (h.below m q1 q2).elim id (fun q => by rw [hb] at q; cases q)⟩
theorem PInv.take_fresh {p : PD} (h : PInv p) (hb : p.back = []) (hm : p.fresh ≤ p.most) : PInv { p with out := mput p.out (p.fresh : Int) 1 } :=
  ⟨h.most, ones_put h.ones _, fun k hk => ((mem_mput _ _ _ _).1 hk).elim (h.keys k) (fun q => by have := h.f1; subst q; show (1 : Int) ≤ p.fresh ∧ (p.fresh : Int) ≤ p.most; omega), nodup_put _ _ _ h.nodup, h.heap, h.bnodup, h.f1, h.f2,
    (fun x hx => by rw [hb] at hx; cases hx), fun m q1 q2 => (h.below m q1 q2).imp (fun q => (mem_mput _ _ _ _).2 (Or.inl q)) id⟩
theorem PInv.free_pop {p : PD} (h : PInv p) {x : Int} (hx : x ∈ p.back) (hmin : ∀ y ∈ p.back, x ≤ y) : LeastFree (mkeys p.out) x.toNat := by
  have hb := h.back x hx
  refine ⟨by omega, ?_, fun m q1 q2 => ?_⟩
  · rw [show ((x.toNat : Nat) : Int) = x by omega]; exact hb.2.2
  · rcases h.below m q1 (by omega) with q | q
    · exact q
    · have := hmin _ q; omega
theorem PInv.take_pop {p : PD} (h : PInv p) {x : Int} {l : List Int} (hp : (x :: l).Perm p.back) (hc : ∀ k, HCond l l.length k) : PInv { p with back := l, out := mput p.out x 1 } := by
  have hx : x ∈ p.back := hp.mem_iff.1 (List.mem_cons_self ..)
  have hb := h.back x hx
  have hnd := hp.nodup_iff.2 h.bnodup
  have hf := h.f2
  refine ⟨h.most, ones_put h.ones _, fun k hk => ((mem_mput _ _ _ _).1 hk).elim (h.keys k) (fun q => by subst q; show 1 ≤ k ∧ k ≤ (p.most : Int); omega), nodup_put _ _ _ h.nodup, hc, (List.nodup_cons.1 hnd).2, h.f1, h.f2, fun y hy => ?_, fun m q1 q2 => ?_⟩
  · have := h.back y (hp.mem_iff.1 (List.mem_cons_of_mem _ hy))
    refine ⟨this.1, this.2.1, fun e => ((mem_mput _ _ _ _).1 e).elim this.2.2 (fun q => ?_)⟩
    subst q
    exact (List.nodup_cons.1 hnd).1 hy
  · rcases h.below m q1 q2 with q | q
    · exact Or.inl ((mem_mput _ _ _ _).2 (Or.inl q))
    · rcases List.mem_cons.1 (hp.mem_iff.2 q) with q | q
      · exact Or.inl ((mem_mput _ _ _ _).2 (Or.inr q))
      · exact Or.inr q
set_option maxHeartbeats 2000000 in
theorem take_any (w : World) (g b : Nat) (v : Value) (p : PD) (h : PAt w g v b p) (hi : PInv p) :
    Calls Tryz.prog 57 #[.pointer (some ⟨g, 0, none⟩)] w (TakePost w g b v p) := by
  go_enter Tryz.func57, Tryz.ntmps57
  go_wp2
  go_loopw [] (fun wr => TakeRel w g b v p wr) (fun wr => (p.most + 1 - numAt wr g 1).toNat)
  case atStart => exact ⟨p.fresh, h, hi, Keep.refl _ _⟩
  case round =>
    obtain ⟨f, hat, hinv, hk⟩ := hrel
    have hc := (m_cells hat.blk).1
    have hfz := (m_cells hat.blk).2 1
    have hlk := fun n => (hat.mp.qt (Qt.drewN wr n)).lookup (P := Tryz.prog) Tryz.underlying75 Tryz.underlying3 zero_int (f : Int) false
    have hlk0 := hat.mp.lookup (P := Tryz.prog) Tryz.underlying75 Tryz.underlying3 zero_int (f : Int) false
    have c1 : wr.cell? ⟨g, 1, none⟩ = some (.int .i64 f) := hc 1
    have c0 : wr.cell? ⟨g, 0, none⟩ = some (.int .i64 p.most) := hc 0
    have c2 : wr.cell? ⟨g, 2, none⟩ = some v := hc 2
    have c3 : wr.cell? ⟨g, 3, none⟩ = some (.map (some b)) := hc 3
    have hf2 : f ≤ p.most + 1 := hinv.f2
    have hm2 : p.most ≤ 200 := hinv.most
    have hn : numAt wr g 1 = f := by unfold numAt; rw [c1]
    have Hn := Lib.hid hn
    clear hc hn
    rcases hinv.get f with ⟨e1, e2⟩ | ⟨e1, e2⟩
    · simp only [] at e1
      rw [e1] at hlk hlk0
      simp only [Bool.false_eq_true, if_false] at hlk hlk0
      have He := Lib.hid e2
      clear e1 e2
      go_wp2_with fail
      go_quiet (fail)
      go_wp2_with fail
      have hat1 := hat.qt (Qt.drewN wr nq)
      have hk1 := hk.drewN nq
      generalize wr.drewN nq = w1 at *
      refine (Bk.len_any v 0 p.back _ hat1.row).mono ?_
      rintro e w2 ⟨rfl, q2⟩
      have hat2 := hat1.qt q2
      have hk2 := hk1.trans (Keep.qt q2)
      have d0 : w2.cell? ⟨g, 0, none⟩ = some (.int .i64 p.most) := (m_cells hat2.blk).1 0
      have d2 : w2.cell? ⟨g, 2, none⟩ = some v := (m_cells hat2.blk).1 2
      have d3 : w2.cell? ⟨g, 3, none⟩ = some (.map (some b)) := (m_cells hat2.blk).1 3
      have HI := Lib.hid hinv
      have Hat := Lib.hid hat2
      clear hat hat1 hk hk1 hinv c0 c1 c2 c3 hlk hlk0 q2
      by_cases hbk : p.back = []
      · have g1 : decide (0 < p.back.length) = false := by rw [hbk]; rfl
        have Hbk := Lib.hid hbk
        clear hbk
        by_cases hmost : f ≤ p.most
        · go_wp2_with (refine map_put (tk := 3) (te := 3) (enc := Value.int .i64) rfl _ _ _ rfl Tryz.underlying75 Tryz.underlying3 (f : Int) 1 rfl rfl rfl Hat.out.mp ?_; intro w3 hm3 k3)
          go_ret2
          have hm3' : IMap (Value.int .i64) w3 b (mput p.out (f : Int) 1) := hm3
          exact ⟨_, v, f, HI.out.free_fresh He.out Hbk.out, by simp [hmost], Hat.out.map_turned hm3' k3, HI.out.take_fresh Hbk.out hmost, rfl, fun k => by rw [mem_mput]; exact ⟨fun q => q.imp id (fun q => ⟨hmost, q⟩), fun q => q.imp id (fun q => q.2)⟩, fun k q => Or.inl q, hk2.trans' k3 (fun i hi => Or.inl (pfoot_of.1 i hi))⟩
        · go_wp2_with fail
          go_ret2
          exact ⟨_, v, f, HI.out.free_fresh He.out Hbk.out, by simp [hmost], Hat.out, HI.out, rfl, fun k => ⟨Or.inl, fun q => q.elim id (fun q => absurd q.1 hmost)⟩, fun k q => Or.inl q, hk2⟩
      · obtain ⟨gb, cap, rfl, _, _, hnc, hcm, hcell, _⟩ := Hat.out.row.slice hbk
        have g1 : decide (0 < p.back.length) = true := decide_eq_true (List.length_pos_iff.2 hbk)
        have hx : w2.cell? ⟨gb, 0, none⟩ = some (.int .i64 (p.back.getD 0 0)) := hcell 0 (List.length_pos_iff.2 hbk)
        have hmem : p.back.getD 0 0 ∈ p.back := by
          rw [List.getD_eq_getElem?_getD, List.getElem?_eq_getElem (List.length_pos_iff.2 hbk), Option.getD_some]; exact List.getElem_mem _
        have hbx := HI.out.back _ hmem
        have hlen0 : 0 < p.back.length := List.length_pos_iff.2 hbk
        have hlx : p.back.getD 0 0 < (f : Int) := hbx.2.1
        have Hbk := Lib.hid hbk
        have Hbx := Lib.hid hbx
        have Hmem := Lib.hid hmem
        clear hbk hbx hmem hcell
        generalize hX : p.back.getD 0 0 = x at *
        have HX := Lib.hid hX
        clear hX
        unfold maxLen at hcm
        have hta := assert_int
        have hbl := HI.out.back_len
        go_wp2_with fail
        refine (Bk.hpop_any 0 g 2 _ _ _ p.back _ Hat.out.heapAt (by omega) Hbk.out HI.out.heap).mono ?_
        rintro e w3 ⟨l3, v3, rfl, h3, hp3, hc3, he3, k3⟩
        rw [HX.out] at hp3
        simp only [HX.out]
        have hv3 : ∀ k, v3.ownBlock = some k → (Value.slice (some ⟨gb, 0, none⟩) p.back.length cap).ownBlock = some k ∨ w2.heap.size ≤ k := fun k q => Or.inl (by rw [← he3]; exact q)
        have hat3 := Hat.out.of_heap h3 k3 hv3
        have hk3 := hk2.trans' k3 (fun i hi => Or.inl (pfoot_of.2 i hi))
        have d0 : w3.cell? ⟨g, 0, none⟩ = some (.int .i64 p.most) := (m_cells hat3.blk).1 0
        have d3 : w3.cell? ⟨g, 3, none⟩ = some (.map (some b)) := (m_cells hat3.blk).1 3
        have hxm : x ≤ (p.most : Int) := by omega
        have Hat3 := Lib.hid hat3
        have HV := Lib.hid (And.intro hp3 (And.intro hc3 hv3))
        clear hat3 hp3 hc3 hv3 h3 he3
        go_wp2_with (refine map_put (tk := 3) (te := 3) (enc := Value.int .i64) rfl _ _ _ rfl Tryz.underlying75 Tryz.underlying3 x 1 rfl rfl rfl Hat3.out.mp ?_; intro w4 hm4 k4)
        go_ret2
        obtain ⟨hp3, hc3, hv3⟩ := HV.out
        have hbx := Hbx.out
        have hx0 : ((x.toNat : Nat) : Int) = x := by have := hbx.1; omega
        have hm4' : IMap (Value.int .i64) w4 b (mput p.out x 1) := hm4
        have hle : x.toNat ≤ p.most := by omega
        refine ⟨_, v3, x.toNat, HI.out.free_pop Hmem.out (fun y hy => ?_), by simp [hle, hx0], Hat3.out.map_turned hm4' k4, HI.out.take_pop hp3 hc3, rfl, fun k => by rw [mem_mput, hx0]; exact ⟨fun q => q.imp id (fun q => ⟨hle, q⟩), fun q => q.imp id (fun q => q.2)⟩, fun k q => ?_, hk3.trans' k4 (fun i hi => Or.inl (pfoot_of.1 i hi))⟩
        · obtain ⟨k, hk, rfl⟩ := List.mem_iff_getElem.1 hy
          have := heap_least (n := p.back.length) HI.out.heap k hk
          rw [HX.out] at this
          simpa [List.getD_eq_getElem?_getD, hk] using this
        · rcases hv3 k q with q | q
          · exact Or.inl q
          · exact Or.inr (Nat.le_trans hk2.size q)
    · simp only [] at e1
      rw [e1] at hlk hlk0
      simp only [Bool.false_eq_true, if_false] at hlk hlk0
      have He := Lib.hid e2
      clear e1 e2
      go_wp2_with fail
      go_quiet (fail)
      go_wp2_with fail
      have hat1 := (hat.qt (Qt.drewN wr nq)).setFresh (f + 1)
      refine ⟨⟨f + 1, hat1, hinv.next He.out, (hk.drewN nq).set _ _ _ (Or.inl (Or.inl rfl))⟩, ?_⟩
      have : numAt ((wr.drewN nq).setCell ⟨g, 1, none⟩ (.int .i64 ((f : Int) + 1))) g 1 = (f : Int) + 1 := by
        unfold numAt
        have e1 := (m_cells hat1.blk).1 1
        have e2 : ((wr.drewN nq).setCell ⟨g, 1, none⟩ (.int .i64 ((f : Int) + 1))).cell? ⟨g, 1, none⟩ = some (.int .i64 ((f : Int) + 1)) := e1
        rw [e2]
      rw [this, Hn.out]
      have := (hinv.keys _ He.out).2
      have h2 : (f : Int) ≤ p.most := this
      omega
end Go.Proofs.YtolilbcpfdnkjaaGreat
