/- ids: the law IdsPlays. -/
import Derived.Test.YtepjflepnkfboaaJ1
import Derived.Test.YtepjflepnkfboaaI7
import Derived.Deep.Cut
import Derived.Deep.RegionHeld3
import Derived.Deep.MidRow
namespace Go.Proofs.Ytepjflepnkfboaa
open Go.RowKit
set_option linter.unusedSimpArgs false
set_option linter.unusedVariables false
/-- The reference's pool has out what the pool has. -/
def RefHas (m : Nat) (S : List Bool) (p : PD) : Prop := ∀ n : Nat, 1 ≤ n → n ≤ m → (S.getD n false = true ↔ (n : Int) ∈ mkeys p.out)
theorem cnt_len {m : Nat} {S : List Bool} {p : PD} (hi : PInv p) (hm : p.most = m) (h : RefHas m S p) : cntS S m = p.out.length := by
  have hl : p.out.length = (mkeys p.out).length := by simp [mkeys]
  obtain ⟨C, hC⟩ : ∃ C : List Int, C = ((List.range m).filter fun i => S.getD (i + 1) false).map (fun i : Nat => ((i + 1 : Nat) : Int)) := ⟨_, rfl⟩
  have hlC : C.length = cntS S m := by rw [hC, List.length_map]; rfl
  have hmC : ∀ x, x ∈ C ↔ x ∈ mkeys p.out := by
    intro x
    rw [hC, List.mem_map]
    constructor
    · rintro ⟨i, hi', rfl⟩
      obtain ⟨h1, h2⟩ := List.mem_filter.1 hi'
      exact (h (i + 1) (by omega) (by have := List.mem_range.1 h1; omega)).1 h2
    · intro hx
      obtain ⟨h1, h2⟩ := hi.keys x hx
      refine ⟨x.toNat - 1, List.mem_filter.2 ⟨List.mem_range.2 (by omega), ?_⟩, by omega⟩
      have e : x.toNat - 1 + 1 = x.toNat := by omega
      show S.getD (x.toNat - 1 + 1) false = true
      rw [e]
      exact (h x.toNat (by omega) (by omega)).2 (by rw [Int.toNat_of_nonneg (by omega)]; exact hx)
  have hnC : C.Nodup := by
    rw [hC]
    refine List.Pairwise.map _ (fun a b hab he => hab ?_) (List.Pairwise.filter _ List.nodup_range)
    have : ((a + 1 : Nat) : Int) = ((b + 1 : Nat) : Int) := he
    omega
  have h1 := nodup_sub C (mkeys p.out) hnC (fun x hx => (hmC x).1 hx)
  have h2 := nodup_sub (mkeys p.out) C hi.nodup (fun x hx => (hmC x).2 hx)
  omega
theorem least_same {m r n : Nat} {S : List Bool} {p : PD} (hi : PInv p) (hm : p.most = m) (h : RefHas m S p) (hr : LeastS m S r) (hn : LeastFree (mkeys p.out) n) : (if n ≤ p.most then n else 0) = r := by
  obtain ⟨n1, n2, n3⟩ := hn
  rw [hm]
  rcases hr with ⟨rfl, h2⟩ | ⟨r1, r2, r3, r4⟩
  · by_cases q : n ≤ m
    · exact absurd ((h n n1 q).1 (h2 n n1 q)) n2
    · rw [if_neg q]
  · have rn : (r : Int) ∉ mkeys p.out := fun q => by
      have := (h r r1 r2).2 q
      rw [r3] at this; cases this
    have hnr : ¬ r < n := fun q => rn (n3 r r1 q)
    have hrn : ¬ n < r := fun q => n2 ((h n n1 (by omega)).1 (r4 n n1 q))
    have : n = r := by omega
    subst this
    rw [if_pos r2]
def refL (m : Nat) (S : List Bool) : List Value := Value.int .i64 m :: S.map Value.bool
theorem ref_range {w : World} {b m : Nat} {S : List Bool} (h : w.heap[b]? = some (refO m S)) : w.rangeAt b 0 (refL m S) := by
  intro j v hv
  rw [Nat.zero_add, (m_cells h).1 j]
  simpa [refA, refL] using hv
theorem refL_len (m : Nat) (S : List Bool) : (refL m S).length = S.length + 1 := by simp [refL]
def PlayMid (w : World) (g8 g b m : Nat) (wr : World) : Prop :=
  ∃ (p : PD) (v : Value) (S : List Bool), PAt wr g v b p ∧ PInv p ∧ p.most = m ∧ wr.heap[g8]? = some (refO m S) ∧ S.length = 201 ∧ RefHas m S p ∧ (¬ pfoot g v b g8) ∧ (∀ k, pfoot g v b k → w.heap.size ≤ k) ∧ Below w.heap.size w wr
theorem Keep.setRow (w : World) (g : Nat) (c : Array Value) : Keep (fun k => k = g) w (w.setRow g c) :=
  ⟨rfl, rfl, rfl, by simp [World.setRow], fun k _ hk => setRow_other _ _ _ _ hk⟩
def PlayRel (w : World) (g8 g b m : Nat) (N : Nat) (iv : Value) (wr : World) : Prop :=
  ∃ (i : Nat) (p : PD) (v : Value) (S : List Bool), iv = .int .i64 i ∧ i ≤ N ∧ PAt wr g v b p ∧ PInv p ∧ p.most = m ∧ wr.heap[g8]? = some (refO m S) ∧ S.length = 201 ∧ RefHas m S p ∧ (¬ pfoot g v b g8) ∧ (∀ k, pfoot g v b k → w.heap.size ≤ k) ∧ Below w.heap.size w wr
set_option maxRecDepth 100000 in
set_option maxHeartbeats 8000000 in
theorem idsplays_any (most : Int) (ov cv : Value) (O L : List Int) (w : World) (ho : ArgI w ov O) (hc : ArgI w cv L) (mo : O.length ≤ maxLen) (mc : L.length ≤ maxLen) (hmost : -9223372036854775808 ≤ most ∧ most ≤ 9223372036854775807) :
    Calls Try.prog 7 #[.int .i64 most, ov, cv] w fun e w' => e = .returned (.bool true) ∧ Below w.heap.size w w' := by
  unfold maxLen at mo mc
  have HOA := Lib.hid ho
  have HCA := Lib.hid hc
  obtain ⟨oa, oc, rfl, -⟩ := ho
  obtain ⟨ca, cc, rfl, -⟩ := hc
  by_cases hlen : O.length ≤ 300 ∧ L.length ≤ 300
  rotate_left
  · by_cases h1 : O.length ≤ 300
    · have n1 : decide ((300 : Int) < O.length) = false := decide_eq_false (by omega)
      have n2 : decide ((300 : Int) < L.length) = true := decide_eq_true (by omega)
      go_enter Try.func7, Try.ntmps7
      go_wp2_with fail
      refine (awake09_any _).mono ?_
      rintro e w1 ⟨rfl, hb1⟩
      have HB1 := Lib.hid hb1
      clear hb1
      go_wp2_with fail
      refine (awake09_any _).mono ?_
      rintro e w2 ⟨rfl, hb2⟩
      go_wp2_with fail
      go_ret
      exact ⟨rfl, HB1.out.trans (hb2.mono HB1.out.size)⟩
    · have n1 : decide ((300 : Int) < O.length) = true := decide_eq_true (by omega)
      go_enter Try.func7, Try.ntmps7
      go_wp2_with fail
      refine (awake09_any _).mono ?_
      rintro e w1 ⟨rfl, hb1⟩
      have HB1 := Lib.hid hb1
      clear hb1
      go_wp2_with fail
      refine (awake09_any _).mono ?_
      rintro e w2 ⟨rfl, hb2⟩
      go_wp2_with fail
      go_ret
      exact ⟨rfl, HB1.out.trans (hb2.mono HB1.out.size)⟩
  obtain ⟨hO3, hL3⟩ := hlen
  have n1 : decide ((300 : Int) < O.length) = false := decide_eq_false (by omega)
  have n2 : decide ((300 : Int) < L.length) = false := decide_eq_false (by omega)
  have hzr := zero_ref
  go_enter Try.func7, Try.ntmps7
  go_wp2_with fail
  refine (awake09_any _).mono ?_
  rintro e w1 ⟨rfl, hb1⟩
  have HB1 := Lib.hid hb1
  clear hb1
  go_wp2_with fail
  have harg1 : ArgI w1 (.slice oa O.length oc) O := HOA.out.below HB1.out
  refine (new_any most _ O w1 harg1 (by omega)).mono ?_
  rintro e w2 ⟨g, b, p, rfl, hat, hinv, hmst, hk, hg, hbb, hb2⟩
  have HB2 := Lib.hid (HB1.out.trans (hb2.mono HB1.out.size))
  have HAT := Lib.hid hat
  have HP := Lib.hid (And.intro hinv (And.intro hmst (And.intro hk (And.intro hg hbb))))
  clear hat hinv hmst hk hg hbb hb2 harg1
  go_wp2_with fail
  refine (refnew_any most _ O w2 (HOA.out.below HB2.out) (by omega) hmost).mono ?_
  rintro e w3 ⟨S, rfl, hS, hSm, hb3⟩
  obtain ⟨m, hm⟩ : ∃ m, (min (max most 0) 200).toNat = m := ⟨_, rfl⟩
  have hm200 : m ≤ 200 := by omega
  rw [hm] at hSm HP ⊢
  have HS := Lib.hid (And.intro hS hSm)
  have HB3 := Lib.hid hb3
  have hsz : (refA m S).size = 202 := by rw [refA_size, hS]
  have HSZ := Lib.hid hsz
  clear hS hSm hb3 hm hsz
  go_wp2_with (first
    | (refine wpList_store_row rfl 42 _ _ rfl w3.heap.size (refA m S) rfl rfl 42 refZ ?d1 ?d2 ?d3 (refA_one _ _) ?_
       case d1 => exact m_alloc _ _ _ rfl
       case d2 => rw [ref_info, HSZ.out]
       case d3 => rw [refZ_size, HSZ.out]))
  obtain ⟨g8, hg8⟩ : ∃ k, w3.heap.size = k := ⟨_, rfl⟩
  have ha3 : PAt w3 g (.slice none 0 0) b p := HAT.out.below HB3.out
  have hlt3 : ∀ k, pfoot g (.slice none 0 0) b k → k < g8 := fun k q => by rw [← hg8]; exact ha3.foot_lt q
  have hw8 : ((w3.alloc (.cells refZ 42)).setRow g8 (refA m S)).heap[g8]? = some (refO m S) := setRow_heap _ _ _ _ _ _ (m_alloc w3 (.cells refZ 42) g8 hg8)
  have hb8 : Below w3.heap.size w3 ((w3.alloc (.cells refZ 42)).setRow g8 (refA m S)) := below_setRow ((Below.refl _ _).alloc (Nat.le_refl _) _) (by omega) _
  have ha8 := ha3.below hb8
  have hw0 : Below w.heap.size w w3 := HB2.out.trans (HB3.out.mono HB2.out.size)
  have hbw8 := hw0.trans (hb8.mono hw0.size)
  have hge : ∀ k, pfoot g (.slice none 0 0) b k → w.heap.size ≤ k := fun k q => by
    obtain ⟨-, -, -, q1, q2⟩ := HP.out
    have := HB1.out.size
    rcases q with rfl | rfl | q
    · omega
    · omega
    · simp [Value.ownBlock] at q
  have hhas : RefHas m S p := fun n h1 h2 => by
    rw [HS.out.2 n h1 h2, HP.out.2.2.1 n]
    exact ⟨fun q => ⟨q, by omega, by omega⟩, fun q => q.1⟩
  have HST := Lib.hid (show PlayRel w g8 g b m L.length (.int .i64 0) ((w3.alloc (.cells refZ 42)).setRow g8 (refA m S)) from ⟨0, p, _, S, rfl, Nat.zero_le _, ha8, HP.out.1, HP.out.2.1, hw8, HS.out.1, hhas, fun q => absurd (hlt3 _ q) (Nat.lt_irrefl _), hge, hbw8⟩)
  rw [hg8]
  have HG8 := Lib.hid (show w.heap.size ≤ g8 from by rw [← hg8]; exact hw0.size)
  clear hg8 ha3 hlt3 hw8 hb8 ha8 hw0 hbw8 hge hhas HAT HP HS HB1 HB2 HB3 HSZ
  generalize (w3.alloc (.cells refZ 42)).setRow g8 (refA m S) = w4 at *
  go_loopw [9, 10, 11, 12, 13] (fun iv _ _ _ _ wr => PlayRel w g8 g b m L.length iv wr) (fun iv _ _ _ _ _ => L.length - (intOf iv).toNat)
  case atStart => exact HST.out
  case round =>
    obtain ⟨i, p, v, S, rfl, hi, hat, hinv, hmst, hblk, hSL, hhas, hdis, hge, hbel⟩ := hrel
    have HAT := Lib.hid hat
    have HINV := Lib.hid hinv
    have HM := Lib.hid hmst
    have HBLK := Lib.hid hblk
    have HSL := Lib.hid hSL
    have HHAS := Lib.hid hhas
    have HDIS := Lib.hid hdis
    have HGE := Lib.hid hge
    have HBEL := Lib.hid hbel
    have HSZ := Lib.hid (show (refA m S).size = 202 by rw [refA_size, hSL])
    clear hat hinv hmst hblk hSL hhas hdis hge hbel HST
    by_cases hlt : i < L.length
    · have i1 : (i : Int) < L.length := by omega
      obtain ⟨CB, coff, ccap, e1, hcl⟩ := HCA.out.cells (by intro q; rw [q] at hlt; simp at hlt)
      simp only [Value.slice.injEq] at e1
      obtain ⟨rfl, -, rfl⟩ := e1
      have cw := hcl i hlt
      have HCW := Lib.hid cw
      have cc1 := cell_later HBEL.out cw
      clear hcl cw
      generalize L.getD i 0 = x at *
      obtain ⟨bq, hbq⟩ : ∃ bq, decide (0 < x) = bq := ⟨_, rfl⟩
      have HBQ := Lib.hid hbq
      go_upto_if 43 with fail
      clear hbq
      go_cut [10, 11, 12, 13] from 1000 (fun _ _ _ _ w6 => PlayMid w g8 g b m w6)
      case first =>
        cases bq
        rotate_left
        · have hx0 : 0 < x := of_decide_eq_true HBQ.out
          clear HBQ
          obtain ⟨n, rfl⟩ : ∃ n : Nat, x = (n : Int) := ⟨x.toNat, by omega⟩
          have n1 : 1 ≤ n := by omega
          have cm := ref_c0 HBLK.out
          by_cases hnm : n ≤ m
          · have d1 : decide ((n : Int) ≤ m) = true := decide_eq_true (by omega)
            have hn200 : n ≤ 200 := by omega
            have d2 : (n : Int) < 201 := by omega
            have d3 : n < 201 := by omega
            have d4 : (n : Int) ≤ 200 := by omega
            have hcx := ref_c HBLK.out n (by rw [HSL.out]; omega)
            have hbx := HHAS.out n n1 hnm
            obtain ⟨bx, hbx2⟩ : ∃ bx, S.getD n false = bx := ⟨_, rfl⟩
            rw [hbx2] at hcx hbx
            clear hbx2
            cases bx
            · have HNK := Lib.hid (show ¬ (n : Int) ∈ mkeys p.out from fun q => Bool.false_ne_true (hbx.2 q))
              clear hbx
              go_wp2_with fail
              go_quiet (fail)
              go_wp2_with fail
              refine (give_any _ g b v p n (HAT.out.qt (Qt.drewN wr nq)) HINV.out).mono ?_
              rintro e w5 ⟨p2, v2, rfl, hat2, hinv2, hm2, hk2, hv2, hkeep⟩
              have hb8 : w5.heap[g8]? = some (refO m S) := (hkeep.block g8 (m_lt HBLK.out) HDIS.out).trans HBLK.out
              have hbelq : Below w.heap.size w (wr.drewN nq) := below_drewN HBEL.out nq
              have hbel5 : Below w.heap.size w w5 := hbelq.trans (hkeep.toBelow HBEL.out.size HGE.out)
              have hge2 : ∀ k, pfoot g v2 b k → w.heap.size ≤ k := fun k q => (pfoot_new hv2 k q).elim (HGE.out k) (fun q => Nat.le_trans HBEL.out.size q)
              have hdis2 : ¬ pfoot g v2 b g8 := fun q => (pfoot_new hv2 _ q).elim HDIS.out (fun q => absurd (m_lt HBLK.out) (Nat.not_lt.2 q))
              rw [HM.out] at hm2
              have HAT2 := Lib.hid hat2
              have HINV2 := Lib.hid hinv2
              have HM2 := Lib.hid hm2
              have HBLK5 := Lib.hid hb8
              have HBEL5 := Lib.hid hbel5
              have HGE2 := Lib.hid hge2
              have HDIS2 := Lib.hid hdis2
              have HK2 := Lib.hid hk2
              clear hat2 hinv2 hm2 hb8 hbelq hbel5 hge2 hdis2 hk2 hv2 hkeep
              rw [decide_eq_false HNK.out]
              clear HAT HINV HM HDIS HGE HBEL HBLK
              have HBLK2 := HBLK5
              have HBEL2 := HBEL5
              have HSL2 := HSL
              have HHAS2 := Lib.hid (show RefHas m S p2 from fun k h1 h2 => by
                rw [HHAS.out k h1 h2, HK2.out k]
                exact ⟨fun q => ⟨q, fun e => HNK.out (e ▸ q)⟩, fun q => q.1⟩)
              go_wp2_with fail
              go_meet
              case rel => exact ⟨p2, v2, S, HAT2.out, HINV2.out, HM2.out, HBLK2.out, HSL2.out, HHAS2.out, HDIS2.out, HGE2.out, HBEL2.out⟩
            · have HYK := Lib.hid (hbx.1 rfl)
              clear hbx
              go_wp2_with fail
              go_quiet (fail)
              go_wp2_with fail
              refine (give_any _ g b v p n (HAT.out.qt (Qt.drewN wr nq)) HINV.out).mono ?_
              rintro e w5 ⟨p2, v2, rfl, hat2, hinv2, hm2, hk2, hv2, hkeep⟩
              have hb8 : w5.heap[g8]? = some (refO m S) := (hkeep.block g8 (m_lt HBLK.out) HDIS.out).trans HBLK.out
              have hbelq : Below w.heap.size w (wr.drewN nq) := below_drewN HBEL.out nq
              have hbel5 : Below w.heap.size w w5 := hbelq.trans (hkeep.toBelow HBEL.out.size HGE.out)
              have hge2 : ∀ k, pfoot g v2 b k → w.heap.size ≤ k := fun k q => (pfoot_new hv2 k q).elim (HGE.out k) (fun q => Nat.le_trans HBEL.out.size q)
              have hdis2 : ¬ pfoot g v2 b g8 := fun q => (pfoot_new hv2 _ q).elim HDIS.out (fun q => absurd (m_lt HBLK.out) (Nat.not_lt.2 q))
              rw [HM.out] at hm2
              have HAT2 := Lib.hid hat2
              have HINV2 := Lib.hid hinv2
              have HM2 := Lib.hid hm2
              have HBLK5 := Lib.hid hb8
              have HBEL5 := Lib.hid hbel5
              have HGE2 := Lib.hid hge2
              have HDIS2 := Lib.hid hdis2
              have HK2 := Lib.hid hk2
              clear hat2 hinv2 hm2 hb8 hbelq hbel5 hge2 hdis2 hk2 hv2 hkeep
              rw [decide_eq_true HYK.out]
              clear HAT HINV HM HDIS HGE HBEL HBLK
              have HCI := Lib.hid (cell_later HBEL5.out HCW.out)
              have ci : w5.drew.cell? ⟨CB, coff + i, none⟩ = some (.int .i64 n) := HCI.out
              have hld : ∀ (K : Act → World → Prop) (Q : Exit → Act → World → Prop) (o : Oper) (a : Act) (x : Operand) (w' : World), o.op = .load 42 x → a.eval x = .pointer (some ⟨g8, 0, none⟩) → w'.heap[g8]? = some (refO m S) → K (a.put o.dst (.agg (refA m S))) w' → o.wp Try.prog a w' K Q :=
                fun K Q o a x w' h1 h2 h3 h4 => wp_load_row 42 x h1 g8 h2 42 (refA m S) (0, 0) _ h3 Try.underlying42 rfl (by rw [ref_info, HSZ.out]) h4
              have HLD := Lib.hid hld
              clear hld
              go_wp2_with fail
              refine wp_region_any (by kernel_rfl) ?_
              change wpAny _ _ _ _ _ _ _ (World.drew _)
              refine wpAny_take (i := 1) (v := ?_) rfl (by kernel_rfl) (by kernel_rfl) (by kernel_rfl) (fun _ _ _ h => h) (Or.inl ⟨by rfl, ?_⟩) ?_
              rotate_left
              · intro w; go_simp; rfl
              refine wpAny_take (i := 2) (v := ?_) rfl (by kernel_rfl) (by kernel_rfl) (by kernel_rfl) (fun _ _ _ h => h) (Or.inl ⟨by rfl, ?_⟩) ?_
              rotate_left
              · intro w; go_simp; rfl
              refine wpAny_take (i := 3) (v := ?_) rfl (by kernel_rfl) (by kernel_rfl) (by kernel_rfl) (fun _ _ _ h => h) (Or.inl ⟨by rfl, ?_⟩) ?_
              rotate_left
              · intro w; go_simp; rfl
              refine wpAny_ready (rs := [0, 4]) (by kernel_rfl) (by simp) ?_
              refine AllReady.cons rfl (fun K hK => ?_) (AllReady.cons rfl (fun K hK => ?_) AllReady.nil)
              · rw [if_pos (by rfl)]
                refine HLD.out _ _ _ _ _ _ rfl rfl HBLK5.out (hK _ _ ?_)
                clear hK K
                refine wpAny_ready (rs := [4]) (by kernel_rfl) (by simp) ?_
                refine AllReady.cons rfl (fun K hK => ?_) AllReady.nil
                go_simp
                refine hK _ _ ?_
                clear hK K
                refine wpAny_ready (rs := [5]) (by kernel_rfl) (by simp) ?_
                refine AllReady.cons rfl (fun K hK => ?_) AllReady.nil
                go_simp
                refine (set_any m S n false _ hn200 HSL.out).mono ?_
                rintro e w7 ⟨rfl, hb7⟩
                refine hK _ _ ?_
                clear hK K
                have HB7 := Lib.hid (show Below w5.heap.size w5 w7 from Below.trans (by repeat (first | exact Below.refl _ _ | assumption | (refine Below.drew ?_) | (refine below_drewN ?_ _) | (refine Below.alloc ?_ (by simp; done) _) | (refine Below.alloc ?_ (by simp; omega) _))) hb7)
                have HBLK7 := Lib.hid ((HB7.out.block _ (m_lt HBLK5.out)).trans HBLK5.out)
                have HAT7 := Lib.hid (HAT2.out.below HB7.out)
                have HBEL7 := Lib.hid (HBEL5.out.trans (HB7.out.mono HBEL5.out.size))
                have hsl2 : (S.set n false).length = 201 := by rw [List.length_set]; exact HSL.out
                have hhas2 : RefHas m (S.set n false) p2 := fun k h1 h2 => by
                  rw [getD_set S n k false (by rw [HSL.out]; omega), HK2.out k]
                  by_cases e : k = n
                  · subst e; simp
                  · rw [if_neg e, HHAS.out k h1 h2]
                    exact ⟨fun q => ⟨q, fun e2 => e (Int.ofNat.inj e2)⟩, fun q => q.1⟩
                have HSL2 := Lib.hid hsl2
                have HHAS2 := Lib.hid hhas2
                generalize hS2 : S.set n false = S2 at *
                have HSZ7 := Lib.hid (show (refA m S2).size = 202 by rw [refA_size, HSL2.out])
                clear hb7 hsl2 hhas2 hS2
                refine wpAny_ready (rs := [6]) (by kernel_rfl) (by simp) ?_
                refine AllReady.cons rfl (fun K hK => ?_) AllReady.nil
                rw [if_pos (by rfl)]
                refine wp_store_row 42 _ _ rfl g8 (refA m S2) rfl rfl 42 (refA m S) HBLK7.out (by rw [ref_info, HSZ7.out]) (by rw [HSZ.out, HSZ7.out]) (refA_one _ _) (hK _ _ ?_)
                clear hK K
                refine wpAny_done (by kernel_rfl) ?_ _
                have HBLK2 := Lib.hid (show (w7.setRow g8 (refA m S2)).heap[g8]? = some (refO m S2) from setRow_heap _ _ _ _ _ _ HBLK7.out)
                have HAT2 := Lib.hid (HAT7.out.keep (Keep.setRow w7 g8 (refA m S2)) (fun k q e => HDIS2.out (e ▸ q)))
                have HBEL2 := Lib.hid (below_setRow HBEL7.out HG8.out (refA m S2))
                clear HAT7 HBEL7 HBLK7
                generalize w7.setRow g8 (refA m S2) = w8 at *
                go_wp2_with fail
                go_meet
                case rel => exact ⟨p2, v2, S2, HAT2.out, HINV2.out, HM2.out, HBLK2.out, HSL2.out, HHAS2.out, HDIS2.out, HGE2.out, HBEL2.out⟩
              · go_simp
                refine hK _ _ ?_
                clear hK K
                refine wpAny_ready (rs := [0]) (by kernel_rfl) (by simp) ?_
                refine AllReady.cons rfl (fun K hK => ?_) AllReady.nil
                rw [if_pos (by rfl)]
                refine HLD.out _ _ _ _ _ _ rfl rfl HBLK5.out (hK _ _ ?_)
                clear hK K
                refine wpAny_ready (rs := [5]) (by kernel_rfl) (by simp) ?_
                refine AllReady.cons rfl (fun K hK => ?_) AllReady.nil
                go_simp
                refine (set_any m S n false _ hn200 HSL.out).mono ?_
                rintro e w7 ⟨rfl, hb7⟩
                refine hK _ _ ?_
                clear hK K
                have HB7 := Lib.hid (show Below w5.heap.size w5 w7 from Below.trans (by repeat (first | exact Below.refl _ _ | assumption | (refine Below.drew ?_) | (refine below_drewN ?_ _) | (refine Below.alloc ?_ (by simp; done) _) | (refine Below.alloc ?_ (by simp; omega) _))) hb7)
                have HBLK7 := Lib.hid ((HB7.out.block _ (m_lt HBLK5.out)).trans HBLK5.out)
                have HAT7 := Lib.hid (HAT2.out.below HB7.out)
                have HBEL7 := Lib.hid (HBEL5.out.trans (HB7.out.mono HBEL5.out.size))
                have hsl2 : (S.set n false).length = 201 := by rw [List.length_set]; exact HSL.out
                have hhas2 : RefHas m (S.set n false) p2 := fun k h1 h2 => by
                  rw [getD_set S n k false (by rw [HSL.out]; omega), HK2.out k]
                  by_cases e : k = n
                  · subst e; simp
                  · rw [if_neg e, HHAS.out k h1 h2]
                    exact ⟨fun q => ⟨q, fun e2 => e (Int.ofNat.inj e2)⟩, fun q => q.1⟩
                have HSL2 := Lib.hid hsl2
                have HHAS2 := Lib.hid hhas2
                generalize hS2 : S.set n false = S2 at *
                have HSZ7 := Lib.hid (show (refA m S2).size = 202 by rw [refA_size, HSL2.out])
                clear hb7 hsl2 hhas2 hS2
                refine wpAny_ready (rs := [6]) (by kernel_rfl) (by simp) ?_
                refine AllReady.cons rfl (fun K hK => ?_) AllReady.nil
                rw [if_pos (by rfl)]
                refine wp_store_row 42 _ _ rfl g8 (refA m S2) rfl rfl 42 (refA m S) HBLK7.out (by rw [ref_info, HSZ7.out]) (by rw [HSZ.out, HSZ7.out]) (refA_one _ _) (hK _ _ ?_)
                clear hK K
                refine wpAny_done (by kernel_rfl) ?_ _
                have HBLK2 := Lib.hid (show (w7.setRow g8 (refA m S2)).heap[g8]? = some (refO m S2) from setRow_heap _ _ _ _ _ _ HBLK7.out)
                have HAT2 := Lib.hid (HAT7.out.keep (Keep.setRow w7 g8 (refA m S2)) (fun k q e => HDIS2.out (e ▸ q)))
                have HBEL2 := Lib.hid (below_setRow HBEL7.out HG8.out (refA m S2))
                clear HAT7 HBEL7 HBLK7
                generalize w7.setRow g8 (refA m S2) = w8 at *
                go_wp2_with fail
                go_meet
                case rel => exact ⟨p2, v2, S2, HAT2.out, HINV2.out, HM2.out, HBLK2.out, HSL2.out, HHAS2.out, HDIS2.out, HGE2.out, HBEL2.out⟩
          · have d1 : decide ((n : Int) ≤ m) = false := decide_eq_false (by omega)
            have HNK := Lib.hid (show ¬ (n : Int) ∈ mkeys p.out from fun q => by have := HINV.out.keys _ q; rw [HM.out] at this; omega)
            go_wp2_with fail
            go_quiet (fail)
            go_wp2_with fail
            refine (give_any _ g b v p n (HAT.out.qt (Qt.drewN wr nq)) HINV.out).mono ?_
            rintro e w5 ⟨p2, v2, rfl, hat2, hinv2, hm2, hk2, hv2, hkeep⟩
            have hb8 : w5.heap[g8]? = some (refO m S) := (hkeep.block g8 (m_lt HBLK.out) HDIS.out).trans HBLK.out
            have hbelq : Below w.heap.size w (wr.drewN nq) := below_drewN HBEL.out nq
            have hbel5 : Below w.heap.size w w5 := hbelq.trans (hkeep.toBelow HBEL.out.size HGE.out)
            have hge2 : ∀ k, pfoot g v2 b k → w.heap.size ≤ k := fun k q => (pfoot_new hv2 k q).elim (HGE.out k) (fun q => Nat.le_trans HBEL.out.size q)
            have hdis2 : ¬ pfoot g v2 b g8 := fun q => (pfoot_new hv2 _ q).elim HDIS.out (fun q => absurd (m_lt HBLK.out) (Nat.not_lt.2 q))
            rw [HM.out] at hm2
            have HAT2 := Lib.hid hat2
            have HINV2 := Lib.hid hinv2
            have HM2 := Lib.hid hm2
            have HBLK5 := Lib.hid hb8
            have HBEL5 := Lib.hid hbel5
            have HGE2 := Lib.hid hge2
            have HDIS2 := Lib.hid hdis2
            have HK2 := Lib.hid hk2
            clear hat2 hinv2 hm2 hb8 hbelq hbel5 hge2 hdis2 hk2 hv2 hkeep
            rw [decide_eq_false HNK.out]
            clear HAT HINV HM HDIS HGE HBEL HBLK
            have HBLK2 := HBLK5
            have HBEL2 := HBEL5
            have HSL2 := HSL
            have HHAS2 := Lib.hid (show RefHas m S p2 from fun k h1 h2 => by
              rw [HHAS.out k h1 h2, HK2.out k]
              exact ⟨fun q => ⟨q, fun e => HNK.out (e ▸ q)⟩, fun q => q.1⟩)
            go_wp2_with fail
            go_meet
            case rel => exact ⟨p2, v2, S, HAT2.out, HINV2.out, HM2.out, HBLK2.out, HSL2.out, HHAS2.out, HDIS2.out, HGE2.out, HBEL2.out⟩
        · clear HBQ
          go_wp2_with fail
          refine (take_any wr g b v p HAT.out HINV.out).mono ?_
          rintro e w5 ⟨p2, v2, n, hn, rfl, hat2, hinv2, hm2, hk2, hv2, hkeep⟩
          have hb8 := (hkeep.block g8 (m_lt HBLK.out) HDIS.out).trans HBLK.out
          have hbel5 : Below w.heap.size w w5 := HBEL.out.trans (hkeep.toBelow HBEL.out.size HGE.out)
          have hge2 : ∀ k, pfoot g v2 b k → w.heap.size ≤ k := fun k q => (pfoot_new hv2 k q).elim (HGE.out k) (fun q => Nat.le_trans HBEL.out.size q)
          have hdis2 : ¬ pfoot g v2 b g8 := fun q => (pfoot_new hv2 _ q).elim HDIS.out (fun q => absurd (m_lt HBLK.out) (Nat.not_lt.2 q))
          have hls := fun r hr => least_same (r := r) HINV.out HM.out HHAS.out hr hn
          rw [HM.out] at hls hk2 hm2 ⊢
          have HLS := Lib.hid hls
          have HAT2 := Lib.hid hat2
          have HINV2 := Lib.hid hinv2
          have HM2 := Lib.hid hm2
          have HBLK5 := Lib.hid hb8
          have HBEL5 := Lib.hid hbel5
          have HGE2 := Lib.hid hge2
          have HDIS2 := Lib.hid hdis2
          have HK2 := Lib.hid hk2
          have hn1 := hn.1
          clear hn hls hat2 hinv2 hm2 hb8 hbel5 hge2 hdis2 hk2 hv2 hkeep HAT HINV HM HDIS HGE HBEL HBLK
          by_cases hq : n ≤ m
          · rw [if_pos hq, decide_eq_true hq]
            go_wp2_with (first
              | (refine wpList_load_row rfl 42 _ rfl g8 rfl 42 (refA m S) (0, 0) _ HBLK5.out Try.underlying42 rfl ?c2 ?_; (case c2 => rw [ref_info, HSZ.out])))
            refine (least_any m S w5 hm200 HSL.out).mono ?_
            rintro e w6 ⟨r, rfl, hr, hb6⟩
            have hrn := HLS.out r hr
            rw [if_pos hq] at hrn
            subst hrn
            have HBLK6 := Lib.hid ((hb6.block _ (m_lt HBLK5.out)).trans HBLK5.out)
            have HAT6 := Lib.hid (HAT2.out.below hb6)
            have HBEL6 := Lib.hid (HBEL5.out.trans (hb6.mono HBEL5.out.size))
            have n0 : (0 : Int) < n := by omega
            have n00 : 0 < n := by omega
            have nd : decide (0 < n) = true := decide_eq_true n00
            have nd2 : decide ((0 : Int) < n) = true := decide_eq_true n0
            clear hr hb6 HLS HBLK5 HAT2 HBEL5
            go_wp2_with (first
              | (refine wpList_load_row rfl 42 _ rfl g8 rfl 42 (refA m S) (0, 0) _ HBLK6.out Try.underlying42 rfl ?c2 ?_; (case c2 => rw [ref_info, HSZ.out])))
            refine (set_any m S n true w6 (by omega) HSL.out).mono ?_
            rintro e w7 ⟨rfl, hb7⟩
            have HBLK7 := Lib.hid ((hb7.block _ (m_lt HBLK6.out)).trans HBLK6.out)
            have hsl2 : (S.set n true).length = 201 := by rw [List.length_set]; exact HSL.out
            have hhas2 : RefHas m (S.set n true) p2 := fun k h1 h2 => by
              rw [getD_set S n k true (by rw [HSL.out]; omega), HK2.out k]
              by_cases e : k = n
              · subst e; simp [hq]
              · rw [if_neg e, HHAS.out k h1 h2]
                exact ⟨Or.inl, fun q => q.elim id (fun q => absurd (Int.ofNat.inj q.2) e)⟩
            have HAT7 := Lib.hid (HAT6.out.below hb7)
            have HBEL7 := Lib.hid (HBEL6.out.trans (hb7.mono HBEL6.out.size))
            have HSL2 := Lib.hid hsl2
            have HHAS2 := Lib.hid hhas2
            generalize hS2 : S.set n true = S2 at *
            have HSZ7 := Lib.hid (show (refA m S2).size = 202 by rw [refA_size, HSL2.out])
            clear hb7 hsl2 hhas2 hS2 HHAS HAT6 HBEL6 HBLK6
            go_wp2_with (first
              | (refine wpList_store_row rfl 42 _ _ rfl g8 (refA m S2) rfl rfl 42 (refA m S) HBLK7.out ?d2 ?d3 (refA_one _ _) ?_; (case d2 => rw [ref_info, HSZ7.out]); (case d3 => rw [HSZ.out, HSZ7.out])))
            have HBLK2 := Lib.hid (show (w7.setRow g8 (refA m S2)).heap[g8]? = some (refO m S2) from setRow_heap _ _ _ _ _ _ HBLK7.out)
            have HAT2 := Lib.hid (HAT7.out.keep (Keep.setRow w7 g8 (refA m S2)) (fun k q e => HDIS2.out (e ▸ q)))
            have HBEL2 := Lib.hid (below_setRow HBEL7.out HG8.out (refA m S2))
            clear HAT7 HBEL7 HBLK7
            generalize w7.setRow g8 (refA m S2) = w8 at *
            go_meet
            case rel => exact ⟨p2, v2, S2, HAT2.out, HINV2.out, HM2.out, HBLK2.out, HSL2.out, HHAS2.out, HDIS2.out, HGE2.out, HBEL2.out⟩
          · rw [if_neg hq, decide_eq_false hq]
            go_wp2_with (first
              | (refine wpList_load_row rfl 42 _ rfl g8 rfl 42 (refA m S) (0, 0) _ HBLK5.out Try.underlying42 rfl ?c2 ?_; (case c2 => rw [ref_info, HSZ.out])))
            refine (least_any m S w5 hm200 HSL.out).mono ?_
            rintro e w6 ⟨r, rfl, hr, hb6⟩
            have hrn := HLS.out r hr
            rw [if_neg hq] at hrn
            subst hrn
            have HBLK2 := Lib.hid ((hb6.block _ (m_lt HBLK5.out)).trans HBLK5.out)
            have HAT2 := Lib.hid (HAT2.out.below hb6)
            have HBEL2 := Lib.hid (HBEL5.out.trans (hb6.mono HBEL5.out.size))
            have HHAS2 := Lib.hid (show RefHas m S p2 from fun k h1 h2 => by
              rw [HHAS.out k h1 h2, HK2.out k]
              exact ⟨Or.inl, fun q => q.elim id (fun q => absurd q.1 hq)⟩)
            have HSL2 := HSL
            clear hr hb6 HLS HBLK5 HBEL5
            go_wp2_with fail
            go_meet
            case rel => exact ⟨p2, v2, S, HAT2.out, HINV2.out, HM2.out, HBLK2.out, HSL2.out, HHAS2.out, HDIS2.out, HGE2.out, HBEL2.out⟩
      case rest =>
        rename World => w6
        obtain ⟨p2, v2, S2, hat2, hinv2, hm2, hblk2, hsl2, hhas2, hdis2, hge2, hbel2⟩ := hcut
        have HAT2 := Lib.hid hat2
        have HINV2 := Lib.hid hinv2
        have HM2 := Lib.hid hm2
        have HBLK2 := Lib.hid hblk2
        have HSL2 := Lib.hid hsl2
        have HHAS2 := Lib.hid hhas2
        have HDIS2 := Lib.hid hdis2
        have HGE2 := Lib.hid hge2
        have HBEL2 := Lib.hid hbel2
        clear hat2 hinv2 hm2 hblk2 hsl2 hhas2 hdis2 hge2 hbel2 HAT HINV HM HBLK HSL HHAS HDIS HGE HBEL HSZ cc1
        have HCN := Lib.hid (cnt_len HINV2.out HM2.out HHAS2.out)
        have hu := Try.underlying42
        have hinf : (Try.prog.info? 42).map (·.size) = some (refL m S2).length := by rw [ref_info, refL_len, HSL2.out]
        have hld : ∀ (K : Act → World → Prop) (Q : Exit → Act → World → Prop) (o : Oper) (a : Act) (x : Operand) (w' : World), o.op = .load 42 x → a.eval x = .pointer (some ⟨g8, 0, none⟩) → w'.heap[g8]? = some (refO m S2) → K (a.put o.dst (.agg (refA m S2))) w' → o.wp Try.prog a w' K Q :=
          fun K Q o a x w' h1 h2 h3 h4 => wp_load_row 42 x h1 g8 h2 42 (refA m S2) (0, 0) _ h3 Try.underlying42 rfl (by rw [ref_info, refA_size, HSL2.out]) h4
        have HLD := Lib.hid hld
        clear hld
        go_wp2_with fail
        refine wp_region_any (by kernel_rfl) ?_
        change wpAny _ _ _ _ _ _ _ (World.drew _)
        refine wpAny_take (i := 0) (v := ?_) rfl (by kernel_rfl) (by kernel_rfl) (by kernel_rfl) (fun _ _ _ h => h) (Or.inl ⟨by rfl, ?_⟩) ?_
        rotate_left
        · intro w; go_simp; rfl
        refine wpAny_ready (rs := [1, 2]) (by kernel_rfl) (by simp) ?_
        refine AllReady.cons rfl (fun K hK => ?_) (AllReady.cons rfl (fun K hK => ?_) AllReady.nil)
        · go_simp
          refine (out_any _ g b v2 p2 (HAT2.out.below (by repeat (first | exact Below.refl _ _ | assumption | (refine Below.drew ?_) | (refine below_drewN ?_ _) | (refine Below.alloc ?_ (by simp; done) _) | (refine Below.alloc ?_ (by simp; omega) _))))).mono ?_
          rintro e w8 ⟨rfl, rfl⟩
          refine hK _ _ ?_
          clear hK K
          refine wpAny_ready (rs := [2]) (by kernel_rfl) (by simp) ?_
          refine AllReady.cons rfl (fun K hK => ?_) AllReady.nil
          rw [if_pos (by rfl)]
          refine HLD.out _ _ _ _ _ _ rfl rfl HBLK2.out (hK _ _ ?_)
          clear hK K
          refine wpAny_ready (rs := [3]) (by kernel_rfl) (by simp) ?_
          refine AllReady.cons rfl (fun K hK => ?_) AllReady.nil
          go_simp
          refine (count_any m S2 _ hm200 HSL2.out).mono ?_
          rintro e w9 ⟨rfl, hb9⟩
          rw [HCN.out]
          refine hK _ _ ?_
          clear hK K
          refine wpAny_ready (rs := [4]) (by kernel_rfl) (by simp) ?_
          refine AllReady.cons rfl (fun K hK => ?_) AllReady.nil
          go_simp
          refine hK _ _ ?_
          clear hK K
          refine wpAny_done (by kernel_rfl) ?_ _
          have HB9 := Lib.hid (show Below w6.heap.size w6 w9 from Below.trans (by repeat (first | exact Below.refl _ _ | assumption | (refine Below.drew ?_) | (refine below_drewN ?_ _) | (refine Below.alloc ?_ (by simp; done) _) | (refine Below.alloc ?_ (by simp; omega) _))) hb9)
          clear hb9
          go_wp2_with fail
          exact ⟨⟨i + 1, p2, v2, S2, by go_num, hlt, HAT2.out.below HB9.out, HINV2.out, HM2.out, (HB9.out.block _ (m_lt HBLK2.out)).trans HBLK2.out, HSL2.out, HHAS2.out, HDIS2.out, HGE2.out, HBEL2.out.trans (HB9.out.mono HBEL2.out.size)⟩, by simp [intOf]; omega⟩
        · rw [if_pos (by rfl)]
          refine HLD.out _ _ _ _ _ _ rfl rfl HBLK2.out (hK _ _ ?_)
          clear hK K
          refine wpAny_ready (rs := [1]) (by kernel_rfl) (by simp) ?_
          refine AllReady.cons rfl (fun K hK => ?_) AllReady.nil
          go_simp
          refine (out_any _ g b v2 p2 (HAT2.out.below (by repeat (first | exact Below.refl _ _ | assumption | (refine Below.drew ?_) | (refine below_drewN ?_ _) | (refine Below.alloc ?_ (by simp; done) _) | (refine Below.alloc ?_ (by simp; omega) _))))).mono ?_
          rintro e w8 ⟨rfl, rfl⟩
          refine hK _ _ ?_
          clear hK K
          refine wpAny_ready (rs := [3]) (by kernel_rfl) (by simp) ?_
          refine AllReady.cons rfl (fun K hK => ?_) AllReady.nil
          go_simp
          refine (count_any m S2 _ hm200 HSL2.out).mono ?_
          rintro e w9 ⟨rfl, hb9⟩
          rw [HCN.out]
          refine hK _ _ ?_
          clear hK K
          refine wpAny_ready (rs := [4]) (by kernel_rfl) (by simp) ?_
          refine AllReady.cons rfl (fun K hK => ?_) AllReady.nil
          go_simp
          refine hK _ _ ?_
          clear hK K
          refine wpAny_done (by kernel_rfl) ?_ _
          have HB9 := Lib.hid (show Below w6.heap.size w6 w9 from Below.trans (by repeat (first | exact Below.refl _ _ | assumption | (refine Below.drew ?_) | (refine below_drewN ?_ _) | (refine Below.alloc ?_ (by simp; done) _) | (refine Below.alloc ?_ (by simp; omega) _))) hb9)
          clear hb9
          go_wp2_with fail
          exact ⟨⟨i + 1, p2, v2, S2, by go_num, hlt, HAT2.out.below HB9.out, HINV2.out, HM2.out, (HB9.out.block _ (m_lt HBLK2.out)).trans HBLK2.out, HSL2.out, HHAS2.out, HDIS2.out, HGE2.out, HBEL2.out.trans (HB9.out.mono HBEL2.out.size)⟩, by simp [intOf]; omega⟩
    · have ei : i = L.length := by omega
      subst ei
      have i1 : ¬ ((L.length : Int) < L.length) := by omega
      go_wp2_with fail
      go_ret
      exact ⟨rfl, HBEL.out⟩
end Go.Proofs.Ytepjflepnkfboaa
