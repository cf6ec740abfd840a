/- ids: the reference's pool. -/
import Derived.Test.YtepjflepnkfboaaI6
import Derived.Laws.Rows
import Derived.Laws.Tables
import Derived.Deep.QuietTactic
import Derived.BigQuiet
namespace Go.Proofs.Ytepjflepnkfboaa
open Go.RowKit
set_option linter.unusedSimpArgs false
set_option linter.unusedVariables false
def refA (m : Nat) (S : List Bool) : Array Value := (Value.int .i64 m :: S.map Value.bool).toArray
def refO (m : Nat) (S : List Bool) : Obj := .cells (refA m S) 42 (0, 0)
theorem refA_size (m : Nat) (S : List Bool) : (refA m S).size = S.length + 1 := by simp [refA]
theorem refA_one (m : Nat) (S : List Bool) : (refA m S).all (·.oneCell') = true := by
  rw [Array.all_eq_true_iff_forall_mem]
  intro v hv
  have : v ∈ (Value.int .i64 m :: S.map Value.bool) := by simpa [refA] using hv
  rcases List.mem_cons.1 this with rfl | h
  · rfl
  · obtain ⟨b, _, rfl⟩ := List.mem_map.1 h; rfl
theorem ref_c0 {w : World} {b m : Nat} {S : List Bool} (h : w.heap[b]? = some (refO m S)) : w.cell? ⟨b, 0, none⟩ = some (.int .i64 m) := (m_cells h).1 0
theorem ref_c {w : World} {b m : Nat} {S : List Bool} (h : w.heap[b]? = some (refO m S)) (i : Nat) (hi : i < S.length) : w.cell? ⟨b, 1 + i, none⟩ = some (.bool (S.getD i false)) := by
  rw [(m_cells h).1 (1 + i)]
  simp [refA, Nat.add_comm 1 i, List.getD_eq_getElem?_getD, List.getElem?_eq_getElem hi]
theorem ref_set {w : World} {b m : Nat} {S : List Bool} (h : w.heap[b]? = some (refO m S)) (i : Nat) (x : Bool) : (w.setCell ⟨b, 1 + i, none⟩ (.bool x)).heap[b]? = some (refO m (S.set i x)) := by
  rw [m_set h (1 + i) (.bool x)]
  unfold refO
  congr 2
  apply Array.ext'
  simp [refA, Nat.add_comm 1 i, List.map_set]
theorem ref_info : (Try.prog.info? 42).map (·.size) = some 202 := by kernel_rfl
def refZ : Array Value := refA 0 (List.replicate 201 false)
theorem zero_ref (w : World) : (zeroValue 42).run Try.prog w = .ok (.agg refZ) w := by kernel_rfl
theorem refZ_size : refZ.size = 202 := by unfold refZ; rw [refA_size, List.length_replicate]
def LeastS (m : Nat) (S : List Bool) (r : Nat) : Prop :=
  (r = 0 ∧ ∀ n, 1 ≤ n → n ≤ m → S.getD n false = true) ∨ (1 ≤ r ∧ r ≤ m ∧ S.getD r false = false ∧ ∀ n, 1 ≤ n → n < r → S.getD n false = true)
set_option maxRecDepth 100000 in
set_option maxHeartbeats 1000000 in
theorem least_any (m : Nat) (S : List Bool) (w : World) (hm : m ≤ 200) (hS : S.length = 201) :
    Calls Try.prog 23 #[.agg (refA m S)] w fun e w' => ∃ r : Nat, e = .returned (.int .i64 r) ∧ LeastS m S r ∧ Below w.heap.size w w' := by
  have hblk := m_alloc w (refO m S) w.heap.size rfl
  have hbw : Below w.heap.size w (w.alloc (refO m S)) := (Below.refl _ _).alloc (Nat.le_refl _) _
  have hc0 := ref_c0 hblk
  have HBLK := Lib.hid hblk
  have HBW := Lib.hid hbw
  have HS := Lib.hid hS
  clear hblk hbw hS
  go_enter Try.func23, Try.ntmps23
  go_wp2_with fail
  go_loopw [3] (fun nv wr => wr = w.alloc (refO m S) ∧ ∃ n : Nat, nv = .int .i64 n ∧ 1 ≤ n ∧ n ≤ m + 1 ∧ ∀ i, 1 ≤ i → i < n → S.getD i false = true) (fun nv _ => m + 1 - (intOf nv).toNat)
  case atStart => exact ⟨rfl, 1, rfl, Nat.le_refl _, by omega, fun i h1 h2 => by omega⟩
  case round =>
    obtain ⟨rfl, n, rfl, h1, h2, h3⟩ := hrel
    have H3 := Lib.hid h3
    clear h3
    by_cases hle : n ≤ m
    · have i1 : (n : Int) ≤ m := by omega
      have i2 : (n : Int) < 201 := by omega
      have i3 : n < 201 := by omega
      have hc := ref_c HBLK.out n (by rw [HS.out]; omega)
      obtain ⟨x, hx⟩ : ∃ x, S.getD n false = x := ⟨_, rfl⟩
      rw [hx] at hc
      have HX := Lib.hid hx
      clear hx
      cases x
      · go_wp2_with fail
        go_ret
        exact ⟨n, rfl, Or.inr ⟨h1, hle, HX.out, H3.out⟩, HBW.out⟩
      · go_wp2_with fail
        exact ⟨⟨trivial, n + 1, by go_num, by omega, by omega, fun i q1 q2 => (Nat.lt_succ_iff_lt_or_eq.1 q2).elim (H3.out i q1) (fun e => by rw [e]; exact HX.out)⟩, by simp [intOf]; omega⟩
    · have i1 : ¬ ((n : Int) ≤ m) := by omega
      go_wp2_with fail
      go_ret
      exact ⟨0, rfl, Or.inl ⟨rfl, fun i q1 q2 => H3.out i q1 (by omega)⟩, HBW.out⟩
def cntS (S : List Bool) (n : Nat) : Nat := ((List.range n).filter fun i => S.getD (i + 1) false).length
theorem cntS_succ (S : List Bool) (n : Nat) : cntS S (n + 1) = cntS S n + if S.getD (n + 1) false then 1 else 0 := by
  unfold cntS
  rw [List.range_succ, List.filter_append, List.length_append]
  congr 1
  rw [List.filter_cons]
  simp only [List.filter_nil]
  cases S.getD (n + 1) false <;> rfl
theorem cntS_le (S : List Bool) (n : Nat) : cntS S n ≤ n := by
  unfold cntS
  have := List.length_filter_le (fun i => S.getD (i + 1) false) (List.range n)
  rwa [List.length_range] at this
set_option maxRecDepth 100000 in
set_option maxHeartbeats 1000000 in
theorem count_any (m : Nat) (S : List Bool) (w : World) (hm : m ≤ 200) (hS : S.length = 201) :
    Calls Try.prog 25 #[.agg (refA m S)] w fun e w' => e = .returned (.int .i64 (cntS S m)) ∧ Below w.heap.size w w' := by
  have hblk := m_alloc w (refO m S) w.heap.size rfl
  have hbw : Below w.heap.size w (w.alloc (refO m S)) := (Below.refl _ _).alloc (Nat.le_refl _) _
  have hc0 := ref_c0 hblk
  have HBLK := Lib.hid hblk
  have HBW := Lib.hid hbw
  have HS := Lib.hid hS
  clear hblk hbw hS
  go_enter Try.func25, Try.ntmps25
  go_wp2_with fail
  go_loopw [3, 4] (fun kv nv wr => wr = w.alloc (refO m S) ∧ ∃ n : Nat, nv = .int .i64 ((n : Int) + 1) ∧ n ≤ m ∧ kv = .int .i64 (cntS S n)) (fun _ nv _ => m + 1 - (intOf nv).toNat)
  case atStart => exact ⟨rfl, 0, rfl, Nat.zero_le _, rfl⟩
  case round =>
    obtain ⟨rfl, n, rfl, h1, rfl⟩ := hrel
    have hcl := cntS_le S n
    by_cases hle : n < m
    · have i1 : (n : Int) + 1 ≤ m := by omega
      have i2 : (n : Int) + 1 < 201 := by omega
      have i3 : n + 1 < 201 := by omega
      have hc := ref_c HBLK.out (n + 1) (by rw [HS.out]; omega)
      have HCN := Lib.hid (cntS_succ S n)
      obtain ⟨x, hx⟩ : ∃ x, S.getD (n + 1) false = x := ⟨_, rfl⟩
      rw [hx] at hc HCN
      clear hx
      cases x
      · have e1 : cntS S (n + 1) = cntS S n := by rw [HCN.out]; rfl
        have E1 := Lib.hid e1
        clear e1 HCN
        go_wp2_with fail
        exact ⟨⟨trivial, n + 1, by go_num, hle, by rw [E1.out]⟩, by simp [intOf]; omega⟩
      · have e1 : cntS S (n + 1) = cntS S n + 1 := by rw [HCN.out]; rfl
        have E1 := Lib.hid e1
        clear e1 HCN
        go_wp2_with fail
        exact ⟨⟨trivial, n + 1, by go_num, hle, by rw [E1.out]; go_num⟩, by simp [intOf]; omega⟩
    · have i1 : ¬ ((n : Int) + 1 ≤ m) := by omega
      have en : n = m := by omega
      subst en
      go_wp2_with fail
      go_ret
      exact ⟨rfl, HBW.out⟩
theorem below_setRow {B : Nat} {w w1 : World} (h : Below B w w1) {g : Nat} (hg : B ≤ g) (c : Array Value) : Below B w (w1.setRow g c) :=
  ⟨h.os, h.tape, h.output, by have := h.size; simp [World.setRow]; exact this, fun k hk => by rw [setRow_other _ _ _ _ (by omega)]; exact h.block k hk⟩
set_option maxRecDepth 100000 in
set_option maxHeartbeats 1000000 in
theorem set_any (m : Nat) (S : List Bool) (n : Nat) (x : Bool) (w : World) (hn : n ≤ 200) (hS : S.length = 201) :
    Calls Try.prog 21 #[.agg (refA m S), .int .i64 n, .bool x] w fun e w' => e = .returned (.agg (refA m (S.set n x))) ∧ Below w.heap.size w w' := by
  have hblk := m_alloc w (refO m S) w.heap.size rfl
  have hbw : Below w.heap.size w (w.alloc (refO m S)) := (Below.refl _ _).alloc (Nat.le_refl _) _
  have HBLK := Lib.hid hblk
  have HBW := Lib.hid hbw
  have HS := Lib.hid hS
  clear hblk hbw hS
  have hz := zero_ref
  have i1 : (n : Int) < 201 := by omega
  have i2 : n < 201 := by omega
  have hcx : (refA m S)[1 + n]? = some (.bool (S.getD n false)) := by
    have := ref_c HBLK.out n (by rw [HS.out]; omega)
    rwa [(m_cells HBLK.out).1 (1 + n)] at this
  have hst : (refA m S).setIfInBounds (1 + n) (.bool x) = refA m (S.set n x) := by
    have := ref_set HBLK.out n x
    rw [m_set HBLK.out (1 + n) (.bool x)] at this
    simpa [refO] using this
  have hs2 : (refA m (S.set n x)).size = 202 := by rw [refA_size, List.length_set, HS.out]
  have HS2 := Lib.hid hs2
  have HONE := Lib.hid (refA_one m (S.set n x))
  clear hs2
  go_enter Try.func21, Try.ntmps21
  go_wp2_with (first
    | (refine wpList_load_row rfl 42 _ rfl w.heap.size rfl 42 (refA m (S.set n x)) (0, 0) _ ?c1 Try.underlying42 rfl ?c2 ?_
       case c1 => exact m_old _ (m_alloc w _ _ rfl)
       case c2 => rw [ref_info, HS2.out])
    | (refine wpList_store_row rfl 42 _ _ rfl (w.heap.size + 1) (refA m (S.set n x)) rfl rfl 42 refZ ?d1 ?d2 ?d3 HONE.out ?_
       case d1 => exact m_alloc _ _ _ (by simp)
       case d2 => rw [ref_info, HS2.out]
       case d3 => rw [refZ_size, HS2.out]))
  have hg2 : (((w.alloc (refO m (S.set n x))).alloc (.cells refZ 42)).setRow (w.heap.size + 1) (refA m (S.set n x))).heap[w.heap.size + 1]? = some (refO m (S.set n x)) :=
    setRow_heap _ _ _ _ _ _ (m_alloc (w.alloc (refO m (S.set n x))) (.cells refZ 42) (w.heap.size + 1) (by simp))
  refine bodyPost_ret (v := .agg (refA m (S.set n x))) (results_cell_row (p := 6) (ty := 42) rfl _ _ (w.heap.size + 1) 42 _ (0, 0) _ rfl hg2 Try.underlying42 rfl (by rw [ref_info, HS2.out])) rfl ⟨rfl, ?_⟩
  exact below_setRow (((Below.refl _ _).alloc (Nat.le_refl _) _).alloc (by simp) _) (Nat.le_succ _) _
theorem getD_set (S : List Bool) (n k : Nat) (x : Bool) (h : n < S.length) : (S.set n x).getD k false = if k = n then x else S.getD k false := by
  rw [List.getD_eq_getElem?_getD, List.getD_eq_getElem?_getD, List.getElem?_set]
  by_cases e : k = n
  · subst e; rw [if_pos rfl, if_pos h, if_pos rfl]; rfl
  · rw [if_neg (Ne.symm e), if_neg e]
theorem refZ_set (m : Nat) : refZ.setIfInBounds 0 (Value.int .i64 m) = refA m (List.replicate 201 false) := by
  unfold refZ refA
  generalize List.replicate 201 false = R
  apply Array.ext'
  simp
def RefNewRel (w : World) (B m : Nat) (l : List Int) (iv : Value) (wr : World) : Prop :=
  ∃ (i : Nat) (S : List Bool), iv = .int .i64 i ∧ i ≤ l.length ∧ wr.heap[B + 1]? = some (refO m S) ∧ wr.heap[B]? = some (.cells refZ 42 (0, 0)) ∧ S.length = 201 ∧ (∀ n, 1 ≤ n → n ≤ m → (S.getD n false = true ↔ (n : Int) ∈ l.take i)) ∧ Below B w wr
set_option maxRecDepth 100000 in
set_option maxHeartbeats 2000000 in
theorem refnew_any (most : Int) (tv : Value) (l : List Int) (w : World) (h : ArgI w tv l) (hl : l.length ≤ 400000) (hmost : -9223372036854775808 ≤ most ∧ most ≤ 9223372036854775807) :
    Calls Try.prog 19 #[.int .i64 most, tv] w fun e w' => ∃ S : List Bool, e = .returned (.agg (refA (min (max most 0) 200).toNat S)) ∧ S.length = 201 ∧ (∀ n, 1 ≤ n → n ≤ (min (max most 0) 200).toNat → (S.getD n false = true ↔ (n : Int) ∈ l)) ∧ Below w.heap.size w w' := by
  obtain ⟨m, hm⟩ : ∃ m : Nat, (min (max most 0) 200) = (m : Int) := ⟨(min (max most 0) 200).toNat, by omega⟩
  have hm2 : m ≤ 200 := by omega
  rw [hm, Int.toNat_natCast]
  have hcase : (most < 0 ∧ m = 0) ∨ (200 < most ∧ m = 200) ∨ most = (m : Int) := by omega
  clear hm hmost
  obtain ⟨a0, cap0, rfl, hcells⟩ := h
  have HC := Lib.hid hcells
  obtain ⟨B, hB⟩ : ∃ B, w.heap.size = B := ⟨_, rfl⟩
  have HB := Lib.hid hB
  rw [hB]
  have hz := zero_ref
  clear hcells hB
  obtain ⟨S0, hS0, hS1, hS2⟩ : ∃ S0 : List Bool, S0.length = 201 ∧ (∀ n, ¬ S0.getD n false = true) ∧ ∀ m : Nat, refZ.setIfInBounds 0 (Value.int .i64 m) = refA m S0 :=
    ⟨List.replicate 201 false, List.length_replicate, fun n => by rw [List.getD_eq_getElem?_getD, List.getElem?_replicate]; split <;> exact Bool.false_ne_true, refZ_set⟩
  have key : ∃ X : Int, refZ.setIfInBounds 0 (Value.int .i64 X) = refA m S0 ∧ ((most < 0 ∧ X = 0) ∨ (200 < most ∧ X = 200) ∨ (0 ≤ most ∧ most ≤ 200 ∧ X = most)) := by
    refine ⟨m, hS2 m, ?_⟩
    omega
  have HS0 := Lib.hid hS0
  have HS1 := Lib.hid hS1
  clear hcase hS0 hS1 hS2
  obtain ⟨X, hzs, hX⟩ := key
  rcases hX with ⟨q1, rfl⟩ | ⟨q1, rfl⟩ | ⟨q0, q1, rfl⟩
  all_goals
    have HZS := Lib.hid hzs
    clear hzs
    go_enter Try.func19, Try.ntmps19
    go_wp2_with (first
      | (refine wpList_store_row rfl 42 _ _ rfl (w.heap.size + 1) _ rfl rfl 42 refZ ?d1 ?d2 ?d3 ?d4 ?_
         case d1 => exact m_alloc _ _ _ (by simp)
         case d2 => rw [HZS.out, ref_info, refA_size, HS0.out]
         case d3 => rw [HZS.out, refZ_size, refA_size, HS0.out]
         case d4 => rw [HZS.out]; exact refA_one _ _
         rw [HZS.out]))
    have hb1 : ((w.alloc (.cells refZ 42)).alloc (.cells refZ 42)).heap[w.heap.size + 1]? = some (.cells refZ 42 (0, 0)) := m_alloc _ _ _ (by simp)
    have HB1 := Lib.hid (show (((w.alloc (.cells refZ 42)).alloc (.cells refZ 42)).setRow (w.heap.size + 1) (refA m S0)).heap[w.heap.size + 1]? = some (refO m S0) from setRow_heap _ _ _ _ _ _ hb1)
    have HB0 := Lib.hid (show (((w.alloc (.cells refZ 42)).alloc (.cells refZ 42)).setRow (w.heap.size + 1) (refA m S0)).heap[w.heap.size]? = some (.cells refZ 42 (0, 0)) from (setRow_other _ _ _ _ (by omega)).trans (m_old _ (m_alloc w _ _ rfl)))
    have HBW := Lib.hid (show Below B w (((w.alloc (.cells refZ 42)).alloc (.cells refZ 42)).setRow (w.heap.size + 1) (refA m S0)) from by rw [← HB.out]; exact below_setRow (((Below.refl _ _).alloc (Nat.le_refl _) _).alloc (by simp) _) (Nat.le_succ _) _)
    rw [HB.out] at HB0 HB1 HBW ⊢
    clear hb1
    go_loopw [6] (fun iv wr => RefNewRel w B m l iv wr) (fun iv _ => l.length - (intOf iv).toNat)
    case atStart => exact ⟨0, S0, rfl, Nat.zero_le _, HB1.out, HB0.out, HS0.out, fun n h1 h2 => ⟨fun q => absurd q (HS1.out n), fun q => by simp at q⟩, HBW.out⟩
    case round =>
      obtain ⟨i, S, rfl, hi, hblk, hres, hS, hmem, hbel⟩ := hrel
      have HBLK := Lib.hid hblk
      have HRES := Lib.hid hres
      have HSL := Lib.hid hS
      have HMEM := Lib.hid hmem
      have HBEL := Lib.hid hbel
      clear hblk hres hS hmem hbel HB0 HB1 HBW
      by_cases hlt : i < l.length
      · have i1 : (i : Int) < l.length := by omega
        obtain ⟨x, rfl, hx⟩ : ∃ x : Addr, a0 = some x ∧ ∀ i, i < l.length → w.cell? (x.add i) = some (.int .i64 (l.getD i 0)) := by
          rcases HC.out with ⟨_, _, q⟩ | q
          · rw [q] at hlt; simp at hlt
          · exact q
        have cw := hx i hlt
        have cc := cell_later (show Below w.heap.size w wr from by rw [HB.out]; exact HBEL.out) cw
        have cm := ref_c0 HBLK.out
        have HT := Lib.hid (take_succ_mem l i hlt)
        clear hx cw HC
        generalize l.getD i 0 = y at *
        by_cases hy1 : 1 ≤ y
        · by_cases hym : y ≤ (m : Int)
          · obtain ⟨n, rfl⟩ : ∃ n : Nat, y = (n : Int) := ⟨y.toNat, by omega⟩
            have d1 : decide ((1 : Int) ≤ n) = true := decide_eq_true hy1
            have d3 : (n : Int) < 201 := by omega
            have d4 : n < 201 := by omega
            have hcx := ref_c HBLK.out n (by rw [HSL.out]; omega)
            have hfx := (m_cells HBLK.out).2 (1 + n)
            go_wp2_with fail
            go_quiet (fail)
            go_wp2_with fail
            refine ⟨⟨i + 1, S.set n true, by go_num, hlt, ref_set (m := m) (w := wr.drewN nq) (show (wr.drewN nq).heap[B + 1]? = _ from HBLK.out) n true, ?_, by rw [List.length_set]; exact HSL.out, fun k h1 h2 => ?_, ?_⟩, by simp [intOf]; omega⟩
            · rw [Below.heap_setCell _ _ _ _ (show B ≠ B + 1 by omega)]; exact HRES.out
            · rw [HT.out, getD_set S n k true (by rw [HSL.out]; omega)]
              by_cases e : k = n
              · subst e; simp
              · rw [if_neg e, HMEM.out k h1 h2]
                exact ⟨Or.inl, fun q => q.elim id (fun q => absurd (Int.ofNat.inj q) e)⟩
            · exact (below_drewN HBEL.out nq).setCell (by show B ≤ B + 1; omega) _
          · have d1 : decide ((1 : Int) ≤ y) = true := decide_eq_true hy1
            have d2 : decide (y ≤ (m : Int)) = false := decide_eq_false hym
            go_wp2_with fail
            go_quiet (fail)
            go_wp2_with fail
            refine ⟨⟨i + 1, S, by go_num, hlt, HBLK.out, HRES.out, HSL.out, fun k h1 h2 => ?_, below_drewN HBEL.out nq⟩, by simp [intOf]; omega⟩
            rw [HT.out, HMEM.out k h1 h2]
            exact ⟨Or.inl, fun q => q.elim id (fun q => by omega)⟩
        · have d1 : decide ((1 : Int) ≤ y) = false := decide_eq_false hy1
          go_wp2_with fail
          go_quiet (fail)
          go_wp2_with fail
          refine ⟨⟨i + 1, S, by go_num, hlt, HBLK.out, HRES.out, HSL.out, fun k h1 h2 => ?_, below_drewN HBEL.out nq⟩, by simp [intOf]; omega⟩
          rw [HT.out, HMEM.out k h1 h2]
          exact ⟨Or.inl, fun q => q.elim id (fun q => by omega)⟩
      · have ei : i = l.length := by omega
        subst ei
        have i1 : ¬ ((l.length : Int) < l.length) := by omega
        have hsz : (refA m S).size = 202 := by rw [refA_size, HSL.out]
        have HSZ := Lib.hid hsz
        clear hsz
        go_wp2_with (first
          | (refine wpList_load_row rfl 42 _ rfl (B + 1) rfl 42 (refA m S) (0, 0) _ HBLK.out Try.underlying42 rfl ?c2 ?_
             case c2 => rw [ref_info, HSZ.out])
          | (refine wpList_store_row rfl 42 _ _ rfl B (refA m S) rfl rfl 42 refZ HRES.out ?d2 ?d3 (refA_one _ _) ?_
             case d2 => rw [ref_info, HSZ.out]
             case d3 => rw [refZ_size, HSZ.out]))
        refine bodyPost_ret (v := .agg (refA m S)) (results_cell_row (p := 4) (ty := 42) rfl _ _ B 42 _ (0, 0) _ rfl (setRow_heap _ _ _ _ _ _ HRES.out) Try.underlying42 rfl (by rw [ref_info, HSZ.out])) rfl ⟨S, rfl, HSL.out, fun n h1 h2 => ?_, below_setRow HBEL.out (Nat.le_refl _) _⟩
        have := HMEM.out n h1 h2
        rwa [List.take_length] at this
end Go.Proofs.Ytepjflepnkfboaa
