/- ids: the law IdsSame, its first loop. -/
import Derived.Test.YtepjflepnkfboaaI5
namespace Go.Proofs.Ytepjflepnkfboaa
open Go.RowKit
set_option linter.unusedSimpArgs false
set_option linter.unusedVariables false
theorem Ints.len_eq {w : World} {B : Nat} {a : Option Addr} {n c : Nat} {l : List Int} (h : Ints w B (.slice a n c) l) : n = l.length := by
  rcases h.2 with ⟨q, q2⟩ | ⟨_, _, _, q, _⟩
  · cases q; exact q2.symm
  · simp only [Value.slice.injEq] at q; exact q.2.1
/-- One more int behind a slice of the call's own. -/
theorem app_one {ops : Array Oper} {rest : List Oper} {o : Oper} {a : Act} {w : World} {Q : Exit → Act → World → Prop} {B : Nat} (hgd : o.guard = none) (s x : Operand) (ho : o.op = .call { callee := .builtin .append, args := #[s, x], argTypes := #[29, 29] })
    (v : Value) (l : List Int) (hs : a.eval s = v) (hown : Ints w B v l) (g : Nat) (y : Int) (hx : a.eval x = .slice (some ⟨g, 0, none⟩) 1 1) (hc : w.cell? ⟨g, 0, none⟩ = some (.int .i64 y)) (hbytes : l.length ≤ 1000000) (hbase : B ≤ w.heap.size)
    (h : ∀ v' w', Ints w' B v' (l ++ [y]) → (∀ k, v'.ownBlock = some k → v.ownBlock = some k ∨ w.heap.size ≤ k) → Keep (fun k => some k = v.ownBlock) w w' → wpList Try.prog ops Q rest (a.put o.dst v') w') : wpList Try.prog ops Q (o :: rest) a w := by
  obtain ⟨i0, hi, hz0, hz1, hz2⟩ := info_parts info_int
  refine wpList_plain hgd fun K hK => ?_
  have hst := step_append_lies (P := Try.prog) (w := w) (ops := #[o]) (o := o) (a := a) (K := K) (Q := Q) (E := True) hgd s x 29 ho B 3 i0 (.int .i64 0) 1 8 Try.underlying29 hi hz0 hz1 hz2 rfl (by decide) v l.length (l.map (Value.int .i64)) hs hown ⟨g, 0, none⟩ 1 1 [.int .i64 y] hx rfl
    (fun j u hj => by
      rcases j with _ | j
      · simp at hj; subst hj; simpa [Addr.add] using hc
      · simp at hj) (by simp [Value.oneCell']) (by decide) (by unfold maxLen; omega) (by omega) hbase w.heap.size rfl
    (fun gg cap w' h1 h2 h3 h4 => hK _ _ (h _ w' (by unfold Ints; rw [List.length_append, List.map_append]; exact h1) (fun k hk => by
      simp only [Value.ownBlock, Option.some.injEq] at hk; subst hk; exact h3.imp id (fun e => by omega)) (Keep.grown h2)))
  rwa [if_pos (by simp [Region.wanted, hgd])] at hst
def FiltRel (w : World) (g b : Nat) (x : Int) (O : List Int) (p : PD) (v ov : Value) (lv jv : Value) (wr : World) : Prop :=
  ∃ (j : Nat), jv = .int .i64 j ∧ j ≤ O.length ∧ Ints wr w.heap.size lv ((O.take j).filter (fun y => y != x)) ∧ Ints wr w.heap.size ov O ∧ PAt wr g v b p ∧ (∀ k, lv.ownBlock = some k → ¬ pfoot g v b k ∧ ov.ownBlock ≠ some k) ∧ Below w.heap.size w wr
theorem filt_succ (O : List Int) (x : Int) (j : Nat) (h : j < O.length) : (O.take (j + 1)).filter (fun y => y != x) = (O.take j).filter (fun y => y != x) ++ (if O.getD j 0 = x then [] else [O.getD j 0]) := by
  rw [List.take_succ_eq_append_getElem h, List.filter_append, List.getD_eq_getElem?_getD, List.getElem?_eq_getElem h, Option.getD_some]
  by_cases e : O[j] = x
  · simp [e]
  · simp [e]
/-- Three pools with the same numbers out, apart from one another. -/
def TrioRel (w : World) (g1 b1 g2 b2 g3 b3 : Nat) (iv : Value) (wr : World) : Prop :=
  ∃ (i : Nat) (p1 p2 p3 : PD) (v1 v2 v3 : Value), iv = .int .i64 i ∧ i ≤ 20 ∧ PAt wr g1 v1 b1 p1 ∧ PAt wr g2 v2 b2 p2 ∧ PAt wr g3 v3 b3 p3 ∧ PInv p1 ∧ PInv p2 ∧ PInv p3 ∧ p2.most = p1.most ∧ p3.most = p1.most ∧
    (∀ k, k ∈ mkeys p1.out ↔ k ∈ mkeys p2.out) ∧ (∀ k, k ∈ mkeys p1.out ↔ k ∈ mkeys p3.out) ∧
    (∀ k, pfoot g1 v1 b1 k → w.heap.size ≤ k ∧ ¬ pfoot g2 v2 b2 k ∧ ¬ pfoot g3 v3 b3 k) ∧ (∀ k, pfoot g2 v2 b2 k → w.heap.size ≤ k ∧ ¬ pfoot g3 v3 b3 k) ∧ (∀ k, pfoot g3 v3 b3 k → w.heap.size ≤ k) ∧ Below w.heap.size w wr
/-- What holds at the first loop's head: the pool, and the numbers that are out, in a slice. -/
def SameRel (w : World) (g b m : Nat) (l : List Int) (ov iv : Value) (wr : World) : Prop :=
  ∃ (i : Nat) (O : List Int) (p : PD) (v : Value), iv = .int .i64 i ∧ i ≤ l.length ∧ Ints wr w.heap.size ov O ∧ PAt wr g v b p ∧ PInv p ∧ p.most = m ∧ (∀ k, k ∈ O ↔ k ∈ mkeys p.out) ∧ O.length ≤ i ∧
    (∀ k, ov.ownBlock = some k → ¬ pfoot g v b k) ∧ (∀ k, pfoot g v b k → w.heap.size ≤ k) ∧ Below w.heap.size w wr
set_option maxRecDepth 100000 in
set_option maxHeartbeats 4000000 in
theorem idssame_any (most : Nat) (tv : Value) (l : List Int) (w : World) (h : ArgI w tv l) (hl : l.length ≤ maxLen) (hm : most < 256) :
    Calls Try.prog 8 #[.int .u8 most, tv] w fun e w' => e = .returned (.bool true) ∧ Below w.heap.size w w' := by
  unfold maxLen at hl
  by_cases hlen : l.length ≤ 100
  · have dl : decide ((100 : Int) < l.length) = false := decide_eq_false (by omega)
    have Harg := Lib.hid h
    obtain ⟨a0, cap0, rfl, _⟩ := h
    go_enter Try.func8, Try.ntmps8
    go_wp2_with fail
    refine (awake09_any _).mono ?_
    rintro e w1 ⟨rfl, hb1⟩
    go_wp2_with fail
    have N := new_any most (.slice none 0 0) [] w1 ⟨none, 0, rfl, Or.inl ⟨rfl, rfl, rfl⟩⟩ (by simp)
    refine N.mono ?_
    rintro e w2 ⟨g, b, p, rfl, hat, hinv, hmost, hk, hg, hbb, hB2⟩
    generalize hm0 : (min (max (most : Int) 0) 200).toNat = m at *
    have HM := Lib.hid hm0
    clear hm0
    have hBel : Below w.heap.size w w2 := hb1.trans (hB2.mono hb1.size)
    have hsz := hb1.size
    have hk0 : ∀ k, k ∈ ([] : List Int) ↔ k ∈ mkeys p.out := fun k => by rw [hk k]; simp
    have Hk0 := Lib.hid hk0
    have Hmost := Lib.hid hmost
    clear N hB2 hb1 hk hk0 hmost
    go_wp2_with fail
    go_loopw [6, 7, 8, 9, 10, 11] (fun ov iv _ _ _ _ wr => SameRel w g b m l ov iv wr) (fun _ iv _ _ _ _ _ => l.length - (intOf iv).toNat)
    case atStart => exact ⟨0, [], p, _, rfl, Nat.zero_le _, World.ownsRow_nil _ _ _ _, hat, hinv, Hmost.out, Hk0.out, Nat.le_refl _, by simp [Value.ownBlock], fun k hk => by
      rcases hk with q | q | q
      · omega
      · omega
      · simp [Value.ownBlock] at q, hBel⟩
    case round =>
      obtain ⟨i, O, p, v, rfl, hi, hown, hat, hinv, hmost, hO, hOl, hdis, hge, hbel⟩ := hrel
      by_cases hlt : i < l.length
      · obtain ⟨CB, off, cap, e, hc⟩ := Harg.out.cells (by intro q; rw [q] at hlt; simp at hlt)
        simp only [Value.slice.injEq] at e
        obtain ⟨rfl, _, rfl⟩ := e
        have hx : wr.cell? ⟨CB, off + i, none⟩ = some (.int .i64 (l.getD i 0)) := cell_later hbel (hc i hlt)
        have hCB : CB < w.heap.size := World.block_lt_of_cell? _ _ (hc i hlt)
        have Hw := Lib.hid (hc i hlt)
        have HO := Lib.hid hO
        have Hmost' := Lib.hid hmost
        clear hc hO hmost
        generalize l.getD i 0 = x at *
        obtain ⟨oa, on, oc, rfl⟩ := hown.isSlice
        obtain rfl : on = O.length := hown.len_eq
        by_cases hx0 : x ≤ 0
        · go_wp2_with fail
          refine (take_any wr g b v p hat hinv).mono ?_
          rintro e w3 ⟨p3, v3, n, hn, rfl, hat3, hinv3, hm3, hk3, hv3, hkeep3⟩
          have hown3 := hown.keep hkeep3 hdis
          have hdis3 : ∀ k, (Value.slice oa O.length oc).ownBlock = some k → ¬ pfoot g v3 b k := fun k hk q => (pfoot_new hv3 k q).elim (hdis k hk) (fun q => absurd (hown.lt hk) (Nat.not_lt.2 q))
          have hge3 : ∀ k, pfoot g v3 b k → w.heap.size ≤ k := fun k q => (pfoot_new hv3 k q).elim (hge k) (fun q => Nat.le_trans hbel.size q)
          have hbel3 : Below w.heap.size w w3 := hbel.trans (hkeep3.toBelow hbel.size hge)
          have HP := Lib.hid (And.intro hn (And.intro hm3 (And.intro hk3 (And.intro hdis3 hge3))))
          clear hn hm3 hk3 hdis3 hge3 hdis hge hv3 hkeep3 hat hown hx
          by_cases hle : n ≤ p.most
          · simp only [hle, if_true, decide_true]
            have hz3 := hbel3.size
            go_wp2_with (refine app_one rfl _ _ rfl _ O rfl (World.ownsRow.alloc hown3 _) w3.heap.size n rfl (by simp) (by omega) (by simp; omega) ?_; intro ov4 w4 hown4 hov4 k4)
            obtain ⟨hn, hm3, hk3, hdis3, hge3⟩ := HP.out
            have hka : Keep (fun k => some k = (Value.slice oa O.length oc).ownBlock) w3 w4 := ((Keep.refl _ w3).alloc _).trans k4
            have hat4 : PAt w4 g v3 b p3 := hat3.keep hka (fun k hk q => hdis3 k q.symm hk)
            refine ⟨⟨i + 1, O ++ [(n : Int)], p3, v3, by go_num, hlt, hown4, hat4, hinv3, hm3.trans Hmost'.out, fun k => ?_, by simp; omega, fun k hk q => ?_, hge3, ?_⟩, by simp [intOf]; omega⟩
            · rw [hk3 k, List.mem_append, HO.out k, List.mem_singleton]
              exact ⟨fun q => q.imp id (fun q => ⟨hle, q⟩), fun q => q.imp id (fun q => q.2)⟩
            · rcases hov4 k hk with q2 | q2
              · exact hdis3 k q2 q
              · have := hat3.foot_lt q
                simp only [World.size_alloc] at q2; omega
            · exact hbel3.trans (hka.toBelow hz3 (fun k q => hown3.ge q.symm))
          · simp only [hle, if_false, decide_false]
            go_wp2_with fail
            obtain ⟨hn, hm3, hk3, hdis3, hge3⟩ := HP.out
            refine ⟨⟨i + 1, O, p3, v3, by go_num, hlt, hown3, hat3, hinv3, hm3.trans Hmost'.out, fun k => ?_, by omega, hdis3, hge3, hbel3⟩, by simp [intOf]; omega⟩
            rw [hk3 k, HO.out k]
            exact ⟨Or.inl, fun q => q.elim id (fun q => absurd q.1 hle)⟩
        · go_wp2_with fail
          refine (give_any wr g b v p x hat hinv).mono ?_
          rintro e w3 ⟨p3, v3, rfl, hat3, hinv3, hm3, hk3, hv3, hkeep3⟩
          have hown3 := hown.keep hkeep3 hdis
          have hdis3 : ∀ k, (Value.slice oa O.length oc).ownBlock = some k → ¬ pfoot g v3 b k := fun k hk q => (pfoot_new hv3 k q).elim (hdis k hk) (fun q => absurd (hown.lt hk) (Nat.not_lt.2 q))
          have hge3 : ∀ k, pfoot g v3 b k → w.heap.size ≤ k := fun k q => (pfoot_new hv3 k q).elim (hge k) (fun q => Nat.le_trans hbel.size q)
          have hbel3 : Below w.heap.size w w3 := hbel.trans (hkeep3.toBelow hbel.size hge)
          have HP := Lib.hid (And.intro hm3 (And.intro hk3 (And.intro hdis3 hge3)))
          clear hm3 hk3 hdis3 hge3 hdis hge hv3 hkeep3 hat hown hx
          by_cases hin : x ∈ mkeys p.out
          · simp only [hin, decide_true]
            have Hin := Lib.hid hin
            clear hin
            go_wp2_with fail
            have HOv := Lib.hid hat3
            go_loopw [10, 11] (fun lv jv wr2 => FiltRel w g b x O p3 v3 (.slice oa O.length oc) lv jv wr2) (fun _ jv _ => O.length - (intOf jv).toNat)
            case atStart => exact ⟨0, rfl, Nat.zero_le _, World.ownsRow_nil _ _ _ _, hown3, hat3, fun k hk => by simp [Value.ownBlock] at hk, hbel3⟩
            case round =>
              obtain ⟨j, rfl, hj, hlv, hov, hatr, hld, hbr⟩ := hrel
              by_cases hjl : j < O.length
              · have hO0 : O ≠ [] := by intro q; rw [q] at hjl; simp at hjl
                obtain ⟨G, gcap, e, _, _, hgn, hgm, hgc, _⟩ := hov.slice hO0
                simp only [Value.slice.injEq] at e
                obtain ⟨rfl, _, rfl⟩ := e
                have y1 := hgc j hjl
                have y2 : wr.cell? ⟨CB, off + i, none⟩ = some (.int .i64 x) := cell_later hbr Hw.out
                have z1 : (0 : Int) ≤ j := by omega
                have z2 : (j : Int) < O.length := by omega
                have z3 : (0 : Int) ≤ i := by omega
                have z4 : (i : Int) < l.length := by omega
                have hsucc := filt_succ O x j hjl
                have Hsucc := Lib.hid hsucc
                have hflen := List.length_filter_le (fun y => y != x) (O.take j)
                have htl := List.length_take_le j O
                unfold maxLen at hgm
                clear hsucc hgc
                generalize O.getD j 0 = y at *
                obtain ⟨la, ln, lc, rfl⟩ := hlv.isSlice
                by_cases hyx : y = x
                · have n1 : (y != x) = false := by simp [hyx]
                  have Hyx := Lib.hid hyx
                  clear hyx
                  go_wp2_with fail
                  go_quiet (fail)
                  go_wp2_with fail
                  have q := Qt.drewN wr nq
                  refine ⟨⟨j + 1, by go_num, hjl, by rw [Hsucc.out, if_pos Hyx.out, List.append_nil]; exact hlv.qt q, hov.qt q, hatr.qt q, hld, hbr.trans (keep_of_below (F := fun _ => False) ((Below.refl _ _)) |>.drewN nq |>.toBelow hbr.size (fun _ h => h.elim))⟩, by simp [intOf]; omega⟩
                · have n1 : (y != x) = true := by simp [hyx]
                  have Hyx := Lib.hid hyx
                  clear hyx
                  go_wp2_with fail
                  go_quiet (fail)
                  have q := Qt.drewN wr nq
                  have hlvq := hlv.qt q
                  have hovq := hov.qt q
                  have hatq := hatr.qt q
                  have hbrq : Below w.heap.size w (wr.drewN nq) := hbr.trans (keep_of_below (F := fun _ => False) ((Below.refl _ _)) |>.drewN nq |>.toBelow hbr.size (fun _ h => h.elim))
                  have y3 : (wr.drewN nq).cell? ⟨G, j, none⟩ = some (.int .i64 y) := by rw [q.cell]; exact y1
                  clear hlv hov hatr hbr y1 y2
                  generalize wr.drewN nq = wq at *
                  go_wp2_with (refine app_one rfl _ _ rfl _ _ rfl (World.ownsRow.alloc hlvq _) wq.heap.size y rfl (by simp) (by omega) (by have := hbrq.size; simp; omega) ?_; intro lv4 w4 hlv4 hlvp k4)
                  have hka : Keep (fun k => some k = (Value.slice la ln lc).ownBlock) wq w4 := ((Keep.refl _ wq).alloc _).trans k4
                  refine ⟨⟨j + 1, by go_num, hjl, by rw [Hsucc.out, if_neg Hyx.out]; exact hlv4, hovq.keep hka (fun k hk e => (hld k e.symm).2 hk), hatq.keep hka (fun k hk e => (hld k e.symm).1 hk), fun k hk => ?_, ?_⟩, by simp [intOf]; omega⟩
                  · rcases hlvp k hk with q2 | q2
                    · exact hld k q2
                    · simp only [World.size_alloc] at q2
                      exact ⟨fun q3 => by have := hatq.foot_lt q3; omega, fun q3 => by have := hovq.lt q3; omega⟩
                  · exact hbrq.trans (hka.toBelow hbrq.size (fun k q => hlvq.ge q.symm))
              · have e1 : (O.take j).filter (fun y => y != x) = O.filter (fun y => y != x) := by rw [List.take_of_length_le (by omega)]
                have E1 := Lib.hid e1
                clear e1
                go_wp2_with fail
                obtain ⟨hm3, hk3, hdis3, hge3⟩ := HP.out
                refine ⟨⟨i + 1, O.filter (fun y => y != x), p3, v3, by go_num, hlt, by rw [← E1.out]; exact hlv, hatr, hinv3, hm3.trans Hmost'.out, fun k => ?_, by have := List.length_filter_le (fun y => y != x) O; omega, fun k hk => (hld k hk).1, hge3, hbr⟩, by simp [intOf]; omega⟩
                rw [hk3 k, List.mem_filter, HO.out k]; simp
          · simp only [hin, decide_false]
            have Hin := Lib.hid hin
            clear hin
            go_wp2_with fail
            obtain ⟨hm3, hk3, hdis3, hge3⟩ := HP.out
            refine ⟨⟨i + 1, O, p3, v3, by go_num, hlt, hown3, hat3, hinv3, hm3.trans Hmost'.out, fun k => ?_, by omega, hdis3, hge3, hbel3⟩, by simp [intOf]; omega⟩
            rw [hk3 k, HO.out k]
            exact ⟨fun q => ⟨q, fun e => Hin.out (by rw [← e]; exact q)⟩, fun q => q.1⟩
      · have ei : i = l.length := by omega
        go_wp2_with fail
        have N := new_any most _ O wr hown.arg (by omega)
        refine N.mono ?_
        rintro e w3 ⟨g2, b2, p2, rfl, hat2, hinv2, hmost2, hk2, hg2, hbb2, hB3⟩
        have hm2 : p2.most = p.most := by rw [hmost2, hmost]; exact HM.out
        have hatw : PAt w3 g v b p := hat.below hB3
        have hmem : ∀ k, k ∈ mkeys p.out ↔ k ∈ mkeys p2.out := fun k => by
          rw [hk2 k, hO k]
          refine ⟨fun q => ⟨q, ?_⟩, fun q => q.1⟩
          have := hinv.keys k q
          rw [hmost] at this
          rw [HM.out]; exact this
        have HR := Lib.hid (And.intro hmem hm2)
        have hbel3 := hbel.trans (hB3.mono hbel.size)
        have hfl : ∀ k, pfoot g v b k → k < wr.heap.size := fun k q => hat.foot_lt q
        have HFL := Lib.hid hfl
        have HGE := Lib.hid hge
        have hz3 := hB3.size
        clear N hmem hm2 hmost hmost2 hk2 hO hown hdis hge hat hB3 hfl
        go_wp2_with fail
        refine (clone_any w3 g b v p hatw hinv).mono ?_
        rintro e w4 ⟨g3, b3, v3, rfl, hat3, hg3, hbb3, hv3, hB4⟩
        have hatw4 : PAt w4 g v b p := hatw.below hB4
        have hat24 : PAt w4 g2 _ b2 p2 := hat2.below hB4
        have hbel4 := hbel3.trans (hB4.mono hbel3.size)
        have H2lt := Lib.hid (fun k (q : pfoot g2 (.slice none 0 0) b2 k) => hat2.foot_lt q)
        have hlenq := same_len hinv hinv2 HR.out.1
        have Hlq := Lib.hid hlenq
        have hlens := hinv2.out_len
        clear hatw hat2 hB4 hlenq
        go_wp2_with fail
        refine (out_any _ _ _ _ _ hat24).mono ?_
        rintro e w5 ⟨rfl, rfl⟩
        rw [← Hlq.out]
        go_wp2_with fail
        refine (out_any _ _ _ _ _ hatw4).mono ?_
        rintro e w5 ⟨rfl, rfl⟩
        go_wp2_with fail
        have hstart : TrioRel w g b g2 b2 g3 b3 (.int .i64 0) w4 := ⟨0, p, p2, p, v, .slice none 0 0, v3, rfl, by decide, hatw4, hat24, hat3, hinv, hinv2, hinv, HR.out.2, rfl, HR.out.1, fun k => Iff.rfl,
          fun k q => by
            have h1 := HFL.out k q
            refine ⟨HGE.out k q, ?_, ?_⟩
            · rintro (q2 | q2 | q2)
              · omega
              · omega
              · simp [Value.ownBlock] at q2
            · rintro (q2 | q2 | q2)
              · omega
              · omega
              · have := hv3 k q2.symm; omega,
          fun k q => by
            have h1 := H2lt.out k q
            have h2 := hbel.size
            refine ⟨?_, ?_⟩
            · rcases q with q | q | q
              · omega
              · omega
              · simp [Value.ownBlock] at q
            · rintro (q2 | q2 | q2)
              · omega
              · omega
              · have := hv3 k q2.symm; omega,
          fun k q => by
            have h2 := hbel.size
            rcases q with q | q | q
            · omega
            · omega
            · have := hv3 k q.symm; omega, hbel4⟩
        have Hstart := Lib.hid hstart
        clear hstart hatw4 hat24 hat3 hinv hinv2 hv3
        go_loopw [14, 15, 16, 17, 18, 19, 20] (fun iv _ _ _ _ _ _ wr => TrioRel w g b g2 b2 g3 b3 iv wr) (fun iv _ _ _ _ _ _ _ => 20 - (intOf iv).toNat)
        case atStart => exact Hstart.out
        case round =>
          obtain ⟨j, p1, p2, p3, v1, v2, v3, rfl, hj, ha1, ha2, ha3, hi1, hi2, hi3, hm2, hm3, he2, he3, hd1, hd2, hd3, hbr⟩ := hrel
          by_cases hjl : j < 20
          · go_wp2_with fail
            refine (take_any _ g b v1 p1 ha1 hi1).mono ?_
            rintro e x1 ⟨p1', v1', n, hn, rfl, ha1', hi1', hm1', hk1', hv1', hkeep1⟩
            obtain ⟨A, hA⟩ : ∃ A : Int, A = (if n ≤ p1.most then (n : Int) else 0) := ⟨_, rfl⟩
            obtain ⟨D, hD⟩ : ∃ D : Bool, D = decide (n ≤ p1.most) := ⟨_, rfl⟩
            rw [← hA, ← hD]
            have HA := Lib.hid hA
            have HD := Lib.hid hD
            have HP1 := Lib.hid (And.intro hn (And.intro hm1' (And.intro hk1' hv1')))
            clear hA hD
            have ha2x := ha2.keep hkeep1 (fun k q2 q1 => (hd1 k q1).2.1 q2)
            have ha3x := ha3.keep hkeep1 (fun k q3 q1 => (hd1 k q1).2.2 q3)
            have hbx := hbr.trans (hkeep1.toBelow hbr.size (fun k q => (hd1 k q).1))
            have hf1 := pfoot_new (g := g) (b := b) hv1'
            have HE := Lib.hid (And.intro he2 (And.intro he3 (And.intro hd1 (And.intro hd2 (And.intro hd3 (And.intro hm2 hm3))))))
            have HF1 := Lib.hid hf1
            have hs1 := hkeep1.size
            have hz1 := hbr.size
            have hl1 : ∀ k, pfoot g v1 b k → k < wr.heap.size := fun k q => ha1.foot_lt q
            have hl2 : ∀ k, pfoot g2 v2 b2 k → k < wr.heap.size := fun k q => ha2.foot_lt q
            have hl3 : ∀ k, pfoot g3 v3 b3 k → k < wr.heap.size := fun k q => ha3.foot_lt q
            have HL := Lib.hid (And.intro hl1 (And.intro hl2 hl3))
            have HL1 := Lib.hid (fun k (q : pfoot g v1' b k) => ha1'.foot_lt q)
            clear hl1 hl2 hl3 hn hm1' hk1' hv1' hf1 he2 he3 hd1 hd2 hd3 hm2 hm3 hkeep1 ha1 ha2 ha3
            go_wp2_with fail
            refine (take_any _ g2 b2 v2 p2 ha2x hi2).mono ?_
            rintro e x2 ⟨p2', v2', n2, hn2, rfl, ha2', hi2', hm2', hk2', hv2', hkeep2⟩
            obtain ⟨he2, he3, hd1, hd2, hd3, hm2, hm3⟩ := HE.out
            obtain rfl := (HP1.out.1.congr he2).unique hn2
            rw [hm2, ← HA.out, ← HD.out]
            have ha1y := ha1'.keep hkeep2 (fun k q1 q2 => (HF1.out k q1).elim (fun q => (hd1 k q).2.1 q2) (fun q => by have := HL.out.2.1 k q2; omega))
            have ha3y := ha3x.keep hkeep2 (fun k q3 q2 => (hd2 k q2).2 q3)
            have hby := hbx.trans (hkeep2.toBelow hbx.size (fun k q => (hd2 k q).1))
            have hs2 := hkeep2.size
            have HP2 := Lib.hid (And.intro hm2' (And.intro hk2' (pfoot_new (g := g2) (b := b2) hv2')))
            clear hn2 hm2' hk2' hv2' hkeep2 ha1' ha3x ha2x hbx he2 he3 hd1 hd2 hd3 hm2 hm3
            go_wp2_with fail
            refine (take_any _ g3 b3 v3 p3 ha3y hi3).mono ?_
            rintro e x3 ⟨p3', v3', n3, hn3, rfl, ha3', hi3', hm3', hk3', hv3', hkeep3⟩
            obtain ⟨he2, he3, hd1, hd2, hd3, hm2, hm3⟩ := HE.out
            obtain rfl := (HP1.out.1.congr he3).unique hn3
            rw [hm3, ← HA.out, ← HD.out]
            have ha1z := ha1y.keep hkeep3 (fun k q1 q3 => (HF1.out k q1).elim (fun q => (hd1 k q).2.2 q3) (fun q => by have := HL.out.2.2 k q3; omega))
            have ha2z := ha2'.keep hkeep3 (fun k q2 q3 => (HP2.out.2.2 k q2).elim (fun q => (hd2 k q).2 q3) (fun q => by have := HL.out.2.2 k q3; omega))
            have hbz := hby.trans (hkeep3.toBelow hby.size (fun k q => hd3 k q))
            have hs3 := hkeep3.size
            have HP3 := Lib.hid (And.intro hm3' (And.intro hk3' (pfoot_new (g := g3) (b := b3) hv3')))
            have HL2 := Lib.hid (fun k (q : pfoot g2 v2' b2 k) => ha2'.foot_lt q)
            clear hn3 hm3' hk3' hv3' hkeep3 ha1y ha3y ha2' hby he2 he3 hd1 hd2 hd3 hm2 hm3
            go_wp2_with fail
            obtain ⟨he2, he3, hd1, hd2, hd3, hm2, hm3⟩ := HE.out
            obtain ⟨hn, hm1', hk1', hv1'⟩ := HP1.out
            obtain ⟨hm2', hk2', hf2⟩ := HP2.out
            obtain ⟨hm3', hk3', hf3⟩ := HP3.out
            have hf1 := HF1.out
            obtain ⟨hl1, hl2, hl3⟩ := HL.out
            have hl1' := HL1.out
            have hl2' := HL2.out
            refine ⟨⟨j + 1, p1', p2', p3', v1', v2', v3', by go_num, by omega, ha1z, ha2z, ha3', hi1', hi2', hi3', by rw [hm2', hm1', hm2], by rw [hm3', hm1', hm3], fun k => by rw [hk1' k, hk2' k, he2 k, hm2], fun k => by rw [hk1' k, hk3' k, he3 k, hm3], fun k q => ⟨?_, ?_, ?_⟩, fun k q => ⟨?_, ?_⟩, fun k q => ?_, hbz⟩, by simp [intOf]; omega⟩
            · exact (hf1 k q).elim (fun q => (hd1 k q).1) (fun q => by omega)
            · intro q2
              have a1 := hl1' k q
              rcases hf1 k q with q | q <;> rcases hf2 k q2 with q2 | q2
              · exact (hd1 k q).2.1 q2
              · omega
              · have := hl2 k q2; omega
              · omega
            · intro q3
              have a1 := hl1' k q
              rcases hf1 k q with q | q <;> rcases hf3 k q3 with q3 | q3
              · exact (hd1 k q).2.2 q3
              · omega
              · have := hl3 k q3; omega
              · omega
            · exact (hf2 k q).elim (fun q => (hd2 k q).1) (fun q => by omega)
            · intro q3
              have a1 := hl2' k q
              rcases hf2 k q with q | q <;> rcases hf3 k q3 with q3 | q3
              · exact (hd2 k q).2 q3
              · omega
              · have := hl3 k q3; omega
              · omega
            · exact (hf3 k q).elim (fun q => hd3 k q) (fun q => by omega)
          · go_wp2_with fail
            go_ret
            exact ⟨rfl, hbr⟩
  · have dl : decide ((100 : Int) < l.length) = true := decide_eq_true (by omega)
    obtain ⟨a0, cap0, rfl, _⟩ := h
    go_enter Try.func8, Try.ntmps8
    go_wp2_with fail
    refine (awake09_any _).mono ?_
    rintro e w1 ⟨rfl, hb1⟩
    go_wp2_with fail
    refine (awake09_any _).mono ?_
    rintro e w2 ⟨rfl, hb2⟩
    go_wp2_with fail
    go_ret
    exact ⟨rfl, hb1.trans (hb2.mono hb1.size)⟩
end Go.Proofs.Ytepjflepnkfboaa
