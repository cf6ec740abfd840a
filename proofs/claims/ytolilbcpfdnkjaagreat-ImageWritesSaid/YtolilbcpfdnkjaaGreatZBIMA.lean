/- Lemmas, texts IMA IMC IMF; no condition beyond those that each states. -/
import Derived.Test.YtolilbcpfdnkjaaGreatZBOr64
import Derived.Test.YtolilbcpfdnkjaaGreatZBUB
import Derived.Test.YtolilbcpfdnkjaaGreatZBYD0
import Derived.Deep.RegionHeld3
import Derived.Test.YtolilbcpfdnkjaaGreatZBFz
/- image: what a program that does nothing does not answer; ImageRaw's walk. -/
namespace Go.Proofs.YtolilbcpfdnkjaaGreat
open Go.RowKit
set_option linter.unusedSimpArgs false
set_option linter.unusedVariables false
theorem img_nil : imgB [] 1 = [0, 0, 0, 0, 0, 0, 0, 1, 0, 1, 0, 0, 0, 0] := by decide +kernel
set_option maxRecDepth 100000 in
set_option maxHeartbeats 2000000 in
theorem awake12_any (w : World) : Calls Tryz.prog 29 #[] w fun e w' => e = .returned (.bool true) ∧ Below w.heap.size w w' := by
  have HO := Lib.hid (own_new w (Below.refl _ w))
  go_enter Tryz.func29, Tryz.ntmps29
  go_wp2_with fail
  refine HO.out.mono ?_
  rintro e w1 ⟨g, rfl, F, htm, hF, hb1⟩
  have HE := Lib.hid (iencode_any htm TInv.new (by decide))
  have HB1 := Lib.hid hb1
  rw [img_nil] at HE
  clear htm hF hb1 HO
  go_wp2_with fail
  refine HE.out.mono ?_
  rintro e w2 ⟨rfl, hb2⟩
  have HB2 := Lib.hid (HB1.out.trans (hb2.mono HB1.out.size))
  clear hb2 HE
  go_wp2_with fail
  go_ret
  exact ⟨by first | rfl | (congr 1; congr 1; decide +kernel), HB2.out⟩
end Go.Proofs.YtolilbcpfdnkjaaGreat

/- image: Made, trees of calls. -/
namespace Go.Proofs.YtolilbcpfdnkjaaGreat
open Go.RowKit
set_option linter.unusedSimpArgs false
set_option linter.unusedVariables false
theorem results_tc_row {P : Program} {fn : Func} {p q : Tmp} {ty : TypeId} (h : fn.results = #[.tmp p, .cell q ty]) (tmps : Array Value) (w : World) (g : Nat) (t : TypeId) (cs : Array Value) (fr : Nat × Nat) (d : TypeDesc)
    (hq : tmps.getD q undef = .pointer (some ⟨g, 0, none⟩)) (hg : w.heap[g]? = some (.cells cs t fr))
    (hu : P.underlying ty = some d) (hd : (match d with | .struct _ | .array _ _ => true | _ => false) = true) (hi : (P.info? ty).map (·.size) = some cs.size) :
    (results fn tmps).run P w = .ok (.tuple #[tmps.getD p undef, .agg cs]) w := by
  have hq' : tmps[q]?.getD undef = .pointer (some ⟨g, 0, none⟩) := by simpa using hq
  have hl := run_loadVar_row (P := P) w g t ty cs fr d hg hu hd hi
  simp [results, h, hq', asAddr, Sem.run_bind, hl, Result.andThen]
/-- What can be read as items stands in no block of another kind. -/
theorem arg_free {w w' : World} {a : Option Addr} {n c RB : Nat} {L : List Itm} {y : Value} {t : TypeId} (h : Arg EItm w (.slice a n c) L) (hx : w.heap[RB]? = some (.cells #[.slice none 0 0, y] t (0, 0))) (hk : Keep (fun k => k = RB) w w') : Arg EItm w' (.slice a n c) L := by
  by_cases hL : L = []
  · subst hL
    obtain ⟨a', cap, e, h⟩ := h
    refine ⟨a', cap, e, ?_⟩
    rcases h with h | ⟨x, e2, _⟩
    · exact Or.inl h
    · exact Or.inr ⟨x, e2, fun j u hj => by simp at hj⟩
  · refine h.keep hk (fun i q e => ?_)
    obtain ⟨b, off, cap, e2, hc⟩ := h.cells hL
    rw [e2] at q
    simp only [Value.ownBlock, Option.some.injEq] at q
    have hb : b = RB := by rw [← e, ← q]
    obtain ⟨z, hz⟩ := List.exists_cons_of_ne_nil hL
    obtain ⟨l2, hz⟩ := hz
    have h1 := hc 0 z (by rw [hz]; rfl) 1 (by decide)
    have h0 := hc 0 z (by rw [hz]; rfl) 0 (by decide)
    rw [hb, (m_cells hx).1] at h1 h0
    have e1 : (EItm.enc z)[1]? = some (.string z.e.name) := rfl
    have e0 : (EItm.enc z)[0]? = some (.int .i64 z.d) := rfl
    rw [e1] at h1
    rw [e0] at h0
    by_cases ho : off = 0
    · subst ho; simp at h0
    · have : off + (0 * EItm.size + 1) ≥ 2 := by omega
      rw [Array.getElem?_eq_none (by simpa using this)] at h1
      cases h1
/-- A tree, and the reference's, of calls. -/
def MadePost (w : World) (n : Nat) (e : Ending) (w' : World) : Prop :=
  ∃ (L : List Itm) (next : Int) (g : Nat) (v : Value), e = .returned (.tuple #[.pointer (some ⟨g, 0, none⟩), .agg #[v, .int .i64 next]]) ∧ OwnTR w w' (fun k => ownBk v k) g L next ∧ Arg EItm w' v L ∧ TInv L next ∧ next ≤ n + 1
set_option maxRecDepth 100000 in
set_option maxHeartbeats 4000000 in
theorem made_any (w : World) (v : Value) (l : List Op1) (h : Arg EOp w v l) (ml : l.length ≤ 1000000) (hok : ∀ o ∈ l, (o.name.size ≤ maxLen ∧ o.as_.size ≤ maxLen) ∧ o.kind < 256) :
    Calls Tryz.prog 30 #[v] w (MadePost w l.length) := by
  obtain ⟨va, vc, rfl⟩ := h.shape
  have hb1 : Below w.heap.size w (w.alloc (.cells #[.slice none 0 0, .int .i64 0] 29)) := (Below.refl _ w).alloc (Nat.le_refl _) _
  have hx := m_alloc w (.cells #[.slice none 0 0, .int .i64 0] 29) w.heap.size rfl
  have HH := Lib.hid (h.below hb1)
  have HOK := Lib.hid hok
  clear h hok
  go_enter Tryz.func30, Tryz.ntmps30
  go_wp2_with fail
  obtain ⟨RB, hRB⟩ : ∃ RB, w.heap.size = RB := ⟨_, rfl⟩
  rw [hRB] at hx ⊢
  have HRB := Lib.hid hRB
  generalize (w.alloc (.cells #[.slice none 0 0, .int .i64 0] 29)) = w1 at *
  have HX := Lib.hid hx
  have HB1 := Lib.hid hb1
  have HOW := Lib.hid (own_new w1 (Below.refl _ w1))
  clear hb1 hx hRB
  go_wp2_with fail
  refine HOW.out.mono ?_
  rintro e w3 ⟨g, rfl, hown⟩
  have HOWN := Lib.hid hown
  clear hown HOW
  go_wp2_with fail
  refine (rnew_any w3).mono ?_
  rintro e w4 ⟨rfl, hb4⟩
  obtain ⟨B, hB⟩ : ∃ B, w4.heap.size = B := ⟨_, rfl⟩
  have hst : Both w1 (w4.alloc (.cells #[.slice none 0 0, .int .i64 1] 29)) g B (.slice none 0 0) [] 1 := by
    have hbb : Below w3.heap.size w3 (w4.alloc (.cells #[.slice none 0 0, .int .i64 1] 29)) := hb4.alloc hb4.size _
    refine ⟨HOWN.out.beside.turn hbb (fun k q => ?_), m_alloc _ _ _ hB, Arg.nil _ _, fun k q => (by cases q), ?_⟩
    · rcases q with q | q
      · subst q; exact ⟨Or.inr (by rw [← hB]; exact hb4.size), by rw [← hB]; simp⟩
      · cases q
    · obtain ⟨_, _, _, q⟩ := HOWN.out
      rw [← hB]; exact Nat.le_trans q.size hb4.size
  obtain ⟨W4, hW4⟩ : ∃ W4, w4.alloc (.cells #[.slice none 0 0, .int .i64 1] 29) = W4 := ⟨_, rfl⟩
  rw [hW4] at hst
  have HST := Lib.hid hst
  clear hst HOWN hb4
  go_wp2_with fail
  clear hW4 hB
  go_loopw [6] (fun iv wr => DosT w1 g B iv l.length wr) (fun iv _ => l.length - (intOf iv).toNat)
  case atStart => exact ⟨0, _, _, _, rfl, Nat.zero_le _, HST.out, TInv.new, by decide⟩
  case round =>
    obtain ⟨i, v, L, next, rfl, hi, hbo, hti, hnx⟩ := hrel
    obtain ⟨av, cv, rfl⟩ := hbo.arg.shape
    have hnx1 := hti.nx
    have hlen := hti.len
    by_cases hlt : i < l.length
    · as_aux_lemma =>
        have i1 : (i : Int) < l.length := by omega
        obtain ⟨o, ho⟩ : ∃ o, l[i]? = some o := ⟨_, List.getElem?_eq_getElem hlt⟩
        have HOO := Lib.hid (HOK.out o (List.mem_of_getElem? ho))
        obtain ⟨gb, off, rfl, -, q0, q1, q2, q3, q4, q5, q6⟩ := op1_cells HH.out i o ho
        have HLC := Lib.hid (show ∀ w', Below w1.heap.size w1 w' → (w'.cell? ⟨gb, off + i * 7, none⟩ = some (.int .u8 o.kind) ∧ w'.cell? ⟨gb, off + i * 7 + 1, none⟩ = some (.int .i64 o.dir) ∧ w'.cell? ⟨gb, off + i * 7 + 2, none⟩ = some (.int .i64 o.to_) ∧ w'.cell? ⟨gb, off + i * 7 + 3, none⟩ = some (.string o.name) ∧ w'.cell? ⟨gb, off + i * 7 + 4, none⟩ = some (.string o.as_) ∧ w'.cell? ⟨gb, off + i * 7 + 5, none⟩ = some (.bool o.is_) ∧ w'.cell? ⟨gb, off + i * 7 + 6, none⟩ = some (.int .i64 o.short)) from fun w' k =>
          ⟨cell_later k q0, cell_later k q1, cell_later k q2, cell_later k q3, cell_later k q4, cell_later k q5, cell_later k q6⟩)
        have HP := Lib.hid hbo.pair
        have HTI := Lib.hid hti
        clear ho q0 q1 q2 q3 q4 q5 q6 HST
        have HBO := Lib.hid hbo
        obtain ⟨k0, k1, k2, k3, k4, k5, k6⟩ := HLC.out _ hbo.own.bel
        have HDO := Lib.hid (ownr_do hbo.own HTI.out (by omega) o HOO.out.2 HOO.out.1.1 HOO.out.1.2)
        clear hbo hti
        go_wp2_with fail
        refine HDO.out.mono ?_
        rintro e w6 ⟨rfl, ho6, hs6⟩
        have HP6 := Lib.hid (HP.out.turned ho6 hs6)
        have hnx2 := (doT_next L next o).2
        have HTR := Lib.hid (HTI.out.do_ o)
        have HR6 := Lib.hid (fun (W : World) (hb : Below w6.heap.size w6 W) => rdo_any W next o (HP6.out.arg.below hb) (fun k q => Nat.lt_of_lt_of_le (HP6.out.lt k q) hb.size) HTI.out (by omega) HOO.out.2 HOO.out.1.1 HOO.out.1.2)
        generalize doT L next o = R at *
        clear ho6 hs6 HDO HP HBO k0 k1 k2 k3 k4 k5 k6
        obtain ⟨k0, k1, k2, k3, k4, k5, k6⟩ := HLC.out w6 HP6.out.own.bel
        obtain ⟨b0, b1, b2, b3⟩ := HP6.out.cells
        go_wp2_with fail
        have HS5 := Lib.hid (show ∀ w', Below w6.heap.size w6 w' → (w'.cell? ⟨B, 0, none⟩ = some (.slice av L.length cv) ∧ w'.cell? ⟨B, 1, none⟩ = some (.int .i64 next) ∧ w'.cell? ⟨gb, off + i * 7, none⟩ = some (.int .u8 o.kind) ∧ w'.cell? ⟨gb, off + i * 7 + 1, none⟩ = some (.int .i64 o.dir) ∧ w'.cell? ⟨gb, off + i * 7 + 2, none⟩ = some (.int .i64 o.to_) ∧ w'.cell? ⟨gb, off + i * 7 + 3, none⟩ = some (.string o.name) ∧ w'.cell? ⟨gb, off + i * 7 + 4, none⟩ = some (.string o.as_) ∧ w'.cell? ⟨gb, off + i * 7 + 5, none⟩ = some (.bool o.is_) ∧ w'.cell? ⟨gb, off + i * 7 + 6, none⟩ = some (.int .i64 o.short)) from fun w' k =>
          ⟨cell_later k b0, cell_later k b1, cell_later k k0, cell_later k k1, cell_later k k2, cell_later k k3, cell_later k k4, cell_later k k5, cell_later k k6⟩)
        have HNE := Lib.hid HP6.out.ne
        have HBK := Lib.hid HP6.out.blk
        have hwB := HP6.out.ge
        go_cut [7, 8, 9] from 1000 (fun s8 s9 s10 wx => MidX w1 g B (.slice av L.length cv) next R s8 s9 s10 wx)
        case first =>
          go_region_held3 (fun w' => w'.cell? ⟨B, 0, none⟩ = some (.slice av L.length cv) ∧ w'.cell? ⟨B, 1, none⟩ = some (.int .i64 next) ∧ w'.cell? ⟨gb, off + i * 7, none⟩ = some (.int .u8 o.kind) ∧ w'.cell? ⟨gb, off + i * 7 + 1, none⟩ = some (.int .i64 o.dir) ∧ w'.cell? ⟨gb, off + i * 7 + 2, none⟩ = some (.int .i64 o.to_) ∧ w'.cell? ⟨gb, off + i * 7 + 3, none⟩ = some (.string o.name) ∧ w'.cell? ⟨gb, off + i * 7 + 4, none⟩ = some (.string o.as_) ∧ w'.cell? ⟨gb, off + i * 7 + 5, none⟩ = some (.bool o.is_) ∧ w'.cell? ⟨gb, off + i * 7 + 6, none⟩ = some (.int .i64 o.short))
            (first | exact HS5.out _ ((HBB7.out.setCell (Nat.le_refl _) _).setCell (Nat.le_refl _) _) | exact HS5.out _ (HBB7.out.alloc HBB7.out.size _) | exact HS5.out _ HBB7.out | exact HS5.out _ (show Below w6.heap.size w6 _ from (by repeat (first | exact Below.refl _ _ | assumption | (refine Below.drew ?_) | (refine below_drewN ?_ _) | (refine Below.alloc ?_ (by simp; done) _) | (refine Below.alloc ?_ (by simp; omega) _)))))
            (first
             | (go_at_call 14
                refine (HR6.out w6.drew (Below.refl _ w6).drew).mono ?_
                rintro e w7 ⟨v6, rfl, ha6, hw6, hb6⟩
                have HBB7 := Lib.hid ((Below.refl _ w6).drew.trans hb6)
                have HA6 := Lib.hid ha6
                have HW6 := Lib.hid hw6
                obtain ⟨a6, c6, rfl⟩ := ha6.shape
                have ONE : True := trivial
                clear ha6 hw6 hb6)
             | (go_at_call 14
                refine (HR6.out (w6.alloc _).drew ((Below.refl _ w6).alloc (Nat.le_refl _) _).drew).mono ?_
                rintro e w7 ⟨v6, rfl, ha6, hw6, hb6⟩
                have TWO : True := trivial
                have hx6 := (hb6.block w6.heap.size (by simp [World.drew])).trans (m_alloc w6 (.cells #[.slice none 0 0, .int .i64 0] 29) w6.heap.size rfl)
                have HX6 := Lib.hid hx6
                have hb6' : Below w6.heap.size w6 w7 := ((Below.refl _ w6).alloc (Nat.le_refl _) _).drew.trans (hb6.mono (by simp [World.drew]))
                have HBB7 := Lib.hid hb6'
                have HA6 := Lib.hid ha6
                have HW6 := Lib.hid hw6
                obtain ⟨r0, r1, r2, r3⟩ := rfacts hx6
                obtain ⟨a6, c6, rfl⟩ := ha6.shape
                clear ha6 hw6 hb6 hb6' hx6))
          all_goals
            go_wp2
            go_meet
            case rel =>
              first
              | exact midx1 HP6.out.own HBK.out HNE.out HBB7.out HA6.out (fun k q => HW6.out k q)
              | exact midx2 HP6.out.own HBK.out HNE.out HBB7.out HA6.out HX6.out (fun k q => (HW6.out k q).imp id (fun z => ⟨by have := z.1; simp [World.drew] at this; omega, z.2⟩))
        case rest =>
          rename World => w7
          obtain ⟨X, v6, rfl, rfl, rfl, ho7, hblk7, hx7, ha7, hne7⟩ := hcut
          obtain ⟨a6, c6, rfl⟩ := ha7.shape
          have x0 : w7.cell? ⟨X, 0, none⟩ = some (.slice a6 R.L.length c6) := (m_cells hx7).1 0
          have x1 : w7.cell? ⟨X, 1, none⟩ = some (.int .i64 R.next) := (m_cells hx7).1 1
          have z0 : w7.cell? ⟨B, 0, none⟩ = some (.slice av L.length cv) := (m_cells hblk7).1 0
          have z1 : w7.cell? ⟨B, 1, none⟩ = some (.int .i64 next) := (m_cells hblk7).1 1
          have z2 : w7.frozen? ⟨B, 0, none⟩ = false := (m_cells hblk7).2 0
          have z3 : w7.frozen? ⟨B, 1, none⟩ = false := (m_cells hblk7).2 1
          have hp8 := midy_stored (n2 := R.next) ho7 hblk7 ha7 hne7 hwB
          obtain ⟨w8, hw8⟩ : ∃ w8, (w7.setCell ⟨B, 0, none⟩ (.slice a6 R.L.length c6)).setCell ⟨B, 1, none⟩ (.int .i64 R.next) = w8 := ⟨_, rfl⟩
          rw [hw8] at hp8
          have HP8 := Lib.hid hp8
          clear ho7 hblk7 hx7 ha7 hne7 hp8 HP6 HS5 HR6 HNE HBK b0 b1 b2 b3 k0 k1 k2 k3 k4 k5 k6
          go_wp2_with fail
          exact ⟨⟨i + 1, _, _, _, rfl, hlt, HP8.out.both, HTR.out, by push_cast; omega⟩, by simp [intOf]; omega⟩
    · have ei : i = l.length := by omega
      subst ei
      have i2 : ¬ ((l.length : Int) < l.length) := by omega
      have HBO := Lib.hid hbo
      have HTI := Lib.hid hti
      have hxr := (hbo.own.bel.block _ (m_lt HX.out)).trans HX.out
      have HXR := Lib.hid hxr
      obtain ⟨b0, b1, -, -⟩ := hbo.cells
      have r0 : wr.cell? ⟨RB, 0, none⟩ = some (.slice none 0 0) := (m_cells hxr).1 0
      have r1 : wr.cell? ⟨RB, 1, none⟩ = some (.int .i64 0) := (m_cells hxr).1 1
      have f0 : wr.frozen? ⟨RB, 0, none⟩ = false := (m_cells hxr).2 0
      have f1 : wr.frozen? ⟨RB, 1, none⟩ = false := (m_cells hxr).2 1
      have hRl : RB < w1.heap.size := m_lt HX.out
      clear hbo hti HST hxr
      go_wp2_with fail
      go_region
      all_goals
        go_wp2_with fail
        have hres := m_set (m_set HXR.out 0 (.slice av L.length cv)) 1 (.int .i64 next)
        have hkz : Keep (fun k => k = RB) wr ((wr.setCell ⟨RB, 0, none⟩ (.slice av L.length cv)).setCell ⟨RB, 1, none⟩ (.int .i64 next)).drew := (((Keep.refl (fun k => k = RB) wr).set RB 0 _ (Or.inl rfl)).set RB 1 _ (Or.inl rfl)).drew
        obtain ⟨F, m1, m2, m3, m4⟩ := HBO.out.own
        refine bodyPost_ret (v := .tuple #[.pointer (some ⟨g, 0, none⟩), .agg #[.slice av L.length cv, .int .i64 next]]) (results_tc_row (p := 2) (q := 3) (ty := 29) rfl _ _ RB 29 _ (0, 0) _ rfl (show ((wr.setCell ⟨RB, 0, none⟩ (.slice av L.length cv)).setCell ⟨RB, 1, none⟩ (.int .i64 next)).drew.heap[RB]? = _ from hres) Tryz.underlying29 rfl rtree_info) rfl ⟨L, next, g, _, rfl, ?_, arg_free HBO.out.arg HXR.out hkz, HTI.out, by omega⟩
        have hwr : w.heap.size ≤ w1.heap.size := HB1.out.size
        refine ⟨F, m1.keep hkz (fun i q e => by have := m2 i q; omega), fun k q => Nat.le_trans hwr (m2 k q), (HB1.out.trans (m3.mono hwr)).trans (hkz.toBelow (by have := m3.size; omega) (fun i q => by have := HRB.out; omega)), fun k q => ⟨Nat.lt_of_lt_of_le (m4 k (Or.inr q)).1 hkz.size, (m4 k (Or.inr q)).2⟩⟩
end Go.Proofs.YtolilbcpfdnkjaaGreat

/- ImageBent's walk. -/
namespace Go.Proofs.YtolilbcpfdnkjaaGreat
open Go.RowKit
set_option linter.unusedSimpArgs false
set_option linter.unusedVariables false
theorem conv_bytesC {ops : Array Oper} {rest : List Oper} {o : Oper} {a : Act} {w : World} {Q : Exit → Act → World → Prop} (hgd : o.guard = none) (x : Operand) (ho : o.op = .convert 9 69 x) (s : ByteArray) (hx : a.eval x = .string s)
    (h : ∀ w' cap, Fz w' w.heap.size s.data.toList → Below w.heap.size w w' → s.size ≤ cap → wpList Tryz.prog ops Q rest (a.put o.dst (.slice (some ⟨w.heap.size, 0, none⟩) s.size cap)) w') : wpList Tryz.prog ops Q (o :: rest) a w := by
  refine wpList_plain hgd fun K hK => ?_
  unfold Oper.wp execOp
  simp only [ho, hx, Sem.run_bind, Lib.run_convert_string_bytes w 9 69 5 s Tryz.underlying9 Tryz.underlying69 Tryz.underlying5, Result.andThen_ok, Sem.run_pure]
  exact hK _ _ (h _ _ (fz_new w s) (fz_below w s) (grownCap_ge _ _ _ _))
theorem Fz.take {w : World} {g : Nat} {l : List UInt8} (h : Fz w g l) (n : Nat) : Fz w g (l.take n) := by
  obtain ⟨cs, t, k, h1, h2, h3⟩ := h
  refine ⟨cs, t, k, h1, by rw [List.length_take]; omega, fun j hj => ?_⟩
  rw [List.length_take] at hj
  rw [h3 j (by omega)]
  congr 4
  rw [List.getD_eq_getElem?_getD, List.getD_eq_getElem?_getD, List.getElem?_take, if_pos (by omega)]
theorem u8w64 (h : UInt8) : wrap64 (h.toNat : Int) = (h.toNat : Int) := by have := h.toNat_lt; unfold wrap64; omega
theorem xor_u8 (a b : UInt8) : bits BinOp.xor IntKind.u8 (a.toNat : Int) (b.toNat : Int) = ((a ^^^ b).toNat : Int) := by
  have key : ∀ a b : UInt8, bits BinOp.xor IntKind.u8 (a.toNat : Int) (b.toNat : Int) = ((a ^^^ b).toNat : Int) := by
    intro a b
    have h1 : (BitVec.ofInt 8 (a.toNat : Int)) = a.toBitVec := by
      apply BitVec.eq_of_toNat_eq
      rw [BitVec.ofInt_natCast, BitVec.toNat_ofNat]
      exact Nat.mod_eq_of_lt a.toNat_lt
    have h2 : (BitVec.ofInt 8 (b.toNat : Int)) = b.toBitVec := by
      apply BitVec.eq_of_toNat_eq
      rw [BitVec.ofInt_natCast, BitVec.toNat_ofNat]
      exact Nat.mod_eq_of_lt b.toNat_lt
    show IntKind.u8.wrap ((BitVec.ofInt 8 (a.toNat : Int) ^^^ BitVec.ofInt 8 (b.toNat : Int)).toNat : Int) = _
    rw [h1, h2]
    have h3 : (a.toBitVec ^^^ b.toBitVec).toNat = (a ^^^ b).toNat := rfl
    rw [h3]
    have := (a ^^^ b).toNat_lt
    show (((a ^^^ b).toNat : Int)) % 256 = _
    omega
  exact key a b
theorem bent_facts (I : List UInt8) (a : Nat) (h2 : UInt8) (cap : Nat) (hI : 10 ≤ I.length) (hm : I.length ≤ 12060010) (hcap : I.length ≤ cap) :
    ∃ ix kk KK : Nat, a % I.length = ix ∧ ix < I.length ∧ ((a : Int) % (I.length : Int)) = (ix : Int) ∧ ¬ (I.length : Int) = 0 ∧ h2.toNat % 3 = kk ∧ ((h2.toNat : Int)).tmod 3 = (kk : Int) ∧ I.length - kk = KK ∧ wrap64 ((I.length : Int) - (kk : Int)) = (KK : Int) ∧ KK ≤ cap ∧ (KK : Int) ≤ (cap : Int) ∧
      ∀ (i : Nat) (c : UInt8), KK = ((I.set i c).take KK).length := by
  have hk3 : h2.toNat % 3 < 3 := Nat.mod_lt _ (by decide)
  refine ⟨_, _, _, rfl, Nat.mod_lt _ (by omega), by simp, by omega, rfl, ?_, rfl, ?_, by omega, by omega, fun i c => ?_⟩
  · rw [Int.tmod_eq_emod_of_nonneg (by omega)]; simp
  · unfold wrap64; omega
  · rw [List.length_take, List.length_set]; omega
theorem bent_len (I : List UInt8) (i k : Nat) (c : UInt8) : ((I.set i c).take k).length ≤ I.length := by
  rw [List.length_take, List.length_set]; exact Nat.min_le_right _ _
theorem bent_same {I : List UInt8} {ix kk KK : Nat} {c c2 h1 : UInt8} (hix : ix < I.length) (hc : I.getD ix 0 = c) (hc2 : c ^^^ h1 = c2) (hz : h1 = 0) (hK : I.length - kk = KK) (hk : kk = 0) : I = (I.set ix c2).take KK := by
  subst hz hk
  have e : c2 = c := by rw [← hc2]; simp
  rw [Nat.sub_zero] at hK
  rw [e, ← hK, List.take_of_length_le (by rw [List.length_set]; exact Nat.le_refl _), ← hc]
  rw [List.getD_eq_getElem?_getD, List.getElem?_eq_getElem hix, Option.getD_some, List.set_getElem_self]
theorem next_small {next : Int} {n : Nat} (h : next ≤ (n : Int) + 1) (hn : n ≤ 30) : next ≤ 9223372036854775807 := by omega
theorem img_len_pos (L : List Itm) (next : Int) : 10 ≤ (imgB L next).length := by
  unfold imgB
  rw [List.length_append, List.length_append, beB_len, beB_len]; omega
theorem img_len_max {L : List Itm} {next : Int} (h : TInv L next) : (imgB L next).length ≤ 12060010 := by
  have := take_dirB h (dirsT L) (dirsT_len L) (dirsT L).length
  rw [List.take_length] at this
  unfold imgB
  rw [List.length_append, List.length_append, beB_len, beB_len]; omega
set_option maxRecDepth 100000 in
set_option maxHeartbeats 2000000 in
theorem imagebent_any (w : World) (v : Value) (l : List Op1) (at_ : Nat) (h1 h2 : UInt8) (h : Arg EOp w v l) (ml : l.length ≤ maxLen) (hok : ∀ o ∈ l, (o.name.size ≤ maxLen ∧ o.as_.size ≤ maxLen) ∧ o.kind < 256) (hat : at_ < 65536) :
    Calls Tryz.prog 6 #[v, .int .u16 at_, .agg #[.int .u8 h1.toNat, .int .u8 h2.toNat]] w fun e w' => e = .returned (.bool true) ∧ Below w.heap.size w w' := by
  obtain ⟨va, vc, rfl⟩ := h.shape
  have H := Lib.hid h
  have HOK := Lib.hid hok
  have hb0 : Below w.heap.size w (w.alloc (.cells #[.int .u8 h1.toNat, .int .u8 h2.toNat] 66)) := (Below.refl _ w).alloc (Nat.le_refl _) _
  have hx := m_alloc w (.cells #[.int .u8 h1.toNat, .int .u8 h2.toNat] 66) w.heap.size rfl
  have c0 : (w.alloc (.cells #[.int .u8 h1.toNat, .int .u8 h2.toNat] 66)).cell? ⟨w.heap.size, 0, none⟩ = some (.int .u8 h1.toNat) := (m_cells hx).1 0
  have c1 : (w.alloc (.cells #[.int .u8 h1.toNat, .int .u8 h2.toNat] 66)).cell? ⟨w.heap.size, 1, none⟩ = some (.int .u8 h2.toNat) := (m_cells hx).1 1
  clear h hok
  go_enter Tryz.func6, Tryz.ntmps6
  go_wp2_with fail
  obtain ⟨HB, hHB⟩ : ∃ n, w.heap.size = n := ⟨_, rfl⟩
  rw [hHB] at hx c0 c1 ⊢
  generalize (w.alloc (.cells #[.int .u8 h1.toNat, .int .u8 h2.toNat] 66)) = w0 at *
  have HB0 := Lib.hid hb0
  clear hx hb0 hHB
  go_region
  all_goals
    clear c0 c1
    go_wp2_with fail
    refine (awake12_any _).mono ?_
    rintro e w1 ⟨rfl, hb1⟩
    have HB1 := Lib.hid (HB0.out.trans (((Below.refl w0.heap.size w0).drew.trans hb1).mono HB0.out.size))
    clear hb1
    go_wp2_with fail
    refine (few10_any w1 _ l 30 (H.out.below HB1.out) ml (fun o ho => (HOK.out o ho).1)).mono ?_
    rintro e w2 ⟨b, rfl, ⟨fw, rfl, hfew⟩, hb2⟩
    have HB2 := Lib.hid (HB1.out.trans (hb2.mono HB1.out.size))
    have HFEW := Lib.hid hfew
    clear hb2 HB1 hfew
    cases fw
    · go_wp2_with fail
      refine (awake12_any _).mono ?_
      rintro e w3 ⟨rfl, hb3⟩
      go_wp2_with fail
      go_ret
      exact ⟨rfl, HB2.out.trans (hb3.mono HB2.out.size)⟩
    obtain ⟨hl30, hsm⟩ := HFEW.out rfl
    have hl30' : l.length ≤ 30 := by omega
    have HMD := Lib.hid (made_any w2 _ l (H.out.below HB2.out) (by omega) HOK.out)
    clear hl30 hsm HFEW
    go_wp2_with fail
    refine HMD.out.mono ?_
    rintro e w3 ⟨L, next, g, v3, rfl, hown, harg, hti, hnx⟩
    obtain ⟨a3, cc3, rfl⟩ := harg.shape
    have HTI := Lib.hid hti
    obtain ⟨F, htm, hF, hb3, -⟩ := id hown
    have HTM := Lib.hid htm
    have HE := Lib.hid (fun (W : World) (hb : Below w3.heap.size w3 W) => iencode_any (HTM.out.below hb) HTI.out (by omega))
    have HB3 := Lib.hid (HB2.out.trans (hb3.mono HB2.out.size))
    have HNX := Lib.hid hnx
    clear hti hown htm hF hb3 hnx HMD harg
    obtain ⟨I, hI⟩ : ∃ I, imgB L next = I := ⟨_, rfl⟩
    have hIl := img_len_pos L next
    have hIm := img_len_max HTI.out
    rw [hI] at HE hIl hIm
    have HI := Lib.hid hI
    clear hI
    go_wp2_with fail
    refine (HE.out _ ((Below.refl _ w3).alloc (Nat.le_refl _) _)).mono ?_
    rintro e w4 ⟨rfl, hb4⟩
    have HB4 := Lib.hid (HB3.out.trans ((((Below.refl _ w3).alloc (Nat.le_refl _) _).trans (hb4.mono (by simp))).mono HB3.out.size))
    clear hb4 HE
    go_wp2_with (first
      | (refine conv_bytesC rfl _ rfl (bmk I) rfl ?_
         intro w5 cap5 hf5 hb5 hcap
         have hM : (bmk I).size = I.length := bmk_size I
         rw [hM] at hcap ⊢
         rw [show (bmk I).data.toList = I from by simp [bmk]] at hf5
         obtain ⟨g5, hg5⟩ : ∃ g5, w4.heap.size = g5 := ⟨_, rfl⟩
         rw [hg5] at hf5 ⊢
         have HG5 := Lib.hid hg5
         obtain ⟨ix, kk, KK, hix, hixl, hixI, hI0, hkk, hw2, hKK, hw3, hw4, hw5, hlen⟩ := bent_facts I at_ h2 cap5 hIl hIm hcap
         have ci := hf5.cell ix hixl
         have fi := hf5.free ix hixl
         obtain ⟨c, hc⟩ : ∃ c, I.getD ix 0 = c := ⟨_, rfl⟩
         rw [hc] at ci
         have HC := Lib.hid hc
         have hxor := xor_u8 c h1
         obtain ⟨c2, hc2⟩ : ∃ c2, c ^^^ h1 = c2 := ⟨_, rfl⟩
         rw [hc2] at hxor
         have HC2 := Lib.hid hc2
         have hw1 := u8w64 h2
         have HLEN := Lib.hid hlen
         have HKK := Lib.hid hkk
         have HK2 := Lib.hid hKK
         have HSET := Lib.hid (hf5.set ix c2 hixl)
         have HF5 := Lib.hid hf5
         have HB5 := Lib.hid hb5
         clear hf5 hb5 hg5 hM hc hc2 hkk hKK hlen hcap)
      | (refine conv_fz rfl _ rfl g5 KK cap5 ((I.set ix c2).take KK) rfl ?e1 (HSET.out.take KK) ?_
         case e1 => exact HLEN.out ix c2))
    have HW5 := Lib.hid (show Below w.heap.size w (w5.setCell ⟨g5, ix, none⟩ (.int .u8 c2.toNat)) from (HB4.out.trans (HB5.out.mono HB4.out.size)).setCell (show w.heap.size ≤ g5 from Nat.le_trans HB4.out.size (Nat.le_of_eq HG5.out)) _)
    generalize (w5.setCell ⟨g5, ix, none⟩ (.int .u8 c2.toNat)) = w6 at *
    obtain ⟨S, hS⟩ : ∃ S, (I.set ix c2).take KK = S := ⟨_, rfl⟩
    have hSl : S.length ≤ I.length := by rw [← hS]; exact bent_len I ix KK c2
    rw [hS]
    have HD := Lib.hid (idecode_any (w := w6) (bmk S) (by rw [bmk_size]; omega))
    have HSS := Lib.hid hS
    clear hS ci fi
    refine HD.out.mono ?_
    rintro e w7 (⟨L2, next2, g2, F2, hti2, hn2, himg, rfl, htm2, hF2, hb7⟩ | ⟨hno, rfl, hb7⟩)
    · have HE2 := Lib.hid (iencode_any htm2 hti2 hn2)
      have HB7 := Lib.hid hb7
      have e2 : (imgB L2 next2 == S) = true := by
        have e1 := (bstr_eq_iff _ _).2 himg
        simpa [bmk] using e1
      clear hti2 hn2 himg htm2 hF2 hb7 HD
      go_wp2_with fail
      refine HE2.out.mono ?_
      rintro e w8 ⟨rfl, hb8⟩
      have HB8 := Lib.hid hb8
      clear hb8
      go_wp2_with fail
      go_ret
      exact ⟨by simp, HW5.out.trans ((HB7.out.trans (HB8.out.mono HB7.out.size)).mono HW5.out.size)⟩
    · have HB7 := Lib.hid hb7
      have HNO := Lib.hid hno
      clear hno hb7 HD
      have HEND := Lib.hid (HW5.out.trans (HB7.out.mono HW5.out.size))
      by_cases hz : h1 = 0
      · have hk0 : kk ≠ 0 := fun q => HNO.out L next HTI.out (next_small HNX.out hl30') (by rw [HI.out, ← HSS.out]; exact congrArg bmk (bent_same hixl HC.out HC2.out hz HK2.out q))
        have d1 : ((h1.toNat : Int) != 0) = false := by rw [hz]; rfl
        have d2 : ((kk : Int) != 0) = true := by simpa using hk0
        have HZ := Lib.hid hz
        clear hz hk0
        go_wp2_with fail
        go_ret
        exact ⟨by simp, HEND.out⟩
      · have d1 : ((h1.toNat : Int) != 0) = true := by
          have : h1.toNat ≠ 0 := fun q => hz (by apply UInt8.toNat_inj.1; rw [q]; rfl)
          simpa using this
        have HZ := Lib.hid hz
        clear hz
        go_wp2_with fail
        go_ret
        exact ⟨by simp, HEND.out⟩
end Go.Proofs.YtolilbcpfdnkjaaGreat
