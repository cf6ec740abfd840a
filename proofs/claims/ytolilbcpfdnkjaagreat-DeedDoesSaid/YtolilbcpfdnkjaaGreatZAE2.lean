/- DeedDoes: the walk. -/
import Derived.Test.YtolilbcpfdnkjaaGreatZAE1
import Derived.Test.YtolilbcpfdnkjaaGreatZAYE
namespace Go.Proofs.YtolilbcpfdnkjaaGreat
open Go.RowKit
set_option linter.unusedSimpArgs false
set_option linter.unusedVariables false
theorem TInv.deed {L : List Itm} {next : Int} (h : TInv L next) (x : DD) : TInv (deedT L next x).L (deedT L next x).next := by
  unfold deedT
  split
  · exact h.do_ _
  · exact h
theorem ownr_ddo {w0 w : World} {R : Nat → Prop} {g : Nat} {L : List Itm} {next : Int} (h : OwnTR w0 w R g L next) (hi : TInv L next) (hn : next ≤ 1000000000) (x : DD) (h1 : x.n.size ≤ maxLen) (h2 : x.a.size ≤ maxLen) :
    Calls Tryz.prog 19 #[.pointer (some ⟨g, 0, none⟩), .agg #[.int .i64 x.k, .int .i64 x.d, .int .i64 x.t, .string x.n, .string x.a, .bool x.is, .int .i64 x.s]] w fun e w' =>
      e = .returned (.tuple #[.int .i64 (deedT L next x).node, .int .i64 (deedT L next x).err]) ∧ OwnTR w0 w' R g (deedT L next x).L (deedT L next x).next ∧ Stays R w w' := by
  obtain ⟨F, k1, k2, k3, k4⟩ := h
  exact (ddo_any x k1 hi hn h1 h2).mono fun e w' ⟨a, b⟩ => ⟨a, OwnTR.step k1 k2 k3 k4 b⟩
theorem bset2 {w w' : World} {X : Nat} {a b : Value} (h : Below w.heap.size w w') (hX : w.heap.size ≤ X) : Below w.heap.size w ((w'.setCell ⟨X, 0, none⟩ a).setCell ⟨X, 1, none⟩ b) :=
  (h.setCell hX _).setCell hX _
def DoesT (w0 : World) (g B : Nat) (iv : Value) (n : Nat) (wr : World) : Prop :=
  ∃ (i : Nat) (v : Value) (L : List Itm) (next : Int), iv = .int .i64 i ∧ i ≤ n ∧ Both w0 wr g B v L next ∧ TInv L next ∧ next ≤ i + 1
set_option maxRecDepth 100000 in
set_option maxHeartbeats 4000000 in
theorem deeddoes_walk (w : World) (v : Value) (l : List DD) (h : Arg EDd w v l) (ml : l.length ≤ maxLen) (hok : ∀ o ∈ l, o.n.size ≤ maxLen ∧ o.a.size ≤ maxLen) :
    Calls Tryz.prog 4 #[v] w fun e w' => e = .returned (.bool true) ∧ Below w.heap.size w w' := by
  obtain ⟨va, vc, rfl⟩ := h.shape
  have H := Lib.hid h
  have HOK := Lib.hid hok
  clear h hok
  go_enter Tryz.func4, Tryz.ntmps4
  go_wp2_with fail
  refine (awake11_any w).mono ?_
  rintro e w1 ⟨rfl, hb1⟩
  have HB1 := Lib.hid hb1
  clear hb1
  go_wp2_with fail
  refine (few11_any w1 _ l 60 (H.out.below HB1.out) ml (fun o ho => HOK.out o ho)).mono ?_
  rintro e w2 ⟨b, rfl, ⟨fw, rfl, hfew⟩, hb2⟩
  have HB2 := Lib.hid (HB1.out.trans (hb2.mono HB1.out.size))
  have HFEW := Lib.hid hfew
  clear hb2 HB1 hfew
  cases fw
  · go_wp2_with fail
    refine (awake11_any _).mono ?_
    rintro e w3 ⟨rfl, hb3⟩
    go_wp2_with fail
    go_ret
    exact ⟨rfl, HB2.out.trans (hb3.mono HB2.out.size)⟩
  obtain ⟨hl100, hsm⟩ := HFEW.out rfl
  have hl100' : l.length ≤ 60 := by omega
  have HOW := Lib.hid (own_new w HB2.out)
  clear hl100 hsm HFEW
  go_wp2_with fail
  refine HOW.out.mono ?_
  rintro e w3 ⟨g, rfl, hown⟩
  have HOWN := Lib.hid hown
  clear hown HOW
  go_wp2_with fail
  refine (rnew_any w3).mono ?_
  rintro e w4 ⟨rfl, hb4⟩
  obtain ⟨B, hB⟩ : ∃ B, w4.heap.size = B := ⟨_, rfl⟩
  have hst : Both w (w4.alloc (.cells #[.slice none 0 0, .int .i64 1] 29)) g B (.slice none 0 0) [] 1 := by
    have hbb : Below w3.heap.size w3 (w4.alloc (.cells #[.slice none 0 0, .int .i64 1] 29)) := hb4.alloc hb4.size _
    refine ⟨HOWN.out.beside.turn hbb (fun k q => ?_), m_alloc _ _ _ hB, Arg.nil _ _, fun k q => (by cases q), ?_⟩
    · rcases q with q | q
      · subst q; exact ⟨Or.inr (by rw [← hB]; exact hb4.size), by rw [← hB]; simp⟩
      · cases q
    · obtain ⟨_, _, _, q⟩ := HOWN.out
      rw [← hB]; exact Nat.le_trans q.size hb4.size
  obtain ⟨W4, hW4⟩ : ∃ W4, w4.alloc (.cells #[.slice none 0 0, .int .i64 1] 29) = W4 := ⟨_, rfl⟩
  rw [hW4] at hst
  have HST := Lib.hid hst
  clear hst HOWN hb4
  go_wp2_with fail
  clear hW4 hB
  go_loopw [5] (fun iv wr => DoesT w g B iv l.length wr) (fun iv _ => l.length - (intOf iv).toNat)
  case atStart => exact ⟨0, _, _, _, rfl, Nat.zero_le _, HST.out, TInv.new, by decide⟩
  case round =>
    obtain ⟨i, v, L, next, rfl, hi, hbo, hti, hnx⟩ := hrel
    obtain ⟨av, cv, rfl⟩ := hbo.arg.shape
    have hnx1 := hti.nx
    by_cases hlt : i < l.length
    · have i1 : (i : Int) < l.length := by omega
      obtain ⟨o, ho⟩ : ∃ o, l[i]? = some o := ⟨_, List.getElem?_eq_getElem hlt⟩
      have HOO := Lib.hid (HOK.out o (List.mem_of_getElem? ho))
      obtain ⟨gb, off, rfl, -, q0, q1, q2, q3, q4, q5, q6⟩ := dd_cells H.out i o ho
      have HLC := Lib.hid (show ∀ w', Below w.heap.size w w' → (w'.cell? ⟨gb, off + i * 7, none⟩ = some (.int .i64 o.k) ∧ w'.cell? ⟨gb, off + i * 7 + 1, none⟩ = some (.int .i64 o.d) ∧ w'.cell? ⟨gb, off + i * 7 + 2, none⟩ = some (.int .i64 o.t) ∧ w'.cell? ⟨gb, off + i * 7 + 3, none⟩ = some (.string o.n) ∧ w'.cell? ⟨gb, off + i * 7 + 4, none⟩ = some (.string o.a) ∧ w'.cell? ⟨gb, off + i * 7 + 5, none⟩ = some (.bool o.is) ∧ w'.cell? ⟨gb, off + i * 7 + 6, none⟩ = some (.int .i64 o.s)) from fun w' k =>
        ⟨cell_later k q0, cell_later k q1, cell_later k q2, cell_later k q3, cell_later k q4, cell_later k q5, cell_later k q6⟩)
      obtain ⟨k0, k1, k2, k3, k4, k5, k6⟩ := HLC.out wr hbo.own.bel
      have HP := Lib.hid hbo.pair
      have HDO := Lib.hid (ownr_ddo hbo.own hti (by omega) o HOO.out.1 HOO.out.2)
      have HTI := Lib.hid hti
      clear ho q0 q1 q2 q3 q4 q5 q6 hbo hti
      by_cases hm : o.may
      · have HM := Lib.hid hm
        have hdt : deedT L next o = doT L next o.op := if_pos hm
        rw [hdt] at HDO
        have HRM := Lib.hid (show ∀ W, Calls Tryz.prog 20 #[.agg #[.int .i64 o.k, .int .i64 o.d, .int .i64 o.t, .string o.n, .string o.a, .bool o.is, .int .i64 o.s]] W fun e w' => e = .returned (.bool true) ∧ Below W.heap.size W w' from fun W => (refmay_any o.k o.d o.t o.s o.n o.a o.is W).mono fun e w' ⟨a, b⟩ => ⟨by rw [a]; exact congrArg (fun b => Ending.returned (Value.bool b)) (decide_eq_true hm), b⟩)
        have hkb : o.op.kind < 256 := by rcases DD.may_k hm with e | e | e <;> (unfold DD.op; simp only [e]; decide)
        have hnx2 := (doT_next L next o.op).2
        have HTR := Lib.hid (HTI.out.do_ o.op)
        clear hm hdt
        go_wp2_with fail
        refine HDO.out.mono ?_
        rintro e w5 ⟨rfl, ho5, hs5⟩
        have HR5 := Lib.hid (fun (W : World) (ha : Arg EItm W (.slice av L.length cv) L) (hv : ∀ k, (Value.slice av L.length cv).ownBlock = some k → k < W.heap.size) => rdo_any W next o.op ha hv HTI.out (by omega) hkb HOO.out.1 HOO.out.2)
        generalize doT L next o.op = R at *
        have HP5 := Lib.hid (HP.out.turned ho5 hs5)
        clear ho5 hs5 HDO HP k0 k1 k2 k3 k4 k5 k6 HST
        obtain ⟨k0, k1, k2, k3, k4, k5, k6⟩ := HLC.out w5 HP5.out.own.bel
        go_wp2_with fail
        refine (HRM.out _).mono ?_
        rintro e w5A ⟨rfl, hb5A⟩
        have HP6 := Lib.hid (HP5.out.below hb5A)
        clear hb5A HP5 HRM k0 k1 k2 k3 k4 k5 k6
        obtain ⟨k0, k1, k2, k3, k4, k5, k6⟩ := HLC.out w5A HP6.out.own.bel
        obtain ⟨b0, b1, b2, b3⟩ := HP6.out.cells
        go_wp2_with fail
        have HLT := Lib.hid HP6.out.lt
        have HNE := Lib.hid HP6.out.ne
        have HBK := Lib.hid HP6.out.blk
        have hBl := m_lt HBK.out
        have hwB := HP6.out.ge
        have HS5 := Lib.hid (show ∀ w', Below w5A.heap.size w5A w' → (w'.cell? ⟨B, 0, none⟩ = some (.slice av L.length cv) ∧ w'.cell? ⟨B, 1, none⟩ = some (.int .i64 next) ∧ w'.cell? ⟨gb, off + i * 7, none⟩ = some (.int .i64 o.k) ∧ w'.cell? ⟨gb, off + i * 7 + 1, none⟩ = some (.int .i64 o.d) ∧ w'.cell? ⟨gb, off + i * 7 + 2, none⟩ = some (.int .i64 o.t) ∧ w'.cell? ⟨gb, off + i * 7 + 3, none⟩ = some (.string o.n) ∧ w'.cell? ⟨gb, off + i * 7 + 4, none⟩ = some (.string o.a) ∧ w'.cell? ⟨gb, off + i * 7 + 5, none⟩ = some (.bool o.is) ∧ w'.cell? ⟨gb, off + i * 7 + 6, none⟩ = some (.int .i64 o.s)) from fun w' k =>
          ⟨cell_later k b0, cell_later k b1, cell_later k k0, cell_later k k1, cell_later k k2, cell_later k k3, cell_later k k4, cell_later k k5, cell_later k k6⟩)
        have HRW := Lib.hid (show ∀ W, Below w5A.heap.size w5A W → Calls Tryz.prog 14 #[.agg #[.slice av L.length cv, .int .i64 next], o.op.val] W (RPost W (.slice av L.length cv) R) from fun W hb =>
          HR5.out W (HP6.out.arg.below hb) (fun k q => Nat.lt_of_lt_of_le (HLT.out k q) hb.size))
        have HOP := Lib.hid (show ∀ W, Calls Tryz.prog 21 #[.agg #[.int .i64 o.k, .int .i64 o.d, .int .i64 o.t, .string o.n, .string o.a, .bool o.is, .int .i64 o.s]] W fun e w' => e = .returned o.op.val ∧ Below W.heap.size W w' from fun W => op11_any o W HM.out)
        clear HR5
        go_cut [8, 9, 10] from 1000 (fun s8 s9 s10 wx => MidX w g B (.slice av L.length cv) next R s8 s9 s10 wx)
        case first =>
          go_region_held3 (fun w' => w'.cell? ⟨B, 0, none⟩ = some (.slice av L.length cv) ∧ w'.cell? ⟨B, 1, none⟩ = some (.int .i64 next) ∧ w'.cell? ⟨gb, off + i * 7, none⟩ = some (.int .i64 o.k) ∧ w'.cell? ⟨gb, off + i * 7 + 1, none⟩ = some (.int .i64 o.d) ∧ w'.cell? ⟨gb, off + i * 7 + 2, none⟩ = some (.int .i64 o.t) ∧ w'.cell? ⟨gb, off + i * 7 + 3, none⟩ = some (.string o.n) ∧ w'.cell? ⟨gb, off + i * 7 + 4, none⟩ = some (.string o.a) ∧ w'.cell? ⟨gb, off + i * 7 + 5, none⟩ = some (.bool o.is) ∧ w'.cell? ⟨gb, off + i * 7 + 6, none⟩ = some (.int .i64 o.s))
            (first | exact HS5.out _ HBB7.out | exact HS5.out _ (HBB7.out.alloc HBB7.out.size _) | exact HS5.out _ ((HBB7.out.setCell (Nat.le_refl _) _).setCell (Nat.le_refl _) _) | exact HS5.out _ (bset2 HBB7.out HBB6.out.size) | exact HS5.out _ HBB6.out | exact HS5.out _ (HBB6.out.alloc HBB6.out.size _) | exact HS5.out _ (show Below w5A.heap.size w5A _ from (by repeat (first | exact Below.refl _ _ | assumption | (refine Below.drew ?_) | (refine below_drewN ?_ _) | (refine Below.alloc ?_ (by simp; done) _) | (refine Below.alloc ?_ (by simp; omega) _)))))
            (first
             | (go_at_call 21
                refine (HOP.out w5A.drew).mono ?_
                rintro e w6 ⟨rfl, hb6⟩
                have HBB6 := Lib.hid ((Below.refl _ w5A).drew.trans hb6)
                have LATE : True := trivial
                clear hb6)
             | (go_at_call 21
                refine (HOP.out (w5A.alloc _).drew).mono ?_
                rintro e w6 ⟨rfl, hb6⟩
                have hx6 := (hb6.block w5A.heap.size (by simp [World.drew])).trans (m_alloc w5A (.cells #[.slice none 0 0, .int .i64 0] 29) w5A.heap.size rfl)
                have HX6 := Lib.hid hx6
                have HBB6 := Lib.hid (show Below w5A.heap.size w5A w6 from ((Below.refl _ w5A).alloc (Nat.le_refl _) _).drew.trans (hb6.mono (by simp [World.drew])))
                have HSZ6 := Lib.hid (show w5A.heap.size < w6.heap.size from by have := hb6.size; simp [World.drew] at this; omega)
                have EARLY : True := trivial
                clear hb6 hx6)
             | (go_at_call 14
                have _hh := EARLY
                refine (HRW.out w6 HBB6.out).mono ?_
                rintro e w7 ⟨v6, rfl, ha6, hw6, hb7⟩
                have hx7 := (hb7.block w5A.heap.size HSZ6.out).trans HX6.out
                have HX7 := Lib.hid hx7
                have HBB7 := Lib.hid (HBB6.out.trans (hb7.mono HBB6.out.size))
                have HA6 := Lib.hid ha6
                have HW6 := Lib.hid hw6
                obtain ⟨r0, r1, r2, r3⟩ := rfacts hx7
                obtain ⟨a6, c6, rfl⟩ := ha6.shape
                clear ha6 hw6 hb7 hx7)
             | (go_at_call 14
                have _hh := LATE
                refine (HRW.out w6 HBB6.out).mono ?_
                rintro e w7 ⟨v6, rfl, ha6, hw6, hb7⟩
                have HBB7 := Lib.hid (HBB6.out.trans (hb7.mono HBB6.out.size))
                have HA6 := Lib.hid ha6
                have HW6 := Lib.hid hw6
                have ONE : True := trivial
                obtain ⟨a6, c6, rfl⟩ := ha6.shape
                clear ha6 hw6 hb7)
             | (go_at_call 14
                have _hh := LATE
                have HBBA := Lib.hid (HBB6.out.alloc HBB6.out.size (.cells #[.slice none 0 0, .int .i64 0] 29))
                refine (HRW.out (w6.alloc (.cells #[.slice none 0 0, .int .i64 0] 29)) HBBA.out).mono ?_
                rintro e w7 ⟨v6, rfl, ha6, hw6, hb7⟩
                have hx7 := (hb7.block w6.heap.size (by simp)).trans (m_alloc w6 (.cells #[.slice none 0 0, .int .i64 0] 29) w6.heap.size rfl)
                have HX7 := Lib.hid hx7
                have HBM7 := Lib.hid (show Below w6.heap.size w6 w7 from ((Below.refl _ w6).alloc (Nat.le_refl _) _).trans (hb7.mono (by simp)))
                have HBB7 := Lib.hid (HBB6.out.trans (HBM7.out.mono HBB6.out.size))
                have HA6 := Lib.hid ha6
                have HW6 := Lib.hid hw6
                have TWO : True := trivial
                obtain ⟨r0, r1, r2, r3⟩ := rfacts hx7
                obtain ⟨a6, c6, rfl⟩ := ha6.shape
                clear ha6 hw6 hb7 hx7))
          all_goals
            go_wp2
            go_meet
            case rel =>
              first
              | (have _hh := EARLY; exact midx2 HP6.out.own HBK.out HNE.out HBB7.out HA6.out HX7.out (fun k q => (HW6.out k q).imp id (fun z => ⟨by have := z.1; have := HSZ6.out; omega, z.2⟩)))
              | (have _hh := ONE; exact midx1 HP6.out.own HBK.out HNE.out HBB7.out HA6.out (fun k q => (HW6.out k q).imp id (fun z => ⟨Nat.le_trans HBB6.out.size z.1, z.2⟩)))
              | (have _hh := TWO; exact midx2 (HP6.out.own.below HBB6.out) ((HBB6.out.block _ hBl).trans HBK.out) HNE.out HBM7.out HA6.out HX7.out (fun k q => (HW6.out k q).imp id (fun z => ⟨by have := z.1; simp at this; omega, z.2⟩)))
        case rest =>
          rename World => w7
          obtain ⟨X, v6, rfl, rfl, rfl, ho7, hblk7, hx7, ha7, hne7⟩ := hcut
          obtain ⟨a6, c6, rfl⟩ := ha7.shape
          have x0 : w7.cell? ⟨X, 0, none⟩ = some (.slice a6 R.L.length c6) := (m_cells hx7).1 0
          have x1 : w7.cell? ⟨X, 1, none⟩ = some (.int .i64 R.next) := (m_cells hx7).1 1
          have z0 : w7.cell? ⟨B, 0, none⟩ = some (.slice av L.length cv) := (m_cells hblk7).1 0
          have z1 : w7.cell? ⟨B, 1, none⟩ = some (.int .i64 next) := (m_cells hblk7).1 1
          have z2 : w7.frozen? ⟨B, 0, none⟩ = false := (m_cells hblk7).2 0
          have z3 : w7.frozen? ⟨B, 1, none⟩ = false := (m_cells hblk7).2 1
          have hp8 := midy_stored (n2 := R.next) ho7 hblk7 ha7 hne7 hwB
          obtain ⟨w8, hw8⟩ : ∃ w8, (w7.setCell ⟨B, 0, none⟩ (.slice a6 R.L.length c6)).setCell ⟨B, 1, none⟩ (.int .i64 R.next) = w8 := ⟨_, rfl⟩
          rw [hw8] at hp8
          have HP8 := Lib.hid hp8
          clear ho7 hblk7 hx7 ha7 hne7 hp8 HP6 HS5 HRW HOP HLT HNE HBK b0 b1 b2 b3 k0 k1 k2 k3 k4 k5 k6
          go_wp2_with fail
          exact ⟨⟨i + 1, _, _, _, rfl, hlt, HP8.out.both, HTR.out, by push_cast; omega⟩, by simp [intOf]; omega⟩
      · have hdt : deedT L next o = ⟨L, next, 0, 1⟩ := if_neg hm
        rw [hdt] at HDO
        have HRM := Lib.hid (show ∀ W, Calls Tryz.prog 20 #[.agg #[.int .i64 o.k, .int .i64 o.d, .int .i64 o.t, .string o.n, .string o.a, .bool o.is, .int .i64 o.s]] W fun e w' => e = .returned (.bool false) ∧ Below W.heap.size W w' from fun W => (refmay_any o.k o.d o.t o.s o.n o.a o.is W).mono fun e w' ⟨a, b⟩ => ⟨by rw [a]; exact congrArg (fun b => Ending.returned (Value.bool b)) (decide_eq_false hm), b⟩)
        clear hm hdt
        go_wp2_with fail
        refine HDO.out.mono ?_
        rintro e w5 ⟨rfl, ho5, hs5⟩
        have HP5 := Lib.hid (HP.out.turned ho5 hs5)
        clear ho5 hs5 HDO HP k0 k1 k2 k3 k4 k5 k6 HST
        obtain ⟨k0, k1, k2, k3, k4, k5, k6⟩ := HLC.out w5 HP5.out.own.bel
        go_wp2_with fail
        refine (HRM.out _).mono ?_
        rintro e w5A ⟨rfl, hb5A⟩
        have HP6 := Lib.hid (HP5.out.below hb5A)
        clear hb5A HP5 HRM k0 k1 k2 k3 k4 k5 k6
        go_wp2_with fail
        exact ⟨⟨i + 1, _, _, _, rfl, hlt, HP6.out.both, HTI.out, by push_cast; omega⟩, by simp [intOf]; omega⟩
    · have ei : i = l.length := by omega
      subst ei
      have i2 : ¬ ((l.length : Int) < l.length) := by omega
      obtain ⟨b0, b1, b2, b3⟩ := hbo.cells
      obtain ⟨F, m1, m2, m3, m4⟩ := hbo.own
      have HAL := Lib.hid (alike_any m1 hbo.arg hti)
      have HBL := Lib.hid m3
      clear hbo m1 m2 m3 m4
      go_wp2_with fail
      refine HAL.out.mono ?_
      rintro e w9 ⟨rfl, hb9⟩
      go_wp2_with fail
      go_ret
      exact ⟨rfl, HBL.out.trans (hb9.mono HBL.out.size)⟩
end Go.Proofs.YtolilbcpfdnkjaaGreat
