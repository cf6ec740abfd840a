/- TreeClones: the walk. -/
import Derived.Test.YtolilbcpfdnkjaaGreatZBSM1
import Derived.Test.YtolilbcpfdnkjaaGreatZBYE
namespace Go.Proofs.YtolilbcpfdnkjaaGreat
open Go.RowKit
set_option linter.unusedSimpArgs false
set_option linter.unusedVariables false
/-- What goes wrong leaves the items as they were. -/
theorem doT_same (L : List Itm) (next : Int) (o : Op1) (h : (doT L next o).err ≠ 0) : (doT L next o).L = L ∧ (doT L next o).next = next := by
  revert h
  unfold doT linkT unlinkT moveT
  repeat' split
  all_goals simp_all
/-- A call on a tree: other trees stay. -/
theorem ownr_do2 {w0 w : World} {R : Nat → Prop} {g : Nat} {L : List Itm} {next : Int} (h : OwnTR w0 w R g L next) (hi : TInv L next) (hn : next ≤ 1000000000) (o : Op1) (hk : o.kind < 256) (h1 : o.name.size ≤ maxLen) (h2 : o.as_.size ≤ maxLen) :
    Calls Tryz.prog 13 #[.pointer (some ⟨g, 0, none⟩), o.val] w fun e w' =>
      e = .returned (.tuple #[.int .i64 (doT L next o).node, .int .i64 (doT L next o).err]) ∧ OwnTR w0 w' R g (doT L next o).L (doT L next o).next ∧ Stays R w w' ∧
      (∀ F2 g2 L2 n2, (∀ k, F2 k → R k) → TreeM w F2 g2 L2 n2 → TreeM w' F2 g2 L2 n2) := by
  obtain ⟨F, k1, k2, k3, k4⟩ := h
  refine (tdo_any o k1 hi hn hk h1 h2).mono fun e w' ⟨a, b⟩ => ?_
  obtain ⟨s1, s2⟩ := OwnTR.step k1 k2 k3 k4 b
  obtain ⟨F', b1, b2, b3⟩ := b
  exact ⟨a, s1, s2, fun F2 g2 L2 n2 q t => t.keep b3 (fun i hi => (k4 i (q i hi)).2)⟩
theorem bset2 {w w' : World} {X : Nat} {a b : Value} (h : Below w.heap.size w w') (hX : w.heap.size ≤ X) : Below w.heap.size w ((w'.setCell ⟨X, 0, none⟩ a).setCell ⟨X, 1, none⟩ b) :=
  (h.setCell hX _).setCell hX _
def ClonesT (w0 : World) (g B : Nat) (iv : Value) (n : Nat) (wr : World) : Prop :=
  ∃ (i : Nat) (v : Value) (L : List Itm) (next : Int), iv = .int .i64 i ∧ i ≤ n ∧ Both w0 wr g B v L next ∧ TInv L next ∧ next ≤ i + 1
/-- The second loop: the clone gc goes on by itself. -/
def ClonesU (w0 : World) (g B gc : Nat) (F : Nat → Prop) (v : Value) (L : List Itm) (next : Int) (iv : Value) (n : Nat) (wr : World) : Prop :=
  ∃ (j : Nat) (Lc : List Itm) (nc : Int), iv = .int .i64 j ∧ j ≤ n ∧ OwnTR w0 wr (fun k => F k ∨ k = B ∨ ownBk v k) gc Lc nc ∧ TInv Lc nc ∧ nc ≤ 61 + j ∧ TreeM wr F g L next ∧
    wr.heap[B]? = some (.cells #[v, .int .i64 next] 29 (0, 0)) ∧ Arg EItm wr v L
set_option maxRecDepth 100000 in
set_option maxHeartbeats 4000000 in
theorem treeclones_walk (w : World) (v v2 : Value) (l l2 : List Op1) (h : Arg EOp w v l) (h2 : Arg EOp w v2 l2) (ml : l.length ≤ maxLen) (ml2 : l2.length ≤ maxLen) (hok : ∀ o ∈ l, (o.name.size ≤ maxLen ∧ o.as_.size ≤ maxLen) ∧ o.kind < 256) (hok2 : ∀ o ∈ l2, (o.name.size ≤ maxLen ∧ o.as_.size ≤ maxLen) ∧ o.kind < 256) :
    Calls Tryz.prog 3 #[v, v2] w fun e w' => e = .returned (.bool true) ∧ Below w.heap.size w w' := by
  obtain ⟨va, vc, rfl⟩ := h.shape
  obtain ⟨va2, vc2, rfl⟩ := h2.shape
  have H := Lib.hid h
  have H2 := Lib.hid h2
  have HOK := Lib.hid hok
  have HOK2 := Lib.hid hok2
  clear h hok h2 hok2
  go_enter Tryz.func3, Tryz.ntmps3
  go_wp2_with fail
  refine (awake10_any w).mono ?_
  rintro e w1 ⟨rfl, hb1⟩
  have HB1 := Lib.hid hb1
  clear hb1
  go_wp2_with fail
  refine (few10_any w1 _ l 60 (H.out.below HB1.out) ml (fun o ho => (HOK.out o ho).1)).mono ?_
  rintro e w2 ⟨b, rfl, ⟨fw, rfl, hfew⟩, hb2⟩
  have HB2 := Lib.hid (HB1.out.trans (hb2.mono HB1.out.size))
  have HFEW := Lib.hid hfew
  clear hb2 HB1 hfew
  cases fw
  · go_wp2_with fail
    refine (awake10_any _).mono ?_
    rintro e w3 ⟨rfl, hb3⟩
    go_wp2_with fail
    go_ret
    exact ⟨rfl, HB2.out.trans (hb3.mono HB2.out.size)⟩
  obtain ⟨hl100, hsm⟩ := HFEW.out rfl
  have hl100' : l.length ≤ 60 := by omega
  clear hl100 hsm HFEW
  go_wp2_with fail
  refine (few10_any w2 _ l2 20 (H2.out.below HB2.out) ml2 (fun o ho => (HOK2.out o ho).1)).mono ?_
  rintro e w2b ⟨b, rfl, ⟨fw, rfl, hfew⟩, hb2⟩
  have HB2B := Lib.hid (HB2.out.trans (hb2.mono HB2.out.size))
  have HFEW := Lib.hid hfew
  clear hb2 HB2 hfew
  cases fw
  · go_wp2_with fail
    refine (awake10_any _).mono ?_
    rintro e w3 ⟨rfl, hb3⟩
    go_wp2_with fail
    go_ret
    exact ⟨rfl, HB2B.out.trans (hb3.mono HB2B.out.size)⟩
  obtain ⟨hl20, hsm⟩ := HFEW.out rfl
  have hl20' : l2.length ≤ 20 := by omega
  have HOW := Lib.hid (own_new w HB2B.out)
  clear hl20 hsm HFEW
  go_wp2_with fail
  refine HOW.out.mono ?_
  rintro e w3 ⟨g, rfl, hown⟩
  have HOWN := Lib.hid hown
  clear hown HOW
  go_wp2_with fail
  refine (rnew_any w3).mono ?_
  rintro e w4 ⟨rfl, hb4⟩
  obtain ⟨B, hB⟩ : ∃ B, w4.heap.size = B := ⟨_, rfl⟩
  have hst : Both w (w4.alloc (.cells #[.slice none 0 0, .int .i64 1] 29)) g B (.slice none 0 0) [] 1 := by
    have hbb : Below w3.heap.size w3 (w4.alloc (.cells #[.slice none 0 0, .int .i64 1] 29)) := hb4.alloc hb4.size _
    refine ⟨HOWN.out.beside.turn hbb (fun k q => ?_), m_alloc _ _ _ hB, Arg.nil _ _, fun k q => (by cases q), ?_⟩
    · rcases q with q | q
      · subst q; exact ⟨Or.inr (by rw [← hB]; exact hb4.size), by rw [← hB]; simp⟩
      · cases q
    · obtain ⟨_, _, _, q⟩ := HOWN.out
      rw [← hB]; exact Nat.le_trans q.size hb4.size
  obtain ⟨W4, hW4⟩ : ∃ W4, w4.alloc (.cells #[.slice none 0 0, .int .i64 1] 29) = W4 := ⟨_, rfl⟩
  rw [hW4] at hst
  have HST := Lib.hid hst
  clear hst HOWN hb4
  go_wp2_with fail
  clear hW4 hB
  go_loopw [7] (fun iv wr => ClonesT w g B iv l.length wr) (fun iv _ => l.length - (intOf iv).toNat)
  case atStart => exact ⟨0, _, _, _, rfl, Nat.zero_le _, HST.out, TInv.new, by decide⟩
  case round =>
    obtain ⟨i, v, L, next, rfl, hi, hbo, hti, hnx⟩ := hrel
    obtain ⟨av, cv, rfl⟩ := hbo.arg.shape
    have hnx1 := hti.nx
    have hlen := hti.len
    by_cases hlt : i < l.length
    · have i1 : (i : Int) < l.length := by omega
      obtain ⟨o, ho⟩ : ∃ o, l[i]? = some o := ⟨_, List.getElem?_eq_getElem hlt⟩
      have HOO := Lib.hid (HOK.out o (List.mem_of_getElem? ho))
      obtain ⟨gb, off, rfl, -, q0, q1, q2, q3, q4, q5, q6⟩ := op1_cells H.out i o ho
      have HLC := Lib.hid (show ∀ w', Below w.heap.size w w' → (w'.cell? ⟨gb, off + i * 7, none⟩ = some (.int .u8 o.kind) ∧ w'.cell? ⟨gb, off + i * 7 + 1, none⟩ = some (.int .i64 o.dir) ∧ w'.cell? ⟨gb, off + i * 7 + 2, none⟩ = some (.int .i64 o.to_) ∧ w'.cell? ⟨gb, off + i * 7 + 3, none⟩ = some (.string o.name) ∧ w'.cell? ⟨gb, off + i * 7 + 4, none⟩ = some (.string o.as_) ∧ w'.cell? ⟨gb, off + i * 7 + 5, none⟩ = some (.bool o.is_) ∧ w'.cell? ⟨gb, off + i * 7 + 6, none⟩ = some (.int .i64 o.short)) from fun w' k =>
        ⟨cell_later k q0, cell_later k q1, cell_later k q2, cell_later k q3, cell_later k q4, cell_later k q5, cell_later k q6⟩)
      obtain ⟨F0, m1, -, -, -⟩ := hbo.own
      have HCL := Lib.hid (tclone_any m1 (by omega))
      have HP := Lib.hid hbo.pair
      have HTI := Lib.hid hti
      clear ho q0 q1 q2 q3 q4 q5 q6 m1
      have HBO := Lib.hid hbo
      clear hbo hti
      go_wp2_with fail
      refine HCL.out.mono ?_
      rintro e w5 ⟨gw, FW, rfl, htw, hfw, hb5⟩
      have ho5 : OwnTR w w5 (fun k => (k = B ∨ ownBk (.slice av L.length cv) k) ∨ FW k) g L next := HBO.out.own.turn hb5 (fun k q => by
        rcases q with q | q
        · obtain ⟨F, _, _, _, k4⟩ := HBO.out.own
          exact ⟨Or.inl q, Nat.lt_of_lt_of_le (k4 k q).1 hb5.size⟩
        · exact ⟨Or.inr (hfw k q), htw.lt q⟩)
      have HDO := Lib.hid (ownr_do2 ho5 HTI.out (by omega) o HOO.out.2 HOO.out.1.1 HOO.out.1.2)
      have HP5 := Lib.hid (HP.out.below hb5)
      have HTW := Lib.hid htw
      have HFW := Lib.hid (show ∀ k, FW k → k ≠ B from fun k q e => by have := hfw k q; have := m_lt HBO.out.blk; omega)
      obtain ⟨k0, k1, k2, k3, k4, k5, k6⟩ := HLC.out w5 ho5.bel
      clear htw hfw hb5 ho5 HCL HBO HP
      go_wp2_with fail
      refine HDO.out.mono ?_
      rintro e w6 ⟨rfl, ho6, hs6, htr6⟩
      have HTW6 := Lib.hid (htr6 FW gw L next (fun k q => Or.inr q) HTW.out)
      have hsub : Stays (fun k => k = B ∨ ownBk (.slice av L.length cv) k) w5 w6 := fun k q => hs6 k (Or.inl q)
      have hbelow : OwnTR w w6 (fun k => k = B ∨ ownBk (.slice av L.length cv) k) g (doT L next o).L (doT L next o).next := ho6.less (fun k q => Or.inl q)
      have HP6 := Lib.hid (HP5.out.turned hbelow hsub)
      have HSAME := Lib.hid (doT_same L next o)
      have hnx2 := (doT_next L next o).2
      have HTR := Lib.hid (HTI.out.do_ o)
      have HR6 := Lib.hid (fun (W : World) (hb : Below w6.heap.size w6 W) => rdo_any W next o (HP6.out.arg.below hb) (fun k q => Nat.lt_of_lt_of_le (HP6.out.lt k q) hb.size) HTI.out (by omega) HOO.out.2 HOO.out.1.1 HOO.out.1.2)
      have HFWB := Lib.hid (show ∀ k, FW k → k ≠ B from fun k q e => HFW.out k q e)
      generalize doT L next o = R at *
      clear ho6 hs6 htr6 hsub hbelow HDO HP5 HTW k0 k1 k2 k3 k4 k5 k6 HST
      obtain ⟨k0, k1, k2, k3, k4, k5, k6⟩ := HLC.out w6 HP6.out.own.bel
      obtain ⟨b0, b1, b2, b3⟩ := HP6.out.cells
      go_wp2_with fail
      have HS5 := Lib.hid (show ∀ w', Below w6.heap.size w6 w' → (w'.cell? ⟨B, 0, none⟩ = some (.slice av L.length cv) ∧ w'.cell? ⟨B, 1, none⟩ = some (.int .i64 next) ∧ w'.cell? ⟨gb, off + i * 7, none⟩ = some (.int .u8 o.kind) ∧ w'.cell? ⟨gb, off + i * 7 + 1, none⟩ = some (.int .i64 o.dir) ∧ w'.cell? ⟨gb, off + i * 7 + 2, none⟩ = some (.int .i64 o.to_) ∧ w'.cell? ⟨gb, off + i * 7 + 3, none⟩ = some (.string o.name) ∧ w'.cell? ⟨gb, off + i * 7 + 4, none⟩ = some (.string o.as_) ∧ w'.cell? ⟨gb, off + i * 7 + 5, none⟩ = some (.bool o.is_) ∧ w'.cell? ⟨gb, off + i * 7 + 6, none⟩ = some (.int .i64 o.short)) from fun w' k =>
        ⟨cell_later k b0, cell_later k b1, cell_later k k0, cell_later k k1, cell_later k k2, cell_later k k3, cell_later k k4, cell_later k k5, cell_later k k6⟩)
      have HNE := Lib.hid HP6.out.ne
      have HBK := Lib.hid HP6.out.blk
      have hwB := HP6.out.ge
      go_cut [11, 12, 13] from 1000 (fun s8 s9 s10 wx => MidX w g B (.slice av L.length cv) next R s8 s9 s10 wx ∧ TreeM wx FW gw L next)
      case first =>
        go_region_held3 (fun w' => w'.cell? ⟨B, 0, none⟩ = some (.slice av L.length cv) ∧ w'.cell? ⟨B, 1, none⟩ = some (.int .i64 next) ∧ w'.cell? ⟨gb, off + i * 7, none⟩ = some (.int .u8 o.kind) ∧ w'.cell? ⟨gb, off + i * 7 + 1, none⟩ = some (.int .i64 o.dir) ∧ w'.cell? ⟨gb, off + i * 7 + 2, none⟩ = some (.int .i64 o.to_) ∧ w'.cell? ⟨gb, off + i * 7 + 3, none⟩ = some (.string o.name) ∧ w'.cell? ⟨gb, off + i * 7 + 4, none⟩ = some (.string o.as_) ∧ w'.cell? ⟨gb, off + i * 7 + 5, none⟩ = some (.bool o.is_) ∧ w'.cell? ⟨gb, off + i * 7 + 6, none⟩ = some (.int .i64 o.short))
          (first | exact HS5.out _ ((HBB7.out.setCell (Nat.le_refl _) _).setCell (Nat.le_refl _) _) | exact HS5.out _ (HBB7.out.alloc HBB7.out.size _) | exact HS5.out _ HBB7.out | exact HS5.out _ (show Below w6.heap.size w6 _ from (by repeat (first | exact Below.refl _ _ | assumption | (refine Below.drew ?_) | (refine below_drewN ?_ _) | (refine Below.alloc ?_ (by simp; done) _) | (refine Below.alloc ?_ (by simp; omega) _)))))
          (first
           | (go_at_call 14
              refine (HR6.out w6.drew (Below.refl _ w6).drew).mono ?_
              rintro e w7 ⟨v6, rfl, ha6, hw6, hb6⟩
              have HBB7 := Lib.hid ((Below.refl _ w6).drew.trans hb6)
              have HA6 := Lib.hid ha6
              have HW6 := Lib.hid hw6
              obtain ⟨a6, c6, rfl⟩ := ha6.shape
              have ONE : True := trivial
              clear ha6 hw6 hb6)
           | (go_at_call 14
              refine (HR6.out (w6.alloc _).drew ((Below.refl _ w6).alloc (Nat.le_refl _) _).drew).mono ?_
              rintro e w7 ⟨v6, rfl, ha6, hw6, hb6⟩
              have TWO : True := trivial
              have hx6 := (hb6.block w6.heap.size (by simp [World.drew])).trans (m_alloc w6 (.cells #[.slice none 0 0, .int .i64 0] 29) w6.heap.size rfl)
              have HX6 := Lib.hid hx6
              have hb6' : Below w6.heap.size w6 w7 := ((Below.refl _ w6).alloc (Nat.le_refl _) _).drew.trans (hb6.mono (by simp [World.drew]))
              have HBB7 := Lib.hid hb6'
              have HA6 := Lib.hid ha6
              have HW6 := Lib.hid hw6
              obtain ⟨r0, r1, r2, r3⟩ := rfacts hx6
              obtain ⟨a6, c6, rfl⟩ := ha6.shape
              clear ha6 hw6 hb6 hb6' hx6))
        all_goals
          go_wp2
          go_meet
          case rel =>
            first
            | exact ⟨midx1 HP6.out.own HBK.out HNE.out HBB7.out HA6.out (fun k q => HW6.out k q), HTW6.out.below (HBB7.out.alloc HBB7.out.size _)⟩
            | exact ⟨midx2 HP6.out.own HBK.out HNE.out HBB7.out HA6.out HX6.out (fun k q => (HW6.out k q).imp id (fun z => ⟨by have := z.1; simp [World.drew] at this; omega, z.2⟩)), HTW6.out.below (bset2 HBB7.out (Nat.le_refl _))⟩
      case rest =>
        rename World => w7
        obtain ⟨⟨X, v6, rfl, rfl, rfl, ho7, hblk7, hx7, ha7, hne7⟩, htw7⟩ := hcut
        obtain ⟨a6, c6, rfl⟩ := ha7.shape
        have x0 : w7.cell? ⟨X, 0, none⟩ = some (.slice a6 R.L.length c6) := (m_cells hx7).1 0
        have x1 : w7.cell? ⟨X, 1, none⟩ = some (.int .i64 R.next) := (m_cells hx7).1 1
        have z0 : w7.cell? ⟨B, 0, none⟩ = some (.slice av L.length cv) := (m_cells hblk7).1 0
        have z1 : w7.cell? ⟨B, 1, none⟩ = some (.int .i64 next) := (m_cells hblk7).1 1
        have z2 : w7.frozen? ⟨B, 0, none⟩ = false := (m_cells hblk7).2 0
        have z3 : w7.frozen? ⟨B, 1, none⟩ = false := (m_cells hblk7).2 1
        have hp8 := midy_stored (n2 := R.next) ho7 hblk7 ha7 hne7 hwB
        have htw8 : TreeM ((w7.setCell ⟨B, 0, none⟩ (.slice a6 R.L.length c6)).setCell ⟨B, 1, none⟩ (.int .i64 R.next)) FW gw L next :=
          htw7.keep (G := fun k => k = B) (((Keep.refl (fun k => k = B) w7).set B _ _ (Or.inl rfl)).set B _ _ (Or.inl rfl)) (fun k q e => HFWB.out k q e)
        obtain ⟨w8, hw8⟩ : ∃ w8, (w7.setCell ⟨B, 0, none⟩ (.slice a6 R.L.length c6)).setCell ⟨B, 1, none⟩ (.int .i64 R.next) = w8 := ⟨_, rfl⟩
        rw [hw8] at hp8 htw8
        have HP8 := Lib.hid hp8
        have HTW8 := Lib.hid htw8
        clear ho7 hblk7 hx7 ha7 hne7 hp8 htw7 htw8 HP6 HS5 HR6 HNE HBK HTW6 b0 b1 b2 b3 k0 k1 k2 k3 k4 k5 k6
        by_cases he : R.err = 0
        · have e1 : (R.err == 0) = true := by simpa using he
          have e2 : (R.err != 0) = false := by simpa using he
          clear he HSAME
          go_wp2_with fail
          exact ⟨⟨i + 1, _, _, _, rfl, hlt, HP8.out.both, HTR.out, by push_cast; omega⟩, by simp [intOf]; omega⟩
        · have e1 : (R.err == 0) = false := by simpa using he
          have e2 : (R.err != 0) = true := by simpa using he
          obtain ⟨hs1, hs2⟩ := HSAME.out he
          have HSM := Lib.hid (show ∀ W, Below w8.heap.size w8 W → Calls Tryz.prog 15 #[.pointer (some ⟨g, 0, none⟩), .pointer (some ⟨gw, 0, none⟩)] W (fun e w' => e = .returned (.bool true) ∧ Below W.heap.size W w') from fun W hb => by
            obtain ⟨F8, m8, _⟩ := HP8.out.own
            rw [hs1, hs2] at m8
            exact tsame_any (m8.below hb) (HTW8.out.below hb) (by omega))
          clear he HSAME hs1 hs2
          go_wp2_with fail
          refine (HSM.out w8 (Below.refl _ _)).mono ?_
          rintro e w9 ⟨rfl, hb9⟩
          have HP9 := Lib.hid (HP8.out.below hb9)
          clear hb9 HP8
          go_wp2_with fail
          exact ⟨⟨i + 1, _, _, _, rfl, hlt, HP9.out.both, HTR.out, by push_cast; omega⟩, by simp [intOf]; omega⟩
    · have ei : i = l.length := by omega
      subst ei
      have i2 : ¬ ((l.length : Int) < l.length) := by omega
      have HBO := Lib.hid hbo
      have HTI := Lib.hid hti
      obtain ⟨F, m1, m2, m3, m4⟩ := hbo.own
      have HCL := Lib.hid (tclone_any m1 (by omega))
      have HM1 := Lib.hid m1
      have HM4 := Lib.hid (show ∀ k, F k → w.heap.size ≤ k from m2)
      have HM5 := Lib.hid m4
      clear hbo hti m1 m2 m3 m4 HST
      go_wp2_with fail
      refine HCL.out.mono ?_
      rintro e w5 ⟨gc, FC, rfl, htc, hfc, hb5⟩
      have hoc : OwnTR w w5 (fun k => F k ∨ k = B ∨ ownBk (.slice av L.length cv) k) gc L next := by
        refine ⟨FC, htc, fun k q => Nat.le_trans HBO.out.own.bel.size (hfc k q), HBO.out.own.bel.trans (hb5.mono HBO.out.own.bel.size), fun k q => ?_⟩
        have hk : k < wr.heap.size := by
          rcases q with q | q
          · exact HM1.out.lt q
          · exact (HM5.out k q).1
        exact ⟨Nat.lt_of_lt_of_le hk hb5.size, fun f => Nat.lt_irrefl _ (Nat.lt_of_lt_of_le hk (hfc k f))⟩
      have hst2 : ClonesU w g B gc F (.slice av L.length cv) L next (.int .i64 (0 : Nat)) l2.length w5 :=
        ⟨0, L, next, rfl, Nat.zero_le _, hoc, HTI.out, by push_cast at *; omega, HM1.out.below hb5, (hb5.block _ (m_lt HBO.out.blk)).trans HBO.out.blk, HBO.out.arg.below hb5⟩
      have HST2 := Lib.hid hst2
      clear htc hfc hb5 hoc hst2 HCL HBO HM1 HM4 HM5
      go_wp2_with fail
      go_loopw [15] (fun iv wr => ClonesU w g B gc F (.slice av L.length cv) L next iv l2.length wr) (fun iv _ => l2.length - (intOf iv).toNat)
      case atStart => exact HST2.out
      case round =>
        obtain ⟨j, Lc, nc, rfl, hj, hoc, htc, hnc, htm, hblk, harg⟩ := hrel
        clear HST2
        have hnc1 := htc.nx
        by_cases hjl : j < l2.length
        · have j1 : (j : Int) < l2.length := by omega
          obtain ⟨o2, ho⟩ : ∃ o, l2[j]? = some o := ⟨_, List.getElem?_eq_getElem hjl⟩
          have HOO := Lib.hid (HOK2.out o2 (List.mem_of_getElem? ho))
          obtain ⟨gb2, off2, rfl, -, q0, q1, q2, q3, q4, q5, q6⟩ := op1_cells H2.out j o2 ho
          obtain ⟨k0, k1, k2, k3, k4, k5, k6⟩ := (show wr.cell? ⟨gb2, off2 + j * 7, none⟩ = some (.int .u8 o2.kind) ∧ wr.cell? ⟨gb2, off2 + j * 7 + 1, none⟩ = some (.int .i64 o2.dir) ∧ wr.cell? ⟨gb2, off2 + j * 7 + 2, none⟩ = some (.int .i64 o2.to_) ∧ wr.cell? ⟨gb2, off2 + j * 7 + 3, none⟩ = some (.string o2.name) ∧ wr.cell? ⟨gb2, off2 + j * 7 + 4, none⟩ = some (.string o2.as_) ∧ wr.cell? ⟨gb2, off2 + j * 7 + 5, none⟩ = some (.bool o2.is_) ∧ wr.cell? ⟨gb2, off2 + j * 7 + 6, none⟩ = some (.int .i64 o2.short) from
            ⟨cell_later hoc.bel q0, cell_later hoc.bel q1, cell_later hoc.bel q2, cell_later hoc.bel q3, cell_later hoc.bel q4, cell_later hoc.bel q5, cell_later hoc.bel q6⟩)
          have HDO := Lib.hid (ownr_do2 hoc htc (by omega) o2 HOO.out.2 HOO.out.1.1 HOO.out.1.2)
          have hnx2 := (doT_next Lc nc o2).2
          have HTR := Lib.hid (htc.do_ o2)
          have HTM := Lib.hid htm
          have HBK := Lib.hid hblk
          have HAR := Lib.hid harg
          generalize doT Lc nc o2 = R2 at *
          clear ho q0 q1 q2 q3 q4 q5 q6 hoc htc htm hblk harg
          go_wp2_with fail
          refine HDO.out.mono ?_
          rintro e w6 ⟨rfl, ho6, hs6, htr6⟩
          have hst6 : ClonesU w g B gc F (.slice av L.length cv) L next (.int .i64 ((j + 1 : Nat) : Int)) l2.length w6 :=
            ⟨j + 1, R2.L, R2.next, rfl, hjl, ho6, HTR.out, by push_cast; omega, htr6 F g L next (fun k q => Or.inl q) HTM.out, (hs6 B (Or.inr (Or.inl rfl))).trans HBK.out, HAR.out.stays hs6 (fun k q => Or.inr (Or.inr q))⟩
          have HST6 := Lib.hid hst6
          clear ho6 hs6 htr6 hst6 HDO HTM HBK HAR
          go_wp2_with fail
          exact ⟨by have := HST6.out; push_cast at this; exact this, by simp [intOf]; omega⟩
        · have ej : j = l2.length := by omega
          subst ej
          have j2 : ¬ ((l2.length : Int) < l2.length) := by omega
          have b0 : wr.cell? ⟨B, 0, none⟩ = some (.slice av L.length cv) := (m_cells hblk).1 0
          have b1 : wr.cell? ⟨B, 1, none⟩ = some (.int .i64 next) := (m_cells hblk).1 1
          have HAL := Lib.hid (alike_any htm harg HTI.out)
          have HBL := Lib.hid hoc.bel
          have HTM := Lib.hid htm
          have hln := HTI.out.len
          clear hoc htm hblk harg htc
          go_wp2_with fail
          refine HAL.out.mono ?_
          rintro e w9 ⟨rfl, hb9⟩
          have HTM9 := Lib.hid (HTM.out.below hb9)
          have HBL9 := Lib.hid (HBL.out.trans (hb9.mono HBL.out.size))
          clear hb9 HTM HBL HAL
          go_wp2_with fail
          refine (tclone_any HTM9.out (by omega)).mono ?_
          rintro e w10 ⟨gd, FD, rfl, htd, hfd, hb10⟩
          have HTM10 := Lib.hid (HTM9.out.below hb10)
          have HBL10 := Lib.hid (HBL9.out.trans (hb10.mono HBL9.out.size))
          have HSM := Lib.hid (tsame_any HTM10.out htd (by omega))
          clear hb10 HTM9 HBL9 htd hfd
          go_wp2_with fail
          refine HSM.out.mono ?_
          rintro e w11 ⟨rfl, hb11⟩
          go_wp2_with fail
          go_ret
          exact ⟨rfl, HBL10.out.trans (hb11.mono HBL10.out.size)⟩
end Go.Proofs.YtolilbcpfdnkjaaGreat
