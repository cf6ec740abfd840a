/- TreeMany: the walk. -/
import Derived.Test.YtolilbcpfdnkjaaTJYE
namespace Go.Proofs.Ytolilbcpfdnkjaa
open Go.RowKit
set_option linter.unusedSimpArgs false
set_option linter.unusedVariables false
def ManyT (w0 : World) (g B : Nat) (iv : Value) (k n : Nat) (wr : World) : Prop :=
  ∃ (i : Nat) (v : Value) (L : List Itm) (next : Int), iv = .int .i64 i ∧ i ≤ n ∧ Both w0 wr g B v L next ∧ TInv L next ∧ next ≤ i + k + 1
theorem byt_cell {w : World} {a : Option Addr} {n c : Nat} {l : List UInt8} (h : Arg EByt w (.slice a n c) l) (i : Nat) (x : UInt8) (hx : l[i]? = some x) : ∃ g off, a = some ⟨g, off, none⟩ ∧ w.cell? ⟨g, off + i, none⟩ = some (.int .u8 x.toNat) := by
  obtain ⟨g, off, cap, e, hc⟩ := h.cells (by intro q; rw [q] at hx; simp at hx)
  simp only [Value.slice.injEq] at e
  have := hc i x hx 0 (by decide)
  rw [show off + (i * EByt.size + 0) = off + i from by show off + (i * 1 + 0) = _; omega] at this
  exact ⟨g, off, e.1, this⟩
set_option maxRecDepth 100000 in
set_option maxHeartbeats 4000000 in
theorem treemany_walk (w : World) (v : Value) (l : List UInt8) (ds : Bool) (h : Arg EByt w v l) (ml : l.length ≤ maxLen) :
    Calls Try.prog 7 #[v, .bool ds] w fun e w' => e = .returned (.bool true) ∧ Below w.heap.size w w' := by
  obtain ⟨va, vc, rfl⟩ := h.shape
  have H := Lib.hid h
  clear h
  go_enter Try.func7, Try.ntmps7
  go_wp2_with fail
  refine (awake10_any w).mono ?_
  rintro e w1 ⟨rfl, hb1⟩
  have HB2 := Lib.hid hb1
  clear hb1
  by_cases hl20 : 20 < l.length
  · have e1 : decide ((20 : Int) < (l.length : Int)) = true := decide_eq_true (by omega)
    go_wp2_with fail
    refine (awake10_any _).mono ?_
    rintro e w3 ⟨rfl, hb3⟩
    go_wp2_with fail
    go_ret
    exact ⟨rfl, HB2.out.trans (hb3.mono HB2.out.size)⟩
  have e1 : decide ((20 : Int) < (l.length : Int)) = false := decide_eq_false (by omega)
  have hl20' : l.length ≤ 20 := by omega
  have HOW := Lib.hid (own_new w HB2.out)
  clear hl20
  go_wp2_with fail
  refine HOW.out.mono ?_
  rintro e w3 ⟨g, rfl, hown⟩
  have HOWN := Lib.hid hown
  clear hown HOW
  go_wp2_with fail
  refine (rnew_any w3).mono ?_
  rintro e w4 ⟨rfl, hb4⟩
  obtain ⟨B, hB⟩ : ∃ B, w4.heap.size = B := ⟨_, rfl⟩
  have hst : Both w (w4.alloc (.cells #[.slice none 0 0, .int .i64 1] 59)) g B (.slice none 0 0) [] 1 := by
    have hbb : Below w3.heap.size w3 (w4.alloc (.cells #[.slice none 0 0, .int .i64 1] 59)) := hb4.alloc hb4.size _
    refine ⟨HOWN.out.beside.turn hbb (fun k q => ?_), m_alloc _ _ _ hB, Arg.nil _ _, fun k q => (by cases q), ?_⟩
    · rcases q with q | q
      · subst q; exact ⟨Or.inr (by rw [← hB]; exact hb4.size), by rw [← hB]; simp⟩
      · cases q
    · obtain ⟨_, _, _, q⟩ := HOWN.out
      rw [← hB]; exact Nat.le_trans q.size hb4.size
  obtain ⟨W4, hW4⟩ : ∃ W4, w4.alloc (.cells #[.slice none 0 0, .int .i64 1] 59) = W4 := ⟨_, rfl⟩
  rw [hW4] at hst
  have HST := Lib.hid hst
  clear hst HOWN hb4
  go_wp2_with fail
  clear hW4 hB
  clear e1
  go_loopw [7] (fun iv wr => ManyT w g B iv 0 250 wr) (fun iv _ => 250 - (intOf iv).toNat)
  case atStart => exact ⟨0, _, _, _, rfl, Nat.zero_le _, HST.out, TInv.new, by decide⟩
  case round =>
    obtain ⟨i, v, L, next, rfl, hi, hbo, hti, hnx⟩ := hrel
    obtain ⟨av, cv, rfl⟩ := hbo.arg.shape
    have hnx1 := hti.nx
    clear HST
    by_cases hlt : i < 250
    · have i1 : (i : Int) < 250 := by omega
      obtain ⟨nm, hnm, hcv⟩ := two_bytes wr (UInt8.ofNat (97 + i % 26)) (UInt8.ofNat (97 + i / 26)) (97 + (i : Int) % 26) (97 + (i : Int) / 26) (by rw [← byte_of _ (by omega)]; omega) (by rw [← byte_of _ (by omega)]; omega)
      have hb1 := hbo.below ((Below.refl _ wr).alloc (Nat.le_refl _) (.cells #[.int .u8 (97 + (i : Int) % 26), .int .u8 (97 + (i : Int) / 26)] 5))
      obtain ⟨W1, hW1⟩ : ∃ W1, wr.alloc (.cells #[.int .u8 (97 + (i : Int) % 26), .int .u8 (97 + (i : Int) / 26)] 5) = W1 := ⟨_, rfl⟩
      rw [hW1] at hcv hb1
      have HB1 := Lib.hid hb1.pair
      have HTI := Lib.hid hti
      have HLK := Lib.hid (ownr_link hb1.own hti (by omega) 0 nm ds 0 (by rw [hnm]; decide))
      have HREF := Lib.hid (fun (W : World) (ha : Arg EItm W (.slice av L.length cv) L) => rlink_any W next 0 nm ds 0 ha hti (by omega) (by rw [hnm]; decide))
      have HTR := Lib.hid (hti.link 0 nm ds 0)
      have hnx2 := (linkT_next L next 0 nm ds 0).2
      clear hbo hb1 hti hnm
      go_wp2_with fail
      clear hW1 hcv
      refine HLK.out.mono ?_
      rintro e w5 ⟨rfl, ho5, hs5⟩
      generalize linkT L next 0 nm ds 0 = R at *
      have HP5 := Lib.hid (HB1.out.turned ho5 hs5)
      clear ho5 hs5 HLK HB1
      obtain ⟨b0, b1, b2, b3⟩ := HP5.out.cells
      go_wp2_with fail
      refine (HREF.out w5 HP5.out.arg).mono ?_
      rintro e w6A ⟨v6A, rfl, ha6, hw6, hb6⟩
      obtain ⟨a6A, c6A, rfl⟩ := ha6.shape
      obtain ⟨ho7, hblk7, hx7, ha7, hne7⟩ := midz1 (n2 := R.next) HP5.out hb6 ha6 hw6
      have hp8 := midy_stored (n2 := R.next) ho7 hblk7 ha7 hne7 HP5.out.ge
      obtain ⟨w7A, hw7⟩ : ∃ w7, w6A.alloc (.cells #[.slice a6A R.L.length c6A, .int .i64 R.next] 59) = w7 := ⟨_, rfl⟩
      rw [hw7] at hblk7 hx7 hp8
      have x0 : w7A.cell? ⟨w6A.heap.size, 0, none⟩ = some (.slice a6A R.L.length c6A) := (m_cells hx7).1 0
      have x1 : w7A.cell? ⟨w6A.heap.size, 1, none⟩ = some (.int .i64 R.next) := (m_cells hx7).1 1
      have z0 := (m_cells hblk7).1 0
      have z1 := (m_cells hblk7).1 1
      have z2 : w7A.frozen? ⟨B, 0, none⟩ = false := (m_cells hblk7).2 0
      have z3 : w7A.frozen? ⟨B, 1, none⟩ = false := (m_cells hblk7).2 1
      obtain ⟨w8A, hw8⟩ : ∃ w8, (w7A.setCell ⟨B, 0, none⟩ (.slice a6A R.L.length c6A)).setCell ⟨B, 1, none⟩ (.int .i64 R.next) = w8 := ⟨_, rfl⟩
      rw [hw8] at hp8
      have HP8A := Lib.hid hp8
      clear ho7 hblk7 hx7 ha7 hne7 hp8 HP5 HREF b0 b1 b2 b3 ha6 hw6 hb6
      go_wp2_with fail
      exact ⟨⟨i + 1, _, _, _, rfl, hlt, HP8A.out.both, HTR.out, by push_cast; omega⟩, by simp [intOf]; omega⟩
    · have i2 : ¬ ((i : Int) < 250) := by omega
      have hst : ManyT w g B (.int .i64 (0 : Nat)) 250 l.length wr := ⟨0, _, _, _, rfl, Nat.zero_le _, hbo, hti, by push_cast at *; omega⟩
      have HST := Lib.hid hst
      clear hbo hti hst hnx hnx1 hi hlt
      go_wp2_with fail
      go_loopw [14] (fun iv wr => ManyT w g B iv 250 l.length wr) (fun iv _ => l.length - (intOf iv).toNat)
      case atStart => exact HST.out
      case round =>
        obtain ⟨i, v, L, next, rfl, hi, hbo, hti, hnx⟩ := hrel
        obtain ⟨av, cv, rfl⟩ := hbo.arg.shape
        have hnx1 := hti.nx
        clear HST
        by_cases hlt : i < l.length
        · have i1 : (i : Int) < l.length := by omega
          obtain ⟨x, hx⟩ : ∃ x, l[i]? = some x := ⟨_, List.getElem?_eq_getElem hlt⟩
          obtain ⟨gb, off, rfl, d1⟩ := byt_cell H.out i x hx
          have hxb := x.toNat_lt
          have d1 := cell_later hbo.own.bel d1
          have HBO := Lib.hid hbo
          have HTI := Lib.hid hti
          obtain ⟨N, hN⟩ : ∃ N : Int, (x.toNat : Int) = N := ⟨_, rfl⟩
          have hN0 : 0 ≤ N := by omega
          have hN1 : N ≤ 255 := by omega
          rw [hN] at d1
          have HD1 := Lib.hid (show ∀ w', Below wr.heap.size wr w' → w'.cell? ⟨gb, off + i, none⟩ = some (.int .u8 N) from fun w' k => cell_later k d1)
          clear hbo hti hx hxb
          go_wp2_with fail
          go_cut [15] from 1000 (fun s15 wx => ∃ nm : ByteArray, s15 = .string nm ∧ nm.size = 2 ∧ Below wr.heap.size wr wx)
          case first =>
            obtain ⟨nm, hnm, hcv⟩ := two_bytes2 wr (97 + N.tmod 26) (97 + IntKind.u8.wrap (N.tdiv 26))
            go_region_with (fail)
            all_goals
              go_wp2
              go_meet
              case rel =>
                exact ⟨nm, rfl, hnm, ((Below.refl _ wr).alloc (Nat.le_refl _) _).drew⟩
          case rest =>
          rename World => W1
          obtain ⟨nm, rfl, hnm, hb1⟩ := hcut
          have HB1 := Lib.hid (HBO.out.below hb1).pair
          have HREF := Lib.hid (fun (W : World) (ha : Arg EItm W (.slice av L.length cv) L) => runlink_any W next 0 nm ds ha HTI.out)
          have HTU := Lib.hid (HTI.out.unlink 0 nm ds)
          clear HBO hb1 d1 HD1
          obtain ⟨b0, b1, b2, b3⟩ := HB1.out.cells
          go_wp2_with fail
          refine (HREF.out W1 HB1.out.arg).mono ?_
          rintro e w6A ⟨v6A, rfl, ha6, hw6, hb6⟩
          obtain ⟨a6A, c6A, rfl⟩ := ha6.shape
          obtain ⟨ho7, hblk7, hx7, ha7, hne7⟩ := midz1 (n2 := next) HB1.out hb6 ha6 hw6
          have hp8 := midy_stored (n2 := next) ho7 hblk7 ha7 hne7 HB1.out.ge
          obtain ⟨w7A, hw7⟩ : ∃ w7, w6A.alloc (.cells #[.slice a6A (unlinkT L 0 nm ds).1.length c6A, .int .i64 next] 59) = w7 := ⟨_, rfl⟩
          rw [hw7] at hblk7 hx7 hp8
          have x0 : w7A.cell? ⟨w6A.heap.size, 0, none⟩ = some (.slice a6A (unlinkT L 0 nm ds).1.length c6A) := (m_cells hx7).1 0
          have x1 : w7A.cell? ⟨w6A.heap.size, 1, none⟩ = some (.int .i64 next) := (m_cells hx7).1 1
          have z0 := (m_cells hblk7).1 0
          have z1 := (m_cells hblk7).1 1
          have z2 : w7A.frozen? ⟨B, 0, none⟩ = false := (m_cells hblk7).2 0
          have z3 : w7A.frozen? ⟨B, 1, none⟩ = false := (m_cells hblk7).2 1
          obtain ⟨w8A, hw8⟩ : ∃ w8, (w7A.setCell ⟨B, 0, none⟩ (.slice a6A (unlinkT L 0 nm ds).1.length c6A)).setCell ⟨B, 1, none⟩ (.int .i64 next) = w8 := ⟨_, rfl⟩
          rw [hw8] at hp8
          have HP8A := Lib.hid hp8
          clear ho7 hblk7 hx7 ha7 hne7 hp8 HB1 HREF b0 b1 b2 b3 ha6 hw6 hb6
          go_wp2_with fail
          refine (ownr_unlink HP8A.out.own HTI.out (by omega) 0 nm ds).mono ?_
          rintro e w9 ⟨rfl, ho9, hs9⟩
          have HP9 := Lib.hid (HP8A.out.turned ho9 hs9)
          clear ho9 hs9 HP8A
          generalize unlinkT L 0 nm ds = U at *
          clear x0 x1 z0 z1 z2 z3 hw7 hw8
          have hsz : (nm ++ ⟨#[120]⟩ : ByteArray).size ≤ maxLen := by rw [ByteArray.size_append, hnm]; decide
          have HLK := Lib.hid (ownr_link HP9.out.own HTU.out (by omega) 0 (nm ++ ⟨#[120]⟩) ds 0 hsz)
          have HREF := Lib.hid (fun (W : World) (ha : Arg EItm W (.slice a6A U.1.length c6A) U.1) => rlink_any W next 0 (nm ++ ⟨#[120]⟩) ds 0 ha HTU.out (by omega) hsz)
          have HTR := Lib.hid (HTU.out.link 0 (nm ++ ⟨#[120]⟩) ds 0)
          have hnx2 := (linkT_next U.1 next 0 (nm ++ ⟨#[120]⟩) ds 0).2
          clear hsz
          go_wp2_with fail
          refine HLK.out.mono ?_
          rintro e w10 ⟨rfl, ho10, hs10⟩
          generalize linkT U.1 next 0 (nm ++ ⟨#[120]⟩) ds 0 = R at *
          have HP10 := Lib.hid (HP9.out.turned ho10 hs10)
          clear ho10 hs10 HLK HP9
          obtain ⟨b0, b1, b2, b3⟩ := HP10.out.cells
          go_wp2_with fail
          refine (HREF.out w10 HP10.out.arg).mono ?_
          rintro e w6C ⟨v6C, rfl, ha6, hw6, hb6⟩
          obtain ⟨a6C, c6C, rfl⟩ := ha6.shape
          obtain ⟨ho7, hblk7, hx7, ha7, hne7⟩ := midz1 (n2 := R.next) HP10.out hb6 ha6 hw6
          have hp8 := midy_stored (n2 := R.next) ho7 hblk7 ha7 hne7 HP10.out.ge
          obtain ⟨w7C, hw7⟩ : ∃ w7, w6C.alloc (.cells #[.slice a6C R.L.length c6C, .int .i64 R.next] 59) = w7 := ⟨_, rfl⟩
          rw [hw7] at hblk7 hx7 hp8
          have x0 : w7C.cell? ⟨w6C.heap.size, 0, none⟩ = some (.slice a6C R.L.length c6C) := (m_cells hx7).1 0
          have x1 : w7C.cell? ⟨w6C.heap.size, 1, none⟩ = some (.int .i64 R.next) := (m_cells hx7).1 1
          have z0 := (m_cells hblk7).1 0
          have z1 := (m_cells hblk7).1 1
          have z2 : w7C.frozen? ⟨B, 0, none⟩ = false := (m_cells hblk7).2 0
          have z3 : w7C.frozen? ⟨B, 1, none⟩ = false := (m_cells hblk7).2 1
          obtain ⟨w8C, hw8⟩ : ∃ w8, (w7C.setCell ⟨B, 0, none⟩ (.slice a6C R.L.length c6C)).setCell ⟨B, 1, none⟩ (.int .i64 R.next) = w8 := ⟨_, rfl⟩
          rw [hw8] at hp8
          have HP8C := Lib.hid hp8
          clear ho7 hblk7 hx7 ha7 hne7 hp8 HP10 HREF b0 b1 b2 b3 ha6 hw6 hb6
          go_wp2_with fail
          exact ⟨⟨i + 1, _, _, _, rfl, hlt, HP8C.out.both, HTR.out, by push_cast at *; omega⟩, by simp [intOf]; omega⟩
        · have ei : i = l.length := by omega
          subst ei
          have i2 : ¬ ((l.length : Int) < l.length) := by omega
          obtain ⟨b0, b1, b2, b3⟩ := hbo.cells
          obtain ⟨F, m1, m2, m3, m4⟩ := hbo.own
          have HAL := Lib.hid (alike_any m1 hbo.arg hti)
          have HBL := Lib.hid m3
          clear hbo m1 m2 m3 m4
          go_wp2_with fail
          refine HAL.out.mono ?_
          rintro e w9 ⟨rfl, hb9⟩
          go_wp2_with fail
          go_ret
          exact ⟨rfl, HBL.out.trans (hb9.mono HBL.out.size)⟩
end Go.Proofs.Ytolilbcpfdnkjaa
