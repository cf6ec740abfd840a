/- CursorScans: the walk. -/
import Derived.Test.YtolilbcpfdnkjaaTGX5
import Derived.Test.YtolilbcpfdnkjaaTGByK
import Derived.Test.YtolilbcpfdnkjaaTGRkA
import Derived.Deep.RegionHeld3
import Derived.Deep.Cut
import Derived.Deep.RegionLaw
import Derived.Outline
namespace Go.Proofs.Ytolilbcpfdnkjaa
open Go.RowKit
set_option linter.unusedSimpArgs false
set_option linter.unusedVariables false
def DoRelS (w0 w : World) (g : Nat) (i : Nat) : Prop := ∃ L next, OwnT w0 w g L next ∧ TInv L next ∧ next ≤ i + 1
theorem byte_cell {w : World} {a : Option Addr} {n c : Nat} {l : List UInt8} (h : Arg EByt w (.slice a n c) l) (i : Nat) (x : UInt8) (hx : l[i]? = some x) : ∃ g off, a = some ⟨g, off, none⟩ ∧ w.cell? ⟨g, off + i, none⟩ = some (.int .u8 x.toNat) := by
  obtain ⟨g, off, cap, e, hc⟩ := h.cells (by intro q; rw [q] at hx; simp at hx)
  simp only [Value.slice.injEq] at e
  have := hc i x hx 0 (by decide)
  rw [show off + (i * EByt.size + 0) = off + i from by show off + (i * 1 + 0) = _; omega] at this
  exact ⟨g, off, e.1, this⟩
theorem cnt_one {l : List Ent} {x : Ent} (h : l.Nodup) (hx : x ∈ l) : cntE l x = 1 := by
  unfold cntE
  induction l with
  | nil => cases hx
  | cons y l ih =>
    obtain ⟨h1, h2⟩ := List.nodup_cons.1 h
    rw [List.countP_cons]
    rcases List.mem_cons.1 hx with q | q
    · subst q
      have : l.countP (fun y => decide (y = x)) = 0 := by
        rw [List.countP_eq_zero]
        intro z hz
        simp
        intro e; subst e; exact h1 hz
      simp [this]
    · have : y ≠ x := fun e => h1 (e ▸ q)
      simp [this, ih h2 q]
/-- All rows stand. -/
structure ScRows (w0 wr : World) (g : Nat) (first all rd : List Ent) (fv av rv : Value) (L : List Itm) (next : Int) : Prop where
  f : Row EEnt wr w0.heap.size fv first
  a : Row EEnt wr w0.heap.size av all
  r : Row EEnt wr w0.heap.size rv rd
  o : OwnTR w0 wr (fun k => ownBk fv k ∨ ownBk av k ∨ ownBk rv k) g L next
theorem ScRows.below {w0 wr w' : World} {g : Nat} {first all rd : List Ent} {fv av rv : Value} {L : List Itm} {next : Int} (h : ScRows w0 wr g first all rd fv av rv L next) (hb : Below wr.heap.size wr w') : ScRows w0 w' g first all rd fv av rv L next :=
  ⟨h.f.below hb, h.a.below hb, h.r.below hb, h.o.below hb⟩
theorem ScRows.all {w0 wr w' : World} {g : Nat} {first all rd all' : List Ent} {fv av rv av' : Value} {L : List Itm} {next : Int} (h : ScRows w0 wr g first all rd fv av rv L next) (hb : Below wr.heap.size wr w') (hr : Row EEnt w' wr.heap.size av' all') : ScRows w0 w' g first all' rd fv av' rv L next :=
  ⟨h.f.below hb, hr.mono h.o.bel.size, h.r.below hb, h.o.turn hb (fun k q => by
    rcases q with q | q | q
    · exact ⟨Or.inl (Or.inl q), Nat.lt_of_lt_of_le (h.f.lt q) hb.size⟩
    · exact ⟨Or.inr (hr.ge q), hr.lt q⟩
    · exact ⟨Or.inl (Or.inr (Or.inr q)), Nat.lt_of_lt_of_le (h.r.lt q) hb.size⟩)⟩
theorem ScRows.rd {w0 wr w' : World} {g : Nat} {first all rd rd' : List Ent} {fv av rv rv' : Value} {L : List Itm} {next : Int} (h : ScRows w0 wr g first all rd fv av rv L next) (hb : Below wr.heap.size wr w') (hr : Row EEnt w' wr.heap.size rv' rd') : ScRows w0 w' g first all rd' fv av rv' L next :=
  ⟨h.f.below hb, h.a.below hb, hr.mono h.o.bel.size, h.o.turn hb (fun k q => by
    rcases q with q | q | q
    · exact ⟨Or.inl (Or.inl q), Nat.lt_of_lt_of_le (h.f.lt q) hb.size⟩
    · exact ⟨Or.inl (Or.inr (Or.inl q)), Nat.lt_of_lt_of_le (h.a.lt q) hb.size⟩
    · exact ⟨Or.inr (hr.ge q), hr.lt q⟩)⟩
theorem ScRows.turned {w0 wr w' : World} {g : Nat} {first all rd : List Ent} {fv av rv : Value} {L L' : List Itm} {next next' : Int} (h : ScRows w0 wr g first all rd fv av rv L next) (ho : OwnTR w0 w' (fun k => ownBk fv k ∨ ownBk av k ∨ ownBk rv k) g L' next') (hs : Stays (fun k => ownBk fv k ∨ ownBk av k ∨ ownBk rv k) wr w') : ScRows w0 w' g first all rd fv av rv L' next' :=
  ⟨h.f.stays hs (fun k q => Or.inl q), h.a.stays hs (fun k q => Or.inr (Or.inl q)), h.r.stays hs (fun k q => Or.inr (Or.inr q)), ho⟩
/-- At a round's head. -/
def ScKRel (w0 : World) (g : Nat) (first rd : List Ent) (at_ : Int) (i nb : Nat) (fv rv av kv : Value) (wr : World) : Prop :=
  ∃ (k : Nat) (L : List Itm) (next : Int) (all : List Ent), kv = .int .i64 k ∧ 3 * i ≤ k ∧ k ≤ 3 * i + 3 ∧ ScRows w0 wr g first all rd fv av rv L next ∧ SInv first all rd at_ L next ∧ all.length ≤ 30 + min k nb ∧ next ≤ 31 + (min k nb : Nat)
def ScJRel (w0 : World) (g : Nat) (first all rd N : List Ent) (fv rv nv av jv : Value) (L : List Itm) (next : Int) (B : Nat) (wr : World) : Prop :=
  ∃ (j : Nat), jv = .int .i64 j ∧ j ≤ N.length ∧ ScRows w0 wr g first (extE all (N.take j)) rd fv av rv L next ∧ Row EEnt wr B nv N
def ScRel (w0 : World) (g : Nat) (first : List Ent) (nb : Nat) (fv av rv cv dv kv iv : Value) (wr : World) : Prop :=
  ∃ (i : Nat) (L : List Itm) (next : Int) (all rd : List Ent) (at_ : Int) (d : Bool), ScRows w0 wr g first all rd fv av rv L next ∧ cv = .int .i64 at_ ∧ dv = .bool d ∧ kv = .int .i64 i ∧ iv = .int .i64 i ∧ i ≤ 200 ∧
    SInv first all rd at_ L next ∧ all.length ≤ 30 + min (3 * i) nb ∧ next ≤ 31 + (min (3 * i) nb : Nat) ∧ (d = false → i ≤ rd.length) ∧ (d = true → i ≤ rd.length + 1 ∧ ∀ x ∈ entries L 0, x.cookie ≤ at_)
set_option maxRecDepth 100000 in
set_option maxHeartbeats 4000000 in
theorem cursorscans_walk (w : World) (v vb vs : Value) (l lb : List Op1) (ls : List UInt8) (h : Arg EOp w v l) (hb : Arg EOp w vb lb) (hs : Arg EByt w vs ls) (ml : l.length ≤ maxLen) (mlb : lb.length ≤ maxLen) (mls : ls.length ≤ maxLen) (hok : ∀ o ∈ l, (o.name.size ≤ maxLen ∧ o.as_.size ≤ maxLen) ∧ o.kind < 256) (hokb : ∀ o ∈ lb, (o.name.size ≤ maxLen ∧ o.as_.size ≤ maxLen) ∧ o.kind < 256) :
    Calls Try.prog 5 #[v, vb, vs] w fun e w' => e = .returned (.bool true) ∧ Below w.heap.size w w' := by
  obtain ⟨va, vc, rfl⟩ := h.shape
  obtain ⟨vba, vbc, rfl⟩ := hb.shape
  obtain ⟨vsa, vsc, rfl⟩ := hs.shape
  have H := Lib.hid h
  have HOK := Lib.hid hok
  have HBT := Lib.hid hb
  have HOKB := Lib.hid hokb
  have HSZ := Lib.hid hs
  have MLS := Lib.hid mls
  clear h hok hb hokb hs
  go_enter Try.func5, Try.ntmps5
  go_wp2_with fail
  refine (awake16_any w).mono ?_
  rintro e w1 ⟨rfl, hb1⟩
  have HB1 := Lib.hid hb1
  clear hb1
  go_wp2_with fail
  refine (few10_any w1 _ l 30 (H.out.below HB1.out) ml (fun o ho => (HOK.out o ho).1)).mono ?_
  rintro e w2 ⟨b, rfl, ⟨fw, rfl, hfew⟩, hb2⟩
  have HB2 := Lib.hid (HB1.out.trans (hb2.mono HB1.out.size))
  have HFEW := Lib.hid hfew
  clear hb2 HB1 hfew
  cases fw
  · go_wp2_with fail
    refine (awake16_any _).mono ?_
    rintro e w3 ⟨rfl, hb3⟩
    go_wp2_with fail
    go_ret
    exact ⟨rfl, HB2.out.trans (hb3.mono HB2.out.size)⟩
  obtain ⟨hl30, hsm⟩ := HFEW.out rfl
  have hl30' : l.length ≤ 30 := by omega
  clear hl30 hsm HFEW
  go_wp2_with fail
  refine (few10_any w2 _ lb 60 (HBT.out.below HB2.out) mlb (fun o ho => (HOKB.out o ho).1)).mono ?_
  rintro e w21 ⟨b, rfl, ⟨fw, rfl, hfew⟩, hb2⟩
  have HB21 := Lib.hid (HB2.out.trans (hb2.mono HB2.out.size))
  have HFEW := Lib.hid hfew
  clear hb2 HB2 hfew
  cases fw
  · go_wp2_with fail
    refine (awake16_any _).mono ?_
    rintro e w3 ⟨rfl, hb3⟩
    go_wp2_with fail
    go_ret
    exact ⟨rfl, HB21.out.trans (hb3.mono HB21.out.size)⟩
  obtain ⟨hl60, hsm⟩ := HFEW.out rfl
  have hl60' : lb.length ≤ 60 := by omega
  have HOW := Lib.hid (own_new w HB21.out)
  clear hl60 hsm HFEW
  go_wp2_with fail
  refine HOW.out.mono ?_
  rintro e w3 ⟨g, rfl, hown⟩
  have HOWN := Lib.hid hown
  clear hown HOW
  go_wp2_with fail
  go_loopw [8] (fun iv wr => ∃ i : Nat, iv = .int .i64 i ∧ i ≤ l.length ∧ DoRelS w wr g i) (fun iv _ => l.length - (intOf iv).toNat)
  case atStart => exact ⟨0, rfl, Nat.zero_le _, [], 1, HOWN.out, TInv.new, by decide⟩
  case round =>
    obtain ⟨i, rfl, hi, L, next, ho, hti, hnx⟩ := hrel
    have HO := Lib.hid ho
    have HTI := Lib.hid hti
    have HNX := Lib.hid hnx
    clear ho hti hnx
    by_cases hlt : i < l.length
    · have i1 : (i : Int) < l.length := by omega
      obtain ⟨o, ho⟩ : ∃ o, l[i]? = some o := ⟨_, List.getElem?_eq_getElem hlt⟩
      have HBW := Lib.hid (show Below w.heap.size w wr from by obtain ⟨F, _, _, q⟩ := HO.out; exact q)
      obtain ⟨gb, off, rfl, -, k0, k1, k2, k3, k4, k5, k6⟩ := op1_cells H.out i o ho
      have k0 := cell_later HBW.out k0
      have k1 := cell_later HBW.out k1
      have k2 := cell_later HBW.out k2
      have k3 := cell_later HBW.out k3
      have k4 := cell_later HBW.out k4
      have k5 := cell_later HBW.out k5
      have k6 := cell_later HBW.out k6
      have HOO := Lib.hid (HOK.out o (List.mem_of_getElem? ho))
      have HDO := Lib.hid (own_do HO.out HTI.out (by have := HNX.out; omega) o HOO.out.2 HOO.out.1.1 HOO.out.1.2)
      clear ho
      go_wp2_with fail
      refine HDO.out.mono ?_
      rintro e w4 ⟨rfl, ho4⟩
      have HO4 := Lib.hid ho4
      clear ho4
      go_wp2_with fail
      refine ⟨⟨i + 1, by go_num, hlt, _, _, HO4.out, HTI.out.do_ o, ?_⟩, by simp [intOf]; omega⟩
      have h1 := (doT_next L next o).2
      have h2 := HNX.out
      push_cast; omega
    have ei : i = l.length := by omega
    subst ei
    have i2 : ¬ ((l.length : Int) < l.length) := by omega
    have HL := Lib.hid (ownr_list HO.out.beside HTI.out 0)
    have HE0 := Lib.hid (fun (L : List Itm) => show listErr L 0 = 0 from by unfold listErr isDirB; simp)
    have HFL := Lib.hid (show (entries L 0).length ≤ 30 from by have := first_len HTI.out; have := HNX.out; omega)
    have HNX2 := Lib.hid (show next ≤ 31 from by have := HNX.out; omega)
    have HBW := Lib.hid (show Below w.heap.size w wr from by obtain ⟨F, _, _, q⟩ := HO.out; exact q)
    have hO := HO.out.beside
    go_wp2_with fail
    refine HL.out.mono ?_
    rw [HE0.out]
    rintro e w4 ⟨lv, l4, rfl, hr4, hle, ho4, hb4⟩
    have hle := hle rfl
    subst hle
    have HR4 := Lib.hid (hr4.mono (B' := w.heap.size) HBW.out.size)
    have HO4 := Lib.hid (hO.turn hb4 (R' := ownBk lv) (fun k q => ⟨Or.inr (hr4.ge q), hr4.lt q⟩))
    obtain ⟨a4, c4, rfl⟩ := hr4.shape
    have hfl := HFL.out
    generalize hE : entries L 0 = E at *
    have HEE := Lib.hid hE
    clear hr4 hb4 HL HNX HO hE hi i2 hlt ho4 HFL hO
    go_wp2_with (first
      | (refine app_new EEnt.laid rfl _ _ 33 33 Try.underlying33 Try.underlying33 rfl rfl _ E rfl HR4.out.arg ?e2 ?e3 ?_
         case e2 => (show E.length * 48 ≤ _; omega)
         case e3 => (unfold maxLen; omega)
         intro v5 w5 hr5 hb5
         have HS5 := Lib.hid (show ScRows w w5 g E E [] (.slice a4 E.length c4) v5 (.slice none 0 0) L next from
           ⟨HR4.out.below hb5, hr5.mono HO4.out.bel.size, Row.nil _ _ _, HO4.out.turn hb5 (fun k q => by
             rcases q with q | q | q
             · exact ⟨Or.inl q, Nat.lt_of_lt_of_le (HR4.out.lt q) hb5.size⟩
             · exact ⟨Or.inr (hr5.ge q), hr5.lt q⟩
             · cases q)⟩)
         obtain ⟨a5, c5, rfl⟩ := hr5.shape
         clear hr5 hb5))
    clear HO4 HR4
    go_loopw [11, 12, 13, 14, 15, 16] (fun av rv cv dv kv iv wr => ScRel w g E lb.length (.slice a4 E.length c4) av rv cv dv kv iv wr) (fun _ _ _ _ _ iv _ => 200 - (intOf iv).toNat)
    case atStart =>
      have hst := SInv.start HTI.out
      rw [HEE.out] at hst
      exact ⟨0, L, next, E, [], 0, false, HS5.out, rfl, rfl, rfl, rfl, by omega, hst, by omega, by have := HNX2.out; omega, fun _ => Nat.le_refl _, fun q => by cases q⟩
    case round =>
      obtain ⟨i, L, next, all, rd, at_, d, hsr, rfl, rfl, rfl, rfl, hi, hsi, hal, hnx, hd0, hd1⟩ := hrel
      have hlen := hsi.lens
      have HS := Lib.hid hsr
      have HI := Lib.hid hsi
      have hbw := hsr.o.bel
      have HBW2 := Lib.hid hbw
      obtain ⟨av, cav, rfl⟩ := hsr.a.shape
      obtain ⟨rv, crv, rfl⟩ := hsr.r.shape
      cases d
      rotate_left
      · obtain ⟨hd2, hdl⟩ := hd1 rfl
        have i0 : (i : Int) < 200 := by omega
        have i00 : i < 200 := by omega
        have HL := Lib.hid (ownr_list hsr.o hsi.ti 0)
        have HDL := Lib.hid hdl
        clear hsr hsi hdl hd0 hd1 hbw
        go_wp2_with fail
        refine HL.out.mono ?_
        rw [HE0.out]
        rintro e w6 ⟨lv, l4, rfl, hr4, hle, -, hb6⟩
        have hle := hle rfl
        subst hle
        have HRL := Lib.hid hr4
        have HRF := Lib.hid (HS.out.f.below hb6)
        have HRA := Lib.hid (HS.out.a.below hb6)
        have HRR := Lib.hid (HS.out.r.below hb6)
        have HB6 := Lib.hid (HBW2.out.trans (hb6.mono HBW2.out.size))
        obtain ⟨al, cl, rfl⟩ := hr4.shape
        have hll := entries_len HI.out.ti 0
        have HLR := Lib.hid (fun x (q : x ∈ entries L 0) => HI.out.lr x q (HDL.out x q))
        generalize hEL : entries L 0 = EL at *
        clear hr4 hb6 HL hEL
        go_wp2_with fail
        go_loopw [29] (fun iv wr => ∃ i : Nat, iv = .int .i64 i ∧ i ≤ E.length ∧ Below w6.heap.size w6 wr) (fun iv _ => E.length - (intOf iv).toNat)
        case atStart => exact ⟨0, rfl, Nat.zero_le _, Below.refl _ _⟩
        case round =>
          obtain ⟨k, rfl, hk, hbk⟩ := hrel
          have HBK := Lib.hid hbk
          clear hbk
          by_cases hlt : k < E.length
          · have i1 : (k : Int) < E.length := by omega
            obtain ⟨x, hx⟩ : ∃ x, E[k]? = some x := ⟨_, List.getElem?_eq_getElem hlt⟩
            obtain ⟨gf, off, rfl, -, c0, c1, c2, c3, c4⟩ := ent_cells HRF.out.arg k x hx
            have c0 := cell_later HBK.out c0
            have c1 := cell_later HBK.out c1
            have c2 := cell_later HBK.out c2
            have c3 := cell_later HBK.out c3
            have c4 := cell_later HBK.out c4
            have hb3 := HBK.out
            have HLRX := Lib.hid (HLR.out x)
            have HCN := Lib.hid (fun (q : x ∈ rd) => cnt_one HI.out.rn q)
            have HH := Lib.hid (has_any wr EL x (HRL.out.arg.below HBK.out) (by omega))
            clear hx hb3
            by_cases hm : x ∈ EL
            · rw [decide_eq_true hm] at HH
              have h1 := HCN.out (HLRX.out hm)
              go_wp2_with fail
              refine HH.out.mono ?_
              rintro e w7 ⟨rfl, hb7⟩
              have c0 := cell_later hb7 c0
              have c1 := cell_later hb7 c1
              have c2 := cell_later hb7 c2
              have c3 := cell_later hb7 c3
              have c4 := cell_later hb7 c4
              have HB7 := Lib.hid (HBK.out.trans (hb7.mono HBK.out.size))
              clear hb7 HH
              go_wp2_with fail
              refine (count_any _ rd x (HRR.out.arg.below HB7.out) (by omega)).mono ?_
              rw [h1]
              rintro e w8 ⟨rfl, hb8⟩
              have HB8 := Lib.hid (HB7.out.trans (hb8.mono HB7.out.size))
              clear hb8
              go_wp2_with fail
              exact ⟨⟨k + 1, by go_num, hlt, HB8.out⟩, by simp [intOf]; omega⟩
            · rw [decide_eq_false hm] at HH
              go_wp2_with fail
              refine HH.out.mono ?_
              rintro e w7 ⟨rfl, hb7⟩
              have HB7 := Lib.hid (HBK.out.trans (hb7.mono HBK.out.size))
              clear hb7 HH
              go_wp2_with fail
              exact ⟨⟨k + 1, by go_num, hlt, HB7.out⟩, by simp [intOf]; omega⟩
          · have ek : k = E.length := by omega
            subst ek
            have i2 : ¬ (E.length : Int) < E.length := by omega
            go_wp2_with fail
            go_loopw [30] (fun iv wr => ∃ i : Nat, iv = .int .i64 i ∧ i ≤ rd.length ∧ Below w6.heap.size w6 wr) (fun iv _ => rd.length - (intOf iv).toNat)
            case atStart => exact ⟨0, rfl, Nat.zero_le _, HBK.out⟩
            case round =>
              obtain ⟨k, rfl, hk, hbk⟩ := hrel
              have HBK := Lib.hid hbk
              clear hbk
              by_cases hlt : k < rd.length
              · have i1 : (k : Int) < rd.length := by omega
                obtain ⟨x, hx⟩ : ∃ x, rd[k]? = some x := ⟨_, List.getElem?_eq_getElem hlt⟩
                obtain ⟨gf, off, rfl, -, c0, c1, c2, c3, c4⟩ := ent_cells HRR.out.arg k x hx
                have c0 := cell_later HBK.out c0
                have c1 := cell_later HBK.out c1
                have c2 := cell_later HBK.out c2
                have c3 := cell_later HBK.out c3
                have c4 := cell_later HBK.out c4
                have hxr := List.mem_of_getElem? hx
                have HH := Lib.hid (has_any wr all x (HRA.out.arg.below HBK.out) (by omega))
                rw [decide_eq_true (HI.out.ra x hxr)] at HH
                have h1 := cnt_one HI.out.rn hxr
                clear hx hxr
                go_wp2_with fail
                refine HH.out.mono ?_
                rintro e w7 ⟨rfl, hb7⟩
                have c0 := cell_later hb7 c0
                have c1 := cell_later hb7 c1
                have c2 := cell_later hb7 c2
                have c3 := cell_later hb7 c3
                have c4 := cell_later hb7 c4
                have HB7 := Lib.hid (HBK.out.trans (hb7.mono HBK.out.size))
                clear hb7 HH
                go_wp2_with fail
                refine (count_any _ rd x (HRR.out.arg.below HB7.out) (by omega)).mono ?_
                rw [h1]
                rintro e w8 ⟨rfl, hb8⟩
                have HB8 := Lib.hid (HB7.out.trans (hb8.mono HB7.out.size))
                clear hb8
                go_wp2_with fail
                exact ⟨⟨k + 1, by go_num, hlt, HB8.out⟩, by simp [intOf]; omega⟩
              · have ek : k = rd.length := by omega
                subst ek
                have i2 : ¬ (rd.length : Int) < rd.length := by omega
                have i3 : (i : Int) ≤ (all.length : Int) + 1 := by omega
                go_wp2_with fail
                go_ret
                exact ⟨by simp, HB6.out.trans (HBK.out.mono HB6.out.size)⟩
      · have hd2 := hd0 rfl
        have i0 : (i : Int) < 200 := by omega
        have i00 : i < 200 := by omega
        obtain ⟨bq, hbq⟩ : ∃ bq, decide (i < ls.length) = bq := ⟨_, rfl⟩
        have hbq2 : decide ((i : Int) < ls.length) = bq := by rw [← hbq, decide_eq_decide]; omega
        have HBQ := Lib.hid hbq
        clear hsr hsi hd0 hd1 hbw
        go_upto_if 76 with fail
        clear hbq hbq2
        go_cut [17] from 1000 (fun nv wx => ∃ n : Nat, nv = .int .i64 n ∧ 1 ≤ n ∧ n ≤ 64 ∧ wx = wr)
        case first =>
          cases bq
          · go_wp2_with fail
            go_meet
            case rel => exact ⟨1, rfl, Nat.le_refl _, by decide, rfl⟩
          · have hil : i < ls.length := of_decide_eq_true HBQ.out
            obtain ⟨x, hx⟩ : ∃ x, ls[i]? = some x := ⟨_, List.getElem?_eq_getElem hil⟩
            obtain ⟨gs, off, rfl, cx⟩ := byte_cell HSZ.out i x hx
            have cx := cell_later HBW2.out cx
            have i1 : (i : Int) < ls.length := by omega
            clear hx
            have hx256 := x.toNat_lt
            go_wp2_with fail
            go_meet
            case rel => exact ⟨x.toNat % 64 + 1, by rw [show ((x.toNat % 64 + 1 : Nat) : Int) = 1 + (x.toNat : Int) % 64 from by omega], by omega, by omega, rfl⟩
        case rest =>
          rename World => w6
          rename Value => s17
          obtain ⟨n, rfl, n1, n64, rfl⟩ := hcut
          have HL := Lib.hid (ownr_list HS.out.o HI.out.ti 0)
          obtain ⟨X, hX, hSI, hXe, hXl⟩ := HI.out.read n n1 n64
          have HX := Lib.hid hX
          have HSI := Lib.hid hSI
          have HXE := Lib.hid hXe
          have hes := entries_sorted HI.out.ti 0
          have hel := entries_len HI.out.ti 0
          have HES := Lib.hid hes
          have HREAD := fun (W : World) (v : Value) (q : Row EEnt W w6.heap.size v (entries L 0)) => cread_any W w6.heap.size at_ n q (by omega) hes
          rw [hX] at HREAD
          have HRD := Lib.hid HREAD
          have hrl := hSI.lens
          rw [List.length_append] at hrl
          clear hX hSI hXe hes HREAD HBQ
          go_wp2_with fail
          refine HL.out.mono ?_
          rw [HE0.out]
          rintro e w7 ⟨lv, l4, rfl, hr4, hle, -, hb7⟩
          have hle := hle rfl
          subst hle
          have HRL := Lib.hid hr4
          have HS7 := Lib.hid (HS.out.below hb7)
          obtain ⟨al, cl, rfl⟩ := hr4.shape
          clear hr4 hb7 HL HS
          go_wp2_with fail
          refine (HRD.out _ _ HRL.out).mono ?_
          rintro e w8 ⟨xv, rfl, hrx, hb8⟩
          have HRX := Lib.hid hrx
          have HS8 := Lib.hid (HS7.out.below hb8)
          obtain ⟨ax, cx, rfl⟩ := hrx.shape
          clear hrx hb8 HRL HS7 HRD
          have hrdl : rd.length ≤ 90 := by omega
          obtain ⟨dq, hdq⟩ : ∃ dq, decide (X.length = 0) = dq := ⟨_, rfl⟩
          have hdq1 : ((X.length : Int) == 0) = dq := by rw [← hdq, Bool.eq_iff_iff]; simp
          have hdq2 : (X.length == 0) = dq := by rw [← hdq, Bool.eq_iff_iff]; simp
          have HDQ := Lib.hid hdq
          go_wp2_with (first
            | (have _hh := MARK2
               refine app_on EEnt.laid rfl _ _ 33 33 Try.underlying33 Try.underlying33 rfl _ rd rfl HR9.out HB9.out (Nat.le_refl _) _ X rfl ?e1 ?e2 ?e3 ?_
               case e1 => exact HRX.out.arg.below HB9.out
               case e2 => (show (rd.length + X.length) * 48 ≤ _; omega)
               case e3 => (unfold maxLen; omega)
               intro v10 w10 hr10 hb10
               have HS10 := Lib.hid (HS8.out.rd hb10 hr10)
               obtain ⟨a10, c10, rfl⟩ := hr10.shape
               clear hr10 hb10 MARK2 _hh)
            | (refine app_new EEnt.laid rfl _ _ 33 33 Try.underlying33 Try.underlying33 rfl rfl _ rd rfl HS8.out.r.arg ?e2 ?e3 ?_
               case e2 => (show rd.length * 48 ≤ _; omega)
               case e3 => (unfold maxLen; omega)
               intro v9 w9 hr9 hb9
               have HR9 := Lib.hid hr9
               have HB9 := Lib.hid hb9
               obtain ⟨a9, c9, rfl⟩ := hr9.shape
               have MARK2 : True := trivial
               clear hr9 hb9))
          clear hdq hdq1 hdq2 HR9 HB9 HRX
          have i3 : 3 * (i : Int) < 3 * (i : Int) + 3 := by omega
          cases dq
          rotate_left
          · have hX0 : X = [] := List.eq_nil_of_length_eq_zero (of_decide_eq_true HDQ.out)
            subst hX0
            have HDL := Lib.hid (HXE.out rfl)
            go_loopw [11, 23] (fun avv kv wr => avv = .slice av all.length cav ∧ kv = .int .i64 (3 * (i : Int)) ∧ wr = w10) (fun _ kv _ => 0)
            case atStart => exact ⟨rfl, rfl, rfl⟩
            case round =>
              obtain ⟨rfl, rfl, rfl⟩ := hrel
              have hend : ScRel w g E lb.length (.slice a4 E.length c4) (.slice av all.length cav) (.slice a10 (rd.length + ([] : List Ent).length) c10) (.int .i64 (lastC [] at_)) (.bool true) (.int .i64 (i + 1)) (.int .i64 (i + 1)) wr :=
                ⟨i + 1, L, next, all, rd ++ [], lastC [] at_, true, (by have := HS10.out; rw [List.length_append] at this; exact this), rfl, rfl, by go_num, by go_num, by omega, HSI.out, by omega, by omega, fun q => (by cases q), fun _ => ⟨by simp; omega, HDL.out⟩⟩
              have HEND := Lib.hid hend
              clear hend
              by_cases hkl : 3 * i < lb.length
              · have k1 : 3 * (i : Int) < lb.length := by omega
                go_wp2_with fail
                exact ⟨HEND.out, by simp [intOf]; omega⟩
              · have k1 : ¬ 3 * (i : Int) < lb.length := by omega
                go_wp2_with fail
                exact ⟨HEND.out, by simp [intOf]; omega⟩
          · have hXp : X.length ≠ 0 := by
              have := of_decide_eq_false HDQ.out
              exact this
            have HS11 := Lib.hid (show ScRows w w10 g E all (rd ++ X) (.slice a4 E.length c4) (.slice av all.length cav) (.slice a10 (rd.length + X.length) c10) L next from by (have := HS10.out; rw [List.length_append] at this; exact this))
            generalize hRD : rd ++ X = rd2 at *
            have hrd2 : rd2.length = rd.length + X.length := by rw [← hRD, List.length_append]
            obtain ⟨rl2, hrl2⟩ : ∃ rl2, rd.length + X.length = rl2 := ⟨_, rfl⟩
            obtain ⟨at2, hat2⟩ : ∃ at2, lastC X at_ = at2 := ⟨_, rfl⟩
            rw [hrl2] at HS11
            rw [hat2] at HSI
            rw [hrl2, hat2]
            have hrl3 : rd2.length = rl2 := by omega
            have hi2 : i + 1 ≤ rl2 := by omega
            have hrla := hrl2 ▸ hrl
            clear HS10 HX HXE HES hel HDQ HI hat2 hrl2 hRD
            go_loopw [11, 23] (fun avv kv wr => ScKRel w g E rd2 at2 i lb.length (.slice a4 E.length c4) (.slice a10 rl2 c10) avv kv wr) (fun _ kv _ => 3 * i + 3 - (intOf kv).toNat)
            case atStart => exact ⟨3 * i, L, next, all, by simp, Nat.le_refl _, by omega, HS11.out, HSI.out, hal, hnx⟩
            case round =>
              obtain ⟨k, L, next, all, rfl, hk1, hk2, hsr, hsi, hal, hnx⟩ := hrel
              obtain ⟨av, cav, rfl⟩ := hsr.a.shape
              have HS := Lib.hid hsr
              have HI := Lib.hid hsi
              have HBW3 := Lib.hid hsr.o.bel
              clear hsr hsi HS11 HSI
              have hend : (3 * i + 3 ≤ k ∨ lb.length ≤ k) → ScRel w g E lb.length (.slice a4 E.length c4) (.slice av all.length cav) (.slice a10 rl2 c10) (.int .i64 at2) (.bool false) (.int .i64 (i + 1)) (.int .i64 (i + 1)) wr := fun q =>
                ⟨i + 1, L, next, all, rd2, at2, false, HS.out, rfl, rfl, by go_num, by go_num, by omega, HI.out, by omega, by omega, fun _ => (by omega), fun q => (by cases q)⟩
              have HEND := Lib.hid hend
              clear hend
              by_cases hk3 : k < 3 * i + 3
              · have j1 : (k : Int) < 3 * (i : Int) + 3 := by omega
                by_cases hkl : k < lb.length
                · have j2 : (k : Int) < lb.length := by omega
                  obtain ⟨o, ho⟩ : ∃ o, lb[k]? = some o := ⟨_, List.getElem?_eq_getElem hkl⟩
                  obtain ⟨gb, off, rfl, -, k0, k1, k2, k3, k4, k5, k6⟩ := op1_cells HBT.out k o ho
                  have k0 := cell_later HBW3.out k0
                  have k1 := cell_later HBW3.out k1
                  have k2 := cell_later HBW3.out k2
                  have k3 := cell_later HBW3.out k3
                  have k4 := cell_later HBW3.out k4
                  have k5 := cell_later HBW3.out k5
                  have k6 := cell_later HBW3.out k6
                  have HOO := Lib.hid (HOKB.out o (List.mem_of_getElem? ho))
                  have HDO := Lib.hid (ownr_do HS.out.o HI.out.ti (by omega) o HOO.out.2 HOO.out.1.1 HOO.out.1.2)
                  obtain ⟨hst, hln⟩ := HI.out.step o
                  have hnn := (doT_next L next o).2
                  have HST := Lib.hid hst
                  clear ho hst HEND
                  go_wp2_with fail
                  refine HDO.out.mono ?_
                  rintro e w11 ⟨rfl, ho4, hs4⟩
                  have HS2 := Lib.hid (HS.out.turned ho4 hs4)
                  generalize hR : doT L next o = R at *
                  have HL := Lib.hid (ownr_list ho4 HST.out.ti 0)
                  have hel2 := entries_len HST.out.ti 0
                  clear ho4 hs4 HDO HS
                  go_wp2_with fail
                  refine HL.out.mono ?_
                  rw [HE0.out]
                  rintro e w12 ⟨nv, l4, rfl, hr4, hle, -, hb12⟩
                  have hle := hle rfl
                  subst hle
                  have HS3 := Lib.hid (HS2.out.below hb12)
                  have HN := Lib.hid hr4
                  obtain ⟨an, cn, rfl⟩ := hr4.shape
                  clear hr4 hb12 HL HS2
                  generalize hNN : entries R.L 0 = N at *
                  have HNN := Lib.hid hNN
                  clear hNN hle
                  go_wp2_with fail
                  go_loopw [11, 26] (fun avv jv wr => ScJRel w g E all rd2 N (.slice a4 E.length c4) (.slice a10 rl2 c10) (.slice an N.length cn) avv jv R.L R.next w11.heap.size wr) (fun _ jv _ => N.length - (intOf jv).toNat)
                  case atStart => exact ⟨0, rfl, Nat.zero_le _, HS3.out, HN.out⟩
                  case round =>
                    obtain ⟨j, rfl, hj, hsr, hrn⟩ := hrel
                    obtain ⟨av, cav, rfl⟩ := hsr.a.shape
                    have HS4 := Lib.hid hsr
                    have HN4 := Lib.hid hrn
                    have hael : (extE all (N.take j)).length ≤ all.length + 200 := extE_len2 _ _ 200 (by rw [List.length_take]; omega)
                    clear hsr hrn HS3 HN
                    by_cases hlt : j < N.length
                    · have jj : (j : Int) < N.length := by omega
                      obtain ⟨x, hx⟩ : ∃ x, N[j]? = some x := ⟨_, List.getElem?_eq_getElem hlt⟩
                      obtain ⟨gn, offn, rfl, -, c0, c1, c2, c3, c4⟩ := ent_cells HN4.out.arg j x hx
                      have HT := Lib.hid (extE_take all N j x hx)
                      have HNA := Lib.hid HN4.out.arg
                      have HH := Lib.hid (has_any wr (extE all (N.take j)) x HS4.out.a.arg (by omega))
                      clear hx
                      obtain ⟨A, hA⟩ : ∃ A, extE all (N.take j) = A := ⟨_, rfl⟩
                      rw [hA] at HH HT HS4 hael
                      rw [hA]
                      have HAA := Lib.hid hA
                      clear hA
                      by_cases hm : x ∈ A
                      · rw [decide_eq_true hm] at HH
                        rw [if_pos hm] at HT
                        go_wp2_with fail
                        refine HH.out.mono ?_
                        rintro e w13 ⟨rfl, hb13⟩
                        have HS5 := Lib.hid (HS4.out.below hb13)
                        have HN5 := Lib.hid (HN4.out.below hb13)
                        clear hb13 HH
                        go_wp2_with fail
                        exact ⟨⟨j + 1, by go_num, hlt, by rw [HT.out]; exact HS5.out, HN5.out⟩, by simp [intOf]; omega⟩
                      · rw [decide_eq_false hm] at HH
                        rw [if_neg hm] at HT
                        go_wp2_with fail
                        refine HH.out.mono ?_
                        rintro e w13 ⟨rfl, hb13⟩
                        have HS5 := Lib.hid (HS4.out.below hb13)
                        have HN5 := Lib.hid (HN4.out.below hb13)
                        have c0 := cell_later hb13 c0
                        have c1 := cell_later hb13 c1
                        have c2 := cell_later hb13 c2
                        have c3 := cell_later hb13 c3
                        have c4 := cell_later hb13 c4
                        clear hb13 HH
                        go_wp2_with fail
                        have MARK : True := trivial
                        have c0d := cell_drew c0
                        have c1d := cell_drew c1
                        have c2d := cell_drew c2
                        have c3d := cell_drew c3
                        have c4d := cell_drew c4
                        have c0f := cell_allocd c0
                        have c1f := cell_allocd c1
                        have c2f := cell_allocd c2
                        have c3f := cell_allocd c3
                        have c4f := cell_allocd c4
                        go_region_law (first
                          | (have _hh := HMA
                             refine step_on EEnt.laid rfl _ _ 33 33 Try.underlying33 Try.underlying33 rfl _ A rfl (HR6.out.alloc _) (HB6.out.trans ((show Below w6.heap.size w6 _ from (by repeat (first | exact Below.refl _ _ | assumption | (refine Below.drew ?_) | (refine below_drewN ?_ _) | (refine Below.alloc ?_ (by simp; done) _) | (refine Below.alloc ?_ (by simp; omega) _)))).mono HB6.out.size)) (Nat.le_refl _) _ [x] rfl ?e1 ?e2 ?e3 ?_
                             case e1 => exact Arg.blk (m_alloc _ _ _ rfl) [x] rfl 1
                             case e2 => (show (A.length + 1) * 48 ≤ _; omega)
                             case e3 => (show A.length + 1 ≤ maxLen; unfold maxLen; omega)
                             intro v7 w7 hr7 hb7 k7
                             obtain ⟨a7, c7, rfl⟩ := hr7.shape
                             have HR7 := Lib.hid hr7
                             have HB7 := Lib.hid hb7
                             clear hr7 k7 hb7 HMA _hh)
                          | (have _hh := HMB
                             refine step_on EEnt.laid rfl _ _ 33 33 Try.underlying33 Try.underlying33 rfl _ A rfl (HR6.out) (HB6.out.trans ((show Below w6.heap.size w6 _ from (by repeat (first | exact Below.refl _ _ | assumption | (refine Below.drew ?_) | (refine below_drewN ?_ _) | (refine Below.alloc ?_ (by simp; done) _) | (refine Below.alloc ?_ (by simp; omega) _)))).mono HB6.out.size)) (Nat.le_refl _) _ [x] rfl ?e1 ?e2 ?e3 ?_
                             case e1 => exact HX6.out
                             case e2 => (show (A.length + 1) * 48 ≤ _; omega)
                             case e3 => (show A.length + 1 ≤ maxLen; unfold maxLen; omega)
                             intro v7 w7 hr7 hb7 k7
                             obtain ⟨a7, c7, rfl⟩ := hr7.shape
                             have HR7 := Lib.hid hr7
                             have HB7 := Lib.hid hb7
                             clear hr7 k7 hb7 HMB _hh)
                          | (have _hh := MARK
                             refine step_on (w0 := w13) (B := (w13).heap.size) EEnt.laid rfl _ _ 33 33 Try.underlying33 Try.underlying33 rfl _ [] rfl (Row.new w13 (w13).heap.size #[] [] (Nat.le_refl _) rfl (Nat.zero_le _)) (by repeat (first | exact Below.refl _ _ | assumption | (refine Below.drew ?_) | (refine below_drewN ?_ _) | (refine Below.alloc ?_ (by simp; done) _) | (refine Below.alloc ?_ (by simp; omega) _))) (Nat.le_refl _) _ A rfl ?e1 ?e2 ?e3 ?_
                             case e1 => exact (HS5.out.a.arg).below (by repeat (first | exact Below.refl _ _ | assumption | (refine Below.drew ?_) | (refine below_drewN ?_ _) | (refine Below.alloc ?_ (by simp; done) _) | (refine Below.alloc ?_ (by simp; omega) _)))
                             case e2 => (show (0 + A.length) * 48 ≤ _; omega)
                             case e3 => (show 0 + A.length ≤ maxLen; unfold maxLen; omega)
                             intro v6 w6 hr6 hb6 k6
                             (try have c0e := cell_later hb6 c0)
                             (try have c1e := cell_later hb6 c1)
                             (try have c2e := cell_later hb6 c2)
                             (try have c3e := cell_later hb6 c3)
                             (try have c4e := cell_later hb6 c4)
                             (try have c5e := cell_later hb6 c5)
                             (try have c6e := cell_later hb6 c6)
                             obtain ⟨a6, c6', rfl⟩ := hr6.shape
                             rw [List.nil_append] at hr6 ⊢
                             have HR6 := Lib.hid hr6
                             have HB6 := Lib.hid hb6
                             have HMA : True := trivial
                             clear hr6 k6 hb6 MARK _hh)
                          | (have _hh := MARK
                             have hx : Arg EEnt (((w13).alloc (.cells #[] 40)).alloc (.cells #[.string x.name, .int .i64 x.node, .bool x.dir, .int .i64 x.cookie, .int .i64 x.short] 40)).drew (.slice (some ⟨(w13).heap.size + 1, 0, none⟩) 1 1) [x] := Arg.blk (m_alloc ((w13).alloc (.cells #[] 40)) _ _ (by simp)) [x] rfl 1
                             refine step_on (w0 := w13) (B := (w13).heap.size) EEnt.laid rfl _ _ 33 33 Try.underlying33 Try.underlying33 rfl _ [] rfl ((Row.new w13 (w13).heap.size #[] [] (Nat.le_refl _) rfl (Nat.zero_le _)).alloc (.cells #[.string x.name, .int .i64 x.node, .bool x.dir, .int .i64 x.cookie, .int .i64 x.short] 40)) (by repeat (first | exact Below.refl _ _ | assumption | (refine Below.drew ?_) | (refine below_drewN ?_ _) | (refine Below.alloc ?_ (by simp; done) _) | (refine Below.alloc ?_ (by simp; omega) _))) (Nat.le_refl _) _ A rfl ?e1 ?e2 ?e3 ?_
                             case e1 => exact (HS5.out.a.arg).below (by repeat (first | exact Below.refl _ _ | assumption | (refine Below.drew ?_) | (refine below_drewN ?_ _) | (refine Below.alloc ?_ (by simp; done) _) | (refine Below.alloc ?_ (by simp; omega) _)))
                             case e2 => (show (0 + A.length) * 48 ≤ _; omega)
                             case e3 => (show 0 + A.length ≤ maxLen; unfold maxLen; omega)
                             intro v6 w6 hr6 hb6 k6
                             have HX6 := Lib.hid (hx.keep k6 (fun i q e => by (have a := Option.some.inj q; have b := Option.some.inj e; simp at a b; omega)))
                             obtain ⟨a6, c6', rfl⟩ := hr6.shape
                             rw [List.nil_append] at hr6 ⊢
                             have HR6 := Lib.hid hr6
                             have HB6 := Lib.hid hb6
                             have HMB : True := trivial
                             clear hx
                             clear hr6 k6 hb6 MARK _hh)
                          | (have _hh := MARK
                             have hrow : Row EEnt (((w13).alloc (.cells #[.string x.name, .int .i64 x.node, .bool x.dir, .int .i64 x.cookie, .int .i64 x.short] 40)).alloc (.cells #[] 40)) (w13).heap.size (.slice (some ⟨(w13).heap.size + 1, 0, none⟩) 0 0) [] := by (have := Row.new (E := EEnt) ((w13).alloc (.cells #[.string x.name, .int .i64 x.node, .bool x.dir, .int .i64 x.cookie, .int .i64 x.short] 40)) (w13).heap.size #[] [] (by simp) rfl (Nat.zero_le _); rw [World.size_alloc] at this; exact this)
                             have hx : Arg EEnt (((w13).alloc (.cells #[.string x.name, .int .i64 x.node, .bool x.dir, .int .i64 x.cookie, .int .i64 x.short] 40)).alloc (.cells #[] 40)).drew (.slice (some ⟨(w13).heap.size, 0, none⟩) 1 1) [x] := Arg.blk (m_old _ (m_alloc w13 _ _ rfl)) [x] rfl 1
                             refine step_on (w0 := w13) (B := (w13).heap.size) EEnt.laid rfl _ _ 33 33 Try.underlying33 Try.underlying33 rfl _ [] rfl hrow (by repeat (first | exact Below.refl _ _ | assumption | (refine Below.drew ?_) | (refine below_drewN ?_ _) | (refine Below.alloc ?_ (by simp; done) _) | (refine Below.alloc ?_ (by simp; omega) _))) (Nat.le_refl _) _ A rfl ?e1 ?e2 ?e3 ?_
                             case e1 => exact (HS5.out.a.arg).below (by repeat (first | exact Below.refl _ _ | assumption | (refine Below.drew ?_) | (refine below_drewN ?_ _) | (refine Below.alloc ?_ (by simp; done) _) | (refine Below.alloc ?_ (by simp; omega) _)))
                             case e2 => (show (0 + A.length) * 48 ≤ _; omega)
                             case e3 => (show 0 + A.length ≤ maxLen; unfold maxLen; omega)
                             intro v6 w6 hr6 hb6 k6
                             have HX6 := Lib.hid (hx.keep k6 (fun i q e => by (have a := Option.some.inj q; have b := Option.some.inj e; simp at a b; omega)))
                             obtain ⟨a6, c6', rfl⟩ := hr6.shape
                             rw [List.nil_append] at hr6 ⊢
                             have HR6 := Lib.hid hr6
                             have HB6 := Lib.hid hb6
                             have HMB : True := trivial
                             clear hx
                             clear hr6 k6 hb6 MARK _hh))
                        all_goals
                          go_wp2_with fail
                          refine ⟨⟨j + 1, by go_num, hlt, ?_, HN5.out.below HB7.out⟩, by simp [intOf]; omega⟩
                          rw [HT.out]
                          have z := HS5.out.all HB7.out HR7.out
                          rw [List.length_append] at z
                          exact z
                    · have ej : j = N.length := by omega
                      subst ej
                      have jj : ¬ (N.length : Int) < N.length := by omega
                      rw [List.take_length] at HS4
                      go_wp2_with fail
                      exact ⟨⟨k + 1, R.L, R.next, extE all N, by go_num, by omega, by omega, by (have := HS4.out; rw [List.take_length]; exact this), HST.out, by omega, by omega⟩, by simp [intOf]; omega⟩
                · have j2 : ¬ (k : Int) < lb.length := by omega
                  go_wp2_with fail
                  exact ⟨HEND.out (Or.inr (by omega)), by simp [intOf]; omega⟩
              · have j1 : ¬ (k : Int) < 3 * (i : Int) + 3 := by omega
                go_wp2_with fail
                exact ⟨HEND.out (Or.inl (by omega)), by simp [intOf]; omega⟩
end Go.Proofs.Ytolilbcpfdnkjaa
