/- Lemmas for VaultCrashes, texts W4; no condition beyond those that each states. -/
import Derived.Test.YtncbojocglcieaaVVLVaultCrashes13
/- vault's law: VaultCrashes. -/
namespace Go.Proofs.Ytncbojocglcieaa
open Go.RowKit
set_option linter.unusedSimpArgs false
set_option linter.unusedVariables false
def frB_of (fr : Option ByteArray) : ByteArray := fr.getD ⟨#[]⟩
/-- The state between two calls. -/
def VCrashRel (w0 : World) (g m : Nat) (mv vv rv sv fv iv : Value) (wr : World) : Prop :=
  ∃ (i : Nat) (D : DevD) (v : VaultD) (m0 : Nat) (all : List ByteArray) (fr : Option ByteArray) (vb : Nat) (rw_ : Value), iv = .int .i64 i ∧ i ≤ m ∧ mv = .string v.img ∧ vv = .pointer (some ⟨vb, 0, none⟩) ∧ sv = .int .i64 m0 ∧ fv = .string (frB_of fr) ∧ Row EStr wr w0.heap.size rv all ∧
    OwnV w0 wr (ownB rv) g D vb rw_ v ∧ Vlt 60 D v m0 all fr ∧ D.left ≤ 9223372036854775807 ∧ D.queue.length ≤ 6000 * i ∧ v.ep ≤ 2 * i + 1 ∧ all.length ≤ i ∧ v.recs.length ≤ i
theorem append_recs (v : VaultD) (D : DevD) (r : ByteArray) : (v.append D r).1.recs.length ≤ v.recs.length + 1 := by
  unfold VaultD.append
  split; · simp
  split; · simp
  split
  · simp [VaultD.done]
  · simp
theorem fits_ne (s a : Int) (n : Nat) : fitsErr s a n ≠ 13 := by
  unfold fitsErr
  split; · decide
  split <;> decide
set_option maxRecDepth 100000 in
theorem vappend_over {w0 w : World} {R : Nat → Prop} {g vb : Nat} {d : DevD} {rv : Value} {v : VaultD} (r : ByteArray) (h : OwnV w0 w R g d vb rv v) (ho : v.over = true) :
    Calls Try.prog 50 #[.pointer (some ⟨vb, 0, none⟩), .string r] w (VPost w0 w R g vb 13 d v) := by
  have c10 : w.cell? ⟨vb, 10, none⟩ = some (.bool v.over) := (m_cells h.vat.blk).1 10
  rw [ho] at c10
  have H := Lib.hid h
  clear h
  go_enter Try.func50, Try.ntmps50
  go_wp2_with fail
  go_ret
  exact ⟨rfl, Held.refl _ _ _, _, H.out⟩
/-- The state behind a call, ahead of what may be lost. -/
def VMidRel (w0 : World) (g vb i BO : Nat) (ob : Obj) (mv rv sv fv : Value) (wr : World) : Prop :=
  ∃ (D : DevD) (v : VaultD) (m0 : Nat) (all : List ByteArray) (fr : Option ByteArray) (rw_ : Value), mv = .string v.img ∧ sv = .int .i64 m0 ∧ fv = .string (frB_of fr) ∧ Row EStr wr w0.heap.size rv all ∧
    OwnV w0 wr (fun k => ownB rv k ∨ k = BO) g D vb rw_ v ∧ wr.heap[BO]? = some ob ∧ Vlt 60 D v m0 all fr ∧ D.left ≤ 9223372036854775807 ∧ D.queue.length ≤ 6000 * (i + 1) ∧ v.ep ≤ 2 * i + 2 ∧ all.length ≤ i + 1 ∧ v.recs.length ≤ i + 1
set_option maxRecDepth 100000 in
set_option maxHeartbeats 8000000 in
theorem vaultcrashes_any (img : ByteArray) (v2 : Value) (l : List OpV) (w : World) (hi : img.size ≤ maxLen) (h2 : Arg EOpV w v2 l) (m2 : l.length ≤ maxLen) (hok : ∀ o ∈ l, o.Ok w) :
    Calls Try.prog 15 #[.string img, v2] w fun e w' => e = .returned (.bool true) ∧ Below w.heap.size w w' := by
  obtain ⟨a2, c2, rfl⟩ := h2.shape
  have A2 := Lib.hid h2
  have OK := Lib.hid hok
  have hfew := fun w' (hb : Below w.heap.size w w') => few08_any w' _ l 30 (h2.below hb) m2 (fun o ho => ⟨(hok o ho).1, (hok o ho).2.2.1⟩)
  have FEW := Lib.hid hfew
  unfold maxLen at m2 hi
  clear h2 hok hfew
  have leave : ∀ w2, Below w.heap.size w w2 → ∀ K : Ending → World → Prop, (∀ w3, Below w.heap.size w w3 → K (.returned (.bool true)) w3) → Calls Try.prog 41 #[] w2 K := by
    intro w2 hb K hK
    refine (awake08_any _).mono ?_
    rintro e w3 ⟨rfl, hb3⟩
    exact hK w3 (hb.trans (hb3.mono hb.size))
  have LEAVE := Lib.hid leave
  clear leave
  go_enter Try.func15, Try.ntmps15
  go_wp2_with fail
  refine LEAVE.out _ (Below.refl _ _) _ ?_
  intro w1 hb1
  have HB1 := Lib.hid hb1
  clear hb1
  go_wp2_with fail
  refine (FEW.out w1 HB1.out).mono ?_
  rintro e w2 ⟨fv, rfl, hfp, hb2⟩
  obtain ⟨fb, rfl, hfb⟩ := hfp
  have HB2 := Lib.hid (HB1.out.trans (hb2.mono HB1.out.size))
  have HFB := Lib.hid hfb
  clear hb2 hfb
  cases fb
  · go_wp2_with fail
    refine LEAVE.out _ HB2.out _ ?_
    intro w3 hb3
    go_wp2_with fail
    go_ret
    exact ⟨rfl, hb3⟩
  · obtain ⟨hl30, hob⟩ := HFB.out rfl
    have hl30' : l.length ≤ 30 := by omega
    have hob2 : ∀ o ∈ l, o.b.size ≤ 400 ∧ o.kn ≤ 100 := by rw [List.take_of_length_le (by omega)] at hob; exact hob
    have HOB := Lib.hid hob2
    clear hob hob2
    by_cases hi5 : img.size ≤ 500
    rotate_left
    · have n1 : decide ((500 : Int) < img.size) = true := decide_eq_true (by omega)
      go_wp2_with fail
      refine LEAVE.out _ HB2.out _ ?_
      intro w3 hb3
      go_wp2_with fail
      go_ret
      exact ⟨rfl, hb3⟩
    have n1 : decide ((500 : Int) < img.size) = false := decide_eq_false (by omega)
    by_cases hi0 : img = ⟨#[]⟩
    · have n5 : (img.toList == []) = true := (empty_iff _).2 hi0
      clear hi0
      go_wp2_with fail
      refine LEAVE.out _ HB2.out _ ?_
      intro w3 hb3
      go_wp2_with fail
      go_ret
      exact ⟨rfl, hb3⟩
    have n5 : (img.toList == []) = false := by rw [Bool.eq_false_iff, ne_eq, empty_iff]; exact hi0
    have hi1 : img.size ≠ 0 := fun e => hi0 (by
      have : img.data.size = 0 := e
      cases img with | mk d => simp at this; rw [this])
    clear hi0
    obtain ⟨D1, D2, x, k1, k2, k3, k4, k5, k6, k7, k8, k9, k10, k11, k12, k13, k14, k15, k16⟩ := format_open (N := 60) (D := ⟨60, [], [], [], -1⟩) ⟨by decide, by decide⟩ rfl rfl (newdev_good 60) img ⟨hi1, by omega⟩ (by unfold nframes; omega)
    have K1 := Lib.hid k1
    have K2 := Lib.hid k2
    have K14 := Lib.hid k14
    have K3 := Lib.hid k3
    have K4 := Lib.hid k4
    clear k1 k2 k14 k3 k8 k10 k9 k4
    go_wp2_with fail
    refine (ownr_new (R := fun _ => False) w w2 60 HB2.out (fun k q => q.elim)).mono ?_
    rintro e w3 ⟨g, rfl, h3, hh3⟩
    have H3 := Lib.hid (show OwnR w w3 (fun _ => False) g ⟨60, [], [], [], -1⟩ from h3)
    clear h3 hh3
    go_wp2_with fail
    refine (begun08_any img H3.out (by decide) (by decide) (by decide) (by omega) K1.out K2.out (by rw [k12]; decide) (by rw [k13]; decide) (by rw [k11]; decide) K14.out).mono ?_
    rintro e w4 ⟨vb, rv, rfl, h4, hh4⟩
    have H4 := Lib.hid h4
    clear h4 hh4
    go_wp2_with fail
    go_loopw [0, 6, 7, 8, 9, 10] (fun mv vv rv sv fv iv wr => VCrashRel w g l.length mv vv rv sv fv iv wr) (fun _ _ _ _ _ iv _ => l.length - (intOf iv).toNat)
    case atStart => exact ⟨0, D2, x, 0, [], none, vb, rv, rfl, Nat.zero_le _, by rw [K4.out], rfl, rfl, rfl, Row.nil _ _ _, H4.out.sub (fun k q => by cases q), K3.out, by rw [k15]; decide, by rw [k16]; exact Nat.zero_le _, by omega, Nat.le_refl _, by rw [k5]; exact Nat.le_refl _⟩
    case round =>
      obtain ⟨i, D, v, m0, all, fr, vb, rw_, rfl, hi, rfl, rfl, rfl, rfl, hR, hO, hV, hl, hq, hep, hal, hrl⟩ := hrel
      obtain ⟨ra, rc, rfl⟩ := hR.shape
      have HO := Lib.hid hO
      have HV := Lib.hid hV
      have HR := Lib.hid hR
      clear hO hV hR K1 K2 K3 K4 K14 H3 H4 k5 k6 k7 k11 k12 k13 k15 k16 FEW LEAVE HFB
      by_cases hlt : i < l.length
      · have i1 : (i : Int) < l.length := by omega
        obtain ⟨o, ho⟩ : ∃ o, l[i]? = some o := ⟨_, List.getElem?_eq_getElem hlt⟩
        obtain ⟨hob, hkn⟩ := HOB.out o (List.mem_of_getElem? ho)
        obtain ⟨_, ⟨hn1, hn2⟩, _, kl, hka, hkl⟩ := OK.out o (List.mem_of_getElem? ho)
        obtain ⟨gl, off, hgl, _, cw0, cw1, cw2, cw3, cw4, cw5⟩ := vop_cells A2.out i o ho
        subst hgl
        have c0 := cell_later HO.out.bel cw0
        have c1 := cell_later HO.out.bel cw1
        have c2 := cell_later HO.out.bel cw2
        have c3 := cell_later HO.out.bel cw3
        have c4 := cell_later HO.out.bel cw4
        have c5 := cell_later HO.out.bel cw5
        unfold OpV.kv at c5 hka
        have HKA := Lib.hid hka
        clear ho cw0 cw1 cw2 cw3 cw4 cw5 hka
        obtain ⟨okd, ob, ocut, on, ocr, oka, okn, okc⟩ := o
        simp only at *
        obtain ⟨BO, hBO⟩ : ∃ b, wr.heap.size = b := ⟨_, rfl⟩
        have hoc := m_alloc wr (.cells #[.int .u8 okd.toNat, .string ob, .bool ocut, .int .i64 on, .bool ocr, .slice oka okn okc] 91) wr.heap.size rfl
        have hoa : OwnV w (wr.alloc (.cells #[.int .u8 okd.toNat, .string ob, .bool ocut, .int .i64 on, .bool ocr, .slice oka okn okc] 91)) (fun k => ownB (.slice ra all.length rc) k ∨ k = wr.heap.size) g D vb rw_ v :=
          HO.out.turn ((Keep.refl (ownB (.slice ra all.length rc)) wr).alloc _) (fun k q => q.elim (fun e => ⟨Or.inl e, by have := HO.out.own.lt (Or.inl e); simp; omega⟩) (fun e => ⟨Or.inr (by omega), by simp; omega⟩))
        have hra : Row EStr (wr.alloc (.cells #[.int .u8 okd.toNat, .string ob, .bool ocut, .int .i64 on, .bool ocr, .slice oka okn okc] 91)) w.heap.size (.slice ra all.length rc) all := HR.out.alloc _
        have HOC := Lib.hid hoc
        have HOA := Lib.hid hoa
        have HRA := Lib.hid hra
        clear hoc hoa hra HO HR
        rw [hBO] at HOC HOA
        go_upto_if 52 with fail
        go_cut [] from 1000 (fun w5 => ∃ D1 : DevD, OwnV w w5 (fun k => ownB (.slice ra all.length rc) k ∨ k = BO) g D1 vb rw_ v ∧ Vlt 60 D1 v m0 all fr ∧ Row EStr w5 w.heap.size (.slice ra all.length rc) all ∧ w5.heap[BO]? = some (.cells #[.int .u8 okd.toNat, .string ob, .bool ocut, .int .i64 on, .bool ocr, .slice oka okn okc] 91 (0, 0)) ∧ D1.left ≤ 9223372036854775807 ∧ D1.queue.length ≤ 6000 * i)
        case first =>
          cases ocut
          · go_wp2_with fail
            go_meet
            case rel => exact ⟨D, HOA.out, HV.out, HRA.out, HOC.out, hl, hq⟩
          · go_wp2_with fail
            refine (ownr_cut HOA.out.own on).mono ?_
            rintro e w5 ⟨rfl, h5, hh5⟩
            have hl1 : (D.cut on).left ≤ 9223372036854775807 := by
              unfold DevD.cut
              split
              · exact hl
              · show max on (-1) ≤ _; omega
            have hq1 : (D.cut on).queue.length ≤ 6000 * i := by
              unfold DevD.cut
              split
              · exact hq
              · exact hq
            have HX := Lib.hid (show OwnV w w5 (fun k => ownB (.slice ra all.length rc) k ∨ k = BO) g (D.cut on) vb rw_ v from HOA.out.dev h5 hh5)
            have HY := Lib.hid (HRA.out.kept (fun k q => hh5.block k (Or.inl (Or.inl q))))
            have HZ := Lib.hid ((hh5.block BO (Or.inl (Or.inr rfl))).trans HOC.out)
            clear h5 hh5
            go_wp2_with fail
            go_meet
            case rel => exact ⟨D.cut on, HX.out, HV.out.cut on, HY.out, HZ.out, hl1, hq1⟩
        case rest =>
          rename World => w5
          obtain ⟨D1, h1, h2, h3, h4, hl1, hq1⟩ := hcut
          have HO1 := Lib.hid h1
          have HV1 := Lib.hid h2
          have HR1 := Lib.hid h3
          have HOC1 := Lib.hid h4
          clear HOA HRA HOC HV hl hq h1 h2 h3 h4 c0 c1 c2 c3 c4 c5
          go_wp2_with fail
          refine (vover_any HO1.out).mono ?_
          rintro e w5 ⟨rfl, rfl⟩
          have o0 : w5.cell? ⟨BO, 0, none⟩ = some (.int .u8 okd.toNat) := (m_cells HOC1.out).1 0
          have o1 : w5.cell? ⟨BO, 1, none⟩ = some (.string ob) := (m_cells HOC1.out).1 1
          have o4 : w5.cell? ⟨BO, 4, none⟩ = some (.bool ocr) := (m_cells HOC1.out).1 4
          have o5 : w5.cell? ⟨BO, 5, none⟩ = some (.slice oka okn okc) := (m_cells HOC1.out).1 5
          obtain ⟨was, hwas⟩ : ∃ b, v.over = b := ⟨_, rfl⟩
          rw [hwas]
          (iterate 9 (first | go_values | go_skip | go_guarded | go_step | go_upon | go_back | go_simp))
          go_cut [0, 7, 8, 9] from 1000 (fun mv rv sv fv w6 => VMidRel w g vb i BO (.cells #[.int .u8 okd.toNat, .string ob, .bool ocut, .int .i64 on, .bool ocr, .slice oka okn okc] 91 (0, 0)) mv rv sv fv w6)
          case first =>
            have hbq : okd.toNat % 4 < 4 := Nat.mod_lt _ (by decide)
            have hdq : D1.size = 60 := HV1.out.size
            cases was
            rotate_left
            · have hd0 : D1.left = 0 := HV1.out.dead hwas
              have hsame : v.done 13 = v := by unfold VaultD.done; rw [hwas]; cases v; simp at hwas; simp [hwas]
              by_cases q2 : okd.toNat % 4 = 2
              · have hkz : (okd.toNat : Int) % 4 = 2 := by omega
                have e1 : v.syncErr D1 = 13 := by unfold VaultD.syncErr; rw [if_pos hwas]
                have hcall := vsync_any HO1.out
                rw [e1, if_pos hwas, hsame] at hcall
                go_wp2_with fail
                refine hcall.mono ?_
                rintro e w6 ⟨rfl, h6, hh⟩
                have HO6 := Lib.hid h6
                have HV6 := Lib.hid HV1.out
                have hl6 := hl1
                have HR6 := Lib.hid (HR1.out.kept (fun k q => hh.block k (Or.inl q)))
                have HOC6 := Lib.hid ((hh.block BO (Or.inr rfl)).trans HOC1.out)
                clear hcall h6 hh HO1 HR1 HOC1 HV1 o0 o1 o4 o5
                go_wp2_with fail
                go_meet
                case rel => exact ⟨D1, v, m0, all, fr, rw_, rfl, rfl, rfl, HR6.out, HO6.out, HOC6.out, HV6.out, hl6, by omega, by omega, by omega, by omega⟩
              by_cases q3 : okd.toNat % 4 = 3
              · have hkz : (okd.toNat : Int) % 4 = 3 := by omega
                have e1 : v.renew D1 ob = (v, D1, 13) := by unfold VaultD.renew; rw [if_pos hwas]
                have hcall := vrenew_any ob HO1.out (by omega) (by omega) hl1 (by omega) ⟨by rw [HV1.out.geo.s.2]; omega, by rw [HV1.out.geo.s.2]; omega⟩ (by omega)
                rw [e1] at hcall
                go_wp2_with fail
                refine hcall.mono ?_
                rintro e w6 ⟨rfl, hh, rw6, h6⟩
                have HO6 := Lib.hid (show OwnV w w6 _ g D1 vb rw6 v from h6)
                have HV6 := Lib.hid HV1.out
                have hl6 := hl1
                have HR6 := Lib.hid (HR1.out.kept (fun k q => hh.block k (Or.inl q)))
                have HOC6 := Lib.hid ((hh.block BO (Or.inr rfl)).trans HOC1.out)
                have o0 : w6.cell? ⟨BO, 0, none⟩ = some (.int .u8 okd.toNat) := (m_cells HOC6.out).1 0
                have o1 : w6.cell? ⟨BO, 1, none⟩ = some (.string ob) := (m_cells HOC6.out).1 1
                clear hcall h6 hh HO1 HR1 HOC1 HV1
                go_wp2_with fail
                go_meet
                case rel => exact ⟨D1, v, m0, all, fr, rw6, rfl, rfl, rfl, HR6.out, HO6.out, HOC6.out, HV6.out, hl6, by omega, by omega, by omega, by omega⟩
              · have hkz2 : ¬ (okd.toNat : Int) % 4 = 2 := by omega
                have hkz3 : ¬ (okd.toNat : Int) % 4 = 3 := by omega
                go_wp2_with fail
                refine (vappend_over ob HO1.out hwas).mono ?_
                rintro e w6 ⟨rfl, hh, rw6, h6⟩
                have HO6 := Lib.hid (show OwnV w w6 _ g D1 vb rw6 v from h6)
                have HV6 := Lib.hid HV1.out
                have hl6 := hl1
                have HR6 := Lib.hid (HR1.out.kept (fun k q => hh.block k (Or.inl q)))
                have HOC6 := Lib.hid ((hh.block BO (Or.inr rfl)).trans HOC1.out)
                have o0 : w6.cell? ⟨BO, 0, none⟩ = some (.int .u8 okd.toNat) := (m_cells HOC6.out).1 0
                have o1 : w6.cell? ⟨BO, 1, none⟩ = some (.string ob) := (m_cells HOC6.out).1 1
                clear h6 hh HO1 HR1 HOC1 HV1
                go_wp2_with fail
                go_meet
                case rel => exact ⟨D1, v, m0, all, fr, rw6, rfl, rfl, rfl, HR6.out, HO6.out, HOC6.out, HV6.out, hl6, by omega, by omega, by omega, by omega⟩
            · obtain ⟨rfl, l2, l3, l4⟩ := HV1.out.live hwas
              have hbd := HV1.out.bounds hwas
              have HBD := Lib.hid hbd
              clear l2 l3 l4 hbd
              by_cases q2 : okd.toNat % 4 = 2
              · have hkz : (okd.toNat : Int) % 4 = 2 := by omega
                have hcall := vsync_any HO1.out
                rw [if_neg (by rw [hwas]; decide)] at hcall
                rcases HV1.out.sync hwas with ⟨s1, s2, s3, s4, s5⟩ | ⟨s1, s2, s3, s4, s5⟩
                · rw [s1, s3, s4] at hcall
                  go_wp2_with fail
                  refine hcall.mono ?_
                  rintro e w6 ⟨rfl, h6, hh⟩
                  have HO6 := Lib.hid h6
                  have HV6 := Lib.hid s5
                  have hl6 : D1.flush.left ≤ 9223372036854775807 := hl1
                  have hq6 : D1.flush.queue.length = 0 := rfl
                  have HR6 := Lib.hid (HR1.out.kept (fun k q => hh.block k (Or.inl q)))
                  have HOC6 := Lib.hid ((hh.block BO (Or.inr rfl)).trans HOC1.out)
                  clear hcall h6 hh HO1 HR1 HOC1 HV1 o0 o1 o4 o5 s3 s4 s5
                  generalize D1.flush = D6 at *
                  go_wp2_with fail
                  go_meet
                  case rel => exact ⟨D6, v, all.length, all, none, rw_, rfl, rfl, rfl, HR6.out, HO6.out, HOC6.out, HV6.out, hl6, by omega, by omega, by omega, by omega⟩
                · rw [s1, s3] at hcall
                  go_wp2_with fail
                  refine hcall.mono ?_
                  rintro e w6 ⟨rfl, h6, hh⟩
                  have HO6 := Lib.hid h6
                  have HV6 := Lib.hid s4
                  have hl6 := hl1
                  have hr6 : (v.done 13).recs.length = v.recs.length := rfl
                  have he6 : (v.done 13).ep = v.ep := rfl
                  have HR6 := Lib.hid (HR1.out.kept (fun k q => hh.block k (Or.inl q)))
                  have HOC6 := Lib.hid ((hh.block BO (Or.inr rfl)).trans HOC1.out)
                  clear hcall h6 hh HO1 HR1 HOC1 HV1 o0 o1 o4 o5 s3 s4 s5
                  go_wp2_with fail
                  go_meet
                  case rel => exact ⟨D1, (v.done 13), m0, all, none, rw_, rfl, rfl, rfl, HR6.out, HO6.out, HOC6.out, HV6.out, hl6, by omega, by omega, by omega, by omega⟩
              by_cases q3 : okd.toNat % 4 = 3
              · have hkz : (okd.toNat : Int) % 4 = 3 := by omega
                have hren := HV1.out.renew hwas (by omega) ob
                have hcall := vrenew_any ob HO1.out (by omega) (by omega) hl1 (by omega) HBD.out.2.2.1 (by omega)
                obtain ⟨P, hP⟩ : ∃ P, v.renew D1 ob = P := ⟨_, rfl⟩
                rw [hP] at hren hcall
                clear hP
                obtain ⟨v', D', E⟩ := P
                simp only at hren hcall
                obtain ⟨r1, r2, r3⟩ := hren
                rcases r3 with ⟨t1, t2, rfl, rfl⟩ | ⟨t1, t2, ⟨rfl, rfl, t3, t4⟩ | ⟨rfl, t3, rfl, t4⟩⟩
                · have t3 : E ≠ 13 := by rw [t1]; exact fits_ne _ _ _
                  have t4 : (E == 0) = false := by simpa using t2
                  have t5 : (E == 13) = false := by simpa using t3
                  have t6 : ¬ E = 0 := t2
                  have t7 : ¬ E = 13 := t3
                  clear t1
                  go_wp2_with fail
                  refine hcall.mono ?_
                  rintro e w6 ⟨rfl, hh, rw6, h6⟩
                  have HO6 := Lib.hid (show OwnV w w6 _ g D' vb rw6 v' from h6)
                  have HV6 := Lib.hid HV1.out
                  have hl6 := hl1
                  have HR6 := Lib.hid (HR1.out.kept (fun k q => hh.block k (Or.inl q)))
                  have HOC6 := Lib.hid ((hh.block BO (Or.inr rfl)).trans HOC1.out)
                  have o0 : w6.cell? ⟨BO, 0, none⟩ = some (.int .u8 okd.toNat) := (m_cells HOC6.out).1 0
                  have o1 : w6.cell? ⟨BO, 1, none⟩ = some (.string ob) := (m_cells HOC6.out).1 1
                  clear hcall h6 hh HO1 HR1 HOC1 HV1
                  go_wp2_with fail
                  go_meet
                  case rel => exact ⟨D', v', m0, all, none, rw6, rfl, rfl, rfl, HR6.out, HO6.out, HOC6.out, HV6.out, hl6, by omega, by omega, by omega, by omega⟩
                · go_wp2_with fail
                  refine hcall.mono ?_
                  rintro e w6 ⟨rfl, hh, rw6, h6⟩
                  have HO6 := Lib.hid (OwnV.sub (R' := fun k => ownB (.slice none 0 0) k ∨ k = BO) (show OwnV w w6 _ g D' vb rw6 (v.renewed ob) from h6) (fun k q => q.elim (fun e => by cases e) (fun e => Or.inr e)))
                  have HR6 := Lib.hid (Row.nil EStr w6 w.heap.size)
                  have HOC6 := Lib.hid ((hh.block BO (Or.inr rfl)).trans HOC1.out)
                  have HV6 := Lib.hid t3
                  have hl6 : D'.left ≤ 9223372036854775807 := by omega
                  have hq6 : D'.queue.length = 0 := by rw [t4]; rfl
                  have hr6 : (v.renewed ob).recs.length = 0 := rfl
                  have he6 : (v.renewed ob).ep = v.ep + 1 := rfl
                  have hn6 : ([] : List ByteArray).length = 0 := rfl
                  have o0 : w6.cell? ⟨BO, 0, none⟩ = some (.int .u8 okd.toNat) := (m_cells HOC6.out).1 0
                  have o1 : w6.cell? ⟨BO, 1, none⟩ = some (.string ob) := (m_cells HOC6.out).1 1
                  clear hcall h6 hh HO1 HR1 HOC1 HV1 t3 t4
                  go_wp2_with fail
                  go_meet
                  case rel => exact ⟨D', (v.renewed ob), 0, [], none, rw6, rfl, rfl, rfl, HR6.out, HO6.out, HOC6.out, HV6.out, hl6, by omega, by omega, by omega, by omega⟩
                · go_wp2_with fail
                  refine hcall.mono ?_
                  rintro e w6 ⟨rfl, hh, rw6, h6⟩
                  have HO6 := Lib.hid (show OwnV w w6 _ g D' vb rw6 (v.done 13) from h6)
                  have HV6 := Lib.hid t4
                  have hl6 : D'.left ≤ 9223372036854775807 := by omega
                  have hr6 : (v.done 13).recs.length = v.recs.length := rfl
                  have he6 : (v.done 13).ep = v.ep := rfl
                  have HR6 := Lib.hid (HR1.out.kept (fun k q => hh.block k (Or.inl q)))
                  have HOC6 := Lib.hid ((hh.block BO (Or.inr rfl)).trans HOC1.out)
                  have o0 : w6.cell? ⟨BO, 0, none⟩ = some (.int .u8 okd.toNat) := (m_cells HOC6.out).1 0
                  have o1 : w6.cell? ⟨BO, 1, none⟩ = some (.string ob) := (m_cells HOC6.out).1 1
                  clear hcall h6 hh HO1 HR1 HOC1 HV1 t4
                  go_wp2_with fail
                  go_meet
                  case rel => exact ⟨D', (v.done 13), m0, all, (some ob), rw6, rfl, rfl, rfl, HR6.out, HO6.out, HOC6.out, HV6.out, hl6, by omega, by omega, by omega, by omega⟩
              · have hkz2 : ¬ (okd.toNat : Int) % 4 = 2 := by omega
                have hkz3 : ¬ (okd.toNat : Int) % 4 = 3 := by omega
                have happ := HV1.out.append hwas ob
                have hcall := vappend_any ob HO1.out (by omega) (by omega) hl1 (by omega) HBD.out.1 HBD.out.2.1 (by omega)
                have hrec := append_recs v D1 ob
                obtain ⟨P, hP⟩ : ∃ P, v.append D1 ob = P := ⟨_, rfl⟩
                rw [hP] at happ hcall hrec
                clear hP
                obtain ⟨v', D', E⟩ := P
                simp only at happ hcall hrec
                obtain ⟨r1, r2, r3⟩ := happ
                rcases r3 with ⟨t1, t2, rfl, rfl⟩ | ⟨t1, t2, t3, him, _, hep', ⟨rfl, _⟩ | ⟨rfl, _⟩⟩
                · have t3 : E ≠ 13 := by rw [t1]; exact fits_ne _ _ _
                  have t4 : (E == 0) = false := by simpa using t2
                  have t5 : (E == 13) = false := by simpa using t3
                  have t6 : ¬ E = 0 := t2
                  have t7 : ¬ E = 13 := t3
                  clear t1
                  go_wp2_with fail
                  refine hcall.mono ?_
                  rintro e w6 ⟨rfl, hh, rw6, h6⟩
                  have HO6 := Lib.hid (show OwnV w w6 _ g D' vb rw6 v' from h6)
                  have HV6 := Lib.hid HV1.out
                  have hl6 := hl1
                  have HR6 := Lib.hid (HR1.out.kept (fun k q => hh.block k (Or.inl q)))
                  have HOC6 := Lib.hid ((hh.block BO (Or.inr rfl)).trans HOC1.out)
                  have o0 : w6.cell? ⟨BO, 0, none⟩ = some (.int .u8 okd.toNat) := (m_cells HOC6.out).1 0
                  have o1 : w6.cell? ⟨BO, 1, none⟩ = some (.string ob) := (m_cells HOC6.out).1 1
                  clear hcall h6 hh HO1 HR1 HOC1 HV1
                  go_wp2_with fail
                  go_meet
                  case rel => exact ⟨D', v', m0, all, none, rw6, rfl, rfl, rfl, HR6.out, HO6.out, HOC6.out, HV6.out, hl6, by omega, by omega, by omega, by omega⟩
                · have n6 : (ob.toList == []) = false := by rw [Bool.eq_false_iff, ne_eq, empty_iff]; exact fun e => t2.1 (by rw [e]; rfl)
                  go_wp2_with fail
                  refine hcall.mono ?_
                  rintro e y5 ⟨rfl, hh, rw6, h6⟩
                  have HO51 := Lib.hid (show OwnV w y5 _ g D' vb rw6 v' from h6)
                  have HR51 := Lib.hid (HR1.out.kept (fun k q => hh.block k (Or.inl q)))
                  have HOC51 := Lib.hid ((hh.block BO (Or.inr rfl)).trans HOC1.out)
                  have HV6 := Lib.hid t3
                  have hl6 : D'.left ≤ 9223372036854775807 := by omega
                  have hB0 : w.heap.size ≤ y5.heap.size := h6.bel.size
                  have c1' : y5.cell? ⟨BO, 1, none⟩ = some (.string ob) := (m_cells HOC51.out).1 1
                  clear hcall h6 hh HO1 HR1 HOC1 HV1 HBD t1 t2 t3 o0 o1 o4 o5 OK HOB HKA
                  go_wp2_with fail
                  have c1f : ∀ oj : Obj, (y5.alloc oj).drew.cell? ⟨BO, 1, none⟩ = some (.string ob) := fun oj => by rw [(show Below y5.heap.size y5 (y5.alloc oj).drew from (by repeat (first | exact Below.refl _ _ | assumption | (refine Below.drew ?_) | (refine below_drewN ?_ _) | (refine Below.alloc ?_ (by simp; done) _) | (refine Below.alloc ?_ (by simp; omega) _)))).cell (World.block_lt_of_cell? _ _ c1')]; exact c1'
                  have MARK : True := trivial
                  go_region_law (first
                    | (have _hh := HMA
                       refine step_app EStr.laid rfl _ _ 49 49 Try.underlying49 Try.underlying49 rfl _ all rfl (HR6.out.alloc _) _ [ob] rfl ?e1 ?e2 ?e3 (Nat.le_trans hB0 (Nat.le_trans HB6.out.size (by simp))) ?_
                       case e1 => exact Arg.blk (m_alloc _ _ _ rfl) [ob] rfl 1
                       case e2 => (show (all.length + 1) * 16 ≤ _; omega)
                       case e3 => (show all.length + 1 ≤ maxLen; unfold maxLen; omega)
                       intro v7 y7 hr7 hv7 k7
                       have hb7 : Below y5.heap.size y5 y7 := (show Below y5.heap.size y5 _ from HB6.out.trans ((show Below y6.heap.size y6 _ from (by repeat (first | exact Below.refl _ _ | assumption | (refine Below.drew ?_) | (refine below_drewN ?_ _) | (refine Below.alloc ?_ (by simp; done) _) | (refine Below.alloc ?_ (by simp; omega) _)))).mono HB6.out.size)).trans (k7.toBelow (B := y5.heap.size) (Nat.le_trans HB6.out.size (by simp)) (fun i q => HG6.out i q.symm))
                       have HG7 := Lib.hid (show ∀ k, v7.ownBlock = some k → y5.heap.size ≤ k from fun k q => (hv7 k q).elim (fun e => HG6.out k e) (fun e => Nat.le_trans (Nat.le_trans HB6.out.size (by simp)) (Nat.le_of_eq e)))
                       have HO7 := Lib.hid (HO51.out.turn (R' := fun k => ownB v7 k ∨ k = BO) (keepBelow hb7) (fun k q => q.elim (fun q => ⟨Or.inr (HG7.out k q), hr7.lt q⟩) (fun q => ⟨Or.inl (Or.inr q), by rw [q]; exact Nat.lt_of_lt_of_le (m_lt HOC51.out) hb7.size⟩)))
                       obtain ⟨a7, c7, rfl⟩ := hr7.shape
                       have HR7 := Lib.hid hr7
                       have HB7 := Lib.hid hb7
                       clear hr7 hv7 k7 hb7 _hh)
                    | (have _hh := HMB
                       refine step_app EStr.laid rfl _ _ 49 49 Try.underlying49 Try.underlying49 rfl _ all rfl (HR6.out) _ [ob] rfl ?e1 ?e2 ?e3 (Nat.le_trans hB0 (Nat.le_trans HB6.out.size (by first | exact Nat.le_refl _ | simp))) ?_
                       case e1 => exact HX6.out
                       case e2 => (show (all.length + 1) * 16 ≤ _; omega)
                       case e3 => (show all.length + 1 ≤ maxLen; unfold maxLen; omega)
                       intro v7 y7 hr7 hv7 k7
                       have hb7 : Below y5.heap.size y5 y7 := (show Below y5.heap.size y5 _ from HB6.out.trans ((show Below y6.heap.size y6 _ from (by repeat (first | exact Below.refl _ _ | assumption | (refine Below.drew ?_) | (refine below_drewN ?_ _) | (refine Below.alloc ?_ (by simp; done) _) | (refine Below.alloc ?_ (by simp; omega) _)))).mono HB6.out.size)).trans (k7.toBelow (B := y5.heap.size) (Nat.le_trans HB6.out.size (by first | exact Nat.le_refl _ | simp)) (fun i q => HG6.out i q.symm))
                       have HG7 := Lib.hid (show ∀ k, v7.ownBlock = some k → y5.heap.size ≤ k from fun k q => (hv7 k q).elim (fun e => HG6.out k e) (fun e => Nat.le_trans (Nat.le_trans HB6.out.size (by first | exact Nat.le_refl _ | simp)) (Nat.le_of_eq e)))
                       have HO7 := Lib.hid (HO51.out.turn (R' := fun k => ownB v7 k ∨ k = BO) (keepBelow hb7) (fun k q => q.elim (fun q => ⟨Or.inr (HG7.out k q), hr7.lt q⟩) (fun q => ⟨Or.inl (Or.inr q), by rw [q]; exact Nat.lt_of_lt_of_le (m_lt HOC51.out) hb7.size⟩)))
                       obtain ⟨a7, c7, rfl⟩ := hr7.shape
                       have HR7 := Lib.hid hr7
                       have HB7 := Lib.hid hb7
                       clear hr7 hv7 k7 hb7 _hh)
                    | (have _hh := MARK
                       refine step_app EStr.laid rfl _ _ 49 49 Try.underlying49 Try.underlying49 rfl _ [] rfl (Row.new y5 w.heap.size #[] [] hB0 rfl (by decide)) _ all rfl ?e1 ?e2 ?e3 (Nat.le_trans hB0 (by simp <;> omega)) ?_
                       case e1 => exact HR51.out.arg.below (by repeat (first | exact Below.refl _ _ | assumption | (refine Below.drew ?_) | (refine below_drewN ?_ _) | (refine Below.alloc ?_ (by simp; done) _) | (refine Below.alloc ?_ (by simp; omega) _)))
                       case e2 => (show (0 + all.length) * 16 ≤ _; omega)
                       case e3 => (show 0 + all.length ≤ maxLen; unfold maxLen; omega)
                       intro v6 y6 hr6 hv6 k6
                       have hb6 : Below y5.heap.size y5 y6 := (show Below y5.heap.size y5 _ from (by repeat (first | exact Below.refl _ _ | assumption | (refine Below.drew ?_) | (refine below_drewN ?_ _) | (refine Below.alloc ?_ (by simp; done) _) | (refine Below.alloc ?_ (by simp; omega) _)))).trans (k6.toBelow (B := y5.heap.size) (by simp <;> omega) (fun i q => by first | exact Nat.le_of_eq (Option.some.inj q).symm | exact Nat.le_trans (by simp <;> omega) (Nat.le_of_eq (Option.some.inj q).symm)))
                       have c1e : y6.cell? ⟨BO, 1, none⟩ = some (.string ob) := by rw [hb6.cell (World.block_lt_of_cell? _ _ c1')]; exact c1'
                       obtain ⟨a6, c6, rfl⟩ := hr6.shape
                       rw [List.nil_append] at hr6 ⊢
                       have HR6 := Lib.hid hr6
                       have HB6 := Lib.hid hb6
                       have HMA : True := trivial
                       have HG6 := Lib.hid (show ∀ k, (Value.slice a6 all.length c6).ownBlock = some k → y5.heap.size ≤ k from fun k q => (hv6 k q).elim (fun e => by first | exact Nat.le_of_eq (Option.some.inj e) | exact Nat.le_trans (by simp <;> omega) (Nat.le_of_eq (Option.some.inj e))) (fun e => Nat.le_trans (by simp <;> omega) (Nat.le_of_eq e)))
                       clear hr6 hv6 k6 hb6 MARK _hh)
                    | (have _hh := MARK
                       have hx : Arg EStr ((y5.alloc (.cells #[] 9)).alloc (.cells #[.string ob] 9)).drew (.slice (some ⟨y5.heap.size + 1, 0, none⟩) 1 1) [ob] := Arg.blk (m_alloc (y5.alloc (.cells #[] 9)) _ _ (by simp)) [ob] rfl 1
                       refine step_app EStr.laid rfl _ _ 49 49 Try.underlying49 Try.underlying49 rfl _ [] rfl ((Row.new y5 w.heap.size #[] [] hB0 rfl (by decide)).alloc (.cells #[.string ob] 9)) _ all rfl ?e1 ?e2 ?e3 (Nat.le_trans hB0 (by simp <;> omega)) ?_
                       case e1 => exact HR51.out.arg.below (by repeat (first | exact Below.refl _ _ | assumption | (refine Below.drew ?_) | (refine below_drewN ?_ _) | (refine Below.alloc ?_ (by simp; done) _) | (refine Below.alloc ?_ (by simp; omega) _)))
                       case e2 => (show (0 + all.length) * 16 ≤ _; omega)
                       case e3 => (show 0 + all.length ≤ maxLen; unfold maxLen; omega)
                       intro v6 y6 hr6 hv6 k6
                       have hb6 : Below y5.heap.size y5 y6 := (show Below y5.heap.size y5 _ from (by repeat (first | exact Below.refl _ _ | assumption | (refine Below.drew ?_) | (refine below_drewN ?_ _) | (refine Below.alloc ?_ (by simp; done) _) | (refine Below.alloc ?_ (by simp; omega) _)))).trans (k6.toBelow (B := y5.heap.size) (by simp <;> omega) (fun i q => by first | exact Nat.le_of_eq (Option.some.inj q).symm | exact Nat.le_trans (by simp <;> omega) (Nat.le_of_eq (Option.some.inj q).symm)))
                       have c1e : y6.cell? ⟨BO, 1, none⟩ = some (.string ob) := by rw [hb6.cell (World.block_lt_of_cell? _ _ c1')]; exact c1'
                       obtain ⟨a6, c6, rfl⟩ := hr6.shape
                       rw [List.nil_append] at hr6 ⊢
                       have HR6 := Lib.hid hr6
                       have HB6 := Lib.hid hb6
                       have HX6 := Lib.hid (hx.keep k6 (fun i q e => by (have a := Option.some.inj q; have b := Option.some.inj e; simp at a b; omega)))
                       have HMB : True := trivial
                       clear hx
                       have HG6 := Lib.hid (show ∀ k, (Value.slice a6 all.length c6).ownBlock = some k → y5.heap.size ≤ k from fun k q => (hv6 k q).elim (fun e => by first | exact Nat.le_of_eq (Option.some.inj e) | exact Nat.le_trans (by simp <;> omega) (Nat.le_of_eq (Option.some.inj e))) (fun e => Nat.le_trans (by simp <;> omega) (Nat.le_of_eq e)))
                       clear hr6 hv6 k6 hb6 MARK _hh)
                    | (have _hh := MARK
                       have hrow : Row EStr ((y5.alloc (.cells #[.string ob] 9)).alloc (.cells #[] 9)) w.heap.size (.slice (some ⟨y5.heap.size + 1, 0, none⟩) 0 0) [] := by (have := Row.new (E := EStr) (y5.alloc (.cells #[.string ob] 9)) w.heap.size #[] [] (Nat.le_trans hB0 (by simp)) rfl (by decide); rw [World.size_alloc] at this; exact this)
                       have hx : Arg EStr ((y5.alloc (.cells #[.string ob] 9)).alloc (.cells #[] 9)).drew (.slice (some ⟨y5.heap.size, 0, none⟩) 1 1) [ob] := Arg.blk (m_old _ (m_alloc y5 _ _ rfl)) [ob] rfl 1
                       refine step_app EStr.laid rfl _ _ 49 49 Try.underlying49 Try.underlying49 rfl _ [] rfl hrow _ all rfl ?e1 ?e2 ?e3 (Nat.le_trans hB0 (by simp <;> omega)) ?_
                       case e1 => exact HR51.out.arg.below (by repeat (first | exact Below.refl _ _ | assumption | (refine Below.drew ?_) | (refine below_drewN ?_ _) | (refine Below.alloc ?_ (by simp; done) _) | (refine Below.alloc ?_ (by simp; omega) _)))
                       case e2 => (show (0 + all.length) * 16 ≤ _; omega)
                       case e3 => (show 0 + all.length ≤ maxLen; unfold maxLen; omega)
                       intro v6 y6 hr6 hv6 k6
                       have hb6 : Below y5.heap.size y5 y6 := (show Below y5.heap.size y5 _ from (by repeat (first | exact Below.refl _ _ | assumption | (refine Below.drew ?_) | (refine below_drewN ?_ _) | (refine Below.alloc ?_ (by simp; done) _) | (refine Below.alloc ?_ (by simp; omega) _)))).trans (k6.toBelow (B := y5.heap.size) (by simp <;> omega) (fun i q => by first | exact Nat.le_of_eq (Option.some.inj q).symm | exact Nat.le_trans (by simp <;> omega) (Nat.le_of_eq (Option.some.inj q).symm)))
                       have c1e : y6.cell? ⟨BO, 1, none⟩ = some (.string ob) := by rw [hb6.cell (World.block_lt_of_cell? _ _ c1')]; exact c1'
                       obtain ⟨a6, c6, rfl⟩ := hr6.shape
                       rw [List.nil_append] at hr6 ⊢
                       have HR6 := Lib.hid hr6
                       have HB6 := Lib.hid hb6
                       have HX6 := Lib.hid (hx.keep k6 (fun i q e => by (have a := Option.some.inj q; have b := Option.some.inj e; simp at a b; omega)))
                       have HMB : True := trivial
                       clear hx
                       have HG6 := Lib.hid (show ∀ k, (Value.slice a6 all.length c6).ownBlock = some k → y5.heap.size ≤ k from fun k q => (hv6 k q).elim (fun e => by first | exact Nat.le_of_eq (Option.some.inj e) | exact Nat.le_trans (by simp <;> omega) (Nat.le_of_eq (Option.some.inj e))) (fun e => Nat.le_trans (by simp <;> omega) (Nat.le_of_eq e)))
                       clear hr6 hv6 k6 hb6 MARK _hh)
                    )
                  all_goals
                    have hln : (all ++ [ob]).length = all.length + 1 := by simp
                    have hb5 : (all ++ [ob]).length ≤ i + 1 := by simp; omega
                    have HOC6 := Lib.hid ((HB7.out.block BO (m_lt HOC51.out)).trans HOC51.out)
                    have z1 := HR7.out
                    have z2 := HO7.out
                    rw [hln] at z1 z2
                    have HZ1 := Lib.hid z1
                    have HZ2 := Lib.hid z2
                    clear z1 z2 hln c1f c1' HO51 HR51 HOC51 HR7 HO7
                    go_wp2_with fail
                    go_meet
                    case rel => exact ⟨D', v', m0, all ++ [ob], none, rw6, by rw [him], rfl, rfl, HZ1.out, HZ2.out, HOC6.out, HV6.out, hl6, by omega, by omega, by omega, by omega⟩
                · have n6 : (ob.toList == []) = false := by rw [Bool.eq_false_iff, ne_eq, empty_iff]; exact fun e => t2.1 (by rw [e]; rfl)
                  go_wp2_with fail
                  refine hcall.mono ?_
                  rintro e y5 ⟨rfl, hh, rw6, h6⟩
                  have HO51 := Lib.hid (show OwnV w y5 _ g D' vb rw6 v' from h6)
                  have HR51 := Lib.hid (HR1.out.kept (fun k q => hh.block k (Or.inl q)))
                  have HOC51 := Lib.hid ((hh.block BO (Or.inr rfl)).trans HOC1.out)
                  have HV6 := Lib.hid t3
                  have hl6 : D'.left ≤ 9223372036854775807 := by omega
                  have hB0 : w.heap.size ≤ y5.heap.size := h6.bel.size
                  have c1' : y5.cell? ⟨BO, 1, none⟩ = some (.string ob) := (m_cells HOC51.out).1 1
                  clear hcall h6 hh HO1 HR1 HOC1 HV1 HBD t1 t2 t3 o0 o1 o4 o5 OK HOB HKA
                  go_wp2_with fail
                  have c1f : ∀ oj : Obj, (y5.alloc oj).drew.cell? ⟨BO, 1, none⟩ = some (.string ob) := fun oj => by rw [(show Below y5.heap.size y5 (y5.alloc oj).drew from (by repeat (first | exact Below.refl _ _ | assumption | (refine Below.drew ?_) | (refine below_drewN ?_ _) | (refine Below.alloc ?_ (by simp; done) _) | (refine Below.alloc ?_ (by simp; omega) _)))).cell (World.block_lt_of_cell? _ _ c1')]; exact c1'
                  have MARK : True := trivial
                  go_region_law (first
                    | (have _hh := HMA
                       refine step_app EStr.laid rfl _ _ 49 49 Try.underlying49 Try.underlying49 rfl _ all rfl (HR6.out.alloc _) _ [ob] rfl ?e1 ?e2 ?e3 (Nat.le_trans hB0 (Nat.le_trans HB6.out.size (by simp))) ?_
                       case e1 => exact Arg.blk (m_alloc _ _ _ rfl) [ob] rfl 1
                       case e2 => (show (all.length + 1) * 16 ≤ _; omega)
                       case e3 => (show all.length + 1 ≤ maxLen; unfold maxLen; omega)
                       intro v7 y7 hr7 hv7 k7
                       have hb7 : Below y5.heap.size y5 y7 := (show Below y5.heap.size y5 _ from HB6.out.trans ((show Below y6.heap.size y6 _ from (by repeat (first | exact Below.refl _ _ | assumption | (refine Below.drew ?_) | (refine below_drewN ?_ _) | (refine Below.alloc ?_ (by simp; done) _) | (refine Below.alloc ?_ (by simp; omega) _)))).mono HB6.out.size)).trans (k7.toBelow (B := y5.heap.size) (Nat.le_trans HB6.out.size (by simp)) (fun i q => HG6.out i q.symm))
                       have HG7 := Lib.hid (show ∀ k, v7.ownBlock = some k → y5.heap.size ≤ k from fun k q => (hv7 k q).elim (fun e => HG6.out k e) (fun e => Nat.le_trans (Nat.le_trans HB6.out.size (by simp)) (Nat.le_of_eq e)))
                       have HO7 := Lib.hid (HO51.out.turn (R' := fun k => ownB v7 k ∨ k = BO) (keepBelow hb7) (fun k q => q.elim (fun q => ⟨Or.inr (HG7.out k q), hr7.lt q⟩) (fun q => ⟨Or.inl (Or.inr q), by rw [q]; exact Nat.lt_of_lt_of_le (m_lt HOC51.out) hb7.size⟩)))
                       obtain ⟨a7, c7, rfl⟩ := hr7.shape
                       have HR7 := Lib.hid hr7
                       have HB7 := Lib.hid hb7
                       clear hr7 hv7 k7 hb7 _hh)
                    | (have _hh := HMB
                       refine step_app EStr.laid rfl _ _ 49 49 Try.underlying49 Try.underlying49 rfl _ all rfl (HR6.out) _ [ob] rfl ?e1 ?e2 ?e3 (Nat.le_trans hB0 (Nat.le_trans HB6.out.size (by first | exact Nat.le_refl _ | simp))) ?_
                       case e1 => exact HX6.out
                       case e2 => (show (all.length + 1) * 16 ≤ _; omega)
                       case e3 => (show all.length + 1 ≤ maxLen; unfold maxLen; omega)
                       intro v7 y7 hr7 hv7 k7
                       have hb7 : Below y5.heap.size y5 y7 := (show Below y5.heap.size y5 _ from HB6.out.trans ((show Below y6.heap.size y6 _ from (by repeat (first | exact Below.refl _ _ | assumption | (refine Below.drew ?_) | (refine below_drewN ?_ _) | (refine Below.alloc ?_ (by simp; done) _) | (refine Below.alloc ?_ (by simp; omega) _)))).mono HB6.out.size)).trans (k7.toBelow (B := y5.heap.size) (Nat.le_trans HB6.out.size (by first | exact Nat.le_refl _ | simp)) (fun i q => HG6.out i q.symm))
                       have HG7 := Lib.hid (show ∀ k, v7.ownBlock = some k → y5.heap.size ≤ k from fun k q => (hv7 k q).elim (fun e => HG6.out k e) (fun e => Nat.le_trans (Nat.le_trans HB6.out.size (by first | exact Nat.le_refl _ | simp)) (Nat.le_of_eq e)))
                       have HO7 := Lib.hid (HO51.out.turn (R' := fun k => ownB v7 k ∨ k = BO) (keepBelow hb7) (fun k q => q.elim (fun q => ⟨Or.inr (HG7.out k q), hr7.lt q⟩) (fun q => ⟨Or.inl (Or.inr q), by rw [q]; exact Nat.lt_of_lt_of_le (m_lt HOC51.out) hb7.size⟩)))
                       obtain ⟨a7, c7, rfl⟩ := hr7.shape
                       have HR7 := Lib.hid hr7
                       have HB7 := Lib.hid hb7
                       clear hr7 hv7 k7 hb7 _hh)
                    | (have _hh := MARK
                       refine step_app EStr.laid rfl _ _ 49 49 Try.underlying49 Try.underlying49 rfl _ [] rfl (Row.new y5 w.heap.size #[] [] hB0 rfl (by decide)) _ all rfl ?e1 ?e2 ?e3 (Nat.le_trans hB0 (by simp <;> omega)) ?_
                       case e1 => exact HR51.out.arg.below (by repeat (first | exact Below.refl _ _ | assumption | (refine Below.drew ?_) | (refine below_drewN ?_ _) | (refine Below.alloc ?_ (by simp; done) _) | (refine Below.alloc ?_ (by simp; omega) _)))
                       case e2 => (show (0 + all.length) * 16 ≤ _; omega)
                       case e3 => (show 0 + all.length ≤ maxLen; unfold maxLen; omega)
                       intro v6 y6 hr6 hv6 k6
                       have hb6 : Below y5.heap.size y5 y6 := (show Below y5.heap.size y5 _ from (by repeat (first | exact Below.refl _ _ | assumption | (refine Below.drew ?_) | (refine below_drewN ?_ _) | (refine Below.alloc ?_ (by simp; done) _) | (refine Below.alloc ?_ (by simp; omega) _)))).trans (k6.toBelow (B := y5.heap.size) (by simp <;> omega) (fun i q => by first | exact Nat.le_of_eq (Option.some.inj q).symm | exact Nat.le_trans (by simp <;> omega) (Nat.le_of_eq (Option.some.inj q).symm)))
                       have c1e : y6.cell? ⟨BO, 1, none⟩ = some (.string ob) := by rw [hb6.cell (World.block_lt_of_cell? _ _ c1')]; exact c1'
                       obtain ⟨a6, c6, rfl⟩ := hr6.shape
                       rw [List.nil_append] at hr6 ⊢
                       have HR6 := Lib.hid hr6
                       have HB6 := Lib.hid hb6
                       have HMA : True := trivial
                       have HG6 := Lib.hid (show ∀ k, (Value.slice a6 all.length c6).ownBlock = some k → y5.heap.size ≤ k from fun k q => (hv6 k q).elim (fun e => by first | exact Nat.le_of_eq (Option.some.inj e) | exact Nat.le_trans (by simp <;> omega) (Nat.le_of_eq (Option.some.inj e))) (fun e => Nat.le_trans (by simp <;> omega) (Nat.le_of_eq e)))
                       clear hr6 hv6 k6 hb6 MARK _hh)
                    | (have _hh := MARK
                       have hx : Arg EStr ((y5.alloc (.cells #[] 9)).alloc (.cells #[.string ob] 9)).drew (.slice (some ⟨y5.heap.size + 1, 0, none⟩) 1 1) [ob] := Arg.blk (m_alloc (y5.alloc (.cells #[] 9)) _ _ (by simp)) [ob] rfl 1
                       refine step_app EStr.laid rfl _ _ 49 49 Try.underlying49 Try.underlying49 rfl _ [] rfl ((Row.new y5 w.heap.size #[] [] hB0 rfl (by decide)).alloc (.cells #[.string ob] 9)) _ all rfl ?e1 ?e2 ?e3 (Nat.le_trans hB0 (by simp <;> omega)) ?_
                       case e1 => exact HR51.out.arg.below (by repeat (first | exact Below.refl _ _ | assumption | (refine Below.drew ?_) | (refine below_drewN ?_ _) | (refine Below.alloc ?_ (by simp; done) _) | (refine Below.alloc ?_ (by simp; omega) _)))
                       case e2 => (show (0 + all.length) * 16 ≤ _; omega)
                       case e3 => (show 0 + all.length ≤ maxLen; unfold maxLen; omega)
                       intro v6 y6 hr6 hv6 k6
                       have hb6 : Below y5.heap.size y5 y6 := (show Below y5.heap.size y5 _ from (by repeat (first | exact Below.refl _ _ | assumption | (refine Below.drew ?_) | (refine below_drewN ?_ _) | (refine Below.alloc ?_ (by simp; done) _) | (refine Below.alloc ?_ (by simp; omega) _)))).trans (k6.toBelow (B := y5.heap.size) (by simp <;> omega) (fun i q => by first | exact Nat.le_of_eq (Option.some.inj q).symm | exact Nat.le_trans (by simp <;> omega) (Nat.le_of_eq (Option.some.inj q).symm)))
                       have c1e : y6.cell? ⟨BO, 1, none⟩ = some (.string ob) := by rw [hb6.cell (World.block_lt_of_cell? _ _ c1')]; exact c1'
                       obtain ⟨a6, c6, rfl⟩ := hr6.shape
                       rw [List.nil_append] at hr6 ⊢
                       have HR6 := Lib.hid hr6
                       have HB6 := Lib.hid hb6
                       have HX6 := Lib.hid (hx.keep k6 (fun i q e => by (have a := Option.some.inj q; have b := Option.some.inj e; simp at a b; omega)))
                       have HMB : True := trivial
                       clear hx
                       have HG6 := Lib.hid (show ∀ k, (Value.slice a6 all.length c6).ownBlock = some k → y5.heap.size ≤ k from fun k q => (hv6 k q).elim (fun e => by first | exact Nat.le_of_eq (Option.some.inj e) | exact Nat.le_trans (by simp <;> omega) (Nat.le_of_eq (Option.some.inj e))) (fun e => Nat.le_trans (by simp <;> omega) (Nat.le_of_eq e)))
                       clear hr6 hv6 k6 hb6 MARK _hh)
                    | (have _hh := MARK
                       have hrow : Row EStr ((y5.alloc (.cells #[.string ob] 9)).alloc (.cells #[] 9)) w.heap.size (.slice (some ⟨y5.heap.size + 1, 0, none⟩) 0 0) [] := by (have := Row.new (E := EStr) (y5.alloc (.cells #[.string ob] 9)) w.heap.size #[] [] (Nat.le_trans hB0 (by simp)) rfl (by decide); rw [World.size_alloc] at this; exact this)
                       have hx : Arg EStr ((y5.alloc (.cells #[.string ob] 9)).alloc (.cells #[] 9)).drew (.slice (some ⟨y5.heap.size, 0, none⟩) 1 1) [ob] := Arg.blk (m_old _ (m_alloc y5 _ _ rfl)) [ob] rfl 1
                       refine step_app EStr.laid rfl _ _ 49 49 Try.underlying49 Try.underlying49 rfl _ [] rfl hrow _ all rfl ?e1 ?e2 ?e3 (Nat.le_trans hB0 (by simp <;> omega)) ?_
                       case e1 => exact HR51.out.arg.below (by repeat (first | exact Below.refl _ _ | assumption | (refine Below.drew ?_) | (refine below_drewN ?_ _) | (refine Below.alloc ?_ (by simp; done) _) | (refine Below.alloc ?_ (by simp; omega) _)))
                       case e2 => (show (0 + all.length) * 16 ≤ _; omega)
                       case e3 => (show 0 + all.length ≤ maxLen; unfold maxLen; omega)
                       intro v6 y6 hr6 hv6 k6
                       have hb6 : Below y5.heap.size y5 y6 := (show Below y5.heap.size y5 _ from (by repeat (first | exact Below.refl _ _ | assumption | (refine Below.drew ?_) | (refine below_drewN ?_ _) | (refine Below.alloc ?_ (by simp; done) _) | (refine Below.alloc ?_ (by simp; omega) _)))).trans (k6.toBelow (B := y5.heap.size) (by simp <;> omega) (fun i q => by first | exact Nat.le_of_eq (Option.some.inj q).symm | exact Nat.le_trans (by simp <;> omega) (Nat.le_of_eq (Option.some.inj q).symm)))
                       have c1e : y6.cell? ⟨BO, 1, none⟩ = some (.string ob) := by rw [hb6.cell (World.block_lt_of_cell? _ _ c1')]; exact c1'
                       obtain ⟨a6, c6, rfl⟩ := hr6.shape
                       rw [List.nil_append] at hr6 ⊢
                       have HR6 := Lib.hid hr6
                       have HB6 := Lib.hid hb6
                       have HX6 := Lib.hid (hx.keep k6 (fun i q e => by (have a := Option.some.inj q; have b := Option.some.inj e; simp at a b; omega)))
                       have HMB : True := trivial
                       clear hx
                       have HG6 := Lib.hid (show ∀ k, (Value.slice a6 all.length c6).ownBlock = some k → y5.heap.size ≤ k from fun k q => (hv6 k q).elim (fun e => by first | exact Nat.le_of_eq (Option.some.inj e) | exact Nat.le_trans (by simp <;> omega) (Nat.le_of_eq (Option.some.inj e))) (fun e => Nat.le_trans (by simp <;> omega) (Nat.le_of_eq e)))
                       clear hr6 hv6 k6 hb6 MARK _hh)
                    )
                  all_goals
                    have hln : (all ++ [ob]).length = all.length + 1 := by simp
                    have hb5 : (all ++ [ob]).length ≤ i + 1 := by simp; omega
                    have HOC6 := Lib.hid ((HB7.out.block BO (m_lt HOC51.out)).trans HOC51.out)
                    have z1 := HR7.out
                    have z2 := HO7.out
                    rw [hln] at z1 z2
                    have HZ1 := Lib.hid z1
                    have HZ2 := Lib.hid z2
                    clear z1 z2 hln c1f c1' HO51 HR51 HOC51 HR7 HO7
                    go_wp2_with fail
                    go_meet
                    case rel => exact ⟨D', v', m0, all ++ [ob], none, rw6, by rw [him], rfl, rfl, HZ1.out, HZ2.out, HOC6.out, HV6.out, hl6, by omega, by omega, by omega, by omega⟩
          case rest =>
            rename World => w6
            rename Value => rv6
            obtain ⟨D6, v6, m6, all6, fr6, rw6, rfl, rfl, rfl, hR, hO, hOC, hV, hl6, hq6, hep6, hal6, hrl6⟩ := hcut
            obtain ⟨ra6, rc6, rfl⟩ := hR.shape
            have HO6 := Lib.hid hO
            have HR6 := Lib.hid hR
            have HV6 := Lib.hid hV
            have o4 : w6.cell? ⟨BO, 4, none⟩ = some (.bool ocr) := (m_cells hOC).1 4
            have o5 : w6.cell? ⟨BO, 5, none⟩ = some (.slice oka okn okc) := (m_cells hOC).1 5
            clear hO hR hV hOC HO1 HR1 HOC1 HV1 o0 o1 hwas
            cases ocr
            · go_wp2_with fail
              exact ⟨⟨i + 1, D6, v6, m6, all6, fr6, vb, rw6, by go_num, hlt, rfl, rfl, rfl, rfl, HR6.out, HO6.out.sub (fun k q => Or.inl q), HV6.out, hl6, hq6, by omega, hal6, hrl6⟩, by simp [intOf]; omega⟩
            · obtain ⟨D7, v7, p1, p2, p3, p4, p5, p6, p7, p8⟩ := HV6.out.crash_open kl
              obtain ⟨aa, m7, hvl, hrec7, hep7, hlen7⟩ : ∃ aa m7, Vlt 60 D7 v7 m7 aa none ∧ v7.recs = aa ∧ v7.ep ≤ 2 * i + 2 + 1 ∧ aa.length ≤ i + 1 := by
                rcases p8 with ⟨r1, r2, j, r3, r4, r5, r6⟩ | ⟨y, r1, r2, r3, r4, r5⟩
                · exact ⟨_, _, r6, r5, by omega, by rw [List.length_take]; omega⟩
                · exact ⟨_, _, r5, r4, by omega, by simp⟩
              obtain ⟨D8, q1, q2, q3, q4, q5⟩ := hvl.reopen p4 p2
              have hbel := HO6.out.bel
              have hkl2 : kl.length = okn := hkl
              have hopd := opened08_any (D2 := D7) (D3 := D8) (x := v7) (.slice oka okn okc) kl HO6.out.dev' HKA.out (by unfold maxLen; omega) (by show D6.size ≤ 4096; rw [HV6.out.size]; decide) (by omega) (by rw [hrec7]; omega) p1 q1 p7 q5 (by rw [hvl.size]; decide) (by rw [p3]; exact Nat.zero_le _) p2
              have HOPD := Lib.hid hopd
              have HV8 := Lib.hid q2
              have HP8 := Lib.hid p8
              clear p1 p2 p5 p6 p7 p8 q1 q5 hvl hopd hkl2 hbel
              go_wp2_with fail
              refine HOPD.out.mono ?_
              rintro e w7 ⟨vb7, rv7, rfl, h7, hh7⟩
              have HO7 := Lib.hid h7
              have HR7 := Lib.hid (HR6.out.kept (fun k q => hh7.block k (Or.inl q)))
              clear h7 hh7 HO6 HR6 HOPD o4 o5
              go_wp2_with fail
              refine (vrecords_any HO7.out (by rw [hrec7]; omega)).mono ?_
              rintro e w8 ⟨v8, rfl, hr8, hb8⟩
              rw [hrec7] at hr8
              obtain ⟨a8, c8, rfl⟩ := hr8.shape
              have HG8 := Lib.hid hr8
              have HO8 := Lib.hid (HO7.out.turn (R' := ownB (.slice a8 aa.length c8)) (keepBelow hb8) (fun k q => ⟨Or.inr (hr8.ge q), hr8.lt q⟩))
              have HR8 := Lib.hid (HR7.out.below hb8)
              have HB7 := Lib.hid HO7.out.bel.size
              clear hr8 hb8 HO7 HR7
              go_wp2_with fail
              have g6 : all6.length ≤ rc6 := by
                rcases HR8.out.cases with ⟨e, q⟩ | ⟨gg, cc, e, h1, h2⟩
                · rw [q]; exact Nat.zero_le _
                · simp only [Value.slice.injEq] at e; omega
              rcases HP8.out with ⟨r1, r2, j, r3, r4, r5, r6⟩ | ⟨y, r1, r2, r3, r4, r5⟩
              · have haa : aa = all6.take aa.length := by rw [← hrec7, r5, List.length_take, Nat.min_eq_left r4]
                have hj : aa.length = j := by rw [← hrec7, r5, List.length_take]; omega
                have g1 : (m6 : Int) ≤ aa.length := by omega
                have g2 : (aa.length : Int) ≤ all6.length := by omega
                have g3 : m6 ≤ aa.length := by omega
                have g4 : aa.length ≤ all6.length := by omega
                have g5 : min (aa.length : Int) (all6.length : Int) = aa.length := by omega
                have HAA := Lib.hid haa
                have g7 : (aa.length : Int) ≤ rc6 := by omega
                have g8 : aa.length ≤ rc6 := by omega
                clear haa hj r2 r3 r4 r5 r6 HP8
                refine (vimage_any HO8.out).mono ?_
                rintro e w9 ⟨rfl, rfl⟩
                rw [r1]
                go_wp2_with fail
                refine (same_any w9 _ _ _ _ HG8.out.arg (HR8.out.arg.take aa.length g4) (by unfold maxLen; omega) (by rw [List.length_take]; unfold maxLen; omega)).mono ?_
                rintro e w10 ⟨rfl, hb10⟩
                rw [decide_eq_true HAA.out]
                have HO10 := Lib.hid (HO8.out.below hb10)
                have HG10 := Lib.hid (HG8.out.below hb10)
                clear hb10 HO8 HG8 HR8
                go_wp2_with fail
                refine (vimage_any HO10.out).mono ?_
                rintro e w11 ⟨rfl, rfl⟩
                go_wp2_with fail
                exact ⟨⟨i + 1, D8, v7, aa.length, aa, none, vb7, rv7, by go_num, hlt, by rw [r1], rfl, rfl, rfl, HG10.out.mono (show w.heap.size ≤ w7.heap.size from HB7.out), HO10.out, HV8.out, by rw [q3]; decide, by rw [q4]; exact Nat.zero_le _, by omega, hlen7, by rw [hrec7]; exact hlen7⟩, by simp [intOf]; omega⟩
              · have haa : aa = [] := by rw [← hrec7, r4]
                subst haa
                have hy0 : y.size ≠ 0 := (HV6.out.fresh y r1).1.1
                have n9 : (y.toList == []) = false := by rw [Bool.eq_false_iff, ne_eq, empty_iff]; exact fun e => hy0 (by rw [e]; rfl)
                subst r1
                have hfb : frB_of (some y) = y := rfl
                have n11 : (y.toList == y.toList) = true := by simp
                clear r3 r4 r5 HP8
                refine (vimage_any HO8.out).mono ?_
                rintro e w9 ⟨rfl, rfl⟩
                rw [r2]
                by_cases hy : y = v6.img
                · by_cases hm : m6 = 0
                  · subst hm
                    have n10 : (y.toList == v6.img.toList) = true := (str_eq_iff _ _).2 hy
                    have n12 : (v6.img.toList == v6.img.toList) = true := by simp
                    clear hy
                    go_wp2_with fail
                    refine (same_any w9 _ _ [] [] HG8.out.arg (HR8.out.arg.take 0 (Nat.zero_le _)) (by simp) (by simp)).mono ?_
                    rintro e w10 ⟨rfl, hb10⟩
                    rw [decide_eq_true rfl]
                    have HO9 := Lib.hid (HO8.out.below hb10)
                    have HG9 := Lib.hid (HG8.out.below hb10)
                    clear hb10 HO8 HG8 HR8
                    go_wp2_with fail
                    refine (vimage_any HO9.out).mono ?_
                    rintro e w11 ⟨rfl, rfl⟩
                    go_wp2_with fail
                    exact ⟨⟨i + 1, D8, v7, 0, [], none, vb7, rv7, by go_num, hlt, by rw [r2], rfl, rfl, rfl, HG9.out.mono (show w.heap.size ≤ w7.heap.size from HB7.out), HO9.out, HV8.out, by rw [q3]; decide, by rw [q4]; exact Nat.zero_le _, by omega, hlen7, by rw [hrec7]; exact hlen7⟩, by simp [intOf]; omega⟩
                  · have n10 : (y.toList == v6.img.toList) = true := (str_eq_iff _ _).2 hy
                    have g1 : decide ((m6 : Int) ≤ 0) = false := decide_eq_false (by omega)
                    have g2 : ¬ ((m6 : Int) ≤ 0) := by omega
                    have g3 : ¬ (m6 ≤ 0) := by omega
                    have HO9 := HO8
                    have HG9 := HG8
                    clear hy HR8
                    go_wp2_with fail
                    refine (vimage_any HO9.out).mono ?_
                    rintro e w10 ⟨rfl, rfl⟩
                    rw [r2]
                    go_wp2_with fail
                    refine (vimage_any HO9.out).mono ?_
                    rintro e w11 ⟨rfl, rfl⟩
                    go_wp2_with fail
                    exact ⟨⟨i + 1, D8, v7, 0, [], none, vb7, rv7, by go_num, hlt, by rw [r2], rfl, rfl, rfl, HG9.out.mono (show w.heap.size ≤ w7.heap.size from HB7.out), HO9.out, HV8.out, by rw [q3]; decide, by rw [q4]; exact Nat.zero_le _, by omega, hlen7, by rw [hrec7]; exact hlen7⟩, by simp [intOf]; omega⟩
                · have n10 : (y.toList == v6.img.toList) = false := by rw [Bool.eq_false_iff, ne_eq, str_eq_iff]; exact hy
                  have HO9 := HO8
                  have HG9 := HG8
                  clear HR8
                  go_wp2_with fail
                  refine (vimage_any HO9.out).mono ?_
                  rintro e w10 ⟨rfl, rfl⟩
                  rw [r2]
                  go_wp2_with fail
                  refine (vimage_any HO9.out).mono ?_
                  rintro e w11 ⟨rfl, rfl⟩
                  go_wp2_with fail
                  exact ⟨⟨i + 1, D8, v7, 0, [], none, vb7, rv7, by go_num, hlt, by rw [r2], rfl, rfl, rfl, HG9.out.mono (show w.heap.size ≤ w7.heap.size from HB7.out), HO9.out, HV8.out, by rw [q3]; decide, by rw [q4]; exact Nat.zero_le _, by omega, hlen7, by rw [hrec7]; exact hlen7⟩, by simp [intOf]; omega⟩
      · have ei : i = l.length := by omega
        subst ei
        have i2 : ¬ ((l.length : Int) < l.length) := by omega
        go_wp2_with fail
        go_ret
        exact ⟨rfl, HO.out.bel⟩
end Go.Proofs.Ytncbojocglcieaa
