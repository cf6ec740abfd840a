/- bank's law: BankLoses. -/
import Derived.Test.YtncbojocglcieaaP10
import Derived.Test.YtncbojocglcieaaB13
import Derived.Test.YtncbojocglcieaaB11
namespace Go.Proofs.Ytncbojocglcieaa
open Go.RowKit
set_option linter.unusedSimpArgs false
set_option linter.unusedVariables false
def lis (rs : List ByteArray) : List (List UInt8) := rs.map fun r => r.data.toList
theorem lis_bL (rs : List ByteArray) : (lis rs).map bL = rs := by
  unfold lis
  rw [List.map_map]
  conv => rhs; rw [← List.map_id rs]
  apply List.map_congr_left
  intro x _
  simp [bL]
theorem enumPos_append (a b : List ByteArray) : ∀ p, enumPos p (a ++ b) = enumPos p a ++ enumPos (p + a.length) b := by
  induction a with
  | nil => intro p; simp [enumPos]
  | cons x a ih =>
    intro p
    rw [List.cons_append, enumPos, ih, enumPos, List.cons_append]
    congr 3
    simp only [List.length_cons]; omega
def Flushed (D : DevD) (rs : List ByteArray) (m0 : Nat) : Prop :=
  ∃ D0 a0, Bank D0 0 80 a0 (lis (rs.take m0)) ∧ D0.size = 80 ∧ D.safe = D0.seen ∧ D.queue = enumPos a0 ((lis (rs.drop m0)).flatMap cutL)
theorem Bank.flush {D : DevD} {f : Int} {n a : Nat} {rs : List (List UInt8)} (h : Bank D f n a rs) : Bank D.flush f n a rs := ⟨h.left, h.pos, h.on, h.good, h.len, h.fits, h.ok, h.secs⟩
theorem Flushed.now {D : DevD} {a : Nat} {rs : List ByteArray} (h : Bank D 0 80 a (lis rs)) (hs : D.size = 80) : Flushed D.flush rs rs.length :=
  ⟨D, a, by rw [List.take_length]; exact h, hs, rfl, by rw [List.drop_length]; rfl⟩
theorem Flushed.more {D : DevD} {a m0 : Nat} {rs : List ByteArray} {x : ByteArray} (h : Flushed D rs m0) (hm : m0 ≤ rs.length) (hb : Bank D 0 80 a (lis rs)) (hs : D.size = 80) (hf : a + nframes x.size ≤ 80) : Flushed (D.puts ((0 : Int) + a) (cutL x.data.toList)).1 (rs ++ [x]) m0 := by
  obtain ⟨D0, a0, h1, h2, h3, h4⟩ := h
  have hxl : x.data.toList.length = x.size := by rw [Array.length_toList]; rfl
  obtain ⟨i1, i2, i3, i4, i5, i6⟩ := puts_ok (cutL x.data.toList) D ((0 : Int) + a) hb.left (by omega) (by rw [cutL_length, hxl]; omega) (cutL_64 _)
  refine ⟨D0, a0, by rw [List.take_append_of_le_length hm]; exact h1, h2, by rw [i4]; exact h3, ?_⟩
  rw [i5, h4, List.drop_append_of_le_length hm]
  have e : lis (rs.drop m0 ++ [x]) = lis (rs.drop m0) ++ [x.data.toList] := by simp [lis]
  rw [e, List.flatMap_append, List.flatMap_singleton, enumPos_append]
  congr 2
  have ha := hb.len
  have ha0 := h1.len
  have e2 : lis rs = lis (rs.take m0) ++ lis (rs.drop m0) := by unfold lis; rw [← List.map_append, List.take_append_drop]
  rw [e2, List.flatMap_append, List.length_append] at ha
  omega
theorem loses_write {D : DevD} {a : Nat} {rs : List ByteArray} (hb : Bank D 0 80 a (lis rs)) (hs : D.size = 80) (x : ByteArray) :
    (∃ E : Int, E ≠ 0 ∧ D.write 0 80 a x = (D, 0, E)) ∨ (∃ D2 a2, D.write 0 80 a x = (D2, ((a2 : Nat) : Int), 0) ∧ Bank D2 0 80 a2 (lis (rs ++ [x])) ∧ D2.size = 80 ∧ D2.queue.length ≤ D.queue.length + 80 ∧ ∀ m0, m0 ≤ rs.length → Flushed D rs m0 → Flushed D2 (rs ++ [x]) m0) := by
  have hxl : x.data.toList.length = x.size := by rw [Array.length_toList]; rfl
  by_cases h6 : x.size ≤ 60000
  · by_cases h0 : x.size = 0 ∨ 80 < a + nframes x.size
    · left
      refine ⟨if x.size = 0 then 4 else 11, by split <;> decide, ?_⟩
      exact hb.write_bad (by decide) x h6 h0
    · right
      have hf : a + nframes x.size ≤ 80 := by omega
      have hw := hb.write_ok (by decide) x h6 (by omega) hf
      have hm := hb.more x.data.toList (fun e => by rw [e] at hxl; simp at hxl; omega) (by rw [hxl]; exact h6) (by rw [hxl]; exact hf)
      obtain ⟨p1, p2, p3⟩ := puts_size D (cutL x.data.toList) ((0 : Int) + a)
      refine ⟨_, a + nframes x.size, hw, ?_, by rw [p1, hs], ?_, fun m0 h1 h2 => h2.more h1 hb hs hf⟩
      · rw [hxl] at hm
        unfold lis at hm ⊢
        rw [List.map_append]
        exact hm
      · rw [cutL_length, hxl] at p2; omega
  · left
    refine ⟨4, by decide, ?_⟩
    have e : D.wErr 0 80 a x.size = 4 := by
      have ho : D.on 0 80 = true := by unfold DevD.on; rw [decide_eq_true_eq, hs]; omega
      have := hb.len
      unfold DevD.wErr
      rw [if_neg (by rw [hb.left]; decide), if_neg (by rw [ho]; simp; omega), if_pos (by omega)]
    unfold DevD.write
    rw [e]; rfl
theorem Flushed.scan {D : DevD} {a m0 : Nat} {rs : List ByteArray} (h : Flushed D rs m0) (hm : m0 ≤ rs.length) (hb : Bank D 0 80 a (lis rs)) (hs : D.size = 80) (kept : List Int) :
    ∃ t e, m0 ≤ t ∧ t ≤ rs.length ∧ (D.restart kept).scan 0 80 = (lis (rs.take t), e, 0) ∧ ∀ i, ((D.restart kept).sec i).size = 64 := by
  obtain ⟨D0, a0, h1, h2, h3, h4⟩ := h
  have e2 : lis rs = lis (rs.take m0) ++ lis (rs.drop m0) := by unfold lis; rw [← List.map_append, List.take_append_drop]
  have ha := hb.len
  have ha0 := h1.len
  have hfit := hb.fits
  have hok := hb.ok
  rw [e2] at hok
  rw [e2, List.flatMap_append, List.length_append] at ha
  obtain ⟨j, e, hj, hsc, hg⟩ := restart_scan h1 (by decide) h3 h4 (by rw [hs, h2]) (fun r hr => hok r (List.mem_append_right _ hr)) (by omega) kept
  have hjl : (lis (rs.drop m0)).length = rs.length - m0 := by unfold lis; rw [List.length_map, List.length_drop]
  refine ⟨m0 + j, e, Nat.le_add_right _ _, by omega, ?_, hg⟩
  have e3 : lis (rs.take m0) ++ (lis (rs.drop m0)).take j = lis (rs.take (m0 + j)) := by
    unfold lis
    rw [← List.map_take, ← List.map_append, ← List.take_add]
  rw [← e3]
  exact hsc
theorem Row.cases {α : Type} {E : EK α} {w : World} {B : Nat} {v : Value} {l : List α} (h : Row E w B v l) : (v = .slice none 0 0 ∧ l = []) ∨ ∃ g cap, v = .slice (some ⟨g, 0, none⟩) l.length cap ∧ l.length ≤ cap ∧ cap ≤ maxLen := by
  rcases h.2 with ⟨e, q⟩ | ⟨g, cap, cur, e, _, _, h1, h2, _⟩
  · exact Or.inl ⟨e, List.eq_nil_of_length_eq_zero q⟩
  · exact Or.inr ⟨g, cap, e, h1, h2⟩
theorem Arg.take {α : Type} {E : EK α} {w : World} {a : Option Addr} {n c : Nat} {l : List α} (h : Arg E w (.slice a n c) l) (t : Nat) (ht : t ≤ l.length) : Arg E w (.slice a t c) (l.take t) := by
  obtain ⟨a', c', e, h⟩ := h
  simp only [Value.slice.injEq] at e
  obtain ⟨rfl, -, rfl⟩ := e
  refine ⟨a, c, by rw [List.length_take, Nat.min_eq_left ht], ?_⟩
  rcases h with ⟨rfl, rfl, rfl⟩ | ⟨x, rfl, hc⟩
  · exact Or.inl ⟨rfl, rfl, by simp⟩
  · refine Or.inr ⟨x, rfl, fun j u hj => hc j u ?_⟩
    have e : l.flatMap E.enc = (l.take t).flatMap E.enc ++ (l.drop t).flatMap E.enc := by rw [← List.flatMap_append, List.take_append_drop]
    rw [e, List.getElem?_append_left (List.getElem?_eq_some_iff.1 hj).1, hj]
def LosesRel (w0 : World) (g ls lb : Nat) (av wv fv iv : Value) (wr : World) : Prop :=
  ∃ (i a m0 : Nat) (rs : List ByteArray) (D : DevD), iv = .int .i64 i ∧ i ≤ ls + lb ∧ av = .int .i64 a ∧ fv = .int .i64 m0 ∧ Row EStr wr w0.heap.size wv rs ∧ rs.length ≤ i ∧
    Bank D 0 80 a (lis rs) ∧ D.size = 80 ∧ D.queue.length ≤ 80 * i ∧ OwnR w0 wr (ownB wv) g D ∧ m0 ≤ rs.length ∧ (ls < i → Flushed D rs m0) ∧ (i ≤ ls → m0 = 0)
set_option maxRecDepth 100000 in
set_option maxHeartbeats 4000000 in
theorem bankloses_any (v1 v2 v3 : Value) (l1 l2 : List ByteArray) (l3 : List Int) (w : World) (h1 : Arg EStr w v1 l1) (h2 : Arg EStr w v2 l2) (h3 : Arg EInt w v3 l3) (m1 : l1.length ≤ maxLen) (m2 : l2.length ≤ maxLen) (m3 : l3.length ≤ maxLen)
    (g1 : ∀ x ∈ l1, x.size ≤ maxLen) (g2 : ∀ x ∈ l2, x.size ≤ maxLen) :
    Calls Try.prog 11 #[v1, v2, v3] w fun e w' => e = .returned (.bool true) ∧ Below w.heap.size w w' := by
  obtain ⟨a1, c1, rfl⟩ := h1.shape
  obtain ⟨a2, c2, rfl⟩ := h2.shape
  obtain ⟨a3, c3, rfl⟩ := h3.shape
  have A1 := Lib.hid h1
  have A2 := Lib.hid h2
  have A3 := Lib.hid h3
  have G1 := Lib.hid g1
  have G2 := Lib.hid g2
  have M3 := Lib.hid m3
  unfold maxLen at m1 m2 m3
  clear h1 h2 h3 g1 g2
  by_cases hs : l1.length ≤ 8 ∧ l2.length ≤ 8 ∧ l3.length ≤ 60
  · obtain ⟨s1, s2, s3⟩ := hs
    have d1 : decide ((8 : Int) < l1.length) = false := decide_eq_false (by omega)
    have d2 : decide ((8 : Int) < l2.length) = false := decide_eq_false (by omega)
    have d3 : decide ((60 : Int) < l3.length) = false := decide_eq_false (by omega)
    go_enter Try.func11, Try.ntmps11
    go_wp2_with fail
    refine (awake07_any _).mono ?_
    rintro e w1 ⟨rfl, hb1⟩
    go_wp2_with fail
    refine (own_new w w1 80 hb1).mono ?_
    rintro e w2 ⟨g, rfl, h2⟩
    have H2 := Lib.hid (show OwnR w w2 (fun _ => False) g ⟨80, [], [], [], -1⟩ from h2.r)
    clear h2
    go_wp2_with fail
    go_loopw [8, 9, 10, 11] (fun av wv fv iv wr => LosesRel w g l1.length l2.length av wv fv iv wr) (fun _ _ _ iv _ => l1.length + l2.length - (intOf iv).toNat)
    case atStart => exact ⟨0, 1, 0, [], _, rfl, Nat.zero_le _, rfl, rfl, Row.nil _ _ _, Nat.le_refl _, Bank.new 80 0 80 (by decide) (by decide), rfl, Nat.le_refl _, H2.out.sub (fun i q => by simp [ownB, Value.ownBlock] at q), Nat.le_refl _, fun q => absurd q (Nat.not_lt_zero _), fun _ => rfl⟩
    case round =>
      obtain ⟨i, a, m0, rs, D, rfl, hi, rfl, rfl, hr, hrl, hB, hDs, hDq, hO, hm0, hfl, hm00⟩ := hrel
      have HR := Lib.hid hr
      have HB := Lib.hid hB
      have HO := Lib.hid hO
      have HFL := Lib.hid hfl
      have HM0 := Lib.hid hm00
      have ha1 : 1 ≤ a := by have := hB.len; omega
      have ha2 : a ≤ 80 := hB.fits
      obtain ⟨oa, oc, rfl⟩ := hr.shape
      clear hr hB hO hfl hm00
      by_cases hlt : i < l1.length
      · have i1 : (i : Int) < l1.length := by omega
        have i2 : (i : Int) < l1.length + l2.length := by omega
        have i3 : ((i : Int) == l1.length) = false := by simp; omega
        have i4 : (i == l1.length) = false := by simp; omega
        obtain ⟨x, hx⟩ : ∃ x, l1[i]? = some x := ⟨_, List.getElem?_eq_getElem hlt⟩
        have hxm := G1.out x (List.mem_of_getElem? hx)
        unfold maxLen at hxm
        obtain ⟨gl, ol, kl, e1, hcl⟩ := A1.out.cells (by intro q; rw [q] at hlt; simp at hlt)
        simp only [Value.slice.injEq] at e1
        obtain ⟨rfl, -, rfl⟩ := e1
        have cw : w.cell? ⟨gl, ol + i, none⟩ = some (.string x) := by have := hcl i x hx 0 (by decide); simpa [EStr] using this
        have c1 := cell_later HO.out.bel cw
        clear hcl hx
        go_wp2_with fail
        rcases loses_write HB.out hDs x with ⟨E, hE, hw⟩ | ⟨D2, a2, hw, hB2, hs2, hq2, hfl2⟩
        · have HW := Lib.hid hw
          have e0 : (E == 0) = false := by simpa using hE
          clear hw hE
          refine (write_all 0 80 a x HO.out (by rw [hDs]; decide) (by omega) (by rw [HB.out.left]; decide) (by omega) (by decide) (by omega)).mono ?_
          rintro e w4 ⟨rfl, h4, hh4⟩
          rw [HW.out] at h4 ⊢
          have HO4 := Lib.hid h4
          have HR4 := Lib.hid (HR.out.kept (fun k q => hh4.block k q))
          clear h4 hh4
          go_wp2_with fail
          exact ⟨⟨i + 1, a, m0, rs, D, by go_num, by omega, rfl, rfl, HR4.out, by omega, HB.out, hDs, (by omega), HO4.out, hm0, fun q => absurd q (by omega), fun q => HM0.out (by omega)⟩, by simp [intOf]; omega⟩
        · have HW := Lib.hid hw
          have HB2 := Lib.hid hB2
          have HF2 := Lib.hid hfl2
          clear hw hB2 hfl2
          refine (write_all 0 80 a x HO.out (by rw [hDs]; decide) (by omega) (by rw [HB.out.left]; decide) (by omega) (by decide) (by omega)).mono ?_
          rintro e w4 ⟨rfl, h4, hh4⟩
          rw [HW.out] at h4 ⊢
          have HO4 := Lib.hid h4
          have HR4 := Lib.hid (HR.out.kept (fun k q => hh4.block k q))
          clear h4 hh4
          have hB0 : w.heap.size ≤ w4.heap.size := HO4.out.bel.size
          go_wp2_with (first
            | (refine app_row EStr.laid rfl _ _ 49 49 Try.underlying49 Try.underlying49 rfl _ rs rfl (HR4.out.alloc _) _ [x] rfl ?e1 ?e2 ?e3 (Nat.le_trans hB0 (by simp)) ?_
               case e1 => exact Arg.blk (m_alloc _ _ _ rfl) [x] rfl 1
               case e2 => (show (rs.length + 1) * 16 ≤ _; omega)
               case e3 => (show rs.length + 1 ≤ maxLen; unfold maxLen; omega)
               intro v6 w6 hr6 hv6 k6))
          have hO5 := (HO4.out.below (w' := w4.alloc (.cells #[.string x] 9)) ((Below.refl _ _).alloc (Nat.le_refl _) _)).turn (R' := ownB v6) (k6.mono (fun i q => Or.inl q.symm)) (fun j q => ⟨(hv6 j q).imp id (fun e => Nat.le_of_eq e), hr6.lt q⟩)
          exact ⟨⟨i + 1, a2, m0, rs ++ [x], D2, by go_num, by omega, rfl, rfl, hr6, by simp; omega, HB2.out, hs2, (by have hqq : D2.queue.length ≤ _ := hq2; omega), hO5, (by rw [List.length_append]; exact Nat.le_trans (hm0) (Nat.le_add_right _ _)), fun q => absurd q (by omega), fun q => HM0.out (by omega)⟩, by simp [intOf]; omega⟩
      · by_cases hlt2 : i < l1.length + l2.length
        · obtain ⟨j, rfl⟩ : ∃ j, i = l1.length + j := ⟨i - l1.length, by omega⟩
          have i1 : ¬ (((l1.length + j : Nat) : Int) < l1.length) := by omega
          have i2 : ((l1.length + j : Nat) : Int) < l1.length + l2.length := by omega
          have i3 : ((l1.length + j : Nat) : Int) - l1.length = j := by omega
          have i5 : (j : Int) < l2.length := by omega
          obtain ⟨x, hx⟩ : ∃ x, l2[j]? = some x := ⟨_, List.getElem?_eq_getElem (by omega)⟩
          have hxm := G2.out x (List.mem_of_getElem? hx)
          unfold maxLen at hxm
          obtain ⟨gl, ol, kl, e1, hcl⟩ := A2.out.cells (by intro q; rw [q] at i5; simp at i5; omega)
          simp only [Value.slice.injEq] at e1
          obtain ⟨rfl, -, rfl⟩ := e1
          have cw : w.cell? ⟨gl, ol + j, none⟩ = some (.string x) := by have := hcl j x hx 0 (by decide); simpa [EStr] using this
          have c1 := cell_later HO.out.bel cw
          clear hcl hx
          by_cases hj0 : j = 0
          · subst hj0
            have c1 : wr.cell? ⟨gl, ol, none⟩ = some (.string x) := c1
            have cw : w.cell? ⟨gl, ol, none⟩ = some (.string x) := cw
            have i6 : (0 : Int) < l2.length := by omega
            have f3 : (((l1.length + 0 : Nat) : Int) == l1.length) = true := by simp
            go_wp2_with fail
            refine (ownr_flush HO.out).mono ?_
            rintro e w3 ⟨rfl, h3, hh3⟩
            rw [if_neg (by rw [HB.out.left]; decide)] at h3 ⊢
            have HO3 := Lib.hid h3
            have HR3 := Lib.hid (HR.out.kept (fun k q => hh3.block k q))
            have c3' := cell_later HO3.out.bel cw
            have hBf := HB.out.flush
            have hDf : D.flush.size = 80 := hDs
            have hqf : D.flush.queue.length = 0 := rfl
            have HBF := Lib.hid hBf
            have HFN := Lib.hid (Flushed.now HB.out hDs)
            clear h3 hh3 c1 hBf
            generalize D.flush = DF at *
            go_wp2_with fail
            rcases loses_write HBF.out hDf x with ⟨E, hE, hw⟩ | ⟨D2, a2, hw, hB2, hs2, hq2, hfl2⟩
            · have HW := Lib.hid hw
              have e0 : (E == 0) = false := by simpa using hE
              clear hw hE
              refine (write_all 0 80 a x HO3.out (by rw [hDf]; decide) (by omega) (by rw [HBF.out.left]; decide) (by omega) (by decide) (by omega)).mono ?_
              rintro e w4 ⟨rfl, h4, hh4⟩
              rw [HW.out] at h4 ⊢
              have HO4 := Lib.hid h4
              have HR4 := Lib.hid (HR3.out.kept (fun k q => hh4.block k q))
              clear h4 hh4
              go_wp2_with fail
              exact ⟨⟨l1.length + 0 + 1, a, rs.length, rs, DF, by go_num, by omega, rfl, rfl, HR4.out, by omega, HBF.out, hDf, (by omega), HO4.out, (Nat.le_refl _), fun _ => HFN.out, fun q => absurd q (by omega)⟩, by simp [intOf]; omega⟩
            · have HW := Lib.hid hw
              have HB2 := Lib.hid hB2
              have HF2 := Lib.hid hfl2
              clear hw hB2 hfl2
              refine (write_all 0 80 a x HO3.out (by rw [hDf]; decide) (by omega) (by rw [HBF.out.left]; decide) (by omega) (by decide) (by omega)).mono ?_
              rintro e w4 ⟨rfl, h4, hh4⟩
              rw [HW.out] at h4 ⊢
              have HO4 := Lib.hid h4
              have HR4 := Lib.hid (HR3.out.kept (fun k q => hh4.block k q))
              clear h4 hh4
              have hB0 : w.heap.size ≤ w4.heap.size := HO4.out.bel.size
              go_wp2_with (first
                | (refine app_row EStr.laid rfl _ _ 49 49 Try.underlying49 Try.underlying49 rfl _ rs rfl (HR4.out.alloc _) _ [x] rfl ?e1 ?e2 ?e3 (Nat.le_trans hB0 (by simp)) ?_
                   case e1 => exact Arg.blk (m_alloc _ _ _ rfl) [x] rfl 1
                   case e2 => (show (rs.length + 1) * 16 ≤ _; omega)
                   case e3 => (show rs.length + 1 ≤ maxLen; unfold maxLen; omega)
                   intro v6 w6 hr6 hv6 k6))
              have hO5 := (HO4.out.below (w' := w4.alloc (.cells #[.string x] 9)) ((Below.refl _ _).alloc (Nat.le_refl _) _)).turn (R' := ownB v6) (k6.mono (fun i q => Or.inl q.symm)) (fun j q => ⟨(hv6 j q).imp id (fun e => Nat.le_of_eq e), hr6.lt q⟩)
              exact ⟨⟨l1.length + 0 + 1, a2, rs.length, rs ++ [x], D2, by go_num, by omega, rfl, rfl, hr6, by simp; omega, HB2.out, hs2, (by have hqq : D2.queue.length ≤ _ := hq2; omega), hO5, (by rw [List.length_append]; exact Nat.le_trans ((Nat.le_refl _)) (Nat.le_add_right _ _)), fun _ => HF2.out _ (Nat.le_refl _) HFN.out, fun q => absurd q (by omega)⟩, by simp [intOf]; omega⟩
          · have f3 : (((l1.length + j : Nat) : Int) == l1.length) = false := by simp; omega
            go_wp2_with fail
            rcases loses_write HB.out hDs x with ⟨E, hE, hw⟩ | ⟨D2, a2, hw, hB2, hs2, hq2, hfl2⟩
            · have HW := Lib.hid hw
              have e0 : (E == 0) = false := by simpa using hE
              clear hw hE
              refine (write_all 0 80 a x HO.out (by rw [hDs]; decide) (by omega) (by rw [HB.out.left]; decide) (by omega) (by decide) (by omega)).mono ?_
              rintro e w4 ⟨rfl, h4, hh4⟩
              rw [HW.out] at h4 ⊢
              have HO4 := Lib.hid h4
              have HR4 := Lib.hid (HR.out.kept (fun k q => hh4.block k q))
              clear h4 hh4
              go_wp2_with fail
              exact ⟨⟨l1.length + j + 1, a, m0, rs, D, by go_num, by omega, rfl, rfl, HR4.out, by omega, HB.out, hDs, (by omega), HO4.out, hm0, fun _ => HFL.out (by omega), fun q => absurd q (by omega)⟩, by simp [intOf]; omega⟩
            · have HW := Lib.hid hw
              have HB2 := Lib.hid hB2
              have HF2 := Lib.hid hfl2
              clear hw hB2 hfl2
              refine (write_all 0 80 a x HO.out (by rw [hDs]; decide) (by omega) (by rw [HB.out.left]; decide) (by omega) (by decide) (by omega)).mono ?_
              rintro e w4 ⟨rfl, h4, hh4⟩
              rw [HW.out] at h4 ⊢
              have HO4 := Lib.hid h4
              have HR4 := Lib.hid (HR.out.kept (fun k q => hh4.block k q))
              clear h4 hh4
              have hB0 : w.heap.size ≤ w4.heap.size := HO4.out.bel.size
              go_wp2_with (first
                | (refine app_row EStr.laid rfl _ _ 49 49 Try.underlying49 Try.underlying49 rfl _ rs rfl (HR4.out.alloc _) _ [x] rfl ?e1 ?e2 ?e3 (Nat.le_trans hB0 (by simp)) ?_
                   case e1 => exact Arg.blk (m_alloc _ _ _ rfl) [x] rfl 1
                   case e2 => (show (rs.length + 1) * 16 ≤ _; omega)
                   case e3 => (show rs.length + 1 ≤ maxLen; unfold maxLen; omega)
                   intro v6 w6 hr6 hv6 k6))
              have hO5 := (HO4.out.below (w' := w4.alloc (.cells #[.string x] 9)) ((Below.refl _ _).alloc (Nat.le_refl _) _)).turn (R' := ownB v6) (k6.mono (fun i q => Or.inl q.symm)) (fun j q => ⟨(hv6 j q).imp id (fun e => Nat.le_of_eq e), hr6.lt q⟩)
              exact ⟨⟨l1.length + j + 1, a2, m0, rs ++ [x], D2, by go_num, by omega, rfl, rfl, hr6, by simp; omega, HB2.out, hs2, (by have hqq : D2.queue.length ≤ _ := hq2; omega), hO5, (by rw [List.length_append]; exact Nat.le_trans (hm0) (Nat.le_add_right _ _)), fun _ => HF2.out _ hm0 (HFL.out (by omega)), fun q => absurd q (by omega)⟩, by simp [intOf]; omega⟩
        · have ei : i = l1.length + l2.length := by omega
          subst ei
          have i1 : ¬ (((l1.length + l2.length : Nat) : Int) < l1.length + l2.length) := by omega
          by_cases hz : l2.length = 0
          · have z1 : ((l2.length : Int) == 0) = true := by rw [hz]; rfl
            have z2 : (l2.length == 0) = true := by rw [hz]; rfl
            have hbl : (l1.length + l2.length) ≤ l1.length := by omega
            go_wp2_with fail
            refine (ownr_flush HO.out).mono ?_
            rintro e w3 ⟨rfl, h3, hh3⟩
            rw [if_neg (by rw [HB.out.left]; decide)] at h3 ⊢
            have HO3 := Lib.hid h3
            have HR3 := Lib.hid (HR.out.kept (fun k q => hh3.block k q))
            have hBf := HB.out.flush
            have hDf : D.flush.size = 80 := hDs
            have hqf : D.flush.queue.length = 0 := rfl
            have HBF := Lib.hid hBf
            have HFN := Lib.hid (Flushed.now HB.out hDs)
            clear h3 hh3 hBf
            generalize D.flush = DF at *
            go_wp2_with fail
            obtain ⟨t, ex, ht1, ht2, hsc, hgood⟩ := Flushed.scan HFN.out (Nat.le_refl _) HBF.out hDf l3
            have HSC := Lib.hid hsc
            have HGD := Lib.hid hgood
            clear hsc hgood
            refine (ownr_restart HO3.out _ l3 A3.out M3.out (by omega)).mono ?_
            rintro e w5 ⟨rfl, h5, hh5⟩
            have HO5 := Lib.hid h5
            have HR5 := Lib.hid (HR3.out.kept (fun k q => hh5.block k q))
            have hsz5 : (DF.restart l3).size ≤ 4096 := by show DF.size ≤ 4096; rw [hDf]; decide
            clear h5 hh5
            generalize DF.restart l3 = DR at *
            go_wp2_with fail
            refine (scan_any 0 80 HO5.out (by decide) hsz5 HGD.out).mono ?_
            rintro e w6 ⟨gv, rfl, hr6, h6, hb6⟩
            rw [HSC.out] at hr6 ⊢
            rw [lis_bL] at hr6
            have htl : (rs.take t).length = t := by rw [List.length_take, Nat.min_eq_left ht2]
            obtain ⟨ga, gc, rfl⟩ := hr6.shape
            rw [htl] at hr6 ⊢
            have HR6 := Lib.hid hr6
            have HR7 := Lib.hid (HR5.out.below hb6)
            have HO6 := Lib.hid h6.bel
            have HTL := Lib.hid htl
            have ht3 : ¬ ((t : Int) < rs.length) := by omega
            have ht4 : (t : Int) ≤ rs.length := by omega
            have ht5 : decide (t < rs.length) = false := decide_eq_false (by omega)
            clear hr6 h6 hb6 htl
            rcases HR7.out.cases with ⟨e', he⟩ | ⟨gw, cw2, e', hc1, hc2⟩
            · simp only [Value.slice.injEq] at e'
              obtain ⟨rfl, e4, rfl⟩ := e'
              subst he
              have ht0 : t = 0 := by simpa using ht2
              subst ht0
              go_wp2_with fail
              refine (same_any _ _ _ ([].take 0) ([].take 0) HR6.out.arg (Arg.take HR7.out.arg 0 (Nat.le_refl _)) (by simp) (by simp)).mono ?_
              rintro e w7 ⟨rfl, hb7⟩
              rw [decide_eq_true rfl]
              have HO7 := Lib.hid (HO6.out.trans (hb7.mono HO6.out.size))
              clear hb7
              go_wp2_with fail
              go_ret
              exact ⟨rfl, HO7.out⟩
            · simp only [Value.slice.injEq] at e'
              obtain ⟨rfl, -, rfl⟩ := e'
              unfold maxLen at hc2
              have hc3 : t ≤ oc := by omega
              have hc4 : (t : Int) ≤ oc := by omega
              go_wp2_with fail
              refine (same_any _ _ _ (rs.take t) (rs.take t) HR6.out.arg (Arg.take HR7.out.arg t ht2) (by rw [HTL.out]; unfold maxLen; omega) (by rw [HTL.out]; unfold maxLen; omega)).mono ?_
              rintro e w7 ⟨rfl, hb7⟩
              rw [decide_eq_true rfl]
              have HO7 := Lib.hid (HO6.out.trans (hb7.mono HO6.out.size))
              clear hb7
              go_wp2_with fail
              go_ret
              exact ⟨rfl, HO7.out⟩
          · have z1 : ((l2.length : Int) == 0) = false := by rw [beq_eq_false_iff_ne]; omega
            have z2 : (l2.length == 0) = false := by rw [beq_eq_false_iff_ne]; exact hz
            go_wp2_with fail
            obtain ⟨t, ex, ht1, ht2, hsc, hgood⟩ := Flushed.scan (HFL.out (by omega)) hm0 HB.out hDs l3
            have HSC := Lib.hid hsc
            have HGD := Lib.hid hgood
            clear hsc hgood
            refine (ownr_restart HO.out _ l3 A3.out M3.out (by omega)).mono ?_
            rintro e w5 ⟨rfl, h5, hh5⟩
            have HO5 := Lib.hid h5
            have HR5 := Lib.hid (HR.out.kept (fun k q => hh5.block k q))
            have hsz5 : (D.restart l3).size ≤ 4096 := by show D.size ≤ 4096; rw [hDs]; decide
            clear h5 hh5
            generalize D.restart l3 = DR at *
            go_wp2_with fail
            refine (scan_any 0 80 HO5.out (by decide) hsz5 HGD.out).mono ?_
            rintro e w6 ⟨gv, rfl, hr6, h6, hb6⟩
            rw [HSC.out] at hr6 ⊢
            rw [lis_bL] at hr6
            have htl : (rs.take t).length = t := by rw [List.length_take, Nat.min_eq_left ht2]
            obtain ⟨ga, gc, rfl⟩ := hr6.shape
            rw [htl] at hr6 ⊢
            have HR6 := Lib.hid hr6
            have HR7 := Lib.hid (HR5.out.below hb6)
            have HO6 := Lib.hid h6.bel
            have HTL := Lib.hid htl
            have ht3 : ¬ ((t : Int) < m0) := by omega
            have ht4 : (t : Int) ≤ rs.length := by omega
            have ht5 : decide (t < m0) = false := decide_eq_false (by omega)
            clear hr6 h6 hb6 htl
            rcases HR7.out.cases with ⟨e', he⟩ | ⟨gw, cw2, e', hc1, hc2⟩
            · simp only [Value.slice.injEq] at e'
              obtain ⟨rfl, e4, rfl⟩ := e'
              subst he
              have hz0 : m0 = 0 := by simpa using hm0
              subst hz0
              have ht0 : t = 0 := by simpa using ht2
              subst ht0
              go_wp2_with fail
              refine (same_any _ _ _ ([].take 0) ([].take 0) HR6.out.arg (Arg.take HR7.out.arg 0 (Nat.le_refl _)) (by simp) (by simp)).mono ?_
              rintro e w7 ⟨rfl, hb7⟩
              rw [decide_eq_true rfl]
              have HO7 := Lib.hid (HO6.out.trans (hb7.mono HO6.out.size))
              clear hb7
              go_wp2_with fail
              go_ret
              exact ⟨rfl, HO7.out⟩
            · simp only [Value.slice.injEq] at e'
              obtain ⟨rfl, -, rfl⟩ := e'
              unfold maxLen at hc2
              have hc3 : t ≤ oc := by omega
              have hc4 : (t : Int) ≤ oc := by omega
              go_wp2_with fail
              refine (same_any _ _ _ (rs.take t) (rs.take t) HR6.out.arg (Arg.take HR7.out.arg t ht2) (by rw [HTL.out]; unfold maxLen; omega) (by rw [HTL.out]; unfold maxLen; omega)).mono ?_
              rintro e w7 ⟨rfl, hb7⟩
              rw [decide_eq_true rfl]
              have HO7 := Lib.hid (HO6.out.trans (hb7.mono HO6.out.size))
              clear hb7
              go_wp2_with fail
              go_ret
              exact ⟨rfl, HO7.out⟩
  · have hd : decide ((8 : Int) < l1.length) = true ∨ (decide ((8 : Int) < l1.length) = false ∧ decide ((8 : Int) < l2.length) = true) ∨ (decide ((8 : Int) < l1.length) = false ∧ decide ((8 : Int) < l2.length) = false ∧ decide ((60 : Int) < l3.length) = true) := by
      simp only [decide_eq_true_eq, decide_eq_false_iff_not]; omega
    clear hs
    rcases hd with d1 | ⟨d1, d2⟩ | ⟨d1, d2, d3⟩
    all_goals
      go_enter Try.func11, Try.ntmps11
      go_wp2_with fail
      refine (awake07_any _).mono ?_
      rintro e w1 ⟨rfl, hb1⟩
      go_wp2_with fail
      refine (awake07_any _).mono ?_
      rintro e w2 ⟨rfl, hb2⟩
      go_wp2_with fail
      go_ret
      exact ⟨rfl, hb1.trans (hb2.mono hb1.size)⟩
end Go.Proofs.Ytncbojocglcieaa
