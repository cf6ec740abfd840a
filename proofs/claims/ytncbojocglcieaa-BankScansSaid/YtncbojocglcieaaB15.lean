/- bank's law: BankScans. -/
import Derived.Test.YtncbojocglcieaaP11
import Derived.Test.YtncbojocglcieaaC9
import Derived.Test.YtncbojocglcieaaB14
import Derived.Test.YtncbojocglcieaaB10
import Derived.Test.YtncbojocglcieaaUng
namespace Go.Proofs.Ytncbojocglcieaa
open Go.RowKit
set_option linter.unusedSimpArgs false
set_option linter.unusedVariables false
def FrsRel (w0 : World) (n : Nat) (lv iv : Value) (wr : World) : Prop :=
  ∃ (i : Nat) (L : List ByteArray), iv = .int .i64 i ∧ i ≤ n ∧ Row EStr wr w0.heap.size lv L ∧ L.length ≤ 5 * i ∧ (∀ x ∈ L, x.size = 64) ∧ Below w0.heap.size w0 wr
def twoO (x0 x1 : Nat) : Obj := .cells #[.int .u8 x0, .int .u8 x1] 30 (0, 0)
/-- A device of N sectors, whole, that never loses power, beside a row of strings and a pair. -/
def ScansRel (w0 : World) (Bk B0 g N x0 x1 m qb : Nat) (lv : Value) (L : List ByteArray) (iv : Value) (wr : World) : Prop :=
  ∃ (i : Nat) (D : DevD), iv = .int .i64 i ∧ i ≤ m ∧ OwnR w0 wr (fun k => k = Bk ∨ ownB lv k) g D ∧ D.left = -1 ∧ D.size = N ∧ (∀ i, (D.sec i).size = 64) ∧ D.queue.length ≤ qb + i ∧ Row EStr wr B0 lv L ∧ wr.heap[Bk]? = some (twoO x0 x1)
theorem whole_put {D : DevD} {N : Nat} (h1 : D.left = -1) (h2 : D.size = N) (h3 : ∀ i, (D.sec i).size = 64) (p : Int) (x : ByteArray) (hx : x.size = 64) (hp : 0 ≤ p ∧ p < N) :
    D.putErr p x = 0 ∧ (D.put p x).left = -1 ∧ (D.put p x).size = N ∧ (∀ i, ((D.put p x).sec i).size = 64) ∧ (D.put p x).queue.length = D.queue.length + 1 := by
  have hask : D.ask p = 0 := by unfold DevD.ask; rw [h1, h2, if_neg (by decide), if_neg (by omega)]
  refine ⟨by unfold DevD.putErr; rw [hask, hx]; rfl, by unfold DevD.put; simp [h1], h2, fun i => ?_, by simp [DevD.put]⟩
  rw [put_sec]
  split
  · exact hx
  · exact h3 i
set_option maxRecDepth 100000 in
set_option maxHeartbeats 4000000 in
theorem bankscans_any (v1 v2 : Value) (l1 l2 : List ByteArray) (x0 x1 : Nat) (w : World) (h1 : Arg EStr w v1 l1) (h2 : Arg EStr w v2 l2) (hx0 : x0 < 256) (hx1 : x1 < 256) (m1 : l1.length ≤ maxLen) (m2 : l2.length ≤ maxLen)
    (g1 : ∀ x ∈ l1, x.size ≤ maxLen) (g2 : ∀ x ∈ l2, x.size ≤ maxLen) :
    Calls Try.prog 9 #[v1, v2, .agg #[.int .u8 x0, .int .u8 x1]] w fun e w' => e = .returned (.bool true) ∧ Below w.heap.size w w' := by
  obtain ⟨a1, c1, rfl⟩ := h1.shape
  obtain ⟨a2, c2, rfl⟩ := h2.shape
  have A1 := Lib.hid h1
  have A2 := Lib.hid h2
  have G1 := Lib.hid g1
  have G2 := Lib.hid g2
  unfold maxLen at m1 m2
  clear h1 h2 g1 g2
  by_cases hs : l1.length ≤ 30 ∧ l2.length ≤ 6
  · obtain ⟨s1, s2⟩ := hs
    have d1 : decide ((30 : Int) < l1.length) = false := decide_eq_false (by omega)
    have d2 : decide ((6 : Int) < l2.length) = false := decide_eq_false (by omega)
    go_enter Try.func9, Try.ntmps9
    go_wp2_with fail
    refine (awake07_any _).mono ?_
    rintro e w1 ⟨rfl, hb1⟩
    have hbw : Below w.heap.size w w1 := ((Below.refl _ w).alloc (Nat.le_refl _) _).trans (hb1.mono (by simp))
    have hcb : w1.heap[w.heap.size]? = some (.cells #[.int .u8 x0, .int .u8 x1] 30 (0, 0)) := by
      rw [hb1.block _ (by simp)]; exact m_alloc w _ _ rfl
    have HBW := Lib.hid hbw
    have HCB := Lib.hid hcb
    clear hb1 hbw hcb
    go_wp2_with fail
    go_loopw [7, 8] (fun lv iv wr => FrsRel w1 l2.length lv iv wr) (fun _ iv _ => l2.length - (intOf iv).toNat)
    case atStart => exact ⟨0, [], rfl, Nat.zero_le _, Row.nil _ _ _, Nat.le_refl _, fun x hx => by simp at hx, Below.refl _ _⟩
    case round =>
      obtain ⟨i, L, rfl, hi, hr, hLl, hL64, hb⟩ := hrel
      have HR := Lib.hid hr
      have HB := Lib.hid hb
      have HL := Lib.hid hL64
      have HW := Lib.hid (HBW.out.trans (hb.mono HBW.out.size))
      obtain ⟨oa, oc, rfl⟩ := hr.shape
      clear hr hb hL64
      by_cases hlt : i < l2.length
      · have i1 : (i : Int) < l2.length := by omega
        obtain ⟨x, hx⟩ : ∃ x, l2[i]? = some x := ⟨_, List.getElem?_eq_getElem hlt⟩
        have hxm := G2.out x (List.mem_of_getElem? hx)
        unfold maxLen at hxm
        obtain ⟨gl, ol, kl, e1, hcl⟩ := A2.out.cells (by intro q; rw [q] at hlt; simp at hlt)
        simp only [Value.slice.injEq] at e1
        obtain ⟨rfl, -, rfl⟩ := e1
        have cw : w.cell? ⟨gl, ol + i, none⟩ = some (.string x) := by have := hcl i x hx 0 (by decide); simpa [EStr] using this
        have c1 := cell_later HW.out cw
        clear hcl hx
        by_cases hx4 : 300 < x.size
        · have q1 : (300 : Int) < x.size := by omega
          go_wp2_with fail
          go_ret
          exact ⟨rfl, HW.out⟩
        · have q1 : ¬ ((300 : Int) < x.size) := by omega
          have hcut := fun w => cut_ref x w (by omega)
          have hcl : (cutL x.data.toList).length = nframes x.size := by rw [cutL_length, Array.length_toList]; rfl
          have hc5 : (cutL x.data.toList).length ≤ 5 := by rw [hcl]; unfold nframes; omega
          have hc64 := cutL_64 x.data.toList
          generalize cutL x.data.toList = C at *
          clear hcl
          go_wp2_with fail
          refine (hcut _).mono ?_
          rintro e w3 ⟨cv, rfl, hr3, hb3⟩
          have hNr : w1.heap.size ≤ wr.heap.size := HB.out.size
          have HR3 := Lib.hid (HR.out.below hb3)
          have HB3 := Lib.hid (HB.out.trans (hb3.mono hNr))
          have hN3 : w1.heap.size ≤ w3.heap.size := HB3.out.size
          have HC3 := Lib.hid hr3.arg
          obtain ⟨ca, cc, rfl⟩ := hr3.shape
          clear hr3 hb3 hcut
          go_wp2_with (first
            | (refine app_row EStr.laid rfl _ _ 49 49 Try.underlying49 Try.underlying49 rfl _ L rfl HR3.out _ C rfl HC3.out ?e2 ?e3 hN3 ?_
               case e2 => (show (L.length + C.length) * 16 ≤ _; omega)
               case e3 => (unfold maxLen; omega)
               intro v6 w6 hr6 hv6 k6))
          have hb6 : Below w1.heap.size w1 w6 := HB3.out.trans (k6.toBelow hN3 (fun k q => HR3.out.ge q.symm))
          exact ⟨⟨i + 1, L ++ C, by go_num, hlt, hr6, by rw [List.length_append]; omega, fun y hy => (List.mem_append.1 hy).elim (HL.out y) (hc64 y), hb6⟩, by simp [intOf]; omega⟩
      · have ei : i = l2.length := by omega
        subst ei
        have i1 : ¬ ((l2.length : Int) < l2.length) := by omega
        have hL30 : L.length ≤ 30 := by omega
        have hN : (min (max ((1 : Int) + l1.length + L.length) 0) 4096).toNat = 1 + l1.length + L.length := by omega
        obtain ⟨N, hNN⟩ : ∃ N, 1 + l1.length + L.length = N := ⟨_, rfl⟩
        have HNN := Lib.hid hNN
        go_wp2_with fail
        refine (ownr_new (R := fun k => k = w.heap.size ∨ ownB (.slice oa L.length oc) k) w wr _ HW.out ?hR).mono ?_
        case hR =>
          intro k q
          rcases q with rfl | q
          · exact ⟨Nat.le_refl _, by have := m_lt HCB.out; have := HB.out.size; omega⟩
          · exact ⟨Nat.le_trans HBW.out.size (HR.out.ge q), HR.out.lt q⟩
        rintro e w2 ⟨g, rfl, h2, hb2⟩
        rw [hN, hNN] at h2
        have H2 := Lib.hid h2
        have HR2 := Lib.hid (HR.out.below hb2)
        have HCB2 := Lib.hid (show w2.heap[w.heap.size]? = _ from ((hb2.block _ (by have := m_lt HCB.out; have := HB.out.size; omega)).trans (HB.out.block _ (m_lt HCB.out))).trans HCB.out)
        clear h2 hb2 hN
        go_wp2_with fail
        go_loopw [10] (fun iv wr => ScansRel w w.heap.size w1.heap.size g N x0 x1 L.length 0 (.slice oa L.length oc) L iv wr) (fun iv _ => L.length - (intOf iv).toNat)
        case atStart => exact ⟨0, _, rfl, Nat.zero_le _, H2.out, rfl, rfl, fun _ => zsec_size, Nat.zero_le _, HR2.out, HCB2.out⟩
        case round =>
          obtain ⟨i, D, rfl, hi, hO, hDl, hDs, hD64, hDq, hr, hcb⟩ := hrel
          have HO := Lib.hid hO
          have HD64 := Lib.hid hD64
          have HRr := Lib.hid hr
          have HCBr := Lib.hid hcb
          have cb0 : wr.cell? ⟨w.heap.size, 0, none⟩ = some (.int .u8 x0) := (m_cells hcb).1 0
          have cb1 : wr.cell? ⟨w.heap.size, 1, none⟩ = some (.int .u8 x1) := (m_cells hcb).1 1
          clear hO hD64 hr hcb
          by_cases hlt2 : i < L.length
          · have i1 : (i : Int) < L.length := by omega
            obtain ⟨x, hx⟩ : ∃ x, L[i]? = some x := ⟨_, List.getElem?_eq_getElem hlt2⟩
            have hx64 := HL.out x (List.mem_of_getElem? hx)
            obtain ⟨gw, cpw, e', _, _, _, hst⟩ := HRr.out.strs (by intro q; rw [q] at hlt2; simp at hlt2)
            simp only [Value.slice.injEq] at e'
            obtain ⟨rfl, -, rfl⟩ := e'
            have ci : wr.cell? ⟨gw, i, none⟩ = some (.string x) := by have := hst i x hx; rwa [Nat.zero_add] at this
            have hxl : x.data.toList.length = 64 := by rw [Array.length_toList]; exact hx64
            have hp9 : (0 : Int) ≤ 1 + i ∧ (1 : Int) + i < N := by omega
            clear hst hx
            by_cases hbe : x0 = i
            · have be1 : ((x0 : Int) == i) = true := by rw [hbe]; simp
              have be2 : (x0 == i) = true := by rw [hbe]; simp
              clear hbe
              obtain ⟨c7, hc7⟩ : ∃ c, (x.data.toList.getD (x1 % 64) 0).toNat = c := ⟨_, rfl⟩
              obtain ⟨c8, hc8⟩ := bits_u8 .xor (c7 : Int) 1 rfl
              obtain ⟨t8, ht8⟩ : ∃ t, x.data.toList.set (x1 % 64) c8 = t := ⟨_, rfl⟩
              have htl : t8.length = 64 := by rw [← ht8, List.length_set]; exact hxl
              have ht64 : (⟨t8.toArray⟩ : ByteArray).size = 64 := by show t8.toArray.size = 64; rw [List.size_toArray]; exact htl
              obtain ⟨p1, p2, p3, p4, p5⟩ := whole_put hDl hDs HD64.out (1 + i) ⟨t8.toArray⟩ ht64 hp9
              have HP4 := Lib.hid p4
              have HC7 := Lib.hid hc7
              have HC8 := Lib.hid hc8
              have HT8 := Lib.hid ht8
              clear p4 hc7 hc8 ht8
              go_wp2_with (first
                | (refine conv_bytes rfl _ rfl x rfl ?_; intro w7 cap8 hf7 hb7; have hcc := hf7.cell (x1 % 64) (by rw [hxl]; omega); rw [HC7.out] at hcc; have hcf := hf7.free (x1 % 64) (by rw [hxl]; omega); have HF8 := Lib.hid (show Fz (w7.setCell ⟨wr.heap.size, x1 % 64, none⟩ (.int .u8 (bits .xor .u8 (c7 : Int) 1))) wr.heap.size t8 by rw [HC8.out, ← HT8.out]; exact hf7.set (x1 % 64) c8 (by rw [hxl]; omega)); have HB7 := Lib.hid (hb7.trans (((Keep.refl (fun k => k = wr.heap.size) w7).set wr.heap.size (x1 % 64) (.int .u8 (bits .xor .u8 (c7 : Int) 1)) (Or.inl rfl)).toBelow hb7.size (fun k q => Nat.le_of_eq q.symm))); have hcb7 := (hb7.block _ (m_lt HCBr.out)).trans HCBr.out; have cb0' : w7.cell? ⟨w.heap.size, 0, none⟩ = some (.int .u8 x0) := (m_cells hcb7).1 0; have cb1' : w7.cell? ⟨w.heap.size, 1, none⟩ = some (.int .u8 x1) := (m_cells hcb7).1 1; clear hf7 hb7 hcb7)
                | (refine conv_fz rfl _ rfl _ _ _ _ rfl htl.symm HF8.out ?_))
              generalize w7.setCell ⟨wr.heap.size, x1 % 64, none⟩ (.int .u8 (bits .xor .u8 (c7 : Int) 1)) = w8 at *
              have HO8 := Lib.hid (HO.out.below HB7.out)
              have HR8 := Lib.hid (HRr.out.below HB7.out)
              have HCB8 := Lib.hid ((HB7.out.block _ (m_lt HCBr.out)).trans HCBr.out)
              refine (ownr_put_ok HO8.out (1 + i) ⟨t8.toArray⟩ (by omega) (by rw [hDl]; decide) p1).mono ?_
              rintro e w9 ⟨rfl, h9, hh9⟩
              have HO9 := Lib.hid h9
              have HR9 := Lib.hid (HR8.out.kept (fun k q => hh9.block k (Or.inr q)))
              have HCB9 := Lib.hid ((hh9.block _ (Or.inl rfl)).trans HCB8.out)
              clear h9 hh9
              go_wp2_with fail
              exact ⟨⟨i + 1, _, by go_num, hlt2, HO9.out, p2, p3, HP4.out, by omega, HR9.out, HCB9.out⟩, by simp [intOf]; omega⟩
            · have be1 : ((x0 : Int) == i) = false := by rw [beq_eq_false_iff_ne]; omega
              have be2 : (x0 == i) = false := by rw [beq_eq_false_iff_ne]; exact hbe
              obtain ⟨t8, ht8⟩ : ∃ t, x.data.toList = t := ⟨_, rfl⟩
              rw [ht8] at hxl
              have ht64 : (⟨t8.toArray⟩ : ByteArray).size = 64 := by show t8.toArray.size = 64; rw [List.size_toArray]; exact hxl
              obtain ⟨p1, p2, p3, p4, p5⟩ := whole_put hDl hDs HD64.out (1 + i) ⟨t8.toArray⟩ ht64 hp9
              have HP4 := Lib.hid p4
              clear p4
              go_wp2_with (first
                | (refine conv_bytes rfl _ rfl x rfl ?_; intro w8 cap8 hf8 hb8; have HF8 := Lib.hid (ht8 ▸ hf8 : Fz w8 wr.heap.size t8); have HO8 := Lib.hid (HO.out.below hb8); have HR8 := Lib.hid (HRr.out.below hb8); have HCB8 := Lib.hid ((hb8.block _ (m_lt HCBr.out)).trans HCBr.out); have cb0' : w8.cell? ⟨w.heap.size, 0, none⟩ = some (.int .u8 x0) := (m_cells HCB8.out).1 0; clear hf8 hb8)
                | (refine conv_fz rfl _ rfl _ _ _ _ rfl hxl.symm HF8.out ?_))
              refine (ownr_put_ok HO8.out (1 + i) ⟨t8.toArray⟩ (by omega) (by rw [hDl]; decide) p1).mono ?_
              rintro e w9 ⟨rfl, h9, hh9⟩
              have HO9 := Lib.hid h9
              have HR9 := Lib.hid (HR8.out.kept (fun k q => hh9.block k (Or.inr q)))
              have HCB9 := Lib.hid ((hh9.block _ (Or.inl rfl)).trans HCB8.out)
              clear h9 hh9
              go_wp2_with fail
              exact ⟨⟨i + 1, _, by go_num, hlt2, HO9.out, p2, p3, HP4.out, by omega, HR9.out, HCB9.out⟩, by simp [intOf]; omega⟩
          · have ei : i = L.length := by omega
            subst ei
            have i1 : ¬ ((L.length : Int) < L.length) := by omega
            clear cb0 cb1
            go_wp2_with fail
            go_loopw [12] (fun iv wr => ScansRel w w.heap.size w1.heap.size g N x0 x1 l1.length 30 (.slice oa L.length oc) L iv wr) (fun iv _ => l1.length - (intOf iv).toNat)
            case atStart => exact ⟨0, D, rfl, Nat.zero_le _, HO.out, hDl, hDs, HD64.out, by omega, HRr.out, HCBr.out⟩
            case round =>
              clear HO HD64 HRr HCBr hDl hDs hDq
              obtain ⟨i, D, rfl, hi, hO, hDl, hDs, hD64, hDq, hr, hcb⟩ := hrel
              have HO := Lib.hid hO
              have HD64 := Lib.hid hD64
              have HRr := Lib.hid hr
              have HCBr := Lib.hid hcb
              clear hO hD64 hr hcb
              by_cases hlt2 : i < l1.length
              · have i1 : (i : Int) < l1.length := by omega
                obtain ⟨x, hx⟩ : ∃ x, l1[i]? = some x := ⟨_, List.getElem?_eq_getElem hlt2⟩
                obtain ⟨gl, ol, kl, e1, hcl⟩ := A1.out.cells (by intro q; rw [q] at hlt2; simp at hlt2)
                simp only [Value.slice.injEq] at e1
                obtain ⟨rfl, -, rfl⟩ := e1
                have cw : w.cell? ⟨gl, ol + i, none⟩ = some (.string x) := by have := hcl i x hx 0 (by decide); simpa [EStr] using this
                have c1 := cell_later HO.out.bel cw
                have hxm := G1.out x (List.mem_of_getElem? hx)
                unfold maxLen at hxm
                clear hcl hx
                by_cases hx64 : x.size = 64
                · have hp9 : (0 : Int) ≤ 1 + L.length + i ∧ (1 : Int) + L.length + i < N := by omega
                  have s1 : ((x.size : Int) == 64) = true := by rw [hx64]; rfl
                  obtain ⟨p1, p2, p3, p4, p5⟩ := whole_put hDl hDs HD64.out (1 + L.length + i) x hx64 hp9
                  have HP4 := Lib.hid p4
                  clear p4
                  go_wp2_with fail
                  refine (ownr_put_ok HO.out (1 + L.length + i) x (by omega) (by rw [hDl]; decide) p1).mono ?_
                  rintro e w9 ⟨rfl, h9, hh9⟩
                  have HO9 := Lib.hid h9
                  have HR9 := Lib.hid (HRr.out.kept (fun k q => hh9.block k (Or.inr q)))
                  have HCB9 := Lib.hid ((hh9.block _ (Or.inl rfl)).trans HCBr.out)
                  clear h9 hh9
                  go_wp2_with fail
                  exact ⟨⟨i + 1, _, by go_num, hlt2, HO9.out, p2, p3, HP4.out, by omega, HR9.out, HCB9.out⟩, by simp [intOf]; omega⟩
                · have s1 : ((x.size : Int) == 64) = false := by rw [beq_eq_false_iff_ne]; omega
                  go_wp2_with fail
                  exact ⟨⟨i + 1, D, by go_num, hlt2, HO.out, hDl, hDs, HD64.out, by omega, HRr.out, HCBr.out⟩, by simp [intOf]; omega⟩
              · have ei : i = l1.length := by omega
                subst ei
                have i1 : ¬ ((l1.length : Int) < l1.length) := by omega
                obtain ⟨rs, a, D2, k1, k2, k3, k4, k5, k6, k7, k8, k9, k10, k11, k12⟩ := scan_wipe N hDl (by omega) (by omega) HD64.out
                have hFl := secs_length D 0 N
                have hF64 : ∀ x ∈ D.secs 0 N, x.size = 64 := by
                  intro x hx
                  unfold DevD.secs at hx
                  obtain ⟨i, _, rfl⟩ := List.mem_map.1 hx
                  exact HD64.out _
                have hFne : D.secs 0 N ≠ [] := by intro q; rw [q] at hFl; simp at hFl; omega
                have hrl : (rs.map bL).length ≤ 100 := by
                  have hle := scanned_recs _ _ (Nat.le_refl _) (fun f (hf : f ∈ (D.secs 0 N).drop 1) => hF64 f (List.mem_of_mem_drop hf))
                  rw [k2] at hle
                  have h1 : (rs.flatMap cutL).length ≤ N := by rw [hle.1, List.length_take, List.length_drop, hFl]; omega
                  have h2 : ∀ q : List (List UInt8), (∀ r ∈ q, r ≠ [] ∧ r.length ≤ 60000) → q.length ≤ (q.flatMap cutL).length := by
                    intro q
                    induction q with
                    | nil => intro _; exact Nat.le_refl _
                    | cons r q ih =>
                      intro hq
                      have := ih fun x hx => hq x (List.mem_cons_of_mem _ hx)
                      have hp := nframes_pos (List.length_pos_iff.2 (hq r List.mem_cons_self).1)
                      rw [List.flatMap_cons, List.length_append, cutL_length, List.length_cons]
                      omega
                  have := h2 rs hle.2.1
                  rw [List.length_map]; omega
                have hall := all_ok 0 N HO.out (by rw [hDl]; decide) (Int.le_refl _) (by rw [hDs]; omega) (by rw [hDs]; omega) HD64.out
                have HALL := Lib.hid hall
                have K1 := Lib.hid k1
                have K2 := Lib.hid k2
                have K3 := Lib.hid k3
                have K6 := Lib.hid k6
                have K10 := Lib.hid k10
                have K11 := Lib.hid k11
                have K12 := Lib.hid k12
                have hD2s : D2.size = N := by rw [k8, hDs]
                generalize D.secs 0 N = F at *
                have HF64 := Lib.hid hF64
                clear hall k1 k2 k3 k6 k8 k10 k11 k12 hF64
                go_wp2_with fail
                refine (ownr_size HO.out).mono ?_
                rintro e w3 ⟨rfl, rfl⟩
                rw [hDs]
                go_wp2_with fail
                refine HALL.out.mono ?_
                rintro e w4 ⟨av, rfl, hr4, h4, hb4⟩
                obtain ⟨ag, acap, rfl, hc1, hc2, hc3, hst4⟩ := hr4.strs hFne
                have HO4 := Lib.hid (h4.sub (R' := fun _ => False) (fun _ q => q.elim))
                have hscr := scan_ref w4 ag 0 acap F hst4 hc1 hc2 hFne HF64.out (by rw [hFl]; omega)
                rw [K2.out, K3.out, hFl] at hscr
                rw [hFl]
                have HSCR := Lib.hid hscr
                clear h4 hb4 hr4 hst4 hscr
                go_wp2_with fail
                refine HSCR.out.mono ?_
                rintro e w5 ⟨wv, rfl, hr5, hb5⟩
                obtain ⟨wa, wc, rfl⟩ := hr5.shape
                rw [List.length_map] at hr5 ⊢
                have HR5 := Lib.hid hr5
                have HO5 := Lib.hid (HO4.out.turn (R' := ownB (.slice wa rs.length wc)) (keepBelow hb5) (fun k q => ⟨Or.inr (hr5.ge q), hr5.lt q⟩))
                clear hr5 hb5
                go_wp2_with fail
                refine (ownr_size HO5.out).mono ?_
                rintro e w6 ⟨rfl, rfl⟩
                rw [hDs]
                go_wp2_with fail
                refine (scan_any 0 N HO5.out (by omega) (by rw [hDs]; omega) HD64.out).mono ?_
                rintro e w7 ⟨gv, rfl, hr7, h7, hb7⟩
                rw [K1.out] at hr7 ⊢
                obtain ⟨ga, gc, rfl⟩ := hr7.shape
                rw [List.length_map] at hr7 ⊢
                have HG7 := Lib.hid hr7
                have HW7 := Lib.hid (HR5.out.below hb7)
                have HO7 := Lib.hid h7
                clear hr7 h7 hb7
                go_wp2_with fail
                refine (same_any _ _ _ (rs.map bL) (rs.map bL) HG7.out.arg HW7.out.arg (by unfold maxLen; omega) (by unfold maxLen; omega)).mono ?_
                rintro e w8 ⟨rfl, hb8⟩
                rw [decide_eq_true rfl]
                have HO8 := Lib.hid (HO7.out.below hb8)
                have HW8 := Lib.hid (HW7.out.below hb8)
                clear hb8
                go_wp2_with fail
                refine (ownr_size HO8.out).mono ?_
                rintro e w9 ⟨rfl, rfl⟩
                rw [hDs]
                go_wp2_with fail
                refine (wipe_any 0 N a HO8.out (by rw [hDs]; omega) (by omega) (by rw [hDl]; decide) (by omega) (by omega)).mono ?_
                rintro e w10 ⟨rfl, h10, hh10⟩
                rw [K6.out] at h10 ⊢
                have HO10 := Lib.hid h10
                have HW10 := Lib.hid (HW8.out.kept (fun k q => hh10.block k q))
                clear h10 hh10
                go_wp2_with fail
                refine (ownr_size HO10.out).mono ?_
                rintro e w11 ⟨rfl, rfl⟩
                rw [hD2s]
                go_wp2_with fail
                refine (scan_any 0 N HO10.out (by omega) (by rw [hD2s]; omega) K10.out).mono ?_
                rintro e w12 ⟨gv2, rfl, hr12, h12, hb12⟩
                rw [K11.out] at hr12 ⊢
                obtain ⟨ga2, gc2, rfl⟩ := hr12.shape
                rw [List.length_map] at hr12 ⊢
                have HG12 := Lib.hid hr12
                have HW12 := Lib.hid (HW10.out.below hb12)
                have HO12 := Lib.hid h12
                clear hr12 h12 hb12
                go_wp2_with fail
                go_loopw [18] (fun iv wr => ∃ p : Nat, iv = .int .i64 p ∧ a ≤ p ∧ p ≤ N ∧ Below w12.heap.size w12 wr) (fun iv _ => N - (intOf iv).toNat)
                case atStart => exact ⟨a, rfl, Nat.le_refl _, by omega, Below.refl _ _⟩
                case round =>
                  obtain ⟨p, rfl, hp1, hp2, hbp⟩ := hrel
                  have HOP := Lib.hid (HO12.out.below hbp)
                  have HBP := Lib.hid hbp
                  clear hbp
                  have hgoal : ∀ (P : Prop), P → P := fun _ h => h
                  go_wp2_with fail
                  refine (ownr_size HOP.out).mono ?_
                  rintro e w13 ⟨rfl, rfl⟩
                  rw [hD2s]
                  by_cases hpl : p < N
                  · have p1 : (p : Int) < N := by omega
                    have hz := K12.out p hp1 hpl
                    have hask : D2.ask p = 0 := by unfold DevD.ask; rw [k7, hD2s, if_neg (by decide), if_neg (by omega)]
                    have hget : D2.get p = zsec := by unfold DevD.get; rw [if_pos hask, hz]
                    have HA := Lib.hid hask
                    have HGT := Lib.hid hget
                    clear hz hask hget
                    go_wp2_with fail
                    refine (ownr_get HOP.out p).mono ?_
                    rintro e w14 ⟨rfl, h14, hb14⟩
                    rw [HA.out, HGT.out]
                    have HB14 := Lib.hid (HBP.out.trans (hb14.mono HBP.out.size))
                    clear h14 hb14
                    have hzre := str_refl zsec
                    have hzz : (⟨(List.replicate 64 (0 : UInt8)).toArray⟩ : ByteArray) = zsec := rfl
                    have HZZ := Lib.hid hzz
                    clear hzz
                    obtain ⟨N14, hN14⟩ : ∃ N, w14.heap.size = N := ⟨_, rfl⟩
                    go_wp2_with (first
                      | (refine wpList_unguard (by rfl) ?_; refine make_row (E := EByt) (B := w14.heap.size) (z := .int .u8 0) (0 : UInt8) (by kernel_rfl) (by rfl) rfl 60 Try.underlying60 _ _ rfl 64 64 64 rfl rfl rfl rfl (by decide) (by decide) (Nat.le_refl _) ?_; intro w15 hr15 hb15; have hr16 := hr15; rw [hN14] at hr15; have HR16 := Lib.hid hr16; clear hr16; have HB15 := Lib.hid (HB14.out.trans (hb15.mono HB14.out.size)); clear hb15)
                      | (refine wpList_unguard (by rfl) ?_; first | (refine conv_row rfl _ rfl _ _ rfl hr15 ?_; rw [HZZ.out]) | (refine conv_row rfl _ rfl _ _ rfl HR16.out ?_; rw [HZZ.out])))
                    exact ⟨⟨p + 1, by go_num, by omega, hpl, HB15.out⟩, by simp [intOf]; omega⟩
                  · have p1 : ¬ ((p : Int) < N) := by omega
                    have HG13 := Lib.hid (HG12.out.below HBP.out).arg
                    have HW13 := Lib.hid (HW12.out.below HBP.out).arg
                    go_wp2_with fail
                    refine (same_any _ (.slice ga2 rs.length gc2) (.slice wa rs.length wc) (rs.map bL) (rs.map bL) HG13.out HW13.out (by unfold maxLen; omega) (by unfold maxLen; omega)).mono ?_
                    rintro e w14 ⟨rfl, hb14⟩
                    rw [decide_eq_true rfl]
                    have HO14 := Lib.hid (HOP.out.bel.trans (hb14.mono HOP.out.bel.size))
                    clear hb14
                    go_wp2_with fail
                    go_ret
                    exact ⟨rfl, HO14.out⟩
  · have hd : decide ((30 : Int) < l1.length) = true ∨ (decide ((30 : Int) < l1.length) = false ∧ decide ((6 : Int) < l2.length) = true) := by
      simp only [decide_eq_true_eq, decide_eq_false_iff_not]; omega
    clear hs
    rcases hd with d1 | ⟨d1, d2⟩
    all_goals
      go_enter Try.func9, Try.ntmps9
      go_wp2_with fail
      refine (awake07_any _).mono ?_
      rintro e w1 ⟨rfl, hb1⟩
      go_wp2_with fail
      refine (awake07_any _).mono ?_
      rintro e w2 ⟨rfl, hb2⟩
      go_wp2_with fail
      go_ret
      exact ⟨rfl, ((Below.refl _ w).alloc (Nat.le_refl _) _).trans ((hb1.trans (hb2.mono hb1.size)).mono (by simp))⟩
end Go.Proofs.Ytncbojocglcieaa
