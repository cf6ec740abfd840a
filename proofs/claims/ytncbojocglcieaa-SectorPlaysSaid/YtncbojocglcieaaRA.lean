/- sector's law: SectorPlays. -/
import Derived.Test.YtncbojocglcieaaR9
namespace Go.Proofs.Ytncbojocglcieaa
open Go.RowKit
set_option linter.unusedSimpArgs false
set_option linter.unusedVariables false
theorem RDev.lt {w : World} {F : Nat → Prop} {g : Nat} {r : RefD} (h : RDev w F g r) {k : Nat} (q : F k) : k < w.heap.size := by
  obtain ⟨sv, ev, av, dv, rfl, h⟩ := h
  exact h.lt q
def PlaysRel (w0 : World) (g g2 nn m : Nat) (iv : Value) (wr : World) : Prop :=
  ∃ (i : Nat) (d : DevD) (r : RefD) (F : Nat → Prop), iv = .int .i64 i ∧ i ≤ m ∧ OwnR w0 wr F g d ∧ RDev wr F g2 r ∧ Sim d r nn ∧ d.queue.length ≤ i
set_option maxRecDepth 100000 in
set_option maxHeartbeats 4000000 in
theorem sectorplays_any (n : Int) (v : Value) (l : List OpD) (w : World) (hn : -128 ≤ n ∧ n ≤ 127) (h : Arg EOp w v l) (ml : l.length ≤ maxLen) (hok : ∀ o ∈ l, o.Ok w) :
    Calls Try.prog 5 #[.int .i8 n, v] w fun e w' => e = .returned (.bool true) ∧ Below w.heap.size w w' := by
  obtain ⟨va, vc, rfl⟩ := h.shape
  have A := Lib.hid h
  have OK := Lib.hid hok
  have hfew := fun w' (hb : Below w.heap.size w w') => few06_any w' _ l (h.below hb) ml (fun o ho => ⟨(hok o ho).1, (hok o ho).2.2.2.1⟩)
  have FEW := Lib.hid hfew
  unfold maxLen at ml
  obtain ⟨hn1, hn2⟩ := hn
  clear h hok hfew
  go_enter Try.func5, Try.ntmps5
  go_wp2_with fail
  refine (awake06_any _).mono ?_
  rintro e w1 ⟨rfl, hb1⟩
  have HB1 := Lib.hid hb1
  clear hb1
  go_wp2_with fail
  refine (FEW.out w1 HB1.out).mono ?_
  rintro e w2 ⟨fv, rfl, hfp, hb2⟩
  obtain ⟨fb, rfl, hfb⟩ := hfp
  have HB2 := Lib.hid (HB1.out.trans (hb2.mono HB1.out.size))
  have HFB := Lib.hid hfb
  clear hb2 hfb
  cases fb
  · go_wp2_with fail
    refine (awake06_any _).mono ?_
    rintro e w3 ⟨rfl, hb3⟩
    have HB3 := Lib.hid (HB2.out.trans (hb3.mono HB2.out.size))
    clear hb3
    go_wp2_with fail
    go_ret
    exact ⟨rfl, HB3.out⟩
  · obtain ⟨hl150, hobk⟩ := HFB.out rfl
    have HOBK := Lib.hid hobk
    clear hobk
    by_cases hn30 : 30 < n
    · have n1 : decide (30 < n) = true := decide_eq_true hn30
      go_wp2_with fail
      refine (awake06_any _).mono ?_
      rintro e w3 ⟨rfl, hb3⟩
      have HB3 := Lib.hid (HB2.out.trans (hb3.mono HB2.out.size))
      clear hb3
      go_wp2_with fail
      go_ret
      exact ⟨rfl, HB3.out⟩
    · have n1 : decide (30 < n) = false := decide_eq_false hn30
      go_wp2_with fail
      refine (own_new w w2 n HB2.out).mono ?_
      rintro e w3 ⟨g, rfl, h3⟩
      obtain ⟨nn, hnn⟩ : ∃ k : Nat, n.toNat = k := ⟨_, rfl⟩
      have hN : (min (max n 0) 4096).toNat = nn := by omega
      rw [hN] at h3
      have H3 := Lib.hid h3
      have HN := Lib.hid hnn
      have hnn30 : nn ≤ 30 := by omega
      clear h3 hN
      go_wp2_with fail
      refine (refnew_any n w3 (by omega) hn1).mono ?_
      rintro e w4 ⟨g2, rfl, F0, hr4, hF4, hb4⟩
      rw [hnn] at hr4
      have HO4 := Lib.hid (H3.out.r.turn (R' := F0) (keepBelow hb4) (fun k q => ⟨Or.inr (hF4 k q), hr4.lt q⟩))
      have HR4 := Lib.hid hr4
      clear hr4 hF4 hb4 hnn
      go_wp2_with fail
      go_loopw [7] (fun iv wr => PlaysRel w g g2 nn l.length iv wr) (fun iv _ => l.length - (intOf iv).toNat)
      case atStart => exact ⟨0, _, _, _, rfl, Nat.zero_le _, HO4.out, HR4.out, sim_new nn, Nat.zero_le _⟩
      case round =>
        obtain ⟨i, d, r, F, rfl, hi, hO, hR, hS, hQ⟩ := hrel
        have HO := Lib.hid hO
        have HR := Lib.hid hR
        have HS := Lib.hid hS
        have HBL := Lib.hid hO.bel
        clear hO hR hS
        by_cases hlt : i < l.length
        · have i1 : (i : Int) < l.length := by omega
          obtain ⟨o, ho⟩ : ∃ o, l[i]? = some o := ⟨_, List.getElem?_eq_getElem hlt⟩
          obtain ⟨ob, ⟨oi1, oi2⟩, ⟨on1, on2⟩, ok, kl, hkl, hkn⟩ := OK.out o (List.mem_of_getElem? ho)
          obtain ⟨ob2, ok2⟩ := HOBK.out o (List.mem_of_getElem? ho)
          obtain ⟨gl, ol, hva, _, cc0, cc1, cc2, cc3, cc4⟩ := op_cells A.out i o ho
          subst hva
          have c0 := cell_later HBL.out cc0
          have c1 := cell_later HBL.out cc1
          have c2 := cell_later HBL.out cc2
          have c3 := cell_later HBL.out cc3
          have c4 := cell_later HBL.out cc4
          unfold OpD.kv at c4 hkl
          have HKL := Lib.hid hkl
          clear cc0 cc1 cc2 cc3 cc4 ho hkl
          have hoc := m_alloc wr (.cells #[.int .u8 o.kind.toNat, .int .i64 o.i, .int .i64 o.n, .string o.b, .slice o.ka o.kn o.kc] 46) wr.heap.size rfl
          have hoa : OwnR w (wr.alloc (.cells #[.int .u8 o.kind.toNat, .int .i64 o.i, .int .i64 o.n, .string o.b, .slice o.ka o.kn o.kc] 46)) (fun k => F k ∨ k = wr.heap.size) g d := HO.out.turn ((Keep.refl F wr).alloc _) (fun k q => q.elim (fun e => ⟨Or.inl e, by have := HR.out.lt e; simp; omega⟩) (fun e => ⟨Or.inr (Nat.le_of_eq e.symm), by rw [e]; simp⟩))
          have hra : RDev (wr.alloc (.cells #[.int .u8 o.kind.toNat, .int .i64 o.i, .int .i64 o.n, .string o.b, .slice o.ka o.kn o.kc] 46)) F g2 r := HR.out.below ((Below.refl _ wr).alloc (Nat.le_refl _) _)
          have HOA := Lib.hid hoa
          have HRA := Lib.hid hra
          have HOC := Lib.hid hoc
          obtain ⟨hsim, hres⟩ := sim_step HS.out o kl on2
          have hdo := fun (wx : World) (G : Nat → Prop) (hr : RDev wx G g2 r) (ha : ∀ w', Keep G wx w' → Arg EInt w' o.kv kl) => do_any o kl hr ob ha hkn ok2 (by rw [HS.out.safe]; omega) (by rw [HS.out.seen, HS.out.safe]) HS.out.len (by have := congrArg List.length HS.out.queue; rw [List.length_zip] at this; have := HS.out.len; omega) (fun a ha => by have := HS.out.ats a ha; rw [HS.out.safe]; exact this) HS.out.high
          unfold OpD.cells OpD.kv at hdo
          obtain ⟨st, hst⟩ : ∃ x, r.step o kl = x := ⟨_, rfl⟩
          rw [hst] at hsim hres hdo
          obtain ⟨r', want, fe⟩ := st
          have hq5 : o.kind.toNat % 5 < 5 := Nat.mod_lt _ (by decide)
          have HDO := Lib.hid hdo
          have hleft : d.left ≤ 9223372036854775807 := by rw [HS.out.left]; exact HS.out.high
          clear hdo hoc hoa hra hst
          by_cases q0 : o.kind.toNat % 5 = 0
          · have hkz : (o.kind.toNat : Int) % 5 = 0 := by omega
            have hstep : d.step o kl = (if d.putErr o.i o.b = 0 then d.put o.i o.b else d, ⟨#[]⟩, d.putErr o.i o.b) := by unfold DevD.step; rw [if_pos q0]
            rw [hstep] at hsim hres
            simp only [Prod.mk.injEq] at hres
            obtain ⟨hw, hf⟩ := hres
            have HSIM := Lib.hid hsim
            have hqq : ((if d.putErr o.i o.b = 0 then d.put o.i o.b else d)).queue.length ≤ i + 1 := by
              split
              · simp [DevD.put]; omega
              · omega
            have HF := Lib.hid hf
            subst hw
            clear hf q0
            clear hsim hstep hq5
            go_wp2_with fail
            refine (ownr_put HOA.out o.i o.b (by omega) hleft).mono ?_
            rintro e w5 ⟨rfl, h5, hh5⟩
            rw [HF.out]
            have HO5 := Lib.hid h5
            have HR5 := Lib.hid (HRA.out.keep (fun k q => hh5.block k (Or.inl q)))
            have HOC5 := Lib.hid ((hh5.block _ (Or.inr rfl)).trans HOC.out)
            clear h5 hh5
            have o0 : w5.cell? ⟨wr.heap.size, 0, none⟩ = some (.int .u8 o.kind.toNat) := (m_cells HOC5.out).1 0
            have o1 : w5.cell? ⟨wr.heap.size, 1, none⟩ = some (.int .i64 o.i) := (m_cells HOC5.out).1 1
            have o2 : w5.cell? ⟨wr.heap.size, 2, none⟩ = some (.int .i64 o.n) := (m_cells HOC5.out).1 2
            have o3 : w5.cell? ⟨wr.heap.size, 3, none⟩ = some (.string o.b) := (m_cells HOC5.out).1 3
            have o4 : w5.cell? ⟨wr.heap.size, 4, none⟩ = some (.slice o.ka o.kn o.kc) := (m_cells HOC5.out).1 4
            go_wp2_with fail
            refine (HDO.out w5 F HR5.out (fun w' hk => HKL.out.below (HO5.out.bel.trans (hk.toBelow HO5.out.bel.size (fun j q => HO5.out.ge (Or.inl q)))))).mono ?_
            rintro e w6 ⟨rfl, F', hr6, hF6, hk6⟩
            have HO6 := Lib.hid (HO5.out.turn (R' := F') (hk6.mono (fun j q => Or.inl (Or.inl q))) (fun k q => ⟨(hF6 k q).imp (fun e => Or.inl e) id, hr6.lt q⟩))
            have HR6 := Lib.hid hr6
            have hlen := congrArg List.length HSIM.out.queue
            rw [List.length_zip, HSIM.out.len, Nat.min_self] at hlen
            have hsz := HSIM.out.size
            have hse := HSIM.out.seen
            obtain ⟨sv, ev, av, dv, -, hra6⟩ := hr6
            obtain ⟨ea, ec, rfl⟩ := hra6.seen.shape
            obtain ⟨aa, ac, rfl⟩ := hra6.ats.shape
            obtain ⟨cc, ff⟩ := m_cells hra6.blk
            have c1z : w6.cell? ⟨g2, 1, none⟩ = some (.slice ea r'.seen.length ec) := cc 1
            have c2z : w6.cell? ⟨g2, 2, none⟩ = some (.slice aa r'.at_.length ac) := cc 2
            rw [hse] at c1z
            rw [← hlen] at c2z
            clear hF6 hk6 hra6 cc ff hse hlen o0 o1 o2 o3 o4 c0 c1 c2 c3 c4
            generalize hDD : (if d.putErr o.i o.b = 0 then d.put o.i o.b else d) = DD at *
            have HDD := Lib.hid hDD
            clear hDD
            go_wp2_with fail
            go_region_held3 (fun w' => w'.cell? ⟨g2, 1, none⟩ = some (.slice ea nn ec) ∧ w'.cell? ⟨g2, 2, none⟩ = some (.slice aa DD.queue.length ac)) (first | exact ⟨c1z, c2z⟩ | go_keep)
              (first
               | (go_at_call 21; refine (ownr_pending (HO6.out.below (by repeat (first | exact Below.refl _ _ | assumption | (refine Below.drew ?_) | (refine below_drewN ?_ _) | (refine Below.alloc ?_ (by simp; done) _) | (refine Below.alloc ?_ (by simp; omega) _))))).mono ?_; rintro e w7 ⟨rfl, rfl⟩)
               | (go_at_call 30; refine (ownr_size (HO6.out.below (by repeat (first | exact Below.refl _ _ | assumption | (refine Below.drew ?_) | (refine below_drewN ?_ _) | (refine Below.alloc ?_ (by simp; done) _) | (refine Below.alloc ?_ (by simp; omega) _))))).mono ?_; rintro e w8 ⟨rfl, rfl⟩; rw [hsz]))
            go_wp2_with fail
            exact ⟨⟨i + 1, DD, r', F', by go_num, hlt, HO6.out.below ((Below.refl _ _).drew), HR6.out.below ((Below.refl _ _).drew), HSIM.out, hqq⟩, by simp [intOf]; omega⟩
          · by_cases q1 : o.kind.toNat % 5 = 1
            · have hkz : (o.kind.toNat : Int) % 5 = 1 := by omega
              have hstep : d.step o kl = (d, d.get o.i, d.ask o.i) := by unfold DevD.step; rw [if_neg q0, if_pos q1]
              rw [hstep] at hsim hres
              simp only [Prod.mk.injEq] at hres
              obtain ⟨hw, hf⟩ := hres
              have HSIM := Lib.hid hsim
              have hqq : (d).queue.length ≤ i + 1 := by
                omega
              have HF := Lib.hid hf
              have HW := Lib.hid hw
              clear hf hw q0 q1
              clear hsim hstep hq5
              go_wp2_with fail
              refine (ownr_get HOA.out o.i).mono ?_
              rintro e w5 ⟨rfl, h5, hb5⟩
              rw [HF.out, HW.out]
              have HO5 := Lib.hid h5
              have HR5 := Lib.hid (HRA.out.below hb5)
              have HOC5 := Lib.hid ((hb5.block _ (m_lt HOC.out)).trans HOC.out)
              clear h5 hb5
              have o0 : w5.cell? ⟨wr.heap.size, 0, none⟩ = some (.int .u8 o.kind.toNat) := (m_cells HOC5.out).1 0
              have o1 : w5.cell? ⟨wr.heap.size, 1, none⟩ = some (.int .i64 o.i) := (m_cells HOC5.out).1 1
              have o2 : w5.cell? ⟨wr.heap.size, 2, none⟩ = some (.int .i64 o.n) := (m_cells HOC5.out).1 2
              have o3 : w5.cell? ⟨wr.heap.size, 3, none⟩ = some (.string o.b) := (m_cells HOC5.out).1 3
              have o4 : w5.cell? ⟨wr.heap.size, 4, none⟩ = some (.slice o.ka o.kn o.kc) := (m_cells HOC5.out).1 4
              go_wp2_with fail
              refine (HDO.out w5 F HR5.out (fun w' hk => HKL.out.below (HO5.out.bel.trans (hk.toBelow HO5.out.bel.size (fun j q => HO5.out.ge (Or.inl q)))))).mono ?_
              rintro e w6 ⟨rfl, F', hr6, hF6, hk6⟩
              have HO6 := Lib.hid (HO5.out.turn (R' := F') (hk6.mono (fun j q => Or.inl (Or.inl q))) (fun k q => ⟨(hF6 k q).imp (fun e => Or.inl e) id, hr6.lt q⟩))
              have HR6 := Lib.hid hr6
              have hlen := congrArg List.length HSIM.out.queue
              rw [List.length_zip, HSIM.out.len, Nat.min_self] at hlen
              have hsz := HSIM.out.size
              have hse := HSIM.out.seen
              obtain ⟨sv, ev, av, dv, -, hra6⟩ := hr6
              obtain ⟨ea, ec, rfl⟩ := hra6.seen.shape
              obtain ⟨aa, ac, rfl⟩ := hra6.ats.shape
              obtain ⟨cc, ff⟩ := m_cells hra6.blk
              have c1z : w6.cell? ⟨g2, 1, none⟩ = some (.slice ea r'.seen.length ec) := cc 1
              have c2z : w6.cell? ⟨g2, 2, none⟩ = some (.slice aa r'.at_.length ac) := cc 2
              rw [hse] at c1z
              rw [← hlen] at c2z
              clear hF6 hk6 hra6 cc ff hse hlen o0 o1 o2 o3 o4 c0 c1 c2 c3 c4
              have hre := str_refl want
              generalize hDD : d = DD at *
              have HDD := Lib.hid hDD
              clear hDD
              go_wp2_with fail
              go_region_held3 (fun w' => w'.cell? ⟨g2, 1, none⟩ = some (.slice ea nn ec) ∧ w'.cell? ⟨g2, 2, none⟩ = some (.slice aa DD.queue.length ac)) (first | exact ⟨c1z, c2z⟩ | go_keep)
                (first
                 | (go_at_call 21; refine (ownr_pending (HO6.out.below (by repeat (first | exact Below.refl _ _ | assumption | (refine Below.drew ?_) | (refine below_drewN ?_ _) | (refine Below.alloc ?_ (by simp; done) _) | (refine Below.alloc ?_ (by simp; omega) _))))).mono ?_; rintro e w7 ⟨rfl, rfl⟩)
                 | (go_at_call 30; refine (ownr_size (HO6.out.below (by repeat (first | exact Below.refl _ _ | assumption | (refine Below.drew ?_) | (refine below_drewN ?_ _) | (refine Below.alloc ?_ (by simp; done) _) | (refine Below.alloc ?_ (by simp; omega) _))))).mono ?_; rintro e w8 ⟨rfl, rfl⟩; rw [hsz]))
              go_wp2_with fail
              exact ⟨⟨i + 1, DD, r', F', by go_num, hlt, HO6.out.below ((Below.refl _ _).drew), HR6.out.below ((Below.refl _ _).drew), HSIM.out, hqq⟩, by simp [intOf]; omega⟩
            · by_cases q2 : o.kind.toNat % 5 = 2
              · have hkz : (o.kind.toNat : Int) % 5 = 2 := by omega
                have hstep : d.step o kl = (if d.left = 0 then d else d.flush, ⟨#[]⟩, if d.left = 0 then 13 else 0) := by unfold DevD.step; rw [if_neg q0, if_neg q1, if_pos q2]
                rw [hstep] at hsim hres
                simp only [Prod.mk.injEq] at hres
                obtain ⟨hw, hf⟩ := hres
                have HSIM := Lib.hid hsim
                have hqq : ((if d.left = 0 then d else d.flush)).queue.length ≤ i + 1 := by
                  split
                  · omega
                  · simp [DevD.flush]
                have HF := Lib.hid hf
                subst hw
                clear hf q0 q1 q2
                clear hsim hstep hq5
                go_wp2_with fail
                refine (ownr_flush HOA.out).mono ?_
                rintro e w5 ⟨rfl, h5, hh5⟩
                rw [HF.out]
                have HO5 := Lib.hid h5
                have HR5 := Lib.hid (HRA.out.keep (fun k q => hh5.block k (Or.inl q)))
                have HOC5 := Lib.hid ((hh5.block _ (Or.inr rfl)).trans HOC.out)
                clear h5 hh5
                have o0 : w5.cell? ⟨wr.heap.size, 0, none⟩ = some (.int .u8 o.kind.toNat) := (m_cells HOC5.out).1 0
                have o1 : w5.cell? ⟨wr.heap.size, 1, none⟩ = some (.int .i64 o.i) := (m_cells HOC5.out).1 1
                have o2 : w5.cell? ⟨wr.heap.size, 2, none⟩ = some (.int .i64 o.n) := (m_cells HOC5.out).1 2
                have o3 : w5.cell? ⟨wr.heap.size, 3, none⟩ = some (.string o.b) := (m_cells HOC5.out).1 3
                have o4 : w5.cell? ⟨wr.heap.size, 4, none⟩ = some (.slice o.ka o.kn o.kc) := (m_cells HOC5.out).1 4
                go_wp2_with fail
                refine (HDO.out w5 F HR5.out (fun w' hk => HKL.out.below (HO5.out.bel.trans (hk.toBelow HO5.out.bel.size (fun j q => HO5.out.ge (Or.inl q)))))).mono ?_
                rintro e w6 ⟨rfl, F', hr6, hF6, hk6⟩
                have HO6 := Lib.hid (HO5.out.turn (R' := F') (hk6.mono (fun j q => Or.inl (Or.inl q))) (fun k q => ⟨(hF6 k q).imp (fun e => Or.inl e) id, hr6.lt q⟩))
                have HR6 := Lib.hid hr6
                have hlen := congrArg List.length HSIM.out.queue
                rw [List.length_zip, HSIM.out.len, Nat.min_self] at hlen
                have hsz := HSIM.out.size
                have hse := HSIM.out.seen
                obtain ⟨sv, ev, av, dv, -, hra6⟩ := hr6
                obtain ⟨ea, ec, rfl⟩ := hra6.seen.shape
                obtain ⟨aa, ac, rfl⟩ := hra6.ats.shape
                obtain ⟨cc, ff⟩ := m_cells hra6.blk
                have c1z : w6.cell? ⟨g2, 1, none⟩ = some (.slice ea r'.seen.length ec) := cc 1
                have c2z : w6.cell? ⟨g2, 2, none⟩ = some (.slice aa r'.at_.length ac) := cc 2
                rw [hse] at c1z
                rw [← hlen] at c2z
                clear hF6 hk6 hra6 cc ff hse hlen o0 o1 o2 o3 o4 c0 c1 c2 c3 c4
                generalize hDD : (if d.left = 0 then d else d.flush) = DD at *
                have HDD := Lib.hid hDD
                clear hDD
                go_wp2_with fail
                go_region_held3 (fun w' => w'.cell? ⟨g2, 1, none⟩ = some (.slice ea nn ec) ∧ w'.cell? ⟨g2, 2, none⟩ = some (.slice aa DD.queue.length ac)) (first | exact ⟨c1z, c2z⟩ | go_keep)
                  (first
                   | (go_at_call 21; refine (ownr_pending (HO6.out.below (by repeat (first | exact Below.refl _ _ | assumption | (refine Below.drew ?_) | (refine below_drewN ?_ _) | (refine Below.alloc ?_ (by simp; done) _) | (refine Below.alloc ?_ (by simp; omega) _))))).mono ?_; rintro e w7 ⟨rfl, rfl⟩)
                   | (go_at_call 30; refine (ownr_size (HO6.out.below (by repeat (first | exact Below.refl _ _ | assumption | (refine Below.drew ?_) | (refine below_drewN ?_ _) | (refine Below.alloc ?_ (by simp; done) _) | (refine Below.alloc ?_ (by simp; omega) _))))).mono ?_; rintro e w8 ⟨rfl, rfl⟩; rw [hsz]))
                go_wp2_with fail
                exact ⟨⟨i + 1, DD, r', F', by go_num, hlt, HO6.out.below ((Below.refl _ _).drew), HR6.out.below ((Below.refl _ _).drew), HSIM.out, hqq⟩, by simp [intOf]; omega⟩
              · by_cases q3 : o.kind.toNat % 5 = 3
                · have hkz : (o.kind.toNat : Int) % 5 = 3 := by omega
                  have hstep : d.step o kl = (d.cut o.n, ⟨#[]⟩, 0) := by unfold DevD.step; rw [if_neg q0, if_neg q1, if_neg q2, if_pos q3]
                  rw [hstep] at hsim hres
                  simp only [Prod.mk.injEq] at hres
                  obtain ⟨hw, hf⟩ := hres
                  have HSIM := Lib.hid hsim
                  have hqq : ((d.cut o.n)).queue.length ≤ i + 1 := by
                    (have e : (d.cut o.n).queue = d.queue := by unfold DevD.cut; split <;> rfl)
                    rw [e]; omega
                  subst hw
                  subst hf
                  clear q0 q1 q2 q3
                  clear hsim hstep hq5
                  go_wp2_with fail
                  refine (ownr_cut HOA.out o.n).mono ?_
                  rintro e w5 ⟨rfl, h5, hh5⟩
                  have HO5 := Lib.hid h5
                  have HR5 := Lib.hid (HRA.out.keep (fun k q => hh5.block k (Or.inl q)))
                  have HOC5 := Lib.hid ((hh5.block _ (Or.inr rfl)).trans HOC.out)
                  clear h5 hh5
                  have o0 : w5.cell? ⟨wr.heap.size, 0, none⟩ = some (.int .u8 o.kind.toNat) := (m_cells HOC5.out).1 0
                  have o1 : w5.cell? ⟨wr.heap.size, 1, none⟩ = some (.int .i64 o.i) := (m_cells HOC5.out).1 1
                  have o2 : w5.cell? ⟨wr.heap.size, 2, none⟩ = some (.int .i64 o.n) := (m_cells HOC5.out).1 2
                  have o3 : w5.cell? ⟨wr.heap.size, 3, none⟩ = some (.string o.b) := (m_cells HOC5.out).1 3
                  have o4 : w5.cell? ⟨wr.heap.size, 4, none⟩ = some (.slice o.ka o.kn o.kc) := (m_cells HOC5.out).1 4
                  go_wp2_with fail
                  refine (HDO.out w5 F HR5.out (fun w' hk => HKL.out.below (HO5.out.bel.trans (hk.toBelow HO5.out.bel.size (fun j q => HO5.out.ge (Or.inl q)))))).mono ?_
                  rintro e w6 ⟨rfl, F', hr6, hF6, hk6⟩
                  have HO6 := Lib.hid (HO5.out.turn (R' := F') (hk6.mono (fun j q => Or.inl (Or.inl q))) (fun k q => ⟨(hF6 k q).imp (fun e => Or.inl e) id, hr6.lt q⟩))
                  have HR6 := Lib.hid hr6
                  have hlen := congrArg List.length HSIM.out.queue
                  rw [List.length_zip, HSIM.out.len, Nat.min_self] at hlen
                  have hsz := HSIM.out.size
                  have hse := HSIM.out.seen
                  obtain ⟨sv, ev, av, dv, -, hra6⟩ := hr6
                  obtain ⟨ea, ec, rfl⟩ := hra6.seen.shape
                  obtain ⟨aa, ac, rfl⟩ := hra6.ats.shape
                  obtain ⟨cc, ff⟩ := m_cells hra6.blk
                  have c1z : w6.cell? ⟨g2, 1, none⟩ = some (.slice ea r'.seen.length ec) := cc 1
                  have c2z : w6.cell? ⟨g2, 2, none⟩ = some (.slice aa r'.at_.length ac) := cc 2
                  rw [hse] at c1z
                  rw [← hlen] at c2z
                  clear hF6 hk6 hra6 cc ff hse hlen o0 o1 o2 o3 o4 c0 c1 c2 c3 c4
                  generalize hDD : (d.cut o.n) = DD at *
                  have HDD := Lib.hid hDD
                  clear hDD
                  go_wp2_with fail
                  go_region_held3 (fun w' => w'.cell? ⟨g2, 1, none⟩ = some (.slice ea nn ec) ∧ w'.cell? ⟨g2, 2, none⟩ = some (.slice aa DD.queue.length ac)) (first | exact ⟨c1z, c2z⟩ | go_keep)
                    (first
                     | (go_at_call 21; refine (ownr_pending (HO6.out.below (by repeat (first | exact Below.refl _ _ | assumption | (refine Below.drew ?_) | (refine below_drewN ?_ _) | (refine Below.alloc ?_ (by simp; done) _) | (refine Below.alloc ?_ (by simp; omega) _))))).mono ?_; rintro e w7 ⟨rfl, rfl⟩)
                     | (go_at_call 30; refine (ownr_size (HO6.out.below (by repeat (first | exact Below.refl _ _ | assumption | (refine Below.drew ?_) | (refine below_drewN ?_ _) | (refine Below.alloc ?_ (by simp; done) _) | (refine Below.alloc ?_ (by simp; omega) _))))).mono ?_; rintro e w8 ⟨rfl, rfl⟩; rw [hsz]))
                  go_wp2_with fail
                  exact ⟨⟨i + 1, DD, r', F', by go_num, hlt, HO6.out.below ((Below.refl _ _).drew), HR6.out.below ((Below.refl _ _).drew), HSIM.out, hqq⟩, by simp [intOf]; omega⟩
                · have hkz : (o.kind.toNat : Int) % 5 = 4 := by omega
                  have hstep : d.step o kl = (d.restart kl, ⟨#[]⟩, 0) := by unfold DevD.step; rw [if_neg q0, if_neg q1, if_neg q2, if_neg q3]
                  rw [hstep] at hsim hres
                  simp only [Prod.mk.injEq] at hres
                  obtain ⟨hw, hf⟩ := hres
                  have HSIM := Lib.hid hsim
                  have hqq : ((d.restart kl)).queue.length ≤ i + 1 := by
                    exact Nat.zero_le _
                  subst hw
                  subst hf
                  clear q0 q1 q2 q3
                  clear hsim hstep hq5
                  go_wp2_with fail
                  refine (ownr_restart HOA.out _ kl HKL.out (by unfold maxLen; omega) (by omega)).mono ?_
                  rintro e w5 ⟨rfl, h5, hh5⟩
                  have HO5 := Lib.hid h5
                  have HR5 := Lib.hid (HRA.out.keep (fun k q => hh5.block k (Or.inl q)))
                  have HOC5 := Lib.hid ((hh5.block _ (Or.inr rfl)).trans HOC.out)
                  clear h5 hh5
                  have o0 : w5.cell? ⟨wr.heap.size, 0, none⟩ = some (.int .u8 o.kind.toNat) := (m_cells HOC5.out).1 0
                  have o1 : w5.cell? ⟨wr.heap.size, 1, none⟩ = some (.int .i64 o.i) := (m_cells HOC5.out).1 1
                  have o2 : w5.cell? ⟨wr.heap.size, 2, none⟩ = some (.int .i64 o.n) := (m_cells HOC5.out).1 2
                  have o3 : w5.cell? ⟨wr.heap.size, 3, none⟩ = some (.string o.b) := (m_cells HOC5.out).1 3
                  have o4 : w5.cell? ⟨wr.heap.size, 4, none⟩ = some (.slice o.ka o.kn o.kc) := (m_cells HOC5.out).1 4
                  go_wp2_with fail
                  refine (HDO.out w5 F HR5.out (fun w' hk => HKL.out.below (HO5.out.bel.trans (hk.toBelow HO5.out.bel.size (fun j q => HO5.out.ge (Or.inl q)))))).mono ?_
                  rintro e w6 ⟨rfl, F', hr6, hF6, hk6⟩
                  have HO6 := Lib.hid (HO5.out.turn (R' := F') (hk6.mono (fun j q => Or.inl (Or.inl q))) (fun k q => ⟨(hF6 k q).imp (fun e => Or.inl e) id, hr6.lt q⟩))
                  have HR6 := Lib.hid hr6
                  have hlen := congrArg List.length HSIM.out.queue
                  rw [List.length_zip, HSIM.out.len, Nat.min_self] at hlen
                  have hsz := HSIM.out.size
                  have hse := HSIM.out.seen
                  obtain ⟨sv, ev, av, dv, -, hra6⟩ := hr6
                  obtain ⟨ea, ec, rfl⟩ := hra6.seen.shape
                  obtain ⟨aa, ac, rfl⟩ := hra6.ats.shape
                  obtain ⟨cc, ff⟩ := m_cells hra6.blk
                  have c1z : w6.cell? ⟨g2, 1, none⟩ = some (.slice ea r'.seen.length ec) := cc 1
                  have c2z : w6.cell? ⟨g2, 2, none⟩ = some (.slice aa r'.at_.length ac) := cc 2
                  rw [hse] at c1z
                  rw [← hlen] at c2z
                  clear hF6 hk6 hra6 cc ff hse hlen o0 o1 o2 o3 o4 c0 c1 c2 c3 c4
                  generalize hDD : (d.restart kl) = DD at *
                  have HDD := Lib.hid hDD
                  clear hDD
                  go_wp2_with fail
                  go_region_held3 (fun w' => w'.cell? ⟨g2, 1, none⟩ = some (.slice ea nn ec) ∧ w'.cell? ⟨g2, 2, none⟩ = some (.slice aa DD.queue.length ac)) (first | exact ⟨c1z, c2z⟩ | go_keep)
                    (first
                     | (go_at_call 21; refine (ownr_pending (HO6.out.below (by repeat (first | exact Below.refl _ _ | assumption | (refine Below.drew ?_) | (refine below_drewN ?_ _) | (refine Below.alloc ?_ (by simp; done) _) | (refine Below.alloc ?_ (by simp; omega) _))))).mono ?_; rintro e w7 ⟨rfl, rfl⟩)
                     | (go_at_call 30; refine (ownr_size (HO6.out.below (by repeat (first | exact Below.refl _ _ | assumption | (refine Below.drew ?_) | (refine below_drewN ?_ _) | (refine Below.alloc ?_ (by simp; done) _) | (refine Below.alloc ?_ (by simp; omega) _))))).mono ?_; rintro e w8 ⟨rfl, rfl⟩; rw [hsz]))
                  go_wp2_with fail
                  exact ⟨⟨i + 1, DD, r', F', by go_num, hlt, HO6.out.below ((Below.refl _ _).drew), HR6.out.below ((Below.refl _ _).drew), HSIM.out, hqq⟩, by simp [intOf]; omega⟩
        · have ei : i = l.length := by omega
          subst ei
          have i1 : ¬ ((l.length : Int) < l.length) := by omega
          go_wp2_with fail
          refine (ownr_restart HO.out (.slice none 0 0) [] (Arg.nil EInt w) (by simp) (by omega)).mono ?_
          rintro e w5 ⟨rfl, h5, hh5⟩
          have HO5 := Lib.hid h5
          have HR5 := Lib.hid (HR.out.keep (fun k q => hh5.block k q))
          clear h5 hh5
          have hsim := sim_restart HS.out []
          have hdo := do_any ⟨4, 0, 0, ⟨#[]⟩, none, 0, 0⟩ [] HR5.out (by show (0 : Nat) ≤ maxLen; unfold maxLen; omega) (fun w' _ => Arg.nil EInt w') rfl (by simp) (by rw [HS.out.safe]; omega) (by rw [HS.out.seen, HS.out.safe]) HS.out.len (by have := congrArg List.length HS.out.queue; rw [List.length_zip] at this; have := HS.out.len; omega) (fun a ha => by have := HS.out.ats a ha; rw [HS.out.safe]; exact this) HS.out.high
          unfold OpD.cells OpD.kv at hdo
          have hst : r.step ⟨4, 0, 0, ⟨#[]⟩, none, 0, 0⟩ [] = (r.restart [], ⟨#[]⟩, 0) := rfl
          rw [hst] at hdo
          have HDO := Lib.hid hdo
          have HSIM := Lib.hid hsim
          clear hdo hst hsim
          go_wp2_with fail
          refine HDO.out.mono ?_
          rintro e w6 ⟨rfl, F', hr6, hF6, hk6⟩
          have HO6 := Lib.hid (HO5.out.turn (R' := F') hk6 (fun k q => ⟨hF6 k q, hr6.lt q⟩))
          have HR6 := Lib.hid hr6
          have hsz := HSIM.out.size
          clear hr6 hF6 hk6
          have hdl : (d.restart []).left = -1 := rfl
          have hss : ∀ j : Nat, (d.restart []).sec j = msec (d.restart []).safe j := fun _ => rfl
          generalize d.restart [] = DD at *
          generalize r.restart [] = RR at *
          have hask : ∀ j : Nat, j < nn → DD.ask j = 0 := fun j hj => by unfold DevD.ask; rw [hdl, if_neg (by decide), if_neg (by rw [hsz]; omega)]
          have HASK := Lib.hid hask
          have HSS := Lib.hid hss
          clear hask hdl hss
          go_wp2_with fail
          go_loopw [15] (fun iv wr => ∃ j : Nat, iv = .int .i64 j ∧ j ≤ nn ∧ Below w6.heap.size w6 wr) (fun iv _ => nn - (intOf iv).toNat)
          case atStart => exact ⟨0, rfl, Nat.zero_le _, Below.refl _ _⟩
          case round =>
            obtain ⟨j, rfl, hj, hbj⟩ := hrel
            have HOJ := Lib.hid (HO6.out.below hbj)
            have HRJ := Lib.hid (HR6.out.below hbj)
            have HBJ := Lib.hid hbj
            clear hbj
            go_wp2_with fail
            refine (ownr_size HOJ.out).mono ?_
            rintro e w7 ⟨rfl, rfl⟩
            rw [hsz]
            by_cases hjl : j < nn
            · have j1 : (j : Int) < nn := by omega
              obtain ⟨b, hb⟩ : ∃ b, msec DD.safe j = b := ⟨_, rfl⟩
              have hsj := HSIM.out.sat j hjl
              rw [hb] at hsj
              have hget : DD.get j = b := by unfold DevD.get; rw [if_pos (HASK.out j hjl), ← hb]; exact HSS.out j
              have HG := Lib.hid hget
              have HSJ := Lib.hid hsj
              clear hb hsj hget
              go_wp2_with fail
              refine (ownr_get HOJ.out j).mono ?_
              rintro e w8 ⟨rfl, h8, hb8⟩
              rw [HASK.out j hjl, HG.out]
              have hr8 := HRJ.out.below hb8
              obtain ⟨sv, ev, av, dv, -, hra8⟩ := hr8
              obtain ⟨gs, scp, e', _, _, _, hst⟩ := hra8.safe.strs (by intro q; have h := HSJ.out; rw [q] at h; simp at h)
              subst e'
              have cj : w8.cell? ⟨gs, j, none⟩ = some (.string b) := by have := hst j b HSJ.out; rwa [Nat.zero_add] at this
              have c0z : w8.cell? ⟨g2, 0, none⟩ = some (.slice (some ⟨gs, 0, none⟩) RR.safe.length scp) := (m_cells hra8.blk).1 0
              have hsl8 := HSIM.out.safe
              rw [hsl8] at c0z
              have hre := str_refl b
              have HB8 := Lib.hid (HBJ.out.trans (hb8.mono HBJ.out.size))
              clear h8 hb8 hra8 hst hsl8
              go_wp2_with fail
              exact ⟨⟨j + 1, by go_num, hjl, HB8.out⟩, by simp [intOf]; omega⟩
            · have j1 : ¬ ((j : Int) < nn) := by omega
              go_wp2_with fail
              go_ret
              exact ⟨rfl, HOJ.out.bel⟩
end Go.Proofs.Ytncbojocglcieaa
