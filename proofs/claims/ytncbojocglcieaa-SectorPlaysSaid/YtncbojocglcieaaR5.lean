/- sector's reference: Put. -/
import Derived.Test.YtncbojocglcieaaR4
namespace Go.Proofs.Ytncbojocglcieaa
open Go.RowKit
set_option linter.unusedSimpArgs false
set_option linter.unusedVariables false
section
variable {w w3 : World} {g : Nat} {sv ev av dv v3 : Value} {r : RefD}
theorem RAt.setLeft (h : RAt w g sv ev av dv r) (v : Int) : RAt (w.setCell ⟨g, 4, none⟩ (.int .i64 v)) g sv ev av dv { r with left := v } := by
  have hk : Keep (fun k => k = g) w (w.setCell ⟨g, 4, none⟩ (.int .i64 v)) := (Keep.refl (fun k => k = g) w).set g 4 _ (Or.inl rfl)
  have hb := m_set h.blk 4 (.int .i64 v)
  exact ⟨by simpa using hb, h.safe.keep hk (fun i hi q => h.ngs (by rw [hi, q])), h.seen.keep hk (fun i hi q => h.nge (by rw [hi, q])), h.ats.keep hk (fun i hi q => h.nga (by rw [hi, q])), h.data.keep hk (fun i hi q => h.ngd (by rw [hi, q])), h.ngs, h.nge, h.nga, h.ngd, h.nse, h.nsa, h.nsd, h.nea, h.ned, h.nad⟩
theorem RAt.setSeen {ge n c : Nat} (h : RAt w g sv (.slice (some ⟨ge, 0, none⟩) n c) av dv r) (i : Nat) (b : ByteArray) : RAt (w.setCell ⟨ge, i, none⟩ (.string b)) g sv (.slice (some ⟨ge, 0, none⟩) n c) av dv { r with seen := r.seen.set i b } := by
  have hk : Keep (fun k => k = ge) w (w.setCell ⟨ge, i, none⟩ (.string b)) := (Keep.refl (fun k => k = ge) w).set ge i _ (Or.inl rfl)
  have hne : g ≠ ge := fun e => h.nge (by rw [e]; rfl)
  exact ⟨m_set_ne h.blk ge i _ hne, h.safe.keep hk (fun j hj q => h.nse j hj (by rw [q]; rfl)), h.seen.set1 rfl i b (.string b) rfl, h.ats.keep hk (fun j hj q => h.nea ge rfl (by rw [hj, q])), h.data.keep hk (fun j hj q => h.ned ge rfl (by rw [hj, q])), h.ngs, h.nge, h.nga, h.ngd, h.nse, h.nsa, h.nsd, h.nea, h.ned, h.nad⟩
theorem keepOwn {o : Obj} (k3 : Keep (fun k => some k = av.ownBlock) (w.alloc o) w3) : Keep (fun k => some k = av.ownBlock) w w3 := ((Keep.refl _ w).alloc o).trans k3
theorem RAt.appAt {o : Obj} {l : List Int} (h : RAt w g sv ev av dv r) (k3 : Keep (fun k => some k = av.ownBlock) (w.alloc o) w3) (hr3 : Row EInt w3 0 v3 l) (hv3 : ∀ k, v3.ownBlock = some k → av.ownBlock = some k ∨ (w.alloc o).heap.size = k) : RAt (w3.setCell ⟨g, 2, none⟩ v3) g sv ev v3 dv { r with at_ := l } := by
  have hk := keepOwn k3
  have hg := m_keep h.blk hk (fun e => h.nga e.symm)
  have hks : Keep (fun k => k = g) w3 (w3.setCell ⟨g, 2, none⟩ v3) := (Keep.refl (fun k => k = g) w3).set g 2 _ (Or.inl rfl)
  have hgl := m_lt h.blk
  have hnew : ∀ k, v3.ownBlock = some k → av.ownBlock = some k ∨ w.heap.size ≤ k := fun k q => (hv3 k q).imp id (fun e => by simp at e; omega)
  have hb := m_set hg 2 v3
  refine ⟨by simpa using hb, (h.safe.keep hk (fun i hi q => h.nsa i hi q.symm)).keep hks (fun i hi q => h.ngs (by rw [hi, q])), (h.seen.keep hk (fun i hi q => h.nea i hi q.symm)).keep hks (fun i hi q => h.nge (by rw [hi, q])), hr3.keep hks (fun i hi q => ?_), (h.data.keep hk (fun i hi q => h.nad i q.symm hi)).keep hks (fun i hi q => h.ngd (by rw [hi, q])), h.ngs, h.nge, fun e => ?_, h.ngd, h.nse, fun k q e => ?_, h.nsd, fun k q e => ?_, h.ned, fun k q e => ?_⟩
  · subst q
    rcases hnew _ hi with e | e
    · exact h.nga e
    · omega
  · rcases hnew g e with e | e
    · exact h.nga e
    · omega
  · rcases hnew k e with e | e
    · exact h.nsa k q e
    · have := h.safe.lt q; omega
  · rcases hnew k e with e | e
    · exact h.nea k q e
    · have := h.seen.lt q; omega
  · rcases hnew k q with q | q
    · exact h.nad k q e
    · have := h.data.lt e; omega
theorem RAt.appData {o : Obj} {l : List ByteArray} (h : RAt w g sv ev av dv r) (k3 : Keep (fun k => some k = dv.ownBlock) (w.alloc o) w3) (hr3 : Row EStr w3 0 v3 l) (hv3 : ∀ k, v3.ownBlock = some k → dv.ownBlock = some k ∨ (w.alloc o).heap.size = k) : RAt (w3.setCell ⟨g, 3, none⟩ v3) g sv ev av v3 { r with data := l } := by
  have hk := keepOwn k3
  have hg := m_keep h.blk hk (fun e => h.ngd e.symm)
  have hks : Keep (fun k => k = g) w3 (w3.setCell ⟨g, 3, none⟩ v3) := (Keep.refl (fun k => k = g) w3).set g 3 _ (Or.inl rfl)
  have hgl := m_lt h.blk
  have hnew : ∀ k, v3.ownBlock = some k → dv.ownBlock = some k ∨ w.heap.size ≤ k := fun k q => (hv3 k q).imp id (fun e => by simp at e; omega)
  have hb := m_set hg 3 v3
  refine ⟨by simpa using hb, (h.safe.keep hk (fun i hi q => h.nsd i hi q.symm)).keep hks (fun i hi q => h.ngs (by rw [hi, q])), (h.seen.keep hk (fun i hi q => h.ned i hi q.symm)).keep hks (fun i hi q => h.nge (by rw [hi, q])), (h.ats.keep hk (fun i hi q => h.nad i hi q.symm)).keep hks (fun i hi q => h.nga (by rw [hi, q])), hr3.keep hks (fun i hi q => ?_), h.ngs, h.nge, h.nga, fun e => ?_, h.nse, h.nsa, fun k q e => ?_, h.nea, fun k q e => ?_, fun k q e => ?_⟩
  · subst q
    rcases hnew _ hi with e | e
    · exact h.ngd e
    · omega
  · rcases hnew g e with e | e
    · exact h.ngd e
    · omega
  · rcases hnew k e with e | e
    · exact h.nsd k q e
    · have := h.safe.lt q; omega
  · rcases hnew k e with e | e
    · exact h.ned k q e
    · have := h.seen.lt q; omega
  · rcases hnew k e with e | e
    · exact h.nad k q e
    · have := h.ats.lt q; omega
end
def RefD.put (r : RefD) (i : Nat) (b : ByteArray) : RefD := ⟨r.safe, r.seen.set i b, r.at_ ++ [(i : Int)], r.data ++ [b], if 0 < r.left then r.left - 1 else r.left⟩
set_option maxRecDepth 100000 in
set_option maxHeartbeats 4000000 in
theorem do_put {w : World} {g : Nat} {sv ev av dv : Value} {r : RefD} (o : OpD) (h : RAt w g sv ev av dv r) (hk : o.kind.toNat % 5 = 0) (hl : r.left ≠ 0) (hlm : r.left ≤ 9223372036854775807) (hi : 0 ≤ o.i ∧ o.i < r.seen.length) (h64 : o.b.size = 64) (hal : r.at_.length ≤ 100000) (hdl : r.data.length ≤ 100000) (hbs : o.b.size ≤ maxLen) :
    Calls Try.prog 29 #[.pointer (some ⟨g, 0, none⟩), .agg o.cells.toArray] w fun e w' => e = .returned (.tuple #[.string ⟨#[]⟩, .int .i64 0]) ∧ RStepped w (rfoot g sv ev av dv) g (r.put o.i.toNat o.b) w' := by
  unfold maxLen at hbs
  unfold OpD.cells OpD.kv
  obtain ⟨q, hq⟩ : ∃ q, o.kind.toNat % 5 = q := ⟨_, rfl⟩
  have hk5 : (o.kind.toNat : Int) % 5 = q := by omega
  obtain ⟨sa, sc, rfl⟩ := h.safe.shape
  obtain ⟨ea, ec, rfl⟩ := h.seen.shape
  obtain ⟨aa, ac, rfl⟩ := h.ats.shape
  obtain ⟨da, dc, rfl⟩ := h.data.shape
  obtain ⟨c, f⟩ := m_cells h.blk
  have c1 : w.cell? ⟨g, 1, none⟩ = some (.slice ea r.seen.length ec) := c 1
  have c4 : w.cell? ⟨g, 4, none⟩ = some (.int .i64 r.left) := c 4
  have hgl := m_lt h.blk
  have hgn : ¬ (g = w.heap.size) := by omega
  have hgn2 : ¬ (w.heap.size = g) := by omega
  have hq1 : q = 0 := by omega
  subst hq1
  obtain ⟨i, hi2⟩ : ∃ i : Nat, o.i = i := ⟨o.i.toNat, by omega⟩
  rw [hi2] at hi ⊢
  obtain ⟨x, hx⟩ : ∃ x, r.seen[i]? = some x := ⟨_, List.getElem?_eq_getElem (by omega)⟩
  obtain ⟨ge, cpe, e', _, hgel, _, _, hcl, hfr⟩ := h.seen.slice (by intro q; rw [q] at hx; simp at hx)
  simp only [Value.slice.injEq] at e'
  obtain ⟨rfl, -, rfl⟩ := e'
  have hgge : ¬ (g = ge) := fun e => h.nge (by rw [e]; rfl)
  have hgge2 : ¬ (ge = g) := fun e => hgge e.symm
  have hgeo : ¬ (ge = w.heap.size) := by omega
  have hgeo2 : ¬ (w.heap.size = ge) := by omega
  have z3 : (r.left == 0) = false := by rw [beq_eq_false_iff_ne]; exact hl
  have q1 : (0 : Int) ≤ i := hi.1
  have q2 : (i : Int) < r.seen.length := hi.2
  have q3 : decide ((i : Int) < 0) = false := decide_eq_false (by omega)
  have q4 : ((o.b.size : Int) != 64) = false := by rw [h64]; rfl
  have H := Lib.hid h
  have HFR := Lib.hid hfr
  clear h c f hq hk hcl hl hfr
  go_enter Try.func29, Try.ntmps29
  go_wp2_with fail
  go_quiet (fail)
  generalize hW1 : World.drewN _ nq = w1 at *
  have hb1 : Below w.heap.size w w1 := by rw [← hW1]; exact ((Below.refl _ w).alloc (Nat.le_refl _) _).trans ((qt_below (Qt.drewN _ nq)).mono (by simp))
  have hob : w1.heap[w.heap.size]? = some (.cells #[.int .u8 o.kind.toNat, .int .i64 i, .int .i64 o.n, .string o.b, .slice o.ka o.kn o.kc] 46 (0, 0)) := by rw [← hW1]; exact m_alloc w _ _ rfl
  have HB1 := Lib.hid hb1
  have HOB := Lib.hid hob
  clear hW1 hb1 hob
  have h1 := H.out.below HB1.out
  obtain ⟨c', f'⟩ := m_cells h1.blk
  have c1' : w1.cell? ⟨g, 1, none⟩ = some (.slice (some ⟨ge, 0, none⟩) r.seen.length ec) := c' 1
  have c2' := c' 2
  have c3' := c' 3
  have c4' : w1.cell? ⟨g, 4, none⟩ = some (.int .i64 r.left) := c' 4
  have f2' := f' 2
  have f3' := f' 3
  have f4' := f' 4
  obtain ⟨_, _, e'', _, _, _, _, hcl1, hfr1⟩ := h1.seen.slice (by intro q; rw [q] at hx; simp at hx)
  simp only [Value.slice.injEq, Option.some.injEq, Addr.mk.injEq] at e''
  obtain ⟨⟨rfl, -, -⟩, -, -⟩ := e''
  have cx : w1.cell? ⟨ge, i, none⟩ = some (.string x) := by have := hcl1 i x hx 0 (by decide); simpa [EStr] using this
  have fx := hfr1 i
  have co1 : w1.cell? ⟨w.heap.size, 1, none⟩ = some (.int .i64 i) := (m_cells HOB.out).1 1
  have co3 : w1.cell? ⟨w.heap.size, 3, none⟩ = some (.string o.b) := (m_cells HOB.out).1 3
  have hat : ∀ k, (Value.slice aa r.at_.length ac).ownBlock = some k → k < w.heap.size := fun k q => H.out.ats.lt q
  have hdt : ∀ k, (Value.slice da r.data.length dc).ownBlock = some k → k < w.heap.size := fun k q => H.out.data.lt q
  have H1 := Lib.hid h1
  clear c' f' h1 c1 c4 hcl1 hfr1
  have HRD0 := Lib.hid H1.out
  by_cases hl0 : 0 < r.left
  · have hput : r.put i o.b = ⟨r.safe, r.seen.set i o.b, r.at_ ++ [(i : Int)], r.data ++ [o.b], r.left - 1⟩ := by unfold RefD.put; rw [if_pos hl0]
    have hrl := H1.out.setLeft (r.left - 1)
    have hkl : Keep (fun k => k = g) w1 (w1.setCell ⟨g, 4, none⟩ (.int .i64 (r.left - 1))) := (Keep.refl (fun k => k = g) w1).set g 4 _ (Or.inl rfl)
    have hol : (w1.setCell ⟨g, 4, none⟩ (.int .i64 (r.left - 1))).heap[w.heap.size]? = _ := m_keep HOB.out hkl hgn2
    have HRL := Lib.hid hrl
    have HKL := Lib.hid hkl
    have HOL := Lib.hid hol
    clear hrl hkl hol
    have HP := Lib.hid hput
    clear hput
    go_wp2_with fail
    generalize w1.setCell ⟨g, 4, none⟩ (.int .i64 (r.left - 1)) = wL at *
    have hrs := (HRL.out.setSeen i o.b).below (Below.drew (Below.refl _ _))
    have hks := (((Keep.refl (fun k => k = ge) wL).set ge i (.string o.b) (Or.inl rfl)).drew)
    have hob2 : ((wL.setCell ⟨ge, i, none⟩ (.string o.b)).drew).heap[w.heap.size]? = _ := m_keep HOL.out hks hgeo2
    have HRS := Lib.hid hrs
    have HKS := Lib.hid hks
    have HO2 := Lib.hid hob2
    clear hrs hks hob2
    obtain ⟨cc, ff⟩ := m_cells HRL.out.blk
    have c1L : wL.cell? ⟨g, 1, none⟩ = some (.slice (some ⟨ge, 0, none⟩) r.seen.length ec) := cc 1
    have co1L : wL.cell? ⟨w.heap.size, 1, none⟩ = some (.int .i64 i) := (m_cells HOL.out).1 1
    have co3L : wL.cell? ⟨w.heap.size, 3, none⟩ = some (.string o.b) := (m_cells HOL.out).1 3
    obtain ⟨_, _, e3, _, _, _, _, hcl2, hfr2⟩ := HRL.out.seen.slice (by intro q; rw [q] at hx; simp at hx)
    simp only [Value.slice.injEq, Option.some.injEq, Addr.mk.injEq] at e3
    obtain ⟨⟨rfl, -, -⟩, -, -⟩ := e3
    have cxL : wL.cell? ⟨ge, i, none⟩ = some (.string x) := by have := hcl2 i x hx 0 (by decide); simpa [EStr] using this
    have fxL := hfr2 i
    clear cc ff hcl2 hfr2
    go_region
    generalize hW2 : World.drew _ = w2 at *
    have hblk2 := HRS.out.blk
    obtain ⟨cc, ff⟩ := m_cells hblk2
    have c2d : w2.cell? ⟨g, 2, none⟩ = some (.slice aa r.at_.length ac) := cc 2
    have c3d : w2.cell? ⟨g, 3, none⟩ = some (.slice da r.data.length dc) := cc 3
    have f2d := ff 2
    have f3d := ff 3
    have co1d : w2.cell? ⟨w.heap.size, 1, none⟩ = some (.int .i64 i) := (m_cells HO2.out).1 1
    have co3d : w2.cell? ⟨w.heap.size, 3, none⟩ = some (.string o.b) := (m_cells HO2.out).1 3
    have hs2 : w.heap.size < w2.heap.size := m_lt HO2.out
    have hs3 : g < w2.heap.size := m_lt hblk2
    have hs4 : ¬ (g = w2.heap.size) := by omega
    have hs5 : ¬ (w.heap.size = w2.heap.size) := by omega
    clear cc ff hblk2 hW2 c1L co1L co3L cxL fxL
    have HRSD := Lib.hid (HRS.out.below (Below.drew (Below.refl _ _)))
    have HO2D := Lib.hid (show w2.drew.heap[w.heap.size]? = _ from HO2.out)
    go_wp2_with fail
    go_region_law
      (refine step_app EInt.laid rfl _ _ 23 23 Try.underlying23 Try.underlying23 rfl (.slice aa r.at_.length ac) r.at_ rfl (HRSD.out.ats.alloc _) _ [(i : Int)] rfl ?e1 ?e2 ?e3 (Nat.zero_le _) ?_
       case e1 => exact Arg.blk (m_alloc _ _ _ rfl) [(i : Int)] rfl 1
       case e2 => (show (r.at_.length + 1) * 8 ≤ _; omega)
       case e3 => (show r.at_.length + 1 ≤ maxLen; unfold maxLen; omega)
       intro v3 w3 hr3 hv3 k3
       have hn3 : (r.at_ ++ [(i : Int)]).length = r.at_.length + 1 := (by simp)
       obtain ⟨v3a, v3c, rfl⟩ := hr3.shape
       rw [hn3] at hr3 hv3 ⊢
       have k3' : Keep (fun k => some k = (Value.slice aa r.at_.length ac).ownBlock) (w2.alloc (.cells #[.int .i64 i] 3)) w3 := ((Keep.refl _ _).drew).trans k3
       have hra := HRS.out.appAt k3' hr3 (fun k q => hv3 k q)
       have hkw := keepOwn k3'
       have hka : Keep (fun k => some k = (Value.slice aa r.at_.length ac).ownBlock ∨ k = g) w2 (w3.setCell ⟨g, 2, none⟩ (.slice v3a (r.at_.length + 1) v3c)) := (hkw.mono (fun i q => Or.inl (Or.inl q))).set g 2 _ (Or.inl (Or.inr rfl))
       have ho3 := m_keep HO2.out hka (fun e => by (rcases e with e | e; exact absurd (hat _ e.symm) (Nat.lt_irrefl _); exact hgn2 e))
       have hg3 := m_keep HRS.out.blk hkw (fun e => HRS.out.nga e.symm)
       obtain ⟨cc3, ff3⟩ := m_cells hg3
       have c2e := cc3 2
       have f2e := ff3 2
       have HRA := Lib.hid hra
       have HKA := Lib.hid hka
       have HV3 := Lib.hid (show ∀ k, (Value.slice v3a (r.at_.length + 1) v3c).ownBlock = some k → (Value.slice aa r.at_.length ac).ownBlock = some k ∨ w2.heap.size ≤ k from fun k q => (hv3 k q).imp id (fun e => (by simp at e; omega)))
       have HO3 := Lib.hid ho3
       clear hra hka ho3 hg3 cc3 ff3 hr3 hv3 k3 k3' hkw)
    all_goals
      generalize hW4 : World.setCell w3 _ _ = w4 at *
      have hblk4 := HRA.out.blk
      obtain ⟨cc, ff⟩ := m_cells hblk4
      have c3h : w4.cell? ⟨g, 3, none⟩ = some (.slice da r.data.length dc) := cc 3
      have f3h := ff 3
      have co3h : w4.cell? ⟨w.heap.size, 3, none⟩ = some (.string o.b) := (m_cells HO3.out).1 3
      have ht2 : w.heap.size < w4.heap.size := m_lt HO3.out
      have ht3 : g < w4.heap.size := m_lt hblk4
      have ht4 : ¬ (g = w4.heap.size) := by omega
      have ht5 : ¬ (w.heap.size = w4.heap.size) := by omega
      have HRAD := Lib.hid (HRA.out.below (Below.drew (Below.refl _ _)))
      clear cc ff hblk4 hW4 c2e f2e c2d c3d f2d f3d co1d co3d
      go_wp2_with fail
      go_region_law
        (refine step_app EStr.laid rfl _ _ 49 49 Try.underlying49 Try.underlying49 rfl (.slice da r.data.length dc) r.data rfl (HRAD.out.data.alloc _) _ [o.b] rfl ?e4 ?e5 ?e6 (Nat.zero_le _) ?_
         case e4 => exact Arg.blk (m_alloc _ _ _ rfl) [o.b] rfl 1
         case e5 => (show (r.data.length + 1) * 16 ≤ _; omega)
         case e6 => (show r.data.length + 1 ≤ maxLen; unfold maxLen; omega)
         intro v5 w5 hr5 hv5 k5
         have hn5 : (r.data ++ [o.b]).length = r.data.length + 1 := (by simp)
         obtain ⟨v5a, v5c, rfl⟩ := hr5.shape
         rw [hn5] at hr5 hv5 ⊢
         have k5' : Keep (fun k => some k = (Value.slice da r.data.length dc).ownBlock) (w4.alloc (.cells #[.string o.b] 9)) w5 := ((Keep.refl _ _).drew).trans k5
         have hrd := HRA.out.appData k5' hr5 (fun k q => hv5 k q)
         have hkd := keepOwn k5'
         have hkf : Keep (fun k => some k = (Value.slice da r.data.length dc).ownBlock ∨ k = g) w4 (w5.setCell ⟨g, 3, none⟩ (.slice v5a (r.data.length + 1) v5c)) := (hkd.mono (fun i q => Or.inl (Or.inl q))).set g 3 _ (Or.inl (Or.inr rfl))
         have hg5 := m_keep HRA.out.blk hkd (fun e => HRA.out.ngd e.symm)
         obtain ⟨cc5, ff5⟩ := m_cells hg5
         have c3g := cc5 3
         have f3g := ff5 3
         have HRD := Lib.hid hrd
         have HKF := Lib.hid hkf
         have HV5 := Lib.hid (show ∀ k, (Value.slice v5a (r.data.length + 1) v5c).ownBlock = some k → (Value.slice da r.data.length dc).ownBlock = some k ∨ w4.heap.size ≤ k from fun k q => (hv5 k q).imp id (fun e => (by simp at e; omega)))
         clear hrd hkd hkf hg5 cc5 ff5 hr5 hv5 k5 k5')
      all_goals
        go_wp2_with fail
        go_ret2
        refine ⟨rfl, ?_⟩
        rw [HP.out]
        have hz1 := HB1.out.size
        have hz2 := HKL.out.size
        have hz3 := HKS.out.size
        have hz4 := HKA.out.size
        exact RStepped.mk' HRD.out (((((keepBelow HB1.out).trans (HKL.out.mono (fun i q => Or.inl (Or.inl q)))).trans (HKS.out.mono (fun i q => Or.inl (Or.inr (Or.inr (Or.inl (by rw [q]; rfl))))))).trans (HKA.out.mono (fun i q => Or.inl (q.elim (fun e => Or.inr (Or.inr (Or.inr (Or.inl e.symm)))) (fun e => Or.inl e))))).trans (HKF.out.mono (fun i q => Or.inl (q.elim (fun e => Or.inr (Or.inr (Or.inr (Or.inr e.symm)))) (fun e => Or.inl e))))) (Or.inl (Or.inl rfl)) (fun k q => Or.inl (Or.inr (Or.inl q))) (fun k q => Or.inl (Or.inr (Or.inr (Or.inl q)))) (fun k q => (HV3.out k q).elim (fun e => Or.inl (Or.inr (Or.inr (Or.inr (Or.inl e))))) (fun e => Or.inr (by omega))) (fun k q => (HV5.out k q).elim (fun e => Or.inl (Or.inr (Or.inr (Or.inr (Or.inr e))))) (fun e => Or.inr (by omega)))
  · have hput : r.put i o.b = ⟨r.safe, r.seen.set i o.b, r.at_ ++ [(i : Int)], r.data ++ [o.b], r.left⟩ := by unfold RefD.put; rw [if_neg hl0]
    have hl1 : decide (0 < r.left) = false := decide_eq_false hl0
    have HRL := Lib.hid (show RAt w1 g (.slice sa r.safe.length sc) (.slice (some ⟨ge, 0, none⟩) r.seen.length ec) (.slice aa r.at_.length ac) (.slice da r.data.length dc) { r with left := r.left } from H1.out)
    have HKL := Lib.hid (Keep.refl (fun k => k = g) w1)
    have HOL := HOB
    have HP := Lib.hid hput
    clear hput
    go_wp2_with fail
    have hrs := (HRL.out.setSeen i o.b).below (Below.drew (Below.refl _ _))
    have hks := (((Keep.refl (fun k => k = ge) w1).set ge i (.string o.b) (Or.inl rfl)).drew)
    have hob2 : ((w1.setCell ⟨ge, i, none⟩ (.string o.b)).drew).heap[w.heap.size]? = _ := m_keep HOL.out hks hgeo2
    have HRS := Lib.hid hrs
    have HKS := Lib.hid hks
    have HO2 := Lib.hid hob2
    clear hrs hks hob2
    obtain ⟨cc, ff⟩ := m_cells HRL.out.blk
    have c1L : w1.cell? ⟨g, 1, none⟩ = some (.slice (some ⟨ge, 0, none⟩) r.seen.length ec) := cc 1
    have co1L : w1.cell? ⟨w.heap.size, 1, none⟩ = some (.int .i64 i) := (m_cells HOL.out).1 1
    have co3L : w1.cell? ⟨w.heap.size, 3, none⟩ = some (.string o.b) := (m_cells HOL.out).1 3
    obtain ⟨_, _, e3, _, _, _, _, hcl2, hfr2⟩ := HRL.out.seen.slice (by intro q; rw [q] at hx; simp at hx)
    simp only [Value.slice.injEq, Option.some.injEq, Addr.mk.injEq] at e3
    obtain ⟨⟨rfl, -, -⟩, -, -⟩ := e3
    have cxL : w1.cell? ⟨ge, i, none⟩ = some (.string x) := by have := hcl2 i x hx 0 (by decide); simpa [EStr] using this
    have fxL := hfr2 i
    clear cc ff hcl2 hfr2
    go_region
    generalize hW2 : World.drew _ = w2 at *
    have hblk2 := HRS.out.blk
    obtain ⟨cc, ff⟩ := m_cells hblk2
    have c2d : w2.cell? ⟨g, 2, none⟩ = some (.slice aa r.at_.length ac) := cc 2
    have c3d : w2.cell? ⟨g, 3, none⟩ = some (.slice da r.data.length dc) := cc 3
    have f2d := ff 2
    have f3d := ff 3
    have co1d : w2.cell? ⟨w.heap.size, 1, none⟩ = some (.int .i64 i) := (m_cells HO2.out).1 1
    have co3d : w2.cell? ⟨w.heap.size, 3, none⟩ = some (.string o.b) := (m_cells HO2.out).1 3
    have hs2 : w.heap.size < w2.heap.size := m_lt HO2.out
    have hs3 : g < w2.heap.size := m_lt hblk2
    have hs4 : ¬ (g = w2.heap.size) := by omega
    have hs5 : ¬ (w.heap.size = w2.heap.size) := by omega
    clear cc ff hblk2 hW2 c1L co1L co3L cxL fxL
    have HRSD := Lib.hid (HRS.out.below (Below.drew (Below.refl _ _)))
    have HO2D := Lib.hid (show w2.drew.heap[w.heap.size]? = _ from HO2.out)
    go_wp2_with fail
    go_region_law
      (refine step_app EInt.laid rfl _ _ 23 23 Try.underlying23 Try.underlying23 rfl (.slice aa r.at_.length ac) r.at_ rfl (HRSD.out.ats.alloc _) _ [(i : Int)] rfl ?e1 ?e2 ?e3 (Nat.zero_le _) ?_
       case e1 => exact Arg.blk (m_alloc _ _ _ rfl) [(i : Int)] rfl 1
       case e2 => (show (r.at_.length + 1) * 8 ≤ _; omega)
       case e3 => (show r.at_.length + 1 ≤ maxLen; unfold maxLen; omega)
       intro v3 w3 hr3 hv3 k3
       have hn3 : (r.at_ ++ [(i : Int)]).length = r.at_.length + 1 := (by simp)
       obtain ⟨v3a, v3c, rfl⟩ := hr3.shape
       rw [hn3] at hr3 hv3 ⊢
       have k3' : Keep (fun k => some k = (Value.slice aa r.at_.length ac).ownBlock) (w2.alloc (.cells #[.int .i64 i] 3)) w3 := ((Keep.refl _ _).drew).trans k3
       have hra := HRS.out.appAt k3' hr3 (fun k q => hv3 k q)
       have hkw := keepOwn k3'
       have hka : Keep (fun k => some k = (Value.slice aa r.at_.length ac).ownBlock ∨ k = g) w2 (w3.setCell ⟨g, 2, none⟩ (.slice v3a (r.at_.length + 1) v3c)) := (hkw.mono (fun i q => Or.inl (Or.inl q))).set g 2 _ (Or.inl (Or.inr rfl))
       have ho3 := m_keep HO2.out hka (fun e => by (rcases e with e | e; exact absurd (hat _ e.symm) (Nat.lt_irrefl _); exact hgn2 e))
       have hg3 := m_keep HRS.out.blk hkw (fun e => HRS.out.nga e.symm)
       obtain ⟨cc3, ff3⟩ := m_cells hg3
       have c2e := cc3 2
       have f2e := ff3 2
       have HRA := Lib.hid hra
       have HKA := Lib.hid hka
       have HV3 := Lib.hid (show ∀ k, (Value.slice v3a (r.at_.length + 1) v3c).ownBlock = some k → (Value.slice aa r.at_.length ac).ownBlock = some k ∨ w2.heap.size ≤ k from fun k q => (hv3 k q).imp id (fun e => (by simp at e; omega)))
       have HO3 := Lib.hid ho3
       clear hra hka ho3 hg3 cc3 ff3 hr3 hv3 k3 k3' hkw)
    all_goals
      generalize hW4 : World.setCell w3 _ _ = w4 at *
      have hblk4 := HRA.out.blk
      obtain ⟨cc, ff⟩ := m_cells hblk4
      have c3h : w4.cell? ⟨g, 3, none⟩ = some (.slice da r.data.length dc) := cc 3
      have f3h := ff 3
      have co3h : w4.cell? ⟨w.heap.size, 3, none⟩ = some (.string o.b) := (m_cells HO3.out).1 3
      have ht2 : w.heap.size < w4.heap.size := m_lt HO3.out
      have ht3 : g < w4.heap.size := m_lt hblk4
      have ht4 : ¬ (g = w4.heap.size) := by omega
      have ht5 : ¬ (w.heap.size = w4.heap.size) := by omega
      have HRAD := Lib.hid (HRA.out.below (Below.drew (Below.refl _ _)))
      clear cc ff hblk4 hW4 c2e f2e c2d c3d f2d f3d co1d co3d
      go_wp2_with fail
      go_region_law
        (refine step_app EStr.laid rfl _ _ 49 49 Try.underlying49 Try.underlying49 rfl (.slice da r.data.length dc) r.data rfl (HRAD.out.data.alloc _) _ [o.b] rfl ?e4 ?e5 ?e6 (Nat.zero_le _) ?_
         case e4 => exact Arg.blk (m_alloc _ _ _ rfl) [o.b] rfl 1
         case e5 => (show (r.data.length + 1) * 16 ≤ _; omega)
         case e6 => (show r.data.length + 1 ≤ maxLen; unfold maxLen; omega)
         intro v5 w5 hr5 hv5 k5
         have hn5 : (r.data ++ [o.b]).length = r.data.length + 1 := (by simp)
         obtain ⟨v5a, v5c, rfl⟩ := hr5.shape
         rw [hn5] at hr5 hv5 ⊢
         have k5' : Keep (fun k => some k = (Value.slice da r.data.length dc).ownBlock) (w4.alloc (.cells #[.string o.b] 9)) w5 := ((Keep.refl _ _).drew).trans k5
         have hrd := HRA.out.appData k5' hr5 (fun k q => hv5 k q)
         have hkd := keepOwn k5'
         have hkf : Keep (fun k => some k = (Value.slice da r.data.length dc).ownBlock ∨ k = g) w4 (w5.setCell ⟨g, 3, none⟩ (.slice v5a (r.data.length + 1) v5c)) := (hkd.mono (fun i q => Or.inl (Or.inl q))).set g 3 _ (Or.inl (Or.inr rfl))
         have hg5 := m_keep HRA.out.blk hkd (fun e => HRA.out.ngd e.symm)
         obtain ⟨cc5, ff5⟩ := m_cells hg5
         have c3g := cc5 3
         have f3g := ff5 3
         have HRD := Lib.hid hrd
         have HKF := Lib.hid hkf
         have HV5 := Lib.hid (show ∀ k, (Value.slice v5a (r.data.length + 1) v5c).ownBlock = some k → (Value.slice da r.data.length dc).ownBlock = some k ∨ w4.heap.size ≤ k from fun k q => (hv5 k q).imp id (fun e => (by simp at e; omega)))
         clear hrd hkd hkf hg5 cc5 ff5 hr5 hv5 k5 k5')
      all_goals
        go_wp2_with fail
        go_ret2
        refine ⟨rfl, ?_⟩
        rw [HP.out]
        have hz1 := HB1.out.size
        have hz2 := HKL.out.size
        have hz3 := HKS.out.size
        have hz4 := HKA.out.size
        exact RStepped.mk' HRD.out (((((keepBelow HB1.out).trans (HKL.out.mono (fun i q => Or.inl (Or.inl q)))).trans (HKS.out.mono (fun i q => Or.inl (Or.inr (Or.inr (Or.inl (by rw [q]; rfl))))))).trans (HKA.out.mono (fun i q => Or.inl (q.elim (fun e => Or.inr (Or.inr (Or.inr (Or.inl e.symm)))) (fun e => Or.inl e))))).trans (HKF.out.mono (fun i q => Or.inl (q.elim (fun e => Or.inr (Or.inr (Or.inr (Or.inr e.symm)))) (fun e => Or.inl e))))) (Or.inl (Or.inl rfl)) (fun k q => Or.inl (Or.inr (Or.inl q))) (fun k q => Or.inl (Or.inr (Or.inr (Or.inl q)))) (fun k q => (HV3.out k q).elim (fun e => Or.inl (Or.inr (Or.inr (Or.inr (Or.inl e))))) (fun e => Or.inr (by omega))) (fun k q => (HV5.out k q).elim (fun e => Or.inl (Or.inr (Or.inr (Or.inr (Or.inr e))))) (fun e => Or.inr (by omega)))
end Go.Proofs.Ytncbojocglcieaa
