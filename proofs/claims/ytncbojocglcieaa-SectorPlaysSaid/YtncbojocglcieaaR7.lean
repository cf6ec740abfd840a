/- sector's reference: New. -/
import Derived.Test.YtncbojocglcieaaR6
namespace Go.Proofs.Ytncbojocglcieaa
open Go.RowKit
set_option linter.unusedSimpArgs false
set_option linter.unusedVariables false
def zeros (n : Nat) : List ByteArray := List.replicate n zsec
theorem zeros_succ (n : Nat) : zeros (n + 1) = zeros n ++ [zsec] := by unfold zeros; rw [List.replicate_succ']
theorem RAt.appSafe {w w3 : World} {g : Nat} {sv ev av dv v3 : Value} {r : RefD} {o : Obj} {l : List ByteArray} (h : RAt w g sv ev av dv r) (k3 : Keep (fun k => some k = sv.ownBlock) (w.alloc o) w3) (hr3 : Row EStr w3 0 v3 l) (hv3 : ∀ k, v3.ownBlock = some k → sv.ownBlock = some k ∨ (w.alloc o).heap.size = k) : RAt (w3.setCell ⟨g, 0, none⟩ v3) g v3 ev av dv { r with safe := l } := by
  have hk := keepOwn k3
  have hg := m_keep h.blk hk (fun e => h.ngs e.symm)
  have hks : Keep (fun k => k = g) w3 (w3.setCell ⟨g, 0, none⟩ v3) := (Keep.refl (fun k => k = g) w3).set g 0 _ (Or.inl rfl)
  have hgl := m_lt h.blk
  have hnew : ∀ k, v3.ownBlock = some k → sv.ownBlock = some k ∨ w.heap.size ≤ k := fun k q => (hv3 k q).imp id (fun e => by simp at e; omega)
  have hb := m_set hg 0 v3
  refine ⟨by simpa using hb, hr3.keep hks (fun i hi q => ?_), (h.seen.keep hk (fun i hi q => h.nse i q.symm hi)).keep hks (fun i hi q => h.nge (by rw [hi, q])), (h.ats.keep hk (fun i hi q => h.nsa i q.symm hi)).keep hks (fun i hi q => h.nga (by rw [hi, q])), (h.data.keep hk (fun i hi q => h.nsd i q.symm hi)).keep hks (fun i hi q => h.ngd (by rw [hi, q])), fun e => ?_, h.nge, h.nga, h.ngd, fun k q e => ?_, fun k q e => ?_, fun k q e => ?_, h.nea, h.ned, h.nad⟩
  · subst q
    rcases hnew _ hi with e | e
    · exact h.ngs e
    · omega
  · rcases hnew g e with e | e
    · exact h.ngs e
    · omega
  · rcases hnew k q with q | q
    · exact h.nse k q e
    · have := h.seen.lt e; omega
  · rcases hnew k q with q | q
    · exact h.nsa k q e
    · have := h.ats.lt e; omega
  · rcases hnew k q with q | q
    · exact h.nsd k q e
    · have := h.data.lt e; omega
theorem make_run (w : World) : ∃ w', (Instr.makeSlice 60 (.int .i64 64) (.int .i64 64)).run Try.prog w = .ok (.slice (some ⟨w.heap.size, 0, none⟩) 64 64) w' ∧ (convert 60 9 (.slice (some ⟨w.heap.size, 0, none⟩) 64 64)).run Try.prog w' = .ok (.string zsec) w' ∧ Below w.heap.size w w' := by
  obtain ⟨i0, hi, hz0, hz1, hz2⟩ := info_parts (z := .int .u8 0) (show (Try.prog.info? 5).map (fun i => (i.zero, i.size, i.bytes)) = some (some (.int .u8 0), 1, 1) by kernel_rfl)
  obtain ⟨w', hrun, r1, r2⟩ := run_make_full (P := Try.prog) w w.heap.size 60 5 i0 (.int .u8 0) 1 Try.underlying60 hi hz0 hz1 .i64 .i64 64 (by rw [hz2]; decide) (by decide) (Nat.le_refl _)
  refine ⟨w', hrun, ?_, ⟨r2.os, r2.tape, r2.output, r2.size, fun k hk => r2.block k hk (by simp)⟩⟩
  have hrow : Row EByt w' w.heap.size (.slice (some ⟨w.heap.size, 0, none⟩) 64 64) (List.replicate 64 0) := by
    have e : (madeCells (EByt.enc 0).toArray (64 * EByt.size)).toList = (List.replicate 64 (0 : UInt8)).flatMap EByt.enc := madeCells_rep EByt 0 64
    unfold Row
    rw [List.length_replicate, ← e]
    exact r1
  exact hrow.convert
def NewRel (w : World) (N n : Nat) (iv : Value) (wr : World) : Prop :=
  ∃ (i : Nat) (sv : Value), iv = .int .i64 i ∧ i ≤ n ∧ RAt wr N sv (.slice none 0 0) (.slice none 0 0) (.slice none 0 0) ⟨zeros i, [], [], [], -1⟩ ∧ (∀ k, sv.ownBlock = some k → N ≤ k) ∧ Below N w wr
set_option maxRecDepth 100000 in
set_option maxHeartbeats 4000000 in
theorem refnew_any (n : Int) (w : World) (hn : n ≤ 30) (hn2 : -128 ≤ n) : Calls Try.prog 27 #[.int .i64 n] w fun e w' => ∃ g, e = .returned (.pointer (some ⟨g, 0, none⟩)) ∧ ∃ F, RDev w' F g ⟨zeros n.toNat, zeros n.toNat, [], [], -1⟩ ∧ (∀ k, F k → w.heap.size ≤ k) ∧ Below w.heap.size w w' := by
  obtain ⟨N, hN⟩ : ∃ N, w.heap.size = N := ⟨_, rfl⟩
  rw [hN]
  go_enter Try.func27, Try.ntmps27
  go_wp2_with fail
  have hblk0 : (w.alloc (.cells #[.slice none 0 0, .slice none 0 0, .slice none 0 0, .slice none 0 0, .int .i64 (-1)] 51)).heap[N]? = some (.cells #[.slice none 0 0, .slice none 0 0, .slice none 0 0, .slice none 0 0, .int .i64 (-1)] 51 (0, 0)) := m_alloc w _ N hN
  go_loopw [4] (fun iv wr => NewRel w N n.toNat iv wr) (fun iv _ => n.toNat - (intOf iv).toNat)
  case atStart => exact ⟨0, _, rfl, Nat.zero_le _, ⟨hblk0, Row.nil _ _ _, Row.nil _ _ _, Row.nil _ _ _, Row.nil _ _ _, own_nil _ _ _, own_nil _ _ _, own_nil _ _ _, own_nil _ _ _, fun k q => own_nil _ _ _, fun k q => own_nil _ _ _, fun k q => own_nil _ _ _, fun k q => own_nil _ _ _, fun k q => own_nil _ _ _, fun k q => own_nil _ _ _⟩, fun k q => absurd q (own_nil _ _ _), (Below.refl _ w).alloc (Nat.le_of_eq hN.symm) _⟩
  case round =>
    obtain ⟨i, sv, rfl, hi, hra, hsv, hb⟩ := hrel
    have HRA := Lib.hid hra
    have HSV := Lib.hid hsv
    have HB := Lib.hid hb
    obtain ⟨sa, sc, rfl⟩ := hra.safe.shape
    have hzl : (zeros i).length = i := by unfold zeros; simp
    obtain ⟨c', f'⟩ := m_cells hra.blk
    have c0r := c' 0
    have f0r := f' 0
    have hNl := m_lt hra.blk
    clear hra hsv hb c' f'
    by_cases hlt : i < n.toNat
    · have i1 : (i : Int) < n := by omega
      have i2 : (i : Int) < 4096 := by omega
      obtain ⟨w2, hmk, hcv0, hb2⟩ := make_run wr.drew
      have hcv : (convert 60 9 (.slice (some ⟨wr.heap.size, 0, none⟩) 64 64)).run Try.prog w2 = .ok (.string zsec) w2 := hcv0
      clear hcv0
      have hr2 := HRA.out.below (show Below wr.heap.size wr w2 from ((Below.refl _ wr).drew).trans hb2)
      obtain ⟨c2, f2⟩ := m_cells hr2.blk
      have c02 : w2.cell? ⟨N, 0, none⟩ = some (.slice sa (zeros i).length sc) := c2 0
      have f02 := f2 0
      rw [hzl] at c02
      have hNl2 := m_lt hr2.blk
      have hN2 : ¬ (N = w2.heap.size) := by omega
      have hN22 : ¬ (w2.heap.size = N) := by omega
      have HR2 := Lib.hid hr2
      have HBB := Lib.hid (show Below wr.heap.size wr w2 from ((Below.refl _ wr).drew).trans hb2)
      clear c2 f2 hr2 hb2
      have hsr : Row EStr w2 0 (.slice sa i sc) (zeros i) := by
        have h1 : Row EStr w2 0 (.slice sa (zeros i).length sc) (zeros i) := HR2.out.safe
        rwa [hzl] at h1
      have HSR := Lib.hid hsr
      have hra2 : RAt w2 N (.slice sa i sc) (.slice none 0 0) (.slice none 0 0) (.slice none 0 0) ⟨zeros i, [], [], [], -1⟩ := by
        have h1 := HR2.out
        simp only [hzl] at h1
        exact h1
      have HRB := Lib.hid hra2
      clear hsr hra2
      go_wp2_with fail
      go_region_law
        (refine step_app EStr.laid rfl _ _ 49 49 Try.underlying49 Try.underlying49 rfl (.slice sa i sc) (zeros i) rfl (HSR.out.alloc _) _ [zsec] rfl ?e1 ?e2 ?e3 (Nat.zero_le _) ?_
         case e1 => exact Arg.blk (m_alloc _ _ _ rfl) [zsec] rfl 1
         case e2 => (rw [hzl]; show (i + 1) * 16 ≤ _; omega)
         case e3 => (rw [hzl]; show i + 1 ≤ maxLen; unfold maxLen; omega)
         intro v3 w3 hr3 hv3 k3
         rw [← zeros_succ] at hr3
         have hz3 : (zeros (i + 1)).length = i + 1 := (by unfold zeros; simp)
         obtain ⟨v3a, v3c, rfl⟩ := hr3.shape
         rw [hz3] at hr3 hv3 ⊢
         have hrs := HRB.out.appSafe k3 hr3 hv3
         have hkw := keepOwn k3
         have hg3 := m_keep HRB.out.blk hkw (fun e => HRB.out.ngs e.symm)
         obtain ⟨cc3, ff3⟩ := m_cells hg3
         have c03 := cc3 0
         have f03 := ff3 0
         have HRS := Lib.hid hrs
         have HKW := Lib.hid hkw
         have HV3 := Lib.hid (show ∀ k, (Value.slice v3a (i + 1) v3c).ownBlock = some k → (Value.slice sa i sc).ownBlock = some k ∨ w2.heap.size ≤ k from fun k q => (hv3 k q).imp id (fun e => (by simp at e; omega)))
         clear hrs hkw hg3 cc3 ff3 hr3 hv3 k3)
      all_goals
        go_wp2_with fail
        have hb3 := HBB.out.size
        have hNs : N ≤ wr.heap.size := by omega
        have hsv2 : ∀ k, (Value.slice sa i sc).ownBlock = some k → N ≤ k := fun k q => HSV.out k (by rw [hzl]; exact q)
        refine ⟨⟨i + 1, _, by go_num, hlt, HRS.out, fun k q => (HV3.out k q).elim (fun e => hsv2 k e) (fun e => by omega), ?_⟩, by simp [intOf]; omega⟩
        have hk1 : Below N w2 (w3.setCell ⟨N, 0, none⟩ (.slice v3a (i + 1) v3c)) := ((HKW.out.mono (F := fun k => some k = (Value.slice sa i sc).ownBlock) (G := fun k => some k = (Value.slice sa i sc).ownBlock ∨ k = N) (fun i q => Or.inl (Or.inl q))).set N 0 _ (Or.inl (Or.inr rfl))).toBelow (by omega) (fun k q => q.elim (fun e => hsv2 k e.symm) (fun e => Nat.le_of_eq e.symm))
        exact (HB.out.trans (HBB.out.mono hNs)).trans hk1
    · have HEI := Lib.hid (show i = n.toNat by omega)
      have i1 : ¬ ((i : Int) < n) := by omega
      have i0 : decide ((i : Int) < n) = false := decide_eq_false i1
      have hNs2 : ¬ (N = wr.heap.size) := by omega
      have hNs3 : ¬ (wr.heap.size = N) := by omega
      have hi30 : i ≤ 30 := by omega
      have c0z : wr.cell? ⟨N, 0, none⟩ = some (.slice sa (zeros i).length sc) := c0r
      rw [hzl] at c0z
      have hra3 : RAt wr N (.slice sa i sc) (.slice none 0 0) (.slice none 0 0) (.slice none 0 0) ⟨zeros i, [], [], [], -1⟩ := by
        have h1 := HRA.out
        simp only [hzl] at h1
        exact h1
      have HRB := Lib.hid hra3
      have HZL := Lib.hid hzl
      clear hra3 hi hlt c0r hzl
      go_wp2_with (first
        | (refine app_row EStr.laid rfl _ _ 49 49 Try.underlying49 Try.underlying49 rfl (.slice (some ⟨wr.heap.size, 0, none⟩) 0 0) [] rfl (Row.new (E := EStr) wr wr.heap.size #[] [] (Nat.le_refl _) rfl (by decide)) (.slice sa i sc) (zeros i) rfl ((HRB.out.safe.alloc _).arg) ?e7 ?e8 (by simp) ?_
           case e7 => (rw [HZL.out]; show (0 + i) * 16 ≤ _; omega)
           case e8 => (rw [HZL.out]; show 0 + i ≤ maxLen; unfold maxLen; omega)
           intro v3 w3 hr3 hv3 k3
           rw [List.nil_append] at hr3
           obtain ⟨v3a, v3c, rfl⟩ := hr3.shape
           rw [HZL.out] at hr3 hv3 ⊢
           have hkk : Keep (fun _ => False) wr w3 := ((Keep.refl _ wr).alloc _).trans' k3 (fun i q => Or.inr (by simp [Value.ownBlock] at q; omega))
           have H3 := Lib.hid (HRB.out.keep hkk (fun _ _ q => q))
           obtain ⟨c'', f''⟩ := m_cells H3.out.blk
           have c1'' := c'' 1
           have f1'' := f'' 1
           clear c'' f''))
      go_ret
      obtain ⟨wf, hwf⟩ : ∃ x, w3.setCell ⟨N, 1, none⟩ (.slice v3a i v3c) = x := ⟨_, rfl⟩
      have hgf : Keep (fun k => k = N) w3 wf := by
        rw [← hwf]
        exact (Keep.refl (fun k => k = N) w3).set N 1 _ (Or.inl rfl)
      have hblk : wf.heap[N]? = some (.cells #[.slice sa i sc, .slice v3a i v3c, .slice none 0 0, .slice none 0 0, .int .i64 (-1)] 51 (0, 0)) := by
        rw [← hwf]
        have := m_set H3.out.blk 1 (.slice v3a i v3c)
        simpa using this
      have hsg : ∀ k, (Value.slice v3a i v3c).ownBlock = some k → wr.heap.size ≤ k := fun k q => hr3.ge (k := k) q
      have hsl2 : ∀ k, (Value.slice sa i sc).ownBlock = some k → k < wr.heap.size := fun k q => HRB.out.safe.lt q
      have hsv2 : ∀ k, (Value.slice sa i sc).ownBlock = some k → N ≤ k := fun k q => HSV.out k (by rw [HZL.out]; exact q)
      have hfin : RAt wf N (.slice sa i sc) (.slice v3a i v3c) (.slice none 0 0) (.slice none 0 0) ⟨zeros i, zeros i, [], [], -1⟩ :=
        ⟨hblk, H3.out.safe.keep hgf (fun i hi q => H3.out.ngs (by rw [hi, q])), (hr3.mono (Nat.zero_le _)).keep hgf (fun i hi q => by have := hsg i hi; omega), Row.nil _ _ _, Row.nil _ _ _, HRB.out.ngs, fun e => by have := hsg N e; omega, own_nil _ _ _, own_nil _ _ _, fun k q e => by have := hsg k e; have := hsl2 k q; omega, fun k q => own_nil _ _ _, fun k q => own_nil _ _ _, fun k q => own_nil _ _ _, fun k q => own_nil _ _ _, fun k q => own_nil _ _ _⟩
      rw [hwf, ← HEI.out]
      refine ⟨N, rfl, _, ⟨_, _, _, _, rfl, hfin⟩, fun k q => ?_, ?_⟩
      · rcases q with rfl | q | q | q | q
        · exact Nat.le_refl _
        · exact hsv2 k q
        · have := hsg k q; omega
        · exact absurd q (own_nil _ _ _)
        · exact absurd q (own_nil _ _ _)
      · have hk1 : Below N wr wf := ((hkk.mono (G := fun k => k = N) (fun i q => q.elim)).trans hgf).toBelow (by omega) (fun k q => Nat.le_of_eq q.symm)
        exact HB.out.trans hk1
end Go.Proofs.Ytncbojocglcieaa
