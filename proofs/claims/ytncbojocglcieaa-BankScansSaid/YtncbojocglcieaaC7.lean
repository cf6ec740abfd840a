/- bank's reference: Scan, Same; the law's all. -/
import Derived.Test.YtncbojocglcieaaC4
import Derived.Test.YtncbojocglcieaaC6
namespace Go.Proofs.Ytncbojocglcieaa
open Go.RowKit
set_option linter.unusedSimpArgs false
set_option linter.unusedVariables false
set_option maxRecDepth 100000 in
set_option maxHeartbeats 2000000 in
theorem scan_ref (w : World) (fg off fcap : Nat) (F : List ByteArray) (h : Strs w fg off F) (hcap : F.length ≤ fcap) (hcm : fcap ≤ maxLen) (hFne : F ≠ []) (hF64 : ∀ f ∈ F, f.size = 64) (hFl : F.length ≤ 4096) :
    Calls Try.prog 38 #[.slice (some ⟨fg, off, none⟩) F.length fcap] w fun e w' => ∃ v, e = .returned (.tuple #[v, .int .i64 ((1 + (scanned (F.drop 1)).2 : Nat) : Int)]) ∧ Row EStr w' w.heap.size v ((scanned (F.drop 1)).1.map bL) ∧ Below w.heap.size w w' := by
  have HS4 := Lib.hid h
  have H64 := Lib.hid hF64
  clear h hF64
  obtain ⟨N1, hN1⟩ : ∃ N, w.heap.size = N := ⟨_, rfl⟩
  rw [hN1]
  have hln : 0 < F.length := List.length_pos_iff.2 hFne
  unfold maxLen at hcm
  go_enter Try.func38, Try.ntmps38
  go_wp2_with fail
  go_loopw [4, 5] (fun ov av wr => ScanRel w N1 F ov av wr) (fun _ av _ => F.length - (intOf av).toNat)
  case atStart => exact ⟨1, [], rfl, Nat.le_refl _, by omega, by simp, Row.nil _ _ _, rfl, rfl, Below.refl _ _⟩
  case round =>
    obtain ⟨a, rs, rfl, ha1, ha2, hrl, hr, hs1, hs2, hb⟩ := hrel
    have HR := Lib.hid hr
    have HB := Lib.hid hb
    have HS1 := Lib.hid hs1
    have HS2 := Lib.hid hs2
    have hNr : N1 ≤ wr.heap.size := by have := hb.size; omega
    obtain ⟨oa, oc, rfl⟩ := hr.shape
    rw [List.length_map] at HR ⊢
    clear hr hb hs1 hs2
    by_cases hlt : a < F.length
    · have i1 : (a : Int) < F.length := by omega
      have i2 : (a : Int) ≤ F.length := by omega
      have i3 : a ≤ F.length := by omega
      have hSr : Strs wr fg (off + a) (F.drop a) := ((HS4.out.below (by rw [hN1]; exact HB.out)).drop a)
      have hdl : (F.drop a).length = F.length - a := by rw [List.length_drop]
      have hdne : F.drop a ≠ [] := by intro q; have := congrArg List.length q; rw [hdl] at this; simp at this; omega
      have hd64 : ∀ x ∈ F.drop a, x.size = 64 := fun x hx => H64.out x (List.mem_of_mem_drop hx)
      have hstd := one_any wr fg (off + a) (fcap - a) (F.drop a) hSr (by omega) (by unfold maxLen at *; omega) hdne hd64 (by omega)
      rw [hdl] at hstd
      have hfit := stand_fits (F.drop a) hd64
      have hgo := scanned_go (F.drop a) hdne
      have hstop := scanned_stop (F.drop a)
      rw [hdl] at hfit
      generalize hS : standL (F.drop a) = S at *
      have HSTD := Lib.hid hstd
      have HFIT := Lib.hid hfit
      have HGO := Lib.hid hgo
      have HSTOP := Lib.hid hstop
      clear hSr hdl hdne hd64 hstd hfit hgo hstop hS
      have hcp : ¬ (fcap = a) := by omega
      go_wp2_with fail
      refine HSTD.out.mono ?_
      rintro e w5 ⟨rfl, hb5⟩
      have HR5 := Lib.hid (HR.out.below hb5)
      have HB5 := Lib.hid (HB.out.trans (hb5.mono hNr))
      have hNr5 : N1 ≤ w5.heap.size := Nat.le_trans hNr hb5.size
      clear hb5
      by_cases q : S = []
      · have e3 := HSTOP.out q
        subst q
        rw [show bL ([] : List UInt8) = ⟨#[]⟩ from rfl]
        go_wp2_with fail
        go_ret2
        have e1 := HS1.out
        have e2 := HS2.out
        rw [e3] at e1 e2
        rw [e1, List.append_nil]
        refine ⟨_, by rw [e2]; rfl, HR5.out, HB5.out⟩
      · obtain ⟨f1, f2, f3⟩ := HFIT.out q
        have e3 := HGO.out q
        rw [List.drop_drop] at e3
        have hXs := bL_size S
        have hne := str_full (x := bL S) (by rw [hXs]; omega)
        have hcut := fun w => cut_ref (bL S) w (by rw [hXs]; omega)
        rw [show (bL S).data.toList = S by simp [bL]] at hcut
        have hcl : (cutL S).length = nframes S.length := cutL_length S
        have hmap : (rs ++ [S]).map bL = rs.map bL ++ [bL S] := by simp
        have HE3 := Lib.hid e3
        have HM := Lib.hid hmap
        have HCL := Lib.hid hcl
        have hnp := nframes_pos f3
        generalize nframes S.length = k at *
        generalize bL S = X at *
        clear q e3 hmap hcl
        go_wp2_with (first
          | (refine app_row EStr.laid rfl _ _ 49 49 Try.underlying49 Try.underlying49 rfl _ (rs.map bL) rfl (HR5.out.alloc _) _ [X] rfl ?c1 ?c2 ?c3 (Nat.le_trans hNr5 (by simp)) ?_
             case c1 => exact Arg.blk (m_alloc _ _ _ rfl) [X] rfl 1
             case c2 => rw [List.length_map]; show (rs.length + 1) * 16 ≤ _; omega
             case c3 => rw [List.length_map]; show rs.length + 1 ≤ maxLen; unfold maxLen; omega
             intro v6 w6 hr6 hv6 k6))
        refine (hcut _).mono ?_
        rintro e w7 ⟨cv, rfl, hr7, hb7⟩
        obtain ⟨ca, cc, rfl⟩ := hr7.shape
        rw [HCL.out]
        rw [← HM.out] at hr6
        have hb6 : Below N1 w w6 := (HB5.out.alloc (by omega) _).trans (k6.toBelow (by simp; omega) (fun k q => HR5.out.ge q.symm))
        have HR7 := Lib.hid (hr6.below hb7)
        have HB7 := Lib.hid (hb6.trans (hb7.mono (by have := hb6.size; omega)))
        clear hr6 hb6 hb7 hr7 k6 hv6
        have z1 : (a : Int) + k ≤ F.length := by omega
        go_wp2_with fail
        refine ⟨⟨a + k, rs ++ [S], by go_num, by omega, by omega, by simp; omega, HR7.out, ?_, ?_, HB7.out⟩, by simp [intOf]; omega⟩
        · rw [HS1.out, HE3.out]; simp
        · rw [HS2.out, HE3.out]; simp only []; omega
    · have ea : a = F.length := by omega
      subst ea
      go_wp2_with fail
      go_ret2
      have e1 := HS1.out
      have e2 := HS2.out
      rw [List.drop_length] at e1 e2
      rw [e1, show (scanned []).1 = [] from rfl, List.append_nil]
      refine ⟨_, by rw [e2]; rfl, HR.out, HB.out⟩
end Go.Proofs.Ytncbojocglcieaa
