/- bank's law: BankWrites. -/
import Derived.Test.YtncbojocglcieaaP8
import Derived.Test.YtncbojocglcieaaB4
namespace Go.Proofs.Ytncbojocglcieaa
open Go.RowKit
set_option linter.unusedSimpArgs false
set_option linter.unusedVariables false
def ownB (v : Value) (k : Nat) : Prop := v.ownBlock = some k
def WritesRel (w0 : World) (g f k : Nat) (lv : List ByteArray) (av wv iv : Value) (wr : World) : Prop :=
  ∃ (i a : Nat) (rs : List ByteArray) (D : DevD), iv = .int .i64 i ∧ i ≤ lv.length ∧ av = .int .i64 a ∧ Row EStr wr w0.heap.size wv rs ∧ rs.length ≤ i ∧
    Bank D f k a (rs.map fun r => r.data.toList) ∧ D.size ≤ 4096 ∧ D.queue.length ≤ 10 * i ∧ OwnR w0 wr (ownB wv) g D
set_option maxRecDepth 100000 in
set_option maxHeartbeats 4000000 in
theorem bankwrites_any (fr sz : Nat) (v : Value) (l : List ByteArray) (w : World) (hfr : fr < 256) (hsz : sz < 256) (h : Arg EStr w v l) (ml : l.length ≤ maxLen) (hg : ∀ x ∈ l, x.size ≤ maxLen) :
    Calls Try.prog 8 #[.int .u8 fr, .int .u8 sz, v] w fun e w' => e = .returned (.bool true) ∧ Below w.heap.size w w' := by
  obtain ⟨va, vc, rfl⟩ := h.shape
  have A := Lib.hid h
  have HG := Lib.hid hg
  unfold maxLen at ml
  clear h hg
  by_cases hs : l.length ≤ 12
  · have d1 : decide ((12 : Int) < l.length) = false := decide_eq_false (by omega)
    obtain ⟨k, hk⟩ : ∃ k, sz % 40 = k := ⟨_, rfl⟩
    obtain ⟨f, hf⟩ : ∃ f, fr % 9 = f := ⟨_, rfl⟩
    have hkz : (sz : Int) % 40 = k := by omega
    have hfz : (fr : Int) % 9 = f := by omega
    have hk40 : k < 40 := by omega
    have hf9 : f < 9 := by omega
    go_enter Try.func8, Try.ntmps8
    go_wp2_with fail
    refine (awake07_any _).mono ?_
    rintro e w1 ⟨rfl, hb1⟩
    go_wp2_with fail
    refine (own_new w w1 _ hb1).mono ?_
    rintro e w2 ⟨g, rfl, h2⟩
    have hN : (min (max ((f : Int) + k) 0) 4096).toNat = f + k := by omega
    rw [hN] at h2
    have H2 := Lib.hid (show OwnR w w2 (fun _ => False) g ⟨f + k, [], [], [], -1⟩ from h2.r)
    clear h2 hN
    by_cases hk1 : 1 ≤ k
    · go_wp2_with fail
      go_loopw [9, 10, 11] (fun av wv iv wr => WritesRel w g f k l av wv iv wr) (fun _ _ iv _ => l.length - (intOf iv).toNat)
      case atStart => exact ⟨0, 1, [], _, rfl, Nat.zero_le _, rfl, Row.nil _ _ _, Nat.le_refl _, Bank.new (f + k) f k (Nat.le_refl _) hk1, by show f + k ≤ 4096; omega, Nat.le_refl _, H2.out.sub (fun i q => by simp [ownB, Value.ownBlock] at q)⟩
      case round =>
        obtain ⟨i, a, rs, D, rfl, hi, rfl, hr, hrl, hB, hDs, hDq, hO⟩ := hrel
        have HR := Lib.hid hr
        have HB := Lib.hid hB
        have HO := Lib.hid hO
        have ha1 : 1 ≤ a := by have := hB.len; omega
        have ha2 : a ≤ k := hB.fits
        obtain ⟨oa, oc, rfl⟩ := hr.shape
        clear hr hB hO
        by_cases hlt : i < l.length
        · have i1 : (i : Int) < l.length := by omega
          obtain ⟨x, hx⟩ : ∃ x, l[i]? = some x := ⟨_, List.getElem?_eq_getElem hlt⟩
          have hxm := HG.out x (List.mem_of_getElem? hx)
          unfold maxLen at hxm
          obtain ⟨gl, ol, kl, e1, hcl⟩ := A.out.cells (by intro q; rw [q] at hlt; simp at hlt)
          simp only [Value.slice.injEq] at e1
          obtain ⟨rfl, -, rfl⟩ := e1
          have cw : w.cell? ⟨gl, ol + i, none⟩ = some (.string x) := by have := hcl i x hx 0 (by decide); simpa [EStr] using this
          have c1 := cell_later HO.out.bel cw
          clear hcl hx
          by_cases hx4 : 400 < x.size
          · have x1 : (400 : Int) < x.size := by omega
            go_wp2_with fail
            go_ret
            exact ⟨rfl, HO.out.bel⟩
          · have x1 : ¬ ((400 : Int) < x.size) := by omega
            have x2 : decide ((400 : Int) < x.size) = false := decide_eq_false x1
            have hcut := fun w => cut_ref x w (by omega)
            have hcl : (cutL x.data.toList).length = nframes x.size := by rw [cutL_length, Array.length_toList]; rfl
            obtain ⟨m, hm⟩ : ∃ m, nframes x.size = m := ⟨_, rfl⟩
            rw [hm] at hcl
            have HM := Lib.hid hm
            have HCL := Lib.hid hcl
            have hm7 : m ≤ 7 := by rw [← hm]; unfold nframes; omega
            clear hm hcl
            go_wp2_with fail
            refine (hcut _).mono ?_
            rintro e w3 ⟨cv, rfl, hr3, hb3⟩
            obtain ⟨ca, cc, rfl⟩ := hr3.shape
            rw [HCL.out]
            have HO3 := Lib.hid (HO.out.below hb3)
            have HR3 := Lib.hid (HR.out.below hb3)
            have c3 := cell_later HO3.out.bel cw
            clear hr3 hb3 c1 hcut
            have hfrm := fun w => frames_any (x.size : Int) w (by omega)
            simp only [frames_nat, HM.out] at hfrm
            have hxe : x.toList.isEmpty = decide (x.size = 0) := by
              by_cases q : x.size = 0
              · rw [decide_eq_true q, ByteArray.toList_eq]
                have : x.data.toList = [] := List.eq_nil_of_length_eq_zero (by rw [Array.length_toList]; exact q)
                rw [this]; rfl
              · rw [decide_eq_false q]; exact str_full q
            have hca : x.size = 0 ∨ (x.size ≠ 0 ∧ k < a + m) ∨ (x.size ≠ 0 ∧ a + m ≤ k) := by omega
            rcases hca with q | ⟨q, q2⟩ | ⟨q, q2⟩
            · have hw := HB.out.write_bad hk1 x (by omega) (Or.inl q)
              rw [if_pos q] at hw
              have HW := Lib.hid hw
              clear hw
              rw [decide_eq_true q] at hxe
              clear q
              go_wp2_with fail
              refine (write_any f k a x HO3.out hDs (by omega) (by rw [HB.out.left]; decide) (by omega) (by omega) (by omega)).mono ?_
              rintro e w4 ⟨rfl, h4, hh4⟩
              rw [HW.out] at h4 ⊢
              have HO4 := Lib.hid h4
              have HR4 := Lib.hid (HR3.out.kept (fun k q => hh4.block k q))
              have c4 := cell_later HO4.out.bel cw
              clear h4 hh4 c3
              go_wp2_with fail
              refine (hfrm _).mono ?_
              rintro e w5 ⟨rfl, rfl⟩
              go_wp2_with fail
              exact ⟨⟨i + 1, a, rs, D, by go_num, hlt, rfl, HR4.out, by omega, HB.out, hDs, by omega, HO4.out⟩, by simp [intOf]; omega⟩
            · have hw := HB.out.write_bad hk1 x (by omega) (Or.inr (by rw [HM.out]; exact q2))
              rw [if_neg q] at hw
              have HW := Lib.hid hw
              clear hw
              rw [decide_eq_false q] at hxe
              have z2 : (k : Int) < a + m := by omega
              clear q
              go_wp2_with fail
              refine (write_any f k a x HO3.out hDs (by omega) (by rw [HB.out.left]; decide) (by omega) (by omega) (by omega)).mono ?_
              rintro e w4 ⟨rfl, h4, hh4⟩
              rw [HW.out] at h4 ⊢
              have HO4 := Lib.hid h4
              have HR4 := Lib.hid (HR3.out.kept (fun k q => hh4.block k q))
              have c4 := cell_later HO4.out.bel cw
              clear h4 hh4 c3
              go_wp2_with fail
              refine (hfrm _).mono ?_
              rintro e w5 ⟨rfl, rfl⟩
              go_wp2_with fail
              exact ⟨⟨i + 1, a, rs, D, by go_num, hlt, rfl, HR4.out, by omega, HB.out, hDs, by omega, HO4.out⟩, by simp [intOf]; omega⟩
            · have hw := HB.out.write_ok hk1 x (by omega) q (by rw [HM.out]; exact q2)
              have hmore := HB.out.more x.data.toList (fun e => q (by have := congrArg List.length e; rw [Array.length_toList] at this; exact this)) (by rw [Array.length_toList]; show x.size ≤ _; omega) (by rw [Array.length_toList]; show a + nframes x.size ≤ k; rw [HM.out]; exact q2)
              rw [show nframes x.data.toList.length = m from by rw [Array.length_toList]; exact HM.out] at hmore
              rw [HM.out] at hw
              obtain ⟨p1, p2, p3⟩ := puts_size D (cutL x.data.toList) (f + a)
              rw [HCL.out] at p2
              generalize (D.puts (f + a) (cutL x.data.toList)).1 = D2 at *
              have HMO := Lib.hid hmore
              clear hmore
              have HW := Lib.hid hw
              clear hw
              rw [decide_eq_false q] at hxe
              have z2 : ¬ ((k : Int) < a + m) := by omega
              have z3 : (a : Int) + m ≤ k := by omega
              clear q
              go_wp2_with fail
              refine (write_any f k a x HO3.out hDs (by omega) (by rw [HB.out.left]; decide) (by omega) (by omega) (by omega)).mono ?_
              rintro e w4 ⟨rfl, h4, hh4⟩
              rw [HW.out] at h4 ⊢
              have HO4 := Lib.hid h4
              have HR4 := Lib.hid (HR3.out.kept (fun k q => hh4.block k q))
              have c4 := cell_later HO4.out.bel cw
              clear h4 hh4 c3
              go_wp2_with fail
              refine (hfrm _).mono ?_
              rintro e w5 ⟨rfl, rfl⟩
              have hB0 : w.heap.size ≤ w5.heap.size := HO4.out.bel.size
              go_wp2_with (first
                | (refine app_row EStr.laid rfl _ _ 49 49 Try.underlying49 Try.underlying49 rfl _ rs rfl (HR4.out.alloc _) _ [x] rfl ?e1 ?e2 ?e3 (Nat.le_trans hB0 (by simp)) ?_
                   case e1 => exact Arg.blk (m_alloc _ _ _ rfl) [x] rfl 1
                   case e2 => (show (rs.length + 1) * 16 ≤ _; omega)
                   case e3 => (show rs.length + 1 ≤ maxLen; unfold maxLen; omega)
                   intro v6 w6 hr6 hv6 k6))
              have hO5 := (HO4.out.below (w' := w5.alloc (.cells #[.string x] 9)) ((Below.refl _ _).alloc (Nat.le_refl _) _)).turn (R' := ownB v6) (k6.mono (fun i q => Or.inl q.symm)) (fun j q => ⟨(hv6 j q).imp id (fun e => Nat.le_of_eq e), hr6.lt q⟩)
              refine ⟨⟨i + 1, a + m, rs ++ [x], D2, by go_num, hlt, by go_num, hr6, by simp; omega, ?_, by omega, by omega, hO5⟩, by simp [intOf]; omega⟩
              rw [List.map_append]
              exact HMO.out
        · have ei : i = l.length := by omega
          subst ei
          have i1 : ¬ ((l.length : Int) < l.length) := by omega
          have hsc := HB.out.scan hk1
          have HSC := Lib.hid hsc
          clear hsc
          go_wp2_with fail
          refine (scan_any f k HO.out (by omega) hDs HB.out.good).mono ?_
          rintro e w4 ⟨gv, rfl, hr4, h4, hb4⟩
          rw [HSC.out] at hr4 ⊢
          have hm : (List.map (fun r => r.data.toList) rs).map bL = rs := by
            rw [List.map_map]
            conv => rhs; rw [← List.map_id rs]
            apply List.map_congr_left
            intro x _
            simp [bL]
          have hr4' : Row EStr w4 wr.heap.size gv rs := by rw [← hm]; exact hr4
          obtain ⟨ga, gc, rfl⟩ := hr4'.shape
          have HR4 := Lib.hid hr4'
          have HW4 := Lib.hid (HR.out.below hb4)
          have HO4 := Lib.hid h4.bel
          clear hr4 hr4' h4 hb4 hm
          go_wp2_with fail
          refine (same_any _ _ _ rs rs HR4.out.arg HW4.out.arg (by unfold maxLen; omega) (by unfold maxLen; omega)).mono ?_
          rintro e w5 ⟨rfl, hb5⟩
          rw [decide_eq_true rfl]
          have HO5 := Lib.hid (HO4.out.trans (hb5.mono HO4.out.size))
          clear hb5
          go_wp2_with fail
          go_ret
          exact ⟨rfl, HO5.out⟩
    · obtain rfl : k = 0 := by omega
      clear hk1
      go_wp2_with fail
      go_loopw [9, 10, 11] (fun av wv iv wr => ∃ i : Nat, iv = .int .i64 i ∧ i ≤ l.length ∧ av = .int .i64 1 ∧ wv = .slice none 0 0 ∧ OwnR w wr (fun _ => False) g ⟨f + 0, [], [], [], -1⟩) (fun _ _ iv _ => l.length - (intOf iv).toNat)
      case atStart => exact ⟨0, rfl, Nat.zero_le _, rfl, rfl, H2.out⟩
      case round =>
        obtain ⟨i, rfl, hi, rfl, rfl, hO⟩ := hrel
        have HO := Lib.hid hO
        clear hO
        by_cases hlt : i < l.length
        · have i1 : (i : Int) < l.length := by omega
          obtain ⟨x, hx⟩ : ∃ x, l[i]? = some x := ⟨_, List.getElem?_eq_getElem hlt⟩
          have hxm := HG.out x (List.mem_of_getElem? hx)
          unfold maxLen at hxm
          obtain ⟨gl, ol, kl, e1, hcl⟩ := A.out.cells (by intro q; rw [q] at hlt; simp at hlt)
          simp only [Value.slice.injEq] at e1
          obtain ⟨rfl, -, rfl⟩ := e1
          have cw : w.cell? ⟨gl, ol + i, none⟩ = some (.string x) := by have := hcl i x hx 0 (by decide); simpa [EStr] using this
          have c1 := cell_later HO.out.bel cw
          clear hcl hx
          by_cases hx4 : 400 < x.size
          · have x1 : (400 : Int) < x.size := by omega
            go_wp2_with fail
            go_ret
            exact ⟨rfl, HO.out.bel⟩
          · have x1 : ¬ ((400 : Int) < x.size) := by omega
            have x2 : decide ((400 : Int) < x.size) = false := decide_eq_false x1
            have hcut := fun w => cut_ref x w (by omega)
            have hcl : (cutL x.data.toList).length = nframes x.size := by rw [cutL_length, Array.length_toList]; rfl
            obtain ⟨m, hm⟩ : ∃ m, nframes x.size = m := ⟨_, rfl⟩
            rw [hm] at hcl
            have HM := Lib.hid hm
            have HCL := Lib.hid hcl
            have hm7 : m ≤ 7 := by rw [← hm]; unfold nframes; omega
            clear hm hcl
            go_wp2_with fail
            refine (hcut _).mono ?_
            rintro e w3 ⟨cv, rfl, hr3, hb3⟩
            obtain ⟨ca, cc, rfl⟩ := hr3.shape
            rw [HCL.out]
            have HO3 := Lib.hid (HO.out.below hb3)
            have c3 := cell_later HO3.out.bel cw
            clear hr3 hb3 c1 hcut
            have hfrm := fun w => frames_any (x.size : Int) w (by omega)
            simp only [frames_nat, HM.out] at hfrm
            have hw : (⟨f + 0, [], [], [], -1⟩ : DevD).write f (0 : Nat) 1 x = (⟨f + 0, [], [], [], -1⟩, 0, 1) := by
              have e : (⟨f + 0, [], [], [], -1⟩ : DevD).wErr f (0 : Nat) 1 x.size = 1 := by
                unfold DevD.wErr DevD.on
                rw [if_neg (by simp), if_pos (Or.inl (by simp))]
              unfold DevD.write
              rw [e]; rfl
            have HW := Lib.hid hw
            clear hw
            go_wp2_with fail
            refine (write_any f (0 : Nat) 1 x HO3.out (by show f + 0 ≤ 4096; omega) (by simp) (by simp) (by omega) (by simp) (by decide)).mono ?_
            rintro e w4 ⟨rfl, h4, hh4⟩
            rw [HW.out] at h4 ⊢
            have HO4 := Lib.hid h4
            have c4 := cell_later HO4.out.bel cw
            clear h4 hh4 c3
            go_wp2_with fail
            refine (hfrm _).mono ?_
            rintro e w5 ⟨rfl, rfl⟩
            go_wp2_with fail
            exact ⟨⟨i + 1, by go_num, hlt, rfl, rfl, HO4.out⟩, by simp [intOf]; omega⟩
        · have ei : i = l.length := by omega
          subst ei
          have i1 : ¬ ((l.length : Int) < l.length) := by omega
          have hsc : (⟨f + 0, [], [], [], -1⟩ : DevD).scan f (0 : Nat) = ([], 0, 1) := by
            unfold DevD.scan DevD.on
            rw [if_neg (by simp), if_pos (by simp)]
          have HSC := Lib.hid hsc
          clear hsc
          go_wp2_with fail
          refine (scan_any f (0 : Nat) HO.out (by simp) (by show f + 0 ≤ 4096; omega) (fun _ => zsec_size)).mono ?_
          rintro e w4 ⟨gv, rfl, hr4, h4, hb4⟩
          rw [HSC.out] at hr4 ⊢
          obtain ⟨ga, gc, rfl⟩ := hr4.shape
          have HO4 := Lib.hid h4.bel
          clear hr4 h4 hb4
          go_wp2_with fail
          go_ret
          exact ⟨rfl, HO4.out⟩
  · have d1 : decide ((12 : Int) < l.length) = true := decide_eq_true (by omega)
    go_enter Try.func8, Try.ntmps8
    go_wp2_with fail
    refine (awake07_any _).mono ?_
    rintro e w1 ⟨rfl, hb1⟩
    go_wp2_with fail
    refine (awake07_any _).mono ?_
    rintro e w2 ⟨rfl, hb2⟩
    go_wp2_with fail
    go_ret
    exact ⟨rfl, hb1.trans (hb2.mono hb1.size)⟩
end Go.Proofs.Ytncbojocglcieaa
