/- Lemmas for the laws of one seat, texts B13 B4 B11 B14 B5 B6; no condition beyond those that each states. -/
import Derived.Test.YtncbojocglcieaaVV5
/- bank: Write, of a record of whatever length. -/
namespace Go.Proofs.Ytncbojocglcieaa
open Go.RowKit
set_option linter.unusedSimpArgs false
set_option linter.unusedVariables false
set_option maxRecDepth 100000 in
set_option maxHeartbeats 2000000 in
theorem write_all {w0 w : World} {R : Nat → Prop} {g : Nat} {d : DevD} (f s a : Int) (r : ByteArray) (h : OwnR w0 w R g d) (hd : d.size ≤ 4096) (hq : d.queue.length ≤ 900000) (hl : d.left ≤ 9223372036854775807) (hr : r.size ≤ 9223372036854775807) (hs : s ≤ 9223372036854775807) (ha : a ≤ 9223372036854775807) :
    Calls Try.prog 35 #[.pointer (some ⟨g, 0, none⟩), .int .i64 f, .int .i64 s, .int .i64 a, .string r] w fun e w' =>
      e = .returned (.tuple #[.int .i64 (d.write f s a r).2.1, .int .i64 (d.write f s a r).2.2]) ∧ OwnR w0 w' R g (d.write f s a r).1 ∧ Held w0 R w w' := by
  by_cases hbig : r.size ≤ 1000000
  · exact write_any f s a r h hd hq hl hbig hs ha
  have H := Lib.hid h
  have hfr := fun w => frames_any (r.size : Int) w (by omega)
  simp only [frames_nat] at hfr
  obtain ⟨k, hk⟩ : ∃ k, nframes r.size = k := ⟨_, rfl⟩
  have hk1 : 0 < k := by rw [← hk]; unfold nframes; omega
  rw [hk] at hfr
  have HR := Lib.hid (show ∀ k, R k → k < w.heap.size from fun k q => h.lt q)
  have hw : d.write f s a r = (d, 0, if d.left = 0 then 13 else if d.on f s = false ∨ a < 1 then 1 else 4) := by
    have e : d.wErr f s a r.size = if d.left = 0 then 13 else if d.on f s = false ∨ a < 1 then 1 else 4 := by
      unfold DevD.wErr
      by_cases e1 : d.left = 0
      · rw [if_pos e1, if_pos e1]
      · rw [if_neg e1, if_neg e1]
        by_cases e2 : d.on f s = false ∨ a < 1
        · rw [if_pos e2, if_pos e2]
        · rw [if_neg e2, if_neg e2, if_pos (by omega)]
    unfold DevD.write
    rw [e, if_pos (by split; decide; split <;> decide)]
  rw [hw]
  clear h hk hw
  have e5 : 60000 < r.size := by omega
  have e6 : ((k : Int) == 0) = false := by simp; omega
  have e7 : decide ((60000 : Int) < r.size) = true := decide_eq_true (by omega)
  by_cases e1 : d.left = 0
  · have hp : d.pow = 13 := by unfold DevD.pow; rw [if_pos e1]
    rw [if_pos e1]
    clear e1
    go_enter Try.func35, Try.ntmps35
    go_wp2_with fail
    refine (hfr _).mono ?_
    rintro e w1 ⟨rfl, rfl⟩
    go_wp2_with fail
    refine (power_any H.out).mono ?_
    rintro e w2 ⟨rfl, h2, hb2⟩
    rw [hp]
    have H2 := Lib.hid h2
    go_wp2_with fail
    go_ret2
    exact ⟨rfl, H2.out, Held.below HR.out hb2⟩
  · have hp : d.pow = 0 := by unfold DevD.pow; rw [if_neg e1]
    rw [if_neg e1]
    clear e1
    obtain ⟨o, ho⟩ : ∃ o, d.on f s = o := ⟨_, rfl⟩
    rw [ho]
    have HON := Lib.hid ho
    clear ho
    cases o
    · rw [if_pos (Or.inl rfl)]
      go_enter Try.func35, Try.ntmps35
      go_wp2_with fail
      refine (hfr _).mono ?_
      rintro e w1 ⟨rfl, rfl⟩
      go_wp2_with fail
      refine (power_any H.out).mono ?_
      rintro e w2 ⟨rfl, h2, hb2⟩
      rw [hp]
      have H2 := Lib.hid h2
      have HB2 := Lib.hid hb2
      clear h2 hb2
      go_wp2_with fail
      refine (on_any f s H2.out hs hd).mono ?_
      rintro e w3 ⟨rfl, rfl⟩
      rw [HON.out]
      go_wp2_with fail
      go_ret2
      exact ⟨rfl, H2.out, Held.below HR.out HB2.out⟩
    · by_cases a1 : a < 1
      · rw [if_pos (Or.inr a1)]
        go_enter Try.func35, Try.ntmps35
        go_wp2_with fail
        refine (hfr _).mono ?_
        rintro e w1 ⟨rfl, rfl⟩
        go_wp2_with fail
        refine (power_any H.out).mono ?_
        rintro e w2 ⟨rfl, h2, hb2⟩
        rw [hp]
        have H2 := Lib.hid h2
        have HB2 := Lib.hid hb2
        clear h2 hb2
        go_wp2_with fail
        refine (on_any f s H2.out hs hd).mono ?_
        rintro e w3 ⟨rfl, rfl⟩
        rw [HON.out]
        go_wp2_with fail
        go_ret2
        exact ⟨rfl, H2.out, Held.below HR.out HB2.out⟩
      · rw [if_neg (by simp [a1])]
        have a2 : decide (a < 1) = false := decide_eq_false a1
        clear a1
        go_enter Try.func35, Try.ntmps35
        go_wp2_with fail
        refine (hfr _).mono ?_
        rintro e w1 ⟨rfl, rfl⟩
        go_wp2_with fail
        refine (power_any H.out).mono ?_
        rintro e w2 ⟨rfl, h2, hb2⟩
        rw [hp]
        have H2 := Lib.hid h2
        have HB2 := Lib.hid hb2
        clear h2 hb2
        go_wp2_with fail
        refine (on_any f s H2.out hs hd).mono ?_
        rintro e w3 ⟨rfl, rfl⟩
        rw [HON.out]
        go_wp2_with fail
        go_ret2
        exact ⟨rfl, H2.out, Held.below HR.out HB2.out⟩
end Go.Proofs.Ytncbojocglcieaa

/- bank's laws: awake; BankFrames. -/
namespace Go.Proofs.Ytncbojocglcieaa
open Go.RowKit
set_option linter.unusedSimpArgs false
set_option linter.unusedVariables false
theorem awake_wrote : ((DevD.mk 5 [] [] [] (-1)).write 0 5 1 ⟨#[97, 98]⟩).2 = (2, 0) := by kernel_rfl
set_option maxRecDepth 100000 in
set_option maxHeartbeats 1000000 in
theorem awake07_any (w : World) : Calls Try.prog 25 #[] w fun e w' => e = .returned (.bool true) ∧ Below w.heap.size w w' := by
  have hfr := fun w => frames_any 63 w (by decide)
  rw [show (if (63 : Int) < 1 then (0 : Int) else (63 - 1) / 62 + 1) = 2 from by decide] at hfr
  go_enter Try.func25, Try.ntmps25
  go_wp2_with fail
  refine (own_new w w 5 (Below.refl _ _)).mono ?_
  rintro e w1 ⟨g, rfl, h1⟩
  have H1 := Lib.hid (show OwnR w w1 (fun _ => False) g ⟨5, [], [], [], -1⟩ from h1.r)
  clear h1
  go_wp2_with fail
  refine (write_any 0 5 1 ⟨#[97, 98]⟩ H1.out (by decide) (by decide) (by decide) (by decide) (by decide) (by decide)).mono ?_
  rintro e w2 ⟨rfl, h2, hh2⟩
  rw [awake_wrote]
  have H2 := Lib.hid h2.bel
  clear h2 hh2
  go_wp2_with fail
  refine (hfr _).mono ?_
  rintro e w3 ⟨rfl, rfl⟩
  go_wp2_with fail
  go_ret
  exact ⟨rfl, H2.out⟩
set_option maxRecDepth 100000 in
set_option maxHeartbeats 1000000 in
theorem bankframes_any (n : Int) (w : World) (hn : n ≤ 9223372036854775807) : Calls Try.prog 4 #[.int .i64 n] w fun e w' => e = .returned (.bool true) ∧ Below w.heap.size w w' := by
  have hfr := fun w => frames_any n w hn
  by_cases h1 : n < 1
  · simp only [if_pos h1] at hfr
    go_enter Try.func4, Try.ntmps4
    go_wp2_with fail
    refine (hfr _).mono ?_
    rintro e w1 ⟨rfl, rfl⟩
    go_wp2_with fail
    refine (awake07_any _).mono ?_
    rintro e w2 ⟨rfl, hb2⟩
    go_wp2_with fail
    go_ret
    exact ⟨rfl, hb2⟩
  · simp only [if_neg h1] at hfr
    have h2 : 1 ≤ n := by omega
    have h3 : (0 : Int) ≤ n - 1 := by omega
    have h4 : (n - 1) / 62 < 9223372036854775807 := by omega
    have h5 : 0 ≤ (n - 1) / 62 := by omega
    have h6 : (n - 1).tdiv 62 = (n - 1) / 62 := Int.tdiv_eq_ediv_of_nonneg h3
    have d1 : decide (n < 1) = false := decide_eq_false h1
    obtain ⟨q, hq⟩ : ∃ q, (n - 1) / 62 = q := ⟨_, rfl⟩
    rw [hq] at h4 h5 h6
    simp only [hq] at hfr
    clear h1
    go_enter Try.func4, Try.ntmps4
    go_wp2_with fail
    refine (hfr _).mono ?_
    rintro e w1 ⟨rfl, rfl⟩
    go_wp2_with fail
    refine (awake07_any _).mono ?_
    rintro e w2 ⟨rfl, hb2⟩
    go_wp2_with fail
    all_goals first
      | (exfalso; omega)
      | (go_ret; refine ⟨ret_bool ?_, hb2⟩; simp; omega)
      | (go_ret; exact ⟨rfl, hb2⟩)
end Go.Proofs.Ytncbojocglcieaa

/- bank's law: BankWrites. -/
namespace Go.Proofs.Ytncbojocglcieaa
open Go.RowKit
set_option linter.unusedSimpArgs false
set_option linter.unusedVariables false
def ownB (v : Value) (k : Nat) : Prop := v.ownBlock = some k
def WritesRel (w0 : World) (g f k : Nat) (lv : List ByteArray) (av wv iv : Value) (wr : World) : Prop :=
  ∃ (i a : Nat) (rs : List ByteArray) (D : DevD), iv = .int .i64 i ∧ i ≤ lv.length ∧ av = .int .i64 a ∧ Row EStr wr w0.heap.size wv rs ∧ rs.length ≤ i ∧
    Bank D f k a (rs.map fun r => r.data.toList) ∧ D.size ≤ 4096 ∧ D.queue.length ≤ 10 * i ∧ OwnR w0 wr (ownB wv) g D
set_option maxRecDepth 100000 in
set_option maxHeartbeats 4000000 in
theorem bankwrites_any (fr sz : Nat) (v : Value) (l : List ByteArray) (w : World) (hfr : fr < 256) (hsz : sz < 256) (h : Arg EStr w v l) (ml : l.length ≤ maxLen) (hg : ∀ x ∈ l, x.size ≤ maxLen) :
    Calls Try.prog 8 #[.int .u8 fr, .int .u8 sz, v] w fun e w' => e = .returned (.bool true) ∧ Below w.heap.size w w' := by
  obtain ⟨va, vc, rfl⟩ := h.shape
  have A := Lib.hid h
  have HG := Lib.hid hg
  unfold maxLen at ml
  clear h hg
  by_cases hs : l.length ≤ 12
  · have d1 : decide ((12 : Int) < l.length) = false := decide_eq_false (by omega)
    obtain ⟨k, hk⟩ : ∃ k, sz % 40 = k := ⟨_, rfl⟩
    obtain ⟨f, hf⟩ : ∃ f, fr % 9 = f := ⟨_, rfl⟩
    have hkz : (sz : Int) % 40 = k := by omega
    have hfz : (fr : Int) % 9 = f := by omega
    have hk40 : k < 40 := by omega
    have hf9 : f < 9 := by omega
    go_enter Try.func8, Try.ntmps8
    go_wp2_with fail
    refine (awake07_any _).mono ?_
    rintro e w1 ⟨rfl, hb1⟩
    go_wp2_with fail
    refine (own_new w w1 _ hb1).mono ?_
    rintro e w2 ⟨g, rfl, h2⟩
    have hN : (min (max ((f : Int) + k) 0) 4096).toNat = f + k := by omega
    rw [hN] at h2
    have H2 := Lib.hid (show OwnR w w2 (fun _ => False) g ⟨f + k, [], [], [], -1⟩ from h2.r)
    clear h2 hN
    by_cases hk1 : 1 ≤ k
    · go_wp2_with fail
      go_loopw [9, 10, 11] (fun av wv iv wr => WritesRel w g f k l av wv iv wr) (fun _ _ iv _ => l.length - (intOf iv).toNat)
      case atStart => exact ⟨0, 1, [], _, rfl, Nat.zero_le _, rfl, Row.nil _ _ _, Nat.le_refl _, Bank.new (f + k) f k (Nat.le_refl _) hk1, by show f + k ≤ 4096; omega, Nat.le_refl _, H2.out.sub (fun i q => by simp [ownB, Value.ownBlock] at q)⟩
      case round =>
        obtain ⟨i, a, rs, D, rfl, hi, rfl, hr, hrl, hB, hDs, hDq, hO⟩ := hrel
        have HR := Lib.hid hr
        have HB := Lib.hid hB
        have HO := Lib.hid hO
        have ha1 : 1 ≤ a := by have := hB.len; omega
        have ha2 : a ≤ k := hB.fits
        obtain ⟨oa, oc, rfl⟩ := hr.shape
        clear hr hB hO
        by_cases hlt : i < l.length
        · have i1 : (i : Int) < l.length := by omega
          obtain ⟨x, hx⟩ : ∃ x, l[i]? = some x := ⟨_, List.getElem?_eq_getElem hlt⟩
          have hxm := HG.out x (List.mem_of_getElem? hx)
          unfold maxLen at hxm
          obtain ⟨gl, ol, kl, e1, hcl⟩ := A.out.cells (by intro q; rw [q] at hlt; simp at hlt)
          simp only [Value.slice.injEq] at e1
          obtain ⟨rfl, -, rfl⟩ := e1
          have cw : w.cell? ⟨gl, ol + i, none⟩ = some (.string x) := by have := hcl i x hx 0 (by decide); simpa [EStr] using this
          have c1 := cell_later HO.out.bel cw
          clear hcl hx
          by_cases hx4 : 400 < x.size
          · have x1 : (400 : Int) < x.size := by omega
            go_wp2_with fail
            go_ret
            exact ⟨rfl, HO.out.bel⟩
          · have x1 : ¬ ((400 : Int) < x.size) := by omega
            have x2 : decide ((400 : Int) < x.size) = false := decide_eq_false x1
            have hcut := fun w => cut_ref x w (by omega)
            have hcl : (cutL x.data.toList).length = nframes x.size := by rw [cutL_length, Array.length_toList]; rfl
            obtain ⟨m, hm⟩ : ∃ m, nframes x.size = m := ⟨_, rfl⟩
            rw [hm] at hcl
            have HM := Lib.hid hm
            have HCL := Lib.hid hcl
            have hm7 : m ≤ 7 := by rw [← hm]; unfold nframes; omega
            clear hm hcl
            go_wp2_with fail
            refine (hcut _).mono ?_
            rintro e w3 ⟨cv, rfl, hr3, hb3⟩
            obtain ⟨ca, cc, rfl⟩ := hr3.shape
            rw [HCL.out]
            have HO3 := Lib.hid (HO.out.below hb3)
            have HR3 := Lib.hid (HR.out.below hb3)
            have c3 := cell_later HO3.out.bel cw
            clear hr3 hb3 c1 hcut
            have hfrm := fun w => frames_any (x.size : Int) w (by omega)
            simp only [frames_nat, HM.out] at hfrm
            have hxe : x.toList.isEmpty = decide (x.size = 0) := by
              by_cases q : x.size = 0
              · rw [decide_eq_true q, ByteArray.toList_eq]
                have : x.data.toList = [] := List.eq_nil_of_length_eq_zero (by rw [Array.length_toList]; exact q)
                rw [this]; rfl
              · rw [decide_eq_false q]; exact str_full q
            have hca : x.size = 0 ∨ (x.size ≠ 0 ∧ k < a + m) ∨ (x.size ≠ 0 ∧ a + m ≤ k) := by omega
            rcases hca with q | ⟨q, q2⟩ | ⟨q, q2⟩
            · have hw := HB.out.write_bad hk1 x (by omega) (Or.inl q)
              rw [if_pos q] at hw
              have HW := Lib.hid hw
              clear hw
              rw [decide_eq_true q] at hxe
              clear q
              go_wp2_with fail
              refine (write_any f k a x HO3.out hDs (by omega) (by rw [HB.out.left]; decide) (by omega) (by omega) (by omega)).mono ?_
              rintro e w4 ⟨rfl, h4, hh4⟩
              rw [HW.out] at h4 ⊢
              have HO4 := Lib.hid h4
              have HR4 := Lib.hid (HR3.out.kept (fun k q => hh4.block k q))
              have c4 := cell_later HO4.out.bel cw
              clear h4 hh4 c3
              go_wp2_with fail
              refine (hfrm _).mono ?_
              rintro e w5 ⟨rfl, rfl⟩
              go_wp2_with fail
              exact ⟨⟨i + 1, a, rs, D, by go_num, hlt, rfl, HR4.out, by omega, HB.out, hDs, by omega, HO4.out⟩, by simp [intOf]; omega⟩
            · have hw := HB.out.write_bad hk1 x (by omega) (Or.inr (by rw [HM.out]; exact q2))
              rw [if_neg q] at hw
              have HW := Lib.hid hw
              clear hw
              rw [decide_eq_false q] at hxe
              have z2 : (k : Int) < a + m := by omega
              clear q
              go_wp2_with fail
              refine (write_any f k a x HO3.out hDs (by omega) (by rw [HB.out.left]; decide) (by omega) (by omega) (by omega)).mono ?_
              rintro e w4 ⟨rfl, h4, hh4⟩
              rw [HW.out] at h4 ⊢
              have HO4 := Lib.hid h4
              have HR4 := Lib.hid (HR3.out.kept (fun k q => hh4.block k q))
              have c4 := cell_later HO4.out.bel cw
              clear h4 hh4 c3
              go_wp2_with fail
              refine (hfrm _).mono ?_
              rintro e w5 ⟨rfl, rfl⟩
              go_wp2_with fail
              exact ⟨⟨i + 1, a, rs, D, by go_num, hlt, rfl, HR4.out, by omega, HB.out, hDs, by omega, HO4.out⟩, by simp [intOf]; omega⟩
            · have hw := HB.out.write_ok hk1 x (by omega) q (by rw [HM.out]; exact q2)
              have hmore := HB.out.more x.data.toList (fun e => q (by have := congrArg List.length e; rw [Array.length_toList] at this; exact this)) (by rw [Array.length_toList]; show x.size ≤ _; omega) (by rw [Array.length_toList]; show a + nframes x.size ≤ k; rw [HM.out]; exact q2)
              rw [show nframes x.data.toList.length = m from by rw [Array.length_toList]; exact HM.out] at hmore
              rw [HM.out] at hw
              obtain ⟨p1, p2, p3⟩ := puts_size D (cutL x.data.toList) (f + a)
              rw [HCL.out] at p2
              generalize (D.puts (f + a) (cutL x.data.toList)).1 = D2 at *
              have HMO := Lib.hid hmore
              clear hmore
              have HW := Lib.hid hw
              clear hw
              rw [decide_eq_false q] at hxe
              have z2 : ¬ ((k : Int) < a + m) := by omega
              have z3 : (a : Int) + m ≤ k := by omega
              clear q
              go_wp2_with fail
              refine (write_any f k a x HO3.out hDs (by omega) (by rw [HB.out.left]; decide) (by omega) (by omega) (by omega)).mono ?_
              rintro e w4 ⟨rfl, h4, hh4⟩
              rw [HW.out] at h4 ⊢
              have HO4 := Lib.hid h4
              have HR4 := Lib.hid (HR3.out.kept (fun k q => hh4.block k q))
              have c4 := cell_later HO4.out.bel cw
              clear h4 hh4 c3
              go_wp2_with fail
              refine (hfrm _).mono ?_
              rintro e w5 ⟨rfl, rfl⟩
              have hB0 : w.heap.size ≤ w5.heap.size := HO4.out.bel.size
              go_wp2_with (first
                | (refine app_row EStr.laid rfl _ _ 49 49 Try.underlying49 Try.underlying49 rfl _ rs rfl (HR4.out.alloc _) _ [x] rfl ?e1 ?e2 ?e3 (Nat.le_trans hB0 (by simp)) ?_
                   case e1 => exact Arg.blk (m_alloc _ _ _ rfl) [x] rfl 1
                   case e2 => (show (rs.length + 1) * 16 ≤ _; omega)
                   case e3 => (show rs.length + 1 ≤ maxLen; unfold maxLen; omega)
                   intro v6 w6 hr6 hv6 k6))
              have hO5 := (HO4.out.below (w' := w5.alloc (.cells #[.string x] 9)) ((Below.refl _ _).alloc (Nat.le_refl _) _)).turn (R' := ownB v6) (k6.mono (fun i q => Or.inl q.symm)) (fun j q => ⟨(hv6 j q).imp id (fun e => Nat.le_of_eq e), hr6.lt q⟩)
              refine ⟨⟨i + 1, a + m, rs ++ [x], D2, by go_num, hlt, by go_num, hr6, by simp; omega, ?_, by omega, by omega, hO5⟩, by simp [intOf]; omega⟩
              rw [List.map_append]
              exact HMO.out
        · have ei : i = l.length := by omega
          subst ei
          have i1 : ¬ ((l.length : Int) < l.length) := by omega
          have hsc := HB.out.scan hk1
          have HSC := Lib.hid hsc
          clear hsc
          go_wp2_with fail
          refine (scan_any f k HO.out (by omega) hDs HB.out.good).mono ?_
          rintro e w4 ⟨gv, rfl, hr4, h4, hb4⟩
          rw [HSC.out] at hr4 ⊢
          have hm : (List.map (fun r => r.data.toList) rs).map bL = rs := by
            rw [List.map_map]
            conv => rhs; rw [← List.map_id rs]
            apply List.map_congr_left
            intro x _
            simp [bL]
          have hr4' : Row EStr w4 wr.heap.size gv rs := by rw [← hm]; exact hr4
          obtain ⟨ga, gc, rfl⟩ := hr4'.shape
          have HR4 := Lib.hid hr4'
          have HW4 := Lib.hid (HR.out.below hb4)
          have HO4 := Lib.hid h4.bel
          clear hr4 hr4' h4 hb4 hm
          go_wp2_with fail
          refine (same_any _ _ _ rs rs HR4.out.arg HW4.out.arg (by unfold maxLen; omega) (by unfold maxLen; omega)).mono ?_
          rintro e w5 ⟨rfl, hb5⟩
          rw [decide_eq_true rfl]
          have HO5 := Lib.hid (HO4.out.trans (hb5.mono HO4.out.size))
          clear hb5
          go_wp2_with fail
          go_ret
          exact ⟨rfl, HO5.out⟩
    · obtain rfl : k = 0 := by omega
      clear hk1
      go_wp2_with fail
      go_loopw [9, 10, 11] (fun av wv iv wr => ∃ i : Nat, iv = .int .i64 i ∧ i ≤ l.length ∧ av = .int .i64 1 ∧ wv = .slice none 0 0 ∧ OwnR w wr (fun _ => False) g ⟨f + 0, [], [], [], -1⟩) (fun _ _ iv _ => l.length - (intOf iv).toNat)
      case atStart => exact ⟨0, rfl, Nat.zero_le _, rfl, rfl, H2.out⟩
      case round =>
        obtain ⟨i, rfl, hi, rfl, rfl, hO⟩ := hrel
        have HO := Lib.hid hO
        clear hO
        by_cases hlt : i < l.length
        · have i1 : (i : Int) < l.length := by omega
          obtain ⟨x, hx⟩ : ∃ x, l[i]? = some x := ⟨_, List.getElem?_eq_getElem hlt⟩
          have hxm := HG.out x (List.mem_of_getElem? hx)
          unfold maxLen at hxm
          obtain ⟨gl, ol, kl, e1, hcl⟩ := A.out.cells (by intro q; rw [q] at hlt; simp at hlt)
          simp only [Value.slice.injEq] at e1
          obtain ⟨rfl, -, rfl⟩ := e1
          have cw : w.cell? ⟨gl, ol + i, none⟩ = some (.string x) := by have := hcl i x hx 0 (by decide); simpa [EStr] using this
          have c1 := cell_later HO.out.bel cw
          clear hcl hx
          by_cases hx4 : 400 < x.size
          · have x1 : (400 : Int) < x.size := by omega
            go_wp2_with fail
            go_ret
            exact ⟨rfl, HO.out.bel⟩
          · have x1 : ¬ ((400 : Int) < x.size) := by omega
            have x2 : decide ((400 : Int) < x.size) = false := decide_eq_false x1
            have hcut := fun w => cut_ref x w (by omega)
            have hcl : (cutL x.data.toList).length = nframes x.size := by rw [cutL_length, Array.length_toList]; rfl
            obtain ⟨m, hm⟩ : ∃ m, nframes x.size = m := ⟨_, rfl⟩
            rw [hm] at hcl
            have HM := Lib.hid hm
            have HCL := Lib.hid hcl
            have hm7 : m ≤ 7 := by rw [← hm]; unfold nframes; omega
            clear hm hcl
            go_wp2_with fail
            refine (hcut _).mono ?_
            rintro e w3 ⟨cv, rfl, hr3, hb3⟩
            obtain ⟨ca, cc, rfl⟩ := hr3.shape
            rw [HCL.out]
            have HO3 := Lib.hid (HO.out.below hb3)
            have c3 := cell_later HO3.out.bel cw
            clear hr3 hb3 c1 hcut
            have hfrm := fun w => frames_any (x.size : Int) w (by omega)
            simp only [frames_nat, HM.out] at hfrm
            have hw : (⟨f + 0, [], [], [], -1⟩ : DevD).write f (0 : Nat) 1 x = (⟨f + 0, [], [], [], -1⟩, 0, 1) := by
              have e : (⟨f + 0, [], [], [], -1⟩ : DevD).wErr f (0 : Nat) 1 x.size = 1 := by
                unfold DevD.wErr DevD.on
                rw [if_neg (by simp), if_pos (Or.inl (by simp))]
              unfold DevD.write
              rw [e]; rfl
            have HW := Lib.hid hw
            clear hw
            go_wp2_with fail
            refine (write_any f (0 : Nat) 1 x HO3.out (by show f + 0 ≤ 4096; omega) (by simp) (by simp) (by omega) (by simp) (by decide)).mono ?_
            rintro e w4 ⟨rfl, h4, hh4⟩
            rw [HW.out] at h4 ⊢
            have HO4 := Lib.hid h4
            have c4 := cell_later HO4.out.bel cw
            clear h4 hh4 c3
            go_wp2_with fail
            refine (hfrm _).mono ?_
            rintro e w5 ⟨rfl, rfl⟩
            go_wp2_with fail
            exact ⟨⟨i + 1, by go_num, hlt, rfl, rfl, HO4.out⟩, by simp [intOf]; omega⟩
        · have ei : i = l.length := by omega
          subst ei
          have i1 : ¬ ((l.length : Int) < l.length) := by omega
          have hsc : (⟨f + 0, [], [], [], -1⟩ : DevD).scan f (0 : Nat) = ([], 0, 1) := by
            unfold DevD.scan DevD.on
            rw [if_neg (by simp), if_pos (by simp)]
          have HSC := Lib.hid hsc
          clear hsc
          go_wp2_with fail
          refine (scan_any f (0 : Nat) HO.out (by simp) (by show f + 0 ≤ 4096; omega) (fun _ => zsec_size)).mono ?_
          rintro e w4 ⟨gv, rfl, hr4, h4, hb4⟩
          rw [HSC.out] at hr4 ⊢
          obtain ⟨ga, gc, rfl⟩ := hr4.shape
          have HO4 := Lib.hid h4.bel
          clear hr4 h4 hb4
          go_wp2_with fail
          go_ret
          exact ⟨rfl, HO4.out⟩
  · have d1 : decide ((12 : Int) < l.length) = true := decide_eq_true (by omega)
    go_enter Try.func8, Try.ntmps8
    go_wp2_with fail
    refine (awake07_any _).mono ?_
    rintro e w1 ⟨rfl, hb1⟩
    go_wp2_with fail
    refine (awake07_any _).mono ?_
    rintro e w2 ⟨rfl, hb2⟩
    go_wp2_with fail
    go_ret
    exact ⟨rfl, hb1.trans (hb2.mono hb1.size)⟩
end Go.Proofs.Ytncbojocglcieaa

/- bank's law: BankLoses. -/
namespace Go.Proofs.Ytncbojocglcieaa
open Go.RowKit
set_option linter.unusedSimpArgs false
set_option linter.unusedVariables false
def lis (rs : List ByteArray) : List (List UInt8) := rs.map fun r => r.data.toList
theorem lis_bL (rs : List ByteArray) : (lis rs).map bL = rs := by
  unfold lis
  rw [List.map_map]
  conv => rhs; rw [← List.map_id rs]
  apply List.map_congr_left
  intro x _
  simp [bL]
theorem enumPos_append (a b : List ByteArray) : ∀ p, enumPos p (a ++ b) = enumPos p a ++ enumPos (p + a.length) b := by
  induction a with
  | nil => intro p; simp [enumPos]
  | cons x a ih =>
    intro p
    rw [List.cons_append, enumPos, ih, enumPos, List.cons_append]
    congr 3
    simp only [List.length_cons]; omega
def Flushed (D : DevD) (rs : List ByteArray) (m0 : Nat) : Prop :=
  ∃ D0 a0, Bank D0 0 80 a0 (lis (rs.take m0)) ∧ D0.size = 80 ∧ D.safe = D0.seen ∧ D.queue = enumPos a0 ((lis (rs.drop m0)).flatMap cutL)
theorem Bank.flush {D : DevD} {f : Int} {n a : Nat} {rs : List (List UInt8)} (h : Bank D f n a rs) : Bank D.flush f n a rs := ⟨h.left, h.pos, h.on, h.good, h.len, h.fits, h.ok, h.secs⟩
theorem Flushed.now {D : DevD} {a : Nat} {rs : List ByteArray} (h : Bank D 0 80 a (lis rs)) (hs : D.size = 80) : Flushed D.flush rs rs.length :=
  ⟨D, a, by rw [List.take_length]; exact h, hs, rfl, by rw [List.drop_length]; rfl⟩
theorem Flushed.more {D : DevD} {a m0 : Nat} {rs : List ByteArray} {x : ByteArray} (h : Flushed D rs m0) (hm : m0 ≤ rs.length) (hb : Bank D 0 80 a (lis rs)) (hs : D.size = 80) (hf : a + nframes x.size ≤ 80) : Flushed (D.puts ((0 : Int) + a) (cutL x.data.toList)).1 (rs ++ [x]) m0 := by
  obtain ⟨D0, a0, h1, h2, h3, h4⟩ := h
  have hxl : x.data.toList.length = x.size := by rw [Array.length_toList]; rfl
  obtain ⟨i1, i2, i3, i4, i5, i6⟩ := puts_ok (cutL x.data.toList) D ((0 : Int) + a) hb.left (by omega) (by rw [cutL_length, hxl]; omega) (cutL_64 _)
  refine ⟨D0, a0, by rw [List.take_append_of_le_length hm]; exact h1, h2, by rw [i4]; exact h3, ?_⟩
  rw [i5, h4, List.drop_append_of_le_length hm]
  have e : lis (rs.drop m0 ++ [x]) = lis (rs.drop m0) ++ [x.data.toList] := by simp [lis]
  rw [e, List.flatMap_append, List.flatMap_singleton, enumPos_append]
  congr 2
  have ha := hb.len
  have ha0 := h1.len
  have e2 : lis rs = lis (rs.take m0) ++ lis (rs.drop m0) := by unfold lis; rw [← List.map_append, List.take_append_drop]
  rw [e2, List.flatMap_append, List.length_append] at ha
  omega
theorem loses_write {D : DevD} {a : Nat} {rs : List ByteArray} (hb : Bank D 0 80 a (lis rs)) (hs : D.size = 80) (x : ByteArray) :
    (∃ E : Int, E ≠ 0 ∧ D.write 0 80 a x = (D, 0, E)) ∨ (∃ D2 a2, D.write 0 80 a x = (D2, ((a2 : Nat) : Int), 0) ∧ Bank D2 0 80 a2 (lis (rs ++ [x])) ∧ D2.size = 80 ∧ D2.queue.length ≤ D.queue.length + 80 ∧ ∀ m0, m0 ≤ rs.length → Flushed D rs m0 → Flushed D2 (rs ++ [x]) m0) := by
  have hxl : x.data.toList.length = x.size := by rw [Array.length_toList]; rfl
  by_cases h6 : x.size ≤ 60000
  · by_cases h0 : x.size = 0 ∨ 80 < a + nframes x.size
    · left
      refine ⟨if x.size = 0 then 4 else 11, by split <;> decide, ?_⟩
      exact hb.write_bad (by decide) x h6 h0
    · right
      have hf : a + nframes x.size ≤ 80 := by omega
      have hw := hb.write_ok (by decide) x h6 (by omega) hf
      have hm := hb.more x.data.toList (fun e => by rw [e] at hxl; simp at hxl; omega) (by rw [hxl]; exact h6) (by rw [hxl]; exact hf)
      obtain ⟨p1, p2, p3⟩ := puts_size D (cutL x.data.toList) ((0 : Int) + a)
      refine ⟨_, a + nframes x.size, hw, ?_, by rw [p1, hs], ?_, fun m0 h1 h2 => h2.more h1 hb hs hf⟩
      · rw [hxl] at hm
        unfold lis at hm ⊢
        rw [List.map_append]
        exact hm
      · rw [cutL_length, hxl] at p2; omega
  · left
    refine ⟨4, by decide, ?_⟩
    have e : D.wErr 0 80 a x.size = 4 := by
      have ho : D.on 0 80 = true := by unfold DevD.on; rw [decide_eq_true_eq, hs]; omega
      have := hb.len
      unfold DevD.wErr
      rw [if_neg (by rw [hb.left]; decide), if_neg (by rw [ho]; simp; omega), if_pos (by omega)]
    unfold DevD.write
    rw [e]; rfl
theorem Flushed.scan {D : DevD} {a m0 : Nat} {rs : List ByteArray} (h : Flushed D rs m0) (hm : m0 ≤ rs.length) (hb : Bank D 0 80 a (lis rs)) (hs : D.size = 80) (kept : List Int) :
    ∃ t e, m0 ≤ t ∧ t ≤ rs.length ∧ (D.restart kept).scan 0 80 = (lis (rs.take t), e, 0) ∧ ∀ i, ((D.restart kept).sec i).size = 64 := by
  obtain ⟨D0, a0, h1, h2, h3, h4⟩ := h
  have e2 : lis rs = lis (rs.take m0) ++ lis (rs.drop m0) := by unfold lis; rw [← List.map_append, List.take_append_drop]
  have ha := hb.len
  have ha0 := h1.len
  have hfit := hb.fits
  have hok := hb.ok
  rw [e2] at hok
  rw [e2, List.flatMap_append, List.length_append] at ha
  obtain ⟨j, e, hj, hsc, hg⟩ := restart_scan h1 (by decide) h3 h4 (by rw [hs, h2]) (fun r hr => hok r (List.mem_append_right _ hr)) (by omega) kept
  have hjl : (lis (rs.drop m0)).length = rs.length - m0 := by unfold lis; rw [List.length_map, List.length_drop]
  refine ⟨m0 + j, e, Nat.le_add_right _ _, by omega, ?_, hg⟩
  have e3 : lis (rs.take m0) ++ (lis (rs.drop m0)).take j = lis (rs.take (m0 + j)) := by
    unfold lis
    rw [← List.map_take, ← List.map_append, ← List.take_add]
  rw [← e3]
  exact hsc
theorem Row.cases {α : Type} {E : EK α} {w : World} {B : Nat} {v : Value} {l : List α} (h : Row E w B v l) : (v = .slice none 0 0 ∧ l = []) ∨ ∃ g cap, v = .slice (some ⟨g, 0, none⟩) l.length cap ∧ l.length ≤ cap ∧ cap ≤ maxLen := by
  rcases h.2 with ⟨e, q⟩ | ⟨g, cap, cur, e, _, _, h1, h2, _⟩
  · exact Or.inl ⟨e, List.eq_nil_of_length_eq_zero q⟩
  · exact Or.inr ⟨g, cap, e, h1, h2⟩
theorem Arg.take {α : Type} {E : EK α} {w : World} {a : Option Addr} {n c : Nat} {l : List α} (h : Arg E w (.slice a n c) l) (t : Nat) (ht : t ≤ l.length) : Arg E w (.slice a t c) (l.take t) := by
  obtain ⟨a', c', e, h⟩ := h
  simp only [Value.slice.injEq] at e
  obtain ⟨rfl, -, rfl⟩ := e
  refine ⟨a, c, by rw [List.length_take, Nat.min_eq_left ht], ?_⟩
  rcases h with ⟨rfl, rfl, rfl⟩ | ⟨x, rfl, hc⟩
  · exact Or.inl ⟨rfl, rfl, by simp⟩
  · refine Or.inr ⟨x, rfl, fun j u hj => hc j u ?_⟩
    have e : l.flatMap E.enc = (l.take t).flatMap E.enc ++ (l.drop t).flatMap E.enc := by rw [← List.flatMap_append, List.take_append_drop]
    rw [e, List.getElem?_append_left (List.getElem?_eq_some_iff.1 hj).1, hj]
def LosesRel (w0 : World) (g ls lb : Nat) (av wv fv iv : Value) (wr : World) : Prop :=
  ∃ (i a m0 : Nat) (rs : List ByteArray) (D : DevD), iv = .int .i64 i ∧ i ≤ ls + lb ∧ av = .int .i64 a ∧ fv = .int .i64 m0 ∧ Row EStr wr w0.heap.size wv rs ∧ rs.length ≤ i ∧
    Bank D 0 80 a (lis rs) ∧ D.size = 80 ∧ D.queue.length ≤ 80 * i ∧ OwnR w0 wr (ownB wv) g D ∧ m0 ≤ rs.length ∧ (ls < i → Flushed D rs m0) ∧ (i ≤ ls → m0 = 0)
set_option maxRecDepth 100000 in
set_option maxHeartbeats 4000000 in
theorem bankloses_any (v1 v2 v3 : Value) (l1 l2 : List ByteArray) (l3 : List Int) (w : World) (h1 : Arg EStr w v1 l1) (h2 : Arg EStr w v2 l2) (h3 : Arg EInt w v3 l3) (m1 : l1.length ≤ maxLen) (m2 : l2.length ≤ maxLen) (m3 : l3.length ≤ maxLen)
    (g1 : ∀ x ∈ l1, x.size ≤ maxLen) (g2 : ∀ x ∈ l2, x.size ≤ maxLen) :
    Calls Try.prog 11 #[v1, v2, v3] w fun e w' => e = .returned (.bool true) ∧ Below w.heap.size w w' := by
  obtain ⟨a1, c1, rfl⟩ := h1.shape
  obtain ⟨a2, c2, rfl⟩ := h2.shape
  obtain ⟨a3, c3, rfl⟩ := h3.shape
  have A1 := Lib.hid h1
  have A2 := Lib.hid h2
  have A3 := Lib.hid h3
  have G1 := Lib.hid g1
  have G2 := Lib.hid g2
  have M3 := Lib.hid m3
  unfold maxLen at m1 m2 m3
  clear h1 h2 h3 g1 g2
  by_cases hs : l1.length ≤ 8 ∧ l2.length ≤ 8 ∧ l3.length ≤ 60
  · obtain ⟨s1, s2, s3⟩ := hs
    have d1 : decide ((8 : Int) < l1.length) = false := decide_eq_false (by omega)
    have d2 : decide ((8 : Int) < l2.length) = false := decide_eq_false (by omega)
    have d3 : decide ((60 : Int) < l3.length) = false := decide_eq_false (by omega)
    go_enter Try.func11, Try.ntmps11
    go_wp2_with fail
    refine (awake07_any _).mono ?_
    rintro e w1 ⟨rfl, hb1⟩
    go_wp2_with fail
    refine (own_new w w1 80 hb1).mono ?_
    rintro e w2 ⟨g, rfl, h2⟩
    have H2 := Lib.hid (show OwnR w w2 (fun _ => False) g ⟨80, [], [], [], -1⟩ from h2.r)
    clear h2
    go_wp2_with fail
    go_loopw [8, 9, 10, 11] (fun av wv fv iv wr => LosesRel w g l1.length l2.length av wv fv iv wr) (fun _ _ _ iv _ => l1.length + l2.length - (intOf iv).toNat)
    case atStart => exact ⟨0, 1, 0, [], _, rfl, Nat.zero_le _, rfl, rfl, Row.nil _ _ _, Nat.le_refl _, Bank.new 80 0 80 (by decide) (by decide), rfl, Nat.le_refl _, H2.out.sub (fun i q => by simp [ownB, Value.ownBlock] at q), Nat.le_refl _, fun q => absurd q (Nat.not_lt_zero _), fun _ => rfl⟩
    case round =>
      obtain ⟨i, a, m0, rs, D, rfl, hi, rfl, rfl, hr, hrl, hB, hDs, hDq, hO, hm0, hfl, hm00⟩ := hrel
      have HR := Lib.hid hr
      have HB := Lib.hid hB
      have HO := Lib.hid hO
      have HFL := Lib.hid hfl
      have HM0 := Lib.hid hm00
      have ha1 : 1 ≤ a := by have := hB.len; omega
      have ha2 : a ≤ 80 := hB.fits
      obtain ⟨oa, oc, rfl⟩ := hr.shape
      clear hr hB hO hfl hm00
      by_cases hlt : i < l1.length
      · have i1 : (i : Int) < l1.length := by omega
        have i2 : (i : Int) < l1.length + l2.length := by omega
        have i3 : ((i : Int) == l1.length) = false := by simp; omega
        have i4 : (i == l1.length) = false := by simp; omega
        obtain ⟨x, hx⟩ : ∃ x, l1[i]? = some x := ⟨_, List.getElem?_eq_getElem hlt⟩
        have hxm := G1.out x (List.mem_of_getElem? hx)
        unfold maxLen at hxm
        obtain ⟨gl, ol, kl, e1, hcl⟩ := A1.out.cells (by intro q; rw [q] at hlt; simp at hlt)
        simp only [Value.slice.injEq] at e1
        obtain ⟨rfl, -, rfl⟩ := e1
        have cw : w.cell? ⟨gl, ol + i, none⟩ = some (.string x) := by have := hcl i x hx 0 (by decide); simpa [EStr] using this
        have c1 := cell_later HO.out.bel cw
        clear hcl hx
        go_wp2_with fail
        rcases loses_write HB.out hDs x with ⟨E, hE, hw⟩ | ⟨D2, a2, hw, hB2, hs2, hq2, hfl2⟩
        · have HW := Lib.hid hw
          have e0 : (E == 0) = false := by simpa using hE
          clear hw hE
          refine (write_all 0 80 a x HO.out (by rw [hDs]; decide) (by omega) (by rw [HB.out.left]; decide) (by omega) (by decide) (by omega)).mono ?_
          rintro e w4 ⟨rfl, h4, hh4⟩
          rw [HW.out] at h4 ⊢
          have HO4 := Lib.hid h4
          have HR4 := Lib.hid (HR.out.kept (fun k q => hh4.block k q))
          clear h4 hh4
          go_wp2_with fail
          exact ⟨⟨i + 1, a, m0, rs, D, by go_num, by omega, rfl, rfl, HR4.out, by omega, HB.out, hDs, (by omega), HO4.out, hm0, fun q => absurd q (by omega), fun q => HM0.out (by omega)⟩, by simp [intOf]; omega⟩
        · have HW := Lib.hid hw
          have HB2 := Lib.hid hB2
          have HF2 := Lib.hid hfl2
          clear hw hB2 hfl2
          refine (write_all 0 80 a x HO.out (by rw [hDs]; decide) (by omega) (by rw [HB.out.left]; decide) (by omega) (by decide) (by omega)).mono ?_
          rintro e w4 ⟨rfl, h4, hh4⟩
          rw [HW.out] at h4 ⊢
          have HO4 := Lib.hid h4
          have HR4 := Lib.hid (HR.out.kept (fun k q => hh4.block k q))
          clear h4 hh4
          have hB0 : w.heap.size ≤ w4.heap.size := HO4.out.bel.size
          go_wp2_with (first
            | (refine app_row EStr.laid rfl _ _ 49 49 Try.underlying49 Try.underlying49 rfl _ rs rfl (HR4.out.alloc _) _ [x] rfl ?e1 ?e2 ?e3 (Nat.le_trans hB0 (by simp)) ?_
               case e1 => exact Arg.blk (m_alloc _ _ _ rfl) [x] rfl 1
               case e2 => (show (rs.length + 1) * 16 ≤ _; omega)
               case e3 => (show rs.length + 1 ≤ maxLen; unfold maxLen; omega)
               intro v6 w6 hr6 hv6 k6))
          have hO5 := (HO4.out.below (w' := w4.alloc (.cells #[.string x] 9)) ((Below.refl _ _).alloc (Nat.le_refl _) _)).turn (R' := ownB v6) (k6.mono (fun i q => Or.inl q.symm)) (fun j q => ⟨(hv6 j q).imp id (fun e => Nat.le_of_eq e), hr6.lt q⟩)
          exact ⟨⟨i + 1, a2, m0, rs ++ [x], D2, by go_num, by omega, rfl, rfl, hr6, by simp; omega, HB2.out, hs2, (by have hqq : D2.queue.length ≤ _ := hq2; omega), hO5, (by rw [List.length_append]; exact Nat.le_trans (hm0) (Nat.le_add_right _ _)), fun q => absurd q (by omega), fun q => HM0.out (by omega)⟩, by simp [intOf]; omega⟩
      · by_cases hlt2 : i < l1.length + l2.length
        · obtain ⟨j, rfl⟩ : ∃ j, i = l1.length + j := ⟨i - l1.length, by omega⟩
          have i1 : ¬ (((l1.length + j : Nat) : Int) < l1.length) := by omega
          have i2 : ((l1.length + j : Nat) : Int) < l1.length + l2.length := by omega
          have i3 : ((l1.length + j : Nat) : Int) - l1.length = j := by omega
          have i5 : (j : Int) < l2.length := by omega
          obtain ⟨x, hx⟩ : ∃ x, l2[j]? = some x := ⟨_, List.getElem?_eq_getElem (by omega)⟩
          have hxm := G2.out x (List.mem_of_getElem? hx)
          unfold maxLen at hxm
          obtain ⟨gl, ol, kl, e1, hcl⟩ := A2.out.cells (by intro q; rw [q] at i5; simp at i5; omega)
          simp only [Value.slice.injEq] at e1
          obtain ⟨rfl, -, rfl⟩ := e1
          have cw : w.cell? ⟨gl, ol + j, none⟩ = some (.string x) := by have := hcl j x hx 0 (by decide); simpa [EStr] using this
          have c1 := cell_later HO.out.bel cw
          clear hcl hx
          by_cases hj0 : j = 0
          · subst hj0
            have c1 : wr.cell? ⟨gl, ol, none⟩ = some (.string x) := c1
            have cw : w.cell? ⟨gl, ol, none⟩ = some (.string x) := cw
            have i6 : (0 : Int) < l2.length := by omega
            have f3 : (((l1.length + 0 : Nat) : Int) == l1.length) = true := by simp
            go_wp2_with fail
            refine (ownr_flush HO.out).mono ?_
            rintro e w3 ⟨rfl, h3, hh3⟩
            rw [if_neg (by rw [HB.out.left]; decide)] at h3 ⊢
            have HO3 := Lib.hid h3
            have HR3 := Lib.hid (HR.out.kept (fun k q => hh3.block k q))
            have c3' := cell_later HO3.out.bel cw
            have hBf := HB.out.flush
            have hDf : D.flush.size = 80 := hDs
            have hqf : D.flush.queue.length = 0 := rfl
            have HBF := Lib.hid hBf
            have HFN := Lib.hid (Flushed.now HB.out hDs)
            clear h3 hh3 c1 hBf
            generalize D.flush = DF at *
            go_wp2_with fail
            rcases loses_write HBF.out hDf x with ⟨E, hE, hw⟩ | ⟨D2, a2, hw, hB2, hs2, hq2, hfl2⟩
            · have HW := Lib.hid hw
              have e0 : (E == 0) = false := by simpa using hE
              clear hw hE
              refine (write_all 0 80 a x HO3.out (by rw [hDf]; decide) (by omega) (by rw [HBF.out.left]; decide) (by omega) (by decide) (by omega)).mono ?_
              rintro e w4 ⟨rfl, h4, hh4⟩
              rw [HW.out] at h4 ⊢
              have HO4 := Lib.hid h4
              have HR4 := Lib.hid (HR3.out.kept (fun k q => hh4.block k q))
              clear h4 hh4
              go_wp2_with fail
              exact ⟨⟨l1.length + 0 + 1, a, rs.length, rs, DF, by go_num, by omega, rfl, rfl, HR4.out, by omega, HBF.out, hDf, (by omega), HO4.out, (Nat.le_refl _), fun _ => HFN.out, fun q => absurd q (by omega)⟩, by simp [intOf]; omega⟩
            · have HW := Lib.hid hw
              have HB2 := Lib.hid hB2
              have HF2 := Lib.hid hfl2
              clear hw hB2 hfl2
              refine (write_all 0 80 a x HO3.out (by rw [hDf]; decide) (by omega) (by rw [HBF.out.left]; decide) (by omega) (by decide) (by omega)).mono ?_
              rintro e w4 ⟨rfl, h4, hh4⟩
              rw [HW.out] at h4 ⊢
              have HO4 := Lib.hid h4
              have HR4 := Lib.hid (HR3.out.kept (fun k q => hh4.block k q))
              clear h4 hh4
              have hB0 : w.heap.size ≤ w4.heap.size := HO4.out.bel.size
              go_wp2_with (first
                | (refine app_row EStr.laid rfl _ _ 49 49 Try.underlying49 Try.underlying49 rfl _ rs rfl (HR4.out.alloc _) _ [x] rfl ?e1 ?e2 ?e3 (Nat.le_trans hB0 (by simp)) ?_
                   case e1 => exact Arg.blk (m_alloc _ _ _ rfl) [x] rfl 1
                   case e2 => (show (rs.length + 1) * 16 ≤ _; omega)
                   case e3 => (show rs.length + 1 ≤ maxLen; unfold maxLen; omega)
                   intro v6 w6 hr6 hv6 k6))
              have hO5 := (HO4.out.below (w' := w4.alloc (.cells #[.string x] 9)) ((Below.refl _ _).alloc (Nat.le_refl _) _)).turn (R' := ownB v6) (k6.mono (fun i q => Or.inl q.symm)) (fun j q => ⟨(hv6 j q).imp id (fun e => Nat.le_of_eq e), hr6.lt q⟩)
              exact ⟨⟨l1.length + 0 + 1, a2, rs.length, rs ++ [x], D2, by go_num, by omega, rfl, rfl, hr6, by simp; omega, HB2.out, hs2, (by have hqq : D2.queue.length ≤ _ := hq2; omega), hO5, (by rw [List.length_append]; exact Nat.le_trans ((Nat.le_refl _)) (Nat.le_add_right _ _)), fun _ => HF2.out _ (Nat.le_refl _) HFN.out, fun q => absurd q (by omega)⟩, by simp [intOf]; omega⟩
          · have f3 : (((l1.length + j : Nat) : Int) == l1.length) = false := by simp; omega
            go_wp2_with fail
            rcases loses_write HB.out hDs x with ⟨E, hE, hw⟩ | ⟨D2, a2, hw, hB2, hs2, hq2, hfl2⟩
            · have HW := Lib.hid hw
              have e0 : (E == 0) = false := by simpa using hE
              clear hw hE
              refine (write_all 0 80 a x HO.out (by rw [hDs]; decide) (by omega) (by rw [HB.out.left]; decide) (by omega) (by decide) (by omega)).mono ?_
              rintro e w4 ⟨rfl, h4, hh4⟩
              rw [HW.out] at h4 ⊢
              have HO4 := Lib.hid h4
              have HR4 := Lib.hid (HR.out.kept (fun k q => hh4.block k q))
              clear h4 hh4
              go_wp2_with fail
              exact ⟨⟨l1.length + j + 1, a, m0, rs, D, by go_num, by omega, rfl, rfl, HR4.out, by omega, HB.out, hDs, (by omega), HO4.out, hm0, fun _ => HFL.out (by omega), fun q => absurd q (by omega)⟩, by simp [intOf]; omega⟩
            · have HW := Lib.hid hw
              have HB2 := Lib.hid hB2
              have HF2 := Lib.hid hfl2
              clear hw hB2 hfl2
              refine (write_all 0 80 a x HO.out (by rw [hDs]; decide) (by omega) (by rw [HB.out.left]; decide) (by omega) (by decide) (by omega)).mono ?_
              rintro e w4 ⟨rfl, h4, hh4⟩
              rw [HW.out] at h4 ⊢
              have HO4 := Lib.hid h4
              have HR4 := Lib.hid (HR.out.kept (fun k q => hh4.block k q))
              clear h4 hh4
              have hB0 : w.heap.size ≤ w4.heap.size := HO4.out.bel.size
              go_wp2_with (first
                | (refine app_row EStr.laid rfl _ _ 49 49 Try.underlying49 Try.underlying49 rfl _ rs rfl (HR4.out.alloc _) _ [x] rfl ?e1 ?e2 ?e3 (Nat.le_trans hB0 (by simp)) ?_
                   case e1 => exact Arg.blk (m_alloc _ _ _ rfl) [x] rfl 1
                   case e2 => (show (rs.length + 1) * 16 ≤ _; omega)
                   case e3 => (show rs.length + 1 ≤ maxLen; unfold maxLen; omega)
                   intro v6 w6 hr6 hv6 k6))
              have hO5 := (HO4.out.below (w' := w4.alloc (.cells #[.string x] 9)) ((Below.refl _ _).alloc (Nat.le_refl _) _)).turn (R' := ownB v6) (k6.mono (fun i q => Or.inl q.symm)) (fun j q => ⟨(hv6 j q).imp id (fun e => Nat.le_of_eq e), hr6.lt q⟩)
              exact ⟨⟨l1.length + j + 1, a2, m0, rs ++ [x], D2, by go_num, by omega, rfl, rfl, hr6, by simp; omega, HB2.out, hs2, (by have hqq : D2.queue.length ≤ _ := hq2; omega), hO5, (by rw [List.length_append]; exact Nat.le_trans (hm0) (Nat.le_add_right _ _)), fun _ => HF2.out _ hm0 (HFL.out (by omega)), fun q => absurd q (by omega)⟩, by simp [intOf]; omega⟩
        · have ei : i = l1.length + l2.length := by omega
          subst ei
          have i1 : ¬ (((l1.length + l2.length : Nat) : Int) < l1.length + l2.length) := by omega
          by_cases hz : l2.length = 0
          · have z1 : ((l2.length : Int) == 0) = true := by rw [hz]; rfl
            have z2 : (l2.length == 0) = true := by rw [hz]; rfl
            have hbl : (l1.length + l2.length) ≤ l1.length := by omega
            go_wp2_with fail
            refine (ownr_flush HO.out).mono ?_
            rintro e w3 ⟨rfl, h3, hh3⟩
            rw [if_neg (by rw [HB.out.left]; decide)] at h3 ⊢
            have HO3 := Lib.hid h3
            have HR3 := Lib.hid (HR.out.kept (fun k q => hh3.block k q))
            have hBf := HB.out.flush
            have hDf : D.flush.size = 80 := hDs
            have hqf : D.flush.queue.length = 0 := rfl
            have HBF := Lib.hid hBf
            have HFN := Lib.hid (Flushed.now HB.out hDs)
            clear h3 hh3 hBf
            generalize D.flush = DF at *
            go_wp2_with fail
            obtain ⟨t, ex, ht1, ht2, hsc, hgood⟩ := Flushed.scan HFN.out (Nat.le_refl _) HBF.out hDf l3
            have HSC := Lib.hid hsc
            have HGD := Lib.hid hgood
            clear hsc hgood
            refine (ownr_restart HO3.out _ l3 A3.out M3.out (by omega)).mono ?_
            rintro e w5 ⟨rfl, h5, hh5⟩
            have HO5 := Lib.hid h5
            have HR5 := Lib.hid (HR3.out.kept (fun k q => hh5.block k q))
            have hsz5 : (DF.restart l3).size ≤ 4096 := by show DF.size ≤ 4096; rw [hDf]; decide
            clear h5 hh5
            generalize DF.restart l3 = DR at *
            go_wp2_with fail
            refine (scan_any 0 80 HO5.out (by decide) hsz5 HGD.out).mono ?_
            rintro e w6 ⟨gv, rfl, hr6, h6, hb6⟩
            rw [HSC.out] at hr6 ⊢
            rw [lis_bL] at hr6
            have htl : (rs.take t).length = t := by rw [List.length_take, Nat.min_eq_left ht2]
            obtain ⟨ga, gc, rfl⟩ := hr6.shape
            rw [htl] at hr6 ⊢
            have HR6 := Lib.hid hr6
            have HR7 := Lib.hid (HR5.out.below hb6)
            have HO6 := Lib.hid h6.bel
            have HTL := Lib.hid htl
            have ht3 : ¬ ((t : Int) < rs.length) := by omega
            have ht4 : (t : Int) ≤ rs.length := by omega
            have ht5 : decide (t < rs.length) = false := decide_eq_false (by omega)
            clear hr6 h6 hb6 htl
            rcases HR7.out.cases with ⟨e', he⟩ | ⟨gw, cw2, e', hc1, hc2⟩
            · simp only [Value.slice.injEq] at e'
              obtain ⟨rfl, e4, rfl⟩ := e'
              subst he
              have ht0 : t = 0 := by simpa using ht2
              subst ht0
              go_wp2_with fail
              refine (same_any _ _ _ ([].take 0) ([].take 0) HR6.out.arg (Arg.take HR7.out.arg 0 (Nat.le_refl _)) (by simp) (by simp)).mono ?_
              rintro e w7 ⟨rfl, hb7⟩
              rw [decide_eq_true rfl]
              have HO7 := Lib.hid (HO6.out.trans (hb7.mono HO6.out.size))
              clear hb7
              go_wp2_with fail
              go_ret
              exact ⟨rfl, HO7.out⟩
            · simp only [Value.slice.injEq] at e'
              obtain ⟨rfl, -, rfl⟩ := e'
              unfold maxLen at hc2
              have hc3 : t ≤ oc := by omega
              have hc4 : (t : Int) ≤ oc := by omega
              go_wp2_with fail
              refine (same_any _ _ _ (rs.take t) (rs.take t) HR6.out.arg (Arg.take HR7.out.arg t ht2) (by rw [HTL.out]; unfold maxLen; omega) (by rw [HTL.out]; unfold maxLen; omega)).mono ?_
              rintro e w7 ⟨rfl, hb7⟩
              rw [decide_eq_true rfl]
              have HO7 := Lib.hid (HO6.out.trans (hb7.mono HO6.out.size))
              clear hb7
              go_wp2_with fail
              go_ret
              exact ⟨rfl, HO7.out⟩
          · have z1 : ((l2.length : Int) == 0) = false := by rw [beq_eq_false_iff_ne]; omega
            have z2 : (l2.length == 0) = false := by rw [beq_eq_false_iff_ne]; exact hz
            go_wp2_with fail
            obtain ⟨t, ex, ht1, ht2, hsc, hgood⟩ := Flushed.scan (HFL.out (by omega)) hm0 HB.out hDs l3
            have HSC := Lib.hid hsc
            have HGD := Lib.hid hgood
            clear hsc hgood
            refine (ownr_restart HO.out _ l3 A3.out M3.out (by omega)).mono ?_
            rintro e w5 ⟨rfl, h5, hh5⟩
            have HO5 := Lib.hid h5
            have HR5 := Lib.hid (HR.out.kept (fun k q => hh5.block k q))
            have hsz5 : (D.restart l3).size ≤ 4096 := by show D.size ≤ 4096; rw [hDs]; decide
            clear h5 hh5
            generalize D.restart l3 = DR at *
            go_wp2_with fail
            refine (scan_any 0 80 HO5.out (by decide) hsz5 HGD.out).mono ?_
            rintro e w6 ⟨gv, rfl, hr6, h6, hb6⟩
            rw [HSC.out] at hr6 ⊢
            rw [lis_bL] at hr6
            have htl : (rs.take t).length = t := by rw [List.length_take, Nat.min_eq_left ht2]
            obtain ⟨ga, gc, rfl⟩ := hr6.shape
            rw [htl] at hr6 ⊢
            have HR6 := Lib.hid hr6
            have HR7 := Lib.hid (HR5.out.below hb6)
            have HO6 := Lib.hid h6.bel
            have HTL := Lib.hid htl
            have ht3 : ¬ ((t : Int) < m0) := by omega
            have ht4 : (t : Int) ≤ rs.length := by omega
            have ht5 : decide (t < m0) = false := decide_eq_false (by omega)
            clear hr6 h6 hb6 htl
            rcases HR7.out.cases with ⟨e', he⟩ | ⟨gw, cw2, e', hc1, hc2⟩
            · simp only [Value.slice.injEq] at e'
              obtain ⟨rfl, e4, rfl⟩ := e'
              subst he
              have hz0 : m0 = 0 := by simpa using hm0
              subst hz0
              have ht0 : t = 0 := by simpa using ht2
              subst ht0
              go_wp2_with fail
              refine (same_any _ _ _ ([].take 0) ([].take 0) HR6.out.arg (Arg.take HR7.out.arg 0 (Nat.le_refl _)) (by simp) (by simp)).mono ?_
              rintro e w7 ⟨rfl, hb7⟩
              rw [decide_eq_true rfl]
              have HO7 := Lib.hid (HO6.out.trans (hb7.mono HO6.out.size))
              clear hb7
              go_wp2_with fail
              go_ret
              exact ⟨rfl, HO7.out⟩
            · simp only [Value.slice.injEq] at e'
              obtain ⟨rfl, -, rfl⟩ := e'
              unfold maxLen at hc2
              have hc3 : t ≤ oc := by omega
              have hc4 : (t : Int) ≤ oc := by omega
              go_wp2_with fail
              refine (same_any _ _ _ (rs.take t) (rs.take t) HR6.out.arg (Arg.take HR7.out.arg t ht2) (by rw [HTL.out]; unfold maxLen; omega) (by rw [HTL.out]; unfold maxLen; omega)).mono ?_
              rintro e w7 ⟨rfl, hb7⟩
              rw [decide_eq_true rfl]
              have HO7 := Lib.hid (HO6.out.trans (hb7.mono HO6.out.size))
              clear hb7
              go_wp2_with fail
              go_ret
              exact ⟨rfl, HO7.out⟩
  · have hd : decide ((8 : Int) < l1.length) = true ∨ (decide ((8 : Int) < l1.length) = false ∧ decide ((8 : Int) < l2.length) = true) ∨ (decide ((8 : Int) < l1.length) = false ∧ decide ((8 : Int) < l2.length) = false ∧ decide ((60 : Int) < l3.length) = true) := by
      simp only [decide_eq_true_eq, decide_eq_false_iff_not]; omega
    clear hs
    rcases hd with d1 | ⟨d1, d2⟩ | ⟨d1, d2, d3⟩
    all_goals
      go_enter Try.func11, Try.ntmps11
      go_wp2_with fail
      refine (awake07_any _).mono ?_
      rintro e w1 ⟨rfl, hb1⟩
      go_wp2_with fail
      refine (awake07_any _).mono ?_
      rintro e w2 ⟨rfl, hb2⟩
      go_wp2_with fail
      go_ret
      exact ⟨rfl, hb1.trans (hb2.mono hb1.size)⟩
end Go.Proofs.Ytncbojocglcieaa

/- bank: an epoch's head, in plain Lean; label, Head. -/
namespace Go.Proofs.Ytncbojocglcieaa
open Go.RowKit
set_option linter.unusedSimpArgs false
set_option linter.unusedVariables false
/-- Byte i of a number of eight, the greatest first. -/
def nbyte (n i : Nat) : UInt8 := UInt8.ofNat (n / 256 ^ (7 - i) % 256)
/-- What byte j of an epoch's head is. -/
def hbyte (n j : Nat) : UInt8 := if n = 0 then 0 else if j < 8 then nbyte n j else if j < 16 then 255 - nbyte n (j - 8) else 0
def hdr (n : Nat) : List UInt8 := (List.range 64).map (hbyte n)
theorem hdr_length (n : Nat) : (hdr n).length = 64 := by simp [hdr]
theorem hdr_get (n j : Nat) (h : j < 64) : (hdr n)[j]? = some (hbyte n j) := by simp [hdr, h]
/-- A head of which i bytes are written. -/
def Part (n i : Nat) (l : List UInt8) : Prop := l.length = 64 ∧ ∀ j, j < 64 → l[j]? = some (if j < i then nbyte n j else if 8 ≤ j ∧ j < 8 + i then 255 - nbyte n (j - 8) else 0)
theorem Part.start (n : Nat) : Part n 0 (List.replicate 64 0) := ⟨by simp, fun j hj => by rw [List.getElem?_replicate, if_pos hj, if_neg (by omega), if_neg (by omega)]⟩
theorem Part.step {n i : Nat} {l : List UInt8} (h : Part n i l) (hi : i < 8) : Part n (i + 1) ((l.set i (nbyte n i)).set (8 + i) (255 - nbyte n i)) := by
  refine ⟨by simp [h.1], fun j hj => ?_⟩
  rw [List.getElem?_set, List.length_set, List.getElem?_set, h.1]
  by_cases e1 : 8 + i = j
  · subst e1
    rw [if_pos rfl, if_pos (by omega), if_neg (by omega), if_pos (by omega), Nat.add_sub_cancel_left]
  · rw [if_neg e1]
    by_cases e2 : i = j
    · subst e2
      rw [if_pos rfl, if_pos (by omega), if_pos (by omega)]
    · rw [if_neg e2, h.2 j hj]
      by_cases e3 : j < i
      · rw [if_pos e3, if_pos (by omega)]
      · by_cases e4 : 8 ≤ j ∧ j < 8 + i
        · rw [if_neg e3, if_pos e4, if_neg (show ¬ j < i + 1 by omega), if_pos (by omega)]
        · rw [if_neg e3, if_neg e4, if_neg (show ¬ j < i + 1 by omega), if_neg (by omega)]
theorem Part.done {n : Nat} {l : List UInt8} (h : Part n 8 l) (hn : n ≠ 0) : l = hdr n := by
  apply List.ext_getElem?
  intro j
  by_cases hj : j < 64
  · rw [h.2 j hj, hdr_get n j hj]
    unfold hbyte
    rw [if_neg hn]
    by_cases e1 : j < 8
    · rw [if_pos e1, if_pos e1]
    · rw [if_neg e1, if_neg e1]
      by_cases e2 : j < 16
      · rw [if_pos (by omega), if_pos e2]
      · rw [if_neg (by omega), if_neg e2]
  · rw [List.getElem?_eq_none (by rw [h.1]; omega), List.getElem?_eq_none (by rw [hdr_length]; omega)]
theorem hdr_zero : hdr 0 = List.replicate 64 0 := by decide
end Go.Proofs.Ytncbojocglcieaa

/- bank: label, Head. -/
namespace Go.Proofs.Ytncbojocglcieaa
open Go.RowKit
set_option linter.unusedSimpArgs false
set_option linter.unusedVariables false
def LabRel (w : World) (N n : Nat) (iv : Value) (wr : World) : Prop :=
  ∃ (i : Nat) (l : List UInt8), iv = .int .i64 i ∧ i ≤ 8 ∧ (n = 0 → i = 0) ∧ Part n i l ∧ Row EByt wr N (.slice (some ⟨N, 0, none⟩) 64 64) l ∧ Below N w wr
theorem part_zero {l : List UInt8} (h : Part 0 0 l) : l = hdr 0 := by
  rw [hdr_zero]
  apply List.ext_getElem?
  intro j
  by_cases hj : j < 64
  · rw [h.2 j hj, List.getElem?_replicate, if_pos hj, if_neg (by omega), if_neg (by omega)]
  · rw [List.getElem?_eq_none (by rw [h.1]; omega), List.getElem?_eq_none (by simp; omega)]
theorem nbyte_val (n i : Nat) (h : i < 8) : (n : Int) / 2 ^ (56 - 8 * i) % 256 = ((nbyte n i).toNat : Nat) := by
  have e := shr_byte n (7 - i)
  rw [show 8 * (7 - i) = 56 - 8 * i from by omega] at e
  simp only [Value.int.injEq, true_and] at e
  exact e
theorem nbyte_not (b : UInt8) : bits BinOp.xor IntKind.u8 (if IntKind.u8.signed = true then -1 else IntKind.u8.max) ((b.toNat : Nat) : Int) = ((255 - b).toNat : Nat) := by
  have h : ∀ k : Fin 256, bits BinOp.xor IntKind.u8 (if IntKind.u8.signed = true then -1 else IntKind.u8.max) ((k.val : Nat) : Int) = ((255 - UInt8.ofNat k.val).toNat : Nat) := by decide +kernel
  have := h ⟨b.toNat, b.toNat_lt⟩
  simpa using this
set_option maxRecDepth 100000 in
set_option maxHeartbeats 2000000 in
theorem label_any (n : Nat) (w : World) (hn : n < 18446744073709551616) : Calls Try.prog 59 #[.int .u64 n] w fun e w' => e = .returned (.string ⟨(hdr n).toArray⟩) ∧ Below w.heap.size w w' := by
  obtain ⟨N, hN⟩ : ∃ N, w.heap.size = N := ⟨_, rfl⟩
  go_enter Try.func59, Try.ntmps59
  go_wp2_with (refine make_row (E := EByt) (B := w.heap.size) (z := .int .u8 0) (0 : UInt8) (by kernel_rfl) (by rfl) rfl 60 Try.underlying60 _ _ rfl 64 64 64 rfl rfl rfl rfl (by decide) (by decide) (Nat.le_refl _) ?_; intro w1 hr1 hb1)
  rw [hN] at hr1 hb1
  go_loopw [4] (fun iv wr => LabRel w N n iv wr) (fun iv _ => 8 - (intOf iv).toNat)
  case atStart => exact ⟨0, _, rfl, Nat.zero_le _, fun _ => rfl, Part.start n, hr1, hb1⟩
  case round =>
    obtain ⟨i, l, rfl, hi, hz, hp, hr, hb⟩ := hrel
    by_cases hlt : i < 8
    · have i1 : (i : Int) < 8 := by omega
      by_cases h0 : n = 0
      · have h00 := hz h0
        have hd : decide (0 < n) = false := decide_eq_false (by omega)
        have hdn : ¬ 0 < n := by omega
        have e : l = hdr n := by rw [h0, h00] at hp; rw [h0]; exact part_zero hp
        subst e
        have Hr := Lib.hid hr
        have Hb := Lib.hid hb
        clear hr hb hp hz h0 h00
        go_wp2_with (refine conv_row rfl _ rfl _ _ rfl Hr.out ?_)
        go_ret
        exact ⟨rfl, hN ▸ Hb.out⟩
      · have hd : (0 : Int) < (n : Int) := by omega
        have hd2 : decide ((0 : Int) < (n : Int)) = true := decide_eq_true hd
        obtain ⟨g, cap, e, _, hgl, _, _, hcell, hfr⟩ := hr.slice (by intro q; have := congrArg List.length q; have := hp.1; simp_all)
        simp only [Value.slice.injEq, Option.some.injEq, Addr.mk.injEq] at e
        obtain ⟨⟨rfl, -, -⟩, -, -⟩ := e
        have hl := hp.1
        have hx := hcell i _ (List.getElem?_eq_getElem (by rw [hl]; omega)) 0 (by decide)
        have hx8 := hcell (8 + i) _ (List.getElem?_eq_getElem (by rw [hl]; omega)) 0 (by decide)
        obtain ⟨v, hv⟩ : ∃ v, wr.cell? ⟨N, i, none⟩ = some v := ⟨_, by simpa [EByt] using hx⟩
        obtain ⟨v8, hv8⟩ : ∃ v, wr.cell? ⟨N, 8 + i, none⟩ = some v := ⟨_, by simpa [EByt] using hx8⟩
        have hf := hfr i
        have hf8 := hfr (8 + i)
        have Hr := Lib.hid hr
        have Hp := Lib.hid hp
        have Hb := Lib.hid hb
        have H0 := Lib.hid h0
        clear hcell hfr hx hx8 hr hp hb hz h0
        go_wp2_with fail
        rw [nbyte_val n i hlt, nbyte_not]
        have h1 := (Hr.out.set1 rfl i (nbyte n i) (.int .u8 (nbyte n i).toNat) rfl).set1 rfl (8 + i) (255 - nbyte n i) (.int .u8 (255 - nbyte n i).toNat) rfl
        exact ⟨⟨i + 1, _, by go_num, hlt, fun q => absurd q H0.out, Hp.out.step hlt, h1, Hb.out.trans ((((Keep.refl (fun k => k = N) wr).set N i _ (Or.inl rfl)).set N (8 + i) _ (Or.inl rfl)).toBelow (by have := Hb.out.size; omega) (fun k q => by omega))⟩, by simp [intOf]; omega⟩
    · have ei : i = 8 := by omega
      subst ei
      by_cases h0 : n = 0
      · exact absurd (hz h0) (by decide)
      · have e : l = hdr n := hp.done h0
        subst e
        have Hr := Lib.hid hr
        have Hb := Lib.hid hb
        clear hr hb hp hz h0
        go_wp2_with (refine conv_row rfl _ rfl _ _ rfl Hr.out ?_)
        go_ret
        exact ⟨rfl, hN ▸ Hb.out⟩
end Go.Proofs.Ytncbojocglcieaa
