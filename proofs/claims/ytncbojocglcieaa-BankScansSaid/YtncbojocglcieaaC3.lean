/- bank: Scan. -/
import Derived.Test.YtncbojocglcieaaC2
namespace Go.Proofs.Ytncbojocglcieaa
open Go.RowKit
set_option linter.unusedSimpArgs false
set_option linter.unusedVariables false
theorem stand_fits (l : List ByteArray) (h64 : ∀ f ∈ l, f.size = 64) (h : standL l ≠ []) : nframes (standL l).length ≤ l.length ∧ (standL l).length ≤ 60000 ∧ 0 < (standL l).length := by
  have hst : stands l := by
    by_cases q : stands l
    · exact q
    · exact absurd (by unfold standL; rw [if_neg q]) h
  have e : standL l = recL l := by unfold standL; rw [if_pos hst]
  rw [e, recL_length l h64 hst.2.2.1]
  exact ⟨hst.2.2.1, hst.2.1, hst.1⟩
theorem str_full {x : ByteArray} (h : x.size ≠ 0) : x.toList.isEmpty = false := by
  rw [ByteArray.toList_eq]
  cases hx : x.data.toList with
  | nil => exact absurd (by show x.data.size = 0; rw [← Array.length_toList, hx]; rfl) h
  | cons a l => rfl
/-- What stands in a bank, its end, and the error. -/
def DevD.scan (d : DevD) (f s : Int) : List (List UInt8) × Int × Int :=
  if d.left = 0 then ([], 0, 13) else if d.on f s = false then ([], 0, 1) else
    ((scanned ((d.secs f s.toNat).drop 1)).1, ((1 + (scanned ((d.secs f s.toNat).drop 1)).2 : Nat) : Int), 0)
def ScanRel (w1 : World) (N1 : Nat) (F : List ByteArray) (ov av : Value) (wr : World) : Prop :=
  ∃ (a : Nat) (rs : List (List UInt8)), av = .int .i64 a ∧ 1 ≤ a ∧ a ≤ F.length ∧ rs.length ≤ a ∧ Row EStr wr N1 ov (rs.map bL) ∧
    (scanned (F.drop 1)).1 = rs ++ (scanned (F.drop a)).1 ∧ 1 + (scanned (F.drop 1)).2 = a + (scanned (F.drop a)).2 ∧ Below N1 w1 wr
set_option maxRecDepth 100000 in
set_option maxHeartbeats 2000000 in
theorem scan_any {w0 w : World} {R : Nat → Prop} {g : Nat} {d : DevD} (f s : Int) (h : OwnR w0 w R g d) (hs : s ≤ 9223372036854775807) (hd : d.size ≤ 4096) (h64 : ∀ i, (d.sec i).size = 64) :
    Calls Try.prog 36 #[.pointer (some ⟨g, 0, none⟩), .int .i64 f, .int .i64 s] w fun e w' => ∃ v, e = .returned (.tuple #[v, .int .i64 (d.scan f s).2.1, .int .i64 (d.scan f s).2.2]) ∧ Row EStr w' w.heap.size v ((d.scan f s).1.map bL) ∧ OwnR w0 w' R g d ∧ Below w.heap.size w w' := by
  have H := Lib.hid h
  clear h
  obtain ⟨sc, hsc⟩ : ∃ sc, d.scan f s = sc := ⟨_, rfl⟩
  rw [hsc]
  have HSC := Lib.hid hsc
  clear hsc
  by_cases e1 : d.left = 0
  · have hw : sc = ([], 0, 13) := by rw [← HSC.out]; unfold DevD.scan; rw [if_pos e1]
    have hp : d.pow = 13 := by unfold DevD.pow; rw [if_pos e1]
    subst hw
    go_enter Try.func36, Try.ntmps36
    go_wp2_with fail
    refine (power_any H.out).mono ?_
    rintro e w2 ⟨rfl, h2, hb2⟩
    rw [hp]
    have H2 := Lib.hid h2
    go_wp2_with fail
    go_ret3
    exact ⟨_, rfl, Row.nil _ _ _, H2.out, hb2⟩
  · have hp : d.pow = 0 := by unfold DevD.pow; rw [if_neg e1]
    obtain ⟨o, ho⟩ : ∃ o, d.on f s = o := ⟨_, rfl⟩
    have HON := Lib.hid ho
    have E1 := Lib.hid e1
    clear e1 ho
    cases o
    · have hw : sc = ([], 0, 1) := by rw [← HSC.out]; unfold DevD.scan; rw [if_neg E1.out, if_pos HON.out]
      subst hw
      go_enter Try.func36, Try.ntmps36
      go_wp2_with fail
      refine (power_any H.out).mono ?_
      rintro e w2 ⟨rfl, h2, hb2⟩
      rw [hp]
      have H2 := Lib.hid h2
      have HB2 := Lib.hid hb2
      clear h2 hb2
      go_wp2_with fail
      refine (on_any f s H2.out hs hd).mono ?_
      rintro e w3 ⟨rfl, rfl⟩
      rw [HON.out]
      go_wp2_with fail
      go_ret3
      exact ⟨_, rfl, Row.nil _ _ _, H2.out, HB2.out⟩
    · have hon : 1 ≤ s ∧ 0 ≤ f ∧ f + s ≤ d.size := by have := HON.out; unfold DevD.on at this; simpa using this
      obtain ⟨q1, q2, q3⟩ := hon
      obtain ⟨n, rfl⟩ : ∃ n : Nat, s = n := ⟨s.toNat, by omega⟩
      have hF64 : ∀ x ∈ d.secs f n, x.size = 64 := by
        intro x hx
        unfold DevD.secs at hx
        obtain ⟨i, _, rfl⟩ := List.mem_map.1 hx
        exact h64 _
      have hFl := secs_length d f n
      have hw : sc = ((scanned ((d.secs f n).drop 1)).1, ((1 + (scanned ((d.secs f n).drop 1)).2 : Nat) : Int), 0) := by
        rw [← HSC.out]; unfold DevD.scan; rw [if_neg E1.out, if_neg (by rw [HON.out]; decide)]; rfl
      subst hw
      have hfr : ∀ {wx : World}, OwnR w0 wx R g d → Calls Try.prog 63 #[.pointer (some ⟨g, 0, none⟩), .int .i64 f, .int .i64 n] wx fun e w' => ∃ v, e = .returned (.tuple #[v, .int .i64 0]) ∧ Row EStr w' wx.heap.size v (d.secs f n) ∧ OwnR w0 w' R g d ∧ Below wx.heap.size wx w' :=
        fun hx => frames_ok f n hx E1.out q2 q3 hd
      generalize d.secs f n = F at *
      have H64 := Lib.hid hF64
      clear h64 hF64 HSC
      have hFne : F ≠ [] := by intro q; rw [q] at hFl; simp at hFl; omega
      go_enter Try.func36, Try.ntmps36
      go_wp2_with fail
      refine (power_any H.out).mono ?_
      rintro e w2 ⟨rfl, h2, hb2⟩
      rw [hp]
      have H2 := Lib.hid h2
      have HB2 := Lib.hid hb2
      clear h2 hb2
      go_wp2_with fail
      refine (on_any f n H2.out hs hd).mono ?_
      rintro e w3 ⟨rfl, rfl⟩
      rw [HON.out]
      go_wp2_with fail
      refine (hfr H2.out).mono ?_
      rintro e w4 ⟨fv, rfl, hr4, h4, hb4⟩
      obtain ⟨fg, fcap, rfl, hc1, hc2, hc3, hst4⟩ := hr4.strs hFne
      have hfgl : fg < w4.heap.size := by have := hr4.lt (k := fg) rfl; exact this
      have H4 := Lib.hid h4
      have HB4 := Lib.hid (HB2.out.trans (hb4.mono HB2.out.size))
      have HS4 := Lib.hid hst4
      clear h4 hb4 hst4 hr4
      obtain ⟨N1, hN1⟩ : ∃ N, w4.heap.size = N := ⟨_, rfl⟩
      have hNw : w.heap.size ≤ N1 := by rw [← hN1]; exact HB4.out.size
      go_wp2_with fail
      go_loopw [12, 13] (fun ov av wr => ScanRel w4 N1 F ov av wr) (fun _ av _ => F.length - (intOf av).toNat)
      case atStart => exact ⟨1, [], rfl, Nat.le_refl _, by omega, by simp, Row.nil _ _ _, rfl, rfl, Below.refl _ _⟩
      case round =>
        obtain ⟨a, rs, rfl, ha1, ha2, hrl, hr, hs1, hs2, hb⟩ := hrel
        have HR := Lib.hid hr
        have HB := Lib.hid hb
        have HS1 := Lib.hid hs1
        have HS2 := Lib.hid hs2
        have hNr : N1 ≤ wr.heap.size := by have := hb.size; omega
        obtain ⟨oa, oc, rfl⟩ := hr.shape
        rw [List.length_map] at HR ⊢
        clear hr hb hs1 hs2
        by_cases hlt : a < F.length
        · have i1 : (a : Int) < n := by omega
          have i2 : (a : Int) ≤ n := by omega
          have i3 : a ≤ n := by omega
          have i4 : n ≤ fcap := by omega
          have hSr : Strs wr fg (0 + a) (F.drop a) := ((HS4.out.below (by rw [hN1]; exact HB.out)).drop a)
          rw [Nat.zero_add] at hSr
          have hdl : (F.drop a).length = n - a := by rw [List.length_drop, hFl]
          have hdne : F.drop a ≠ [] := by intro q; have := congrArg List.length q; rw [hdl] at this; simp at this; omega
          have hd64 : ∀ x ∈ F.drop a, x.size = 64 := fun x hx => H64.out x (List.mem_of_mem_drop hx)
          have hstd := stand_any wr fg a (fcap - a) (F.drop a) hSr (by omega) (by unfold maxLen at *; omega) hdne hd64 (by omega)
          rw [hdl] at hstd
          have hfit := stand_fits (F.drop a) hd64
          have hgo := scanned_go (F.drop a) hdne
          have hstop := scanned_stop (F.drop a)
          rw [hdl] at hfit
          generalize hS : standL (F.drop a) = S at *
          have HSTD := Lib.hid hstd
          have HFIT := Lib.hid hfit
          have HGO := Lib.hid hgo
          have HSTOP := Lib.hid hstop
          clear hSr hdl hdne hd64 hstd hfit hgo hstop hS
          go_wp2_with fail
          refine HSTD.out.mono ?_
          rintro e w5 ⟨rfl, hb5⟩
          have HR5 := Lib.hid (HR.out.below hb5)
          have HB5 := Lib.hid (HB.out.trans (hb5.mono hNr))
          have hNr5 : N1 ≤ w5.heap.size := Nat.le_trans hNr hb5.size
          clear hb5
          by_cases q : S = []
          · have e3 := HSTOP.out q
            subst q
            rw [show bL ([] : List UInt8) = ⟨#[]⟩ from rfl]
            go_wp2_with fail
            go_ret3
            have e1 := HS1.out
            have e2 := HS2.out
            rw [e3] at e1 e2
            rw [e1, List.append_nil]
            refine ⟨_, by rw [e2]; rfl, HR5.out.mono hNw, H4.out.below (by rw [hN1]; exact HB5.out), HB4.out.trans (HB5.out.mono hNw)⟩
          · obtain ⟨f1, f2, f3⟩ := HFIT.out q
            have e3 := HGO.out q
            rw [List.drop_drop] at e3
            have hXs := bL_size S
            have hne := str_full (x := bL S) (by rw [hXs]; omega)
            have hfk := fun w => frames_any (S.length : Int) w (by omega)
            simp only [frames_nat] at hfk
            have hmap : (rs ++ [S]).map bL = rs.map bL ++ [bL S] := by simp
            have HE3 := Lib.hid e3
            have HM := Lib.hid hmap
            have hnp := nframes_pos f3
            generalize nframes S.length = k at *
            generalize bL S = X at *
            clear q e3 hmap
            go_wp2_with (first
              | (refine app_row EStr.laid rfl _ _ 49 49 Try.underlying49 Try.underlying49 rfl _ (rs.map bL) rfl (HR5.out.alloc _) _ [X] rfl ?c1 ?c2 ?c3 (Nat.le_trans hNr5 (by simp)) ?_
                 case c1 => exact Arg.blk (m_alloc _ _ _ rfl) [X] rfl 1
                 case c2 => rw [List.length_map]; show (rs.length + 1) * 16 ≤ _; omega
                 case c3 => rw [List.length_map]; show rs.length + 1 ≤ maxLen; unfold maxLen; omega
                 intro v6 w6 hr6 hv6 k6))
            refine (hfk _).mono ?_
            rintro e w7 ⟨rfl, rfl⟩
            rw [← HM.out] at hr6
            have hb7 : Below N1 w4 w7 := (HB5.out.alloc (by omega) _).trans (k6.toBelow (by simp; omega) (fun k q => HR5.out.ge q.symm))
            have HR7 := Lib.hid hr6
            have HB7 := Lib.hid hb7
            clear hr6 hb7 k6 hv6
            have z1 : (a : Int) + k ≤ n := by omega
            go_wp2_with fail
            refine ⟨⟨a + k, rs ++ [S], by go_num, by omega, by omega, by simp; omega, HR7.out, ?_, ?_, HB7.out⟩, by simp [intOf]; omega⟩
            · rw [HS1.out, HE3.out]; simp
            · rw [HS2.out, HE3.out]; simp only []; omega
        · have ea : a = F.length := by omega
          subst ea
          go_wp2_with fail
          go_ret3
          have e1 := HS1.out
          have e2 := HS2.out
          rw [List.drop_length] at e1 e2
          rw [e1, show (scanned []).1 = [] from rfl, List.append_nil]
          refine ⟨_, by rw [e2]; rfl, HR.out.mono hNw, H4.out.below (by rw [hN1]; exact HB.out), HB4.out.trans (HB.out.mono hNw)⟩
end Go.Proofs.Ytncbojocglcieaa
