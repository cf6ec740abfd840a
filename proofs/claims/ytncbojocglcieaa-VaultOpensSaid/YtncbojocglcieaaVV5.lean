/- Lemmas for the laws of one seat, texts C6 C7 C8 P8 P9 P11 P10; no condition beyond those that each states. -/
import Derived.Test.YtncbojocglcieaaVV4
/- bank's reference: one. -/
namespace Go.Proofs.Ytncbojocglcieaa
open Go.RowKit
set_option linter.unusedSimpArgs false
set_option linter.unusedVariables false
theorem wrap64_nat (n : Nat) (h : n < 65536) : wrap64 (n : Int) = n := by unfold wrap64; omega
set_option maxRecDepth 100000 in
set_option maxHeartbeats 4000000 in
theorem one_any (w : World) (b off cap : Nat) (l : List ByteArray) (h : Strs w b off l) (hcap : l.length ≤ cap) (hcm : cap ≤ maxLen) (h0 : l ≠ []) (h64 : ∀ f ∈ l, f.size = 64) (hl : l.length ≤ 4096) :
    Calls Try.prog 65 #[.slice (some ⟨b, off, none⟩) l.length cap] w fun e w' => e = .returned (.string (bL (standL l))) ∧ Below w.heap.size w w' := by
  obtain ⟨f0, fs, rfl⟩ := List.exists_cons_of_ne_nil h0
  have HC := Lib.hid h
  have c0 : w.cell? ⟨b, off, none⟩ = some (.string f0) := h 0 f0 rfl
  unfold maxLen at hcm
  have hs0 : f0.size = 64 := h64 f0 List.mem_cons_self
  have hi0 : 0 < f0.size := by omega
  have hi1 : 1 < f0.size := by omega
  have b0 := byte_get f0 0 hi0
  have b1 := byte_get f0 1 hi1
  have hlen : 0 < (f0 :: fs).length := by simp
  obtain ⟨x, hx⟩ : ∃ x, f0[0] = x := ⟨_, rfl⟩
  obtain ⟨y, hy⟩ : ∃ y, f0[1] = y := ⟨_, rfl⟩
  have hn : hdN (f0 :: fs) = x.toNat * 256 + y.toNat := by show hdB f0 = _; unfold hdB; rw [← b0, ← b1, hx, hy]
  have hnn : hdN (f0 :: fs) < 65536 := by have := x.toNat_lt; have := y.toNat_lt; omega
  obtain ⟨S, hS⟩ : ∃ S, standL (f0 :: fs) = S := ⟨_, rfl⟩
  rw [hS]
  have HS := Lib.hid hS
  obtain ⟨n, hnE⟩ : ∃ n, hdN (f0 :: fs) = n := ⟨_, rfl⟩
  rw [hnE] at hnn
  have HN := Lib.hid hnE
  obtain ⟨k, hk⟩ : ∃ k, nframes n = k := ⟨_, rfl⟩
  have HK := Lib.hid hk
  obtain ⟨L, hL⟩ : ∃ L, f0 :: fs = L := ⟨_, rfl⟩
  have hxy : (x.toNat : Int) * 256 + y.toNat = n := by rw [← hnE, hn]; omega
  have hwx : wrap64 (x.toNat : Int) = x.toNat := by have := x.toNat_lt; unfold wrap64; omega
  have hwy : wrap64 (y.toNat : Int) = y.toNat := by have := y.toNat_lt; unfold wrap64; omega
  have hwz : wrap64 ((x.toNat : Int) * 256) = (x.toNat : Int) * 256 := by have := x.toNat_lt; unfold wrap64; omega
  have hwn : wrap64 (n : Int) = n := wrap64_nat n hnn
  rw [hL] at hlen hl HC h64 HS HN hcap ⊢
  have HL := Lib.hid hL
  have H64 := Lib.hid h64
  clear h h0 hn hnE hS hk b0 b1 hL h64
  have hk2 : k ≤ 1058 := by have := HK.out; unfold nframes at this; omega
  by_cases hg : n ≤ 60000
  · have d2 : decide ((60000 : Int) < n) = false := decide_eq_false (by omega)
    go_enter Try.func65, Try.ntmps65
    go_wp2_with fail
    go_quiet (fail)
    have hb1 : Below w.heap.size w (w.drewN nq) := qt_below (Qt.drewN w nq)
    generalize w.drewN nq = w1 at *
    have HB1 := Lib.hid hb1
    clear hb1 hwx hwy hwz hx hy
    go_wp2_with fail
    go_loopw [4, 5] (fun av iv wr => ∃ i : Nat, iv = .int .i64 i ∧ i ≤ k ∧ i ≤ L.length ∧ av = .string (bL (frCat (L.take i))) ∧ wr = w1) (fun _ iv _ => L.length - (intOf iv).toNat)
    case atStart => exact ⟨0, rfl, Nat.zero_le _, Nat.zero_le _, rfl, rfl⟩
    case round =>
      obtain ⟨i, rfl, hi, hil, rfl, rfl⟩ := hrel
      have hfl := frCat_length (L.take i) (fun f hf => H64.out f (List.mem_of_mem_take hf))
      have hbs := bL_size (frCat (L.take i))
      rw [hfl, List.length_take, Nat.min_eq_left hil] at hbs
      by_cases hlt : i < k ∧ i < L.length
      · obtain ⟨hlt, hlt2⟩ := hlt
        have i1 : (i : Int) < L.length := by omega
        obtain ⟨x, hx⟩ : ∃ x, L[i]? = some x := ⟨_, List.getElem?_eq_getElem (by omega)⟩
        have hx64 : x.size = 64 := H64.out x (List.mem_of_getElem? hx)
        have ci : wr.cell? ⟨b, off + i, none⟩ = some (.string x) := (HC.out.below HB1.out) i x hx
        have hbn : (bL (frCat (L.take i))).size < n := by rw [hbs]; have := HK.out; unfold nframes at this; omega
        have hbn2 : ((bL (frCat (L.take i))).size : Int) < n := by omega
        have hbs2 : (bL (frCat (L.take i))).size ≤ 65596 := by omega
        have hsn : bL (frCat (L.take i)) ++ x.extract 2 64 = bL (frCat (L.take (i + 1))) := frCat_snoc L i x hx hx64
        have HSN := Lib.hid hsn
        generalize bL (frCat (L.take i)) = acc at *
        clear hsn hfl hbs hx
        go_wp2_with fail
        exact ⟨⟨i + 1, by go_num, hlt, hlt2, by rw [HSN.out], trivial⟩, by simp [intOf]; omega⟩
      · by_cases hkl : k ≤ L.length
        · have ei : i = k := by omega
          subst ei
          have hkn : n ≤ 62 * i := by have := HK.out; unfold nframes at this; omega
          have hn1 : n ≤ (bL (frCat (L.take i))).size := by omega
          have hn2 : (n : Int) ≤ (bL (frCat (L.take i))).size := by omega
          have dn1 : decide (((bL (frCat (L.take i))).size : Int) < n) = false := decide_eq_false (by omega)
          have dn2 : decide ((bL (frCat (L.take i))).size < n) = false := decide_eq_false (by omega)
          have hrec : (bL (frCat (L.take i))).extract 0 n = bL (recL L) := by
            unfold recL; rw [HN.out, HK.out]
            apply ByteArray.ext; apply Array.ext'
            rw [Lib.extract_data]; simp [bL]
          have hrl : (recL L).length = n := by
            have := recL_length L H64.out (by rw [HN.out, HK.out]; exact hkl)
            rw [this, HN.out]
          have hrs : (bL (recL L)).size = n := by rw [bL_size, hrl]
          have hcl : (cutL (recL L)).length = i := by rw [cutL_length, hrl, HK.out]
          have hal : (bL (recL L)).data.toList = recL L := by simp [bL]
          have hst : n ≠ 0 → (stands L ↔ cutL (recL L) = L.take i) := by
            intro hn0
            unfold stands; rw [HN.out, HK.out]
            exact ⟨fun h => h.2.2.2, fun h => ⟨by omega, hg, hkl, h⟩⟩
          have hS0 : n = 0 → S = [] := by
            intro hn0
            rw [← HS.out]; unfold standL
            rw [if_neg]
            intro hs
            have := hs.1
            rw [HN.out] at this
            omega
          have hcut := fun w => cut_ref (bL (recL L)) w (by rw [hrs]; omega)
          rw [hal] at hcut
          have hrecN : n = 0 → recL L = [] := fun q => List.eq_nil_of_length_eq_zero (by rw [hrl, q])
          have HREC := Lib.hid hrec
          have HRL := Lib.hid hrl
          have HST := Lib.hid hst
          have HS0 := Lib.hid hS0
          have HCL := Lib.hid hcl
          have HRN := Lib.hid hrecN
          have hbs2 : (bL (frCat (L.take i))).size ≤ 65596 := by omega
          generalize bL (frCat (L.take i)) = acc at *
          obtain ⟨a, haE⟩ : ∃ a, bL (recL L) = a := ⟨_, rfl⟩
          rw [haE] at hrs hcut
          have HAE := Lib.hid haE
          clear hrec hrl hst hS0 hcl hfl hbs haE hal hlt hrecN
          have hrest : ∀ (P : Prop), P → P := fun _ h => h
          rcases Nat.lt_or_ge i L.length with hil2 | hil2
          all_goals
            first
              | (have i1 : (i : Int) < L.length := by omega)
              | (have i1 : ¬ ((i : Int) < L.length) := by omega
                 have i2 : decide ((i : Int) < L.length) = false := decide_eq_false i1
                 have i3 : decide (i < L.length) = false := decide_eq_false (by omega))
            go_wp2_with fail
            rw [HREC.out, HAE.out]
            refine (hcut _).mono ?_
            rintro e w5 ⟨wv, rfl, hr5, hb5⟩
            obtain ⟨wa, wc, rfl⟩ := hr5.shape
            rw [HCL.out] at hr5 ⊢
            have HR5 := Lib.hid hr5
            have HB5 := Lib.hid (HB1.out.trans (hb5.mono HB1.out.size))
            clear hr5 hb5
            go_wp2_with fail
            go_loopw [7] (fun iv wx => ∃ j : Nat, iv = .int .i64 j ∧ j ≤ i ∧ (cutL (recL L)).take j = L.take j ∧ Below w5.heap.size w5 wx) (fun iv _ => i - (intOf iv).toNat)
            case atStart => exact ⟨0, rfl, Nat.zero_le _, rfl, Below.refl _ _⟩
            case round =>
              rename_i wr0
              obtain ⟨j, rfl, hj, htk, hbj⟩ := hrel
              have HT := Lib.hid htk
              have HBJ := Lib.hid (HB5.out.trans (hbj.mono HB5.out.size))
              have HBW := Lib.hid hbj
              have HRJ := Lib.hid (HR5.out.below hbj)
              clear htk hbj
              by_cases hjl : j < i
              · have j1 : (j : Int) < i := by omega
                have j2 : (j : Int) < L.length := by omega
                obtain ⟨x, hx⟩ : ∃ x, L[j]? = some x := ⟨_, List.getElem?_eq_getElem (by omega)⟩
                have cj : wr.cell? ⟨b, off + j, none⟩ = some (.string x) := (HC.out.below HBJ.out) j x hx
                obtain ⟨X, hX⟩ : ∃ X, (cutL (recL L))[j]? = some X := ⟨_, List.getElem?_eq_getElem (by rw [HCL.out]; exact hjl)⟩
                obtain ⟨wg, wcap, e', wl, _, _, hwst⟩ := HRJ.out.strs (by intro q; have := HCL.out; rw [q] at this; simp at this; omega)
                simp only [Value.slice.injEq] at e'
                obtain ⟨rfl, -, rfl⟩ := e'
                have ck : wr.cell? ⟨wg, j, none⟩ = some (.string X) := by have := hwst j X hX; rwa [Nat.zero_add] at this
                have HX := Lib.hid hx
                have HXX := Lib.hid hX
                clear hx hX hwst
                by_cases q : X = x
                · subst q
                  have hre := str_refl X
                  go_wp2_with fail
                  go_quiet (fail)
                  have hbq : Below wr.heap.size wr (wr.drewN nq) := qt_below (Qt.drewN wr nq)
                  have HB6 := Lib.hid (HBW.out.trans (hbq.mono HBW.out.size))
                  have HB7 := Lib.hid (HBJ.out.trans (hbq.mono HBJ.out.size))
                  clear hbq cj ck
                  generalize wr.drewN nq = w6 at *
                  go_wp2_with fail
                  have htn : (cutL (recL L)).take (j + 1) = L.take (j + 1) := by
                    obtain ⟨p1, p2⟩ := List.getElem?_eq_some_iff.1 HXX.out
                    obtain ⟨p3, p4⟩ := List.getElem?_eq_some_iff.1 HX.out
                    rw [List.take_succ_eq_append_getElem p1, List.take_succ_eq_append_getElem p3, p2, p4, HT.out]
                  exact ⟨⟨j + 1, by go_num, hjl, htn, HB6.out⟩, by simp [intOf]; omega⟩
                · have hne := str_ne q
                  have hS : S = [] := by
                    by_cases hn0 : n = 0
                    · exact HS0.out hn0
                    · rw [← HS.out]; unfold standL
                      rw [if_neg]
                      intro hs
                      have h1 := (HST.out hn0).1 hs
                      have h2 := HXX.out
                      rw [h1, List.getElem?_take_of_lt hjl, HX.out] at h2
                      exact q (Option.some.inj h2).symm
                  subst hS
                  go_wp2_with fail
                  go_quiet (fail)
                  have hbq : Below wr.heap.size wr (wr.drewN nq) := qt_below (Qt.drewN wr nq)
                  have HB6 := Lib.hid (HBW.out.trans (hbq.mono HBW.out.size))
                  have HB7 := Lib.hid (HBJ.out.trans (hbq.mono HBJ.out.size))
                  clear hbq cj ck
                  generalize wr.drewN nq = w6 at *
                  go_wp2_with fail
                  go_ret
                  exact ⟨rfl, HB7.out⟩
              · have ej : j = i := by omega
                subst ej
                have hSa : bL S = a := by
                  by_cases hn0 : n = 0
                  · rw [← HAE.out, HS0.out hn0, HRN.out hn0]
                  · rw [← HAE.out, ← HS.out]; unfold standL
                    rw [if_pos]
                    rw [HST.out hn0, ← HT.out, List.take_of_length_le (by rw [HCL.out]; exact Nat.le_refl _)]
                have HSA := Lib.hid hSa
                clear hSa
                go_wp2_with fail
                go_ret
                exact ⟨by rw [HSA.out, ← HAE.out, ← HREC.out]; rfl, HBJ.out⟩
        · have ei : i = L.length := by omega
          subst ei
          have hS : S = [] := by
            rw [← HS.out]; unfold standL
            rw [if_neg]
            intro hs
            have := hs.2.2.1
            rw [HN.out, HK.out] at this
            omega
          subst hS
          have hkn : 62 * L.length < n := by have := HK.out; unfold nframes at this; omega
          have i1 : ¬ ((L.length : Int) < L.length) := by omega
          have dn0 : decide ((bL (frCat (L.take L.length))).size < n) = true := decide_eq_true (by omega)
          have dn1 : decide (((bL (frCat (L.take L.length))).size : Int) < n) = true := decide_eq_true (by omega)
          generalize bL (frCat (L.take L.length)) = acc at *
          clear hlt
          go_wp2_with fail
          go_ret
          exact ⟨rfl, HB1.out⟩
  · have hS : S = [] := by
      rw [← HS.out]; unfold standL
      rw [if_neg]
      intro hs
      have := hs.2.1
      rw [HN.out] at this
      omega
    subst hS
    have e1 : decide ((60000 : Int) < n) = true := decide_eq_true (by omega)
    have e2 : decide (60000 < n) = true := decide_eq_true (by omega)
    go_enter Try.func65, Try.ntmps65
    go_wp2_with fail
    go_quiet (fail)
    have hb1 : Below w.heap.size w (w.drewN nq) := qt_below (Qt.drewN w nq)
    generalize w.drewN nq = w1 at *
    have HB1 := Lib.hid hb1
    clear hb1 hwx hwy hwz hx hy
    go_wp2_with fail
    go_ret
    exact ⟨rfl, HB1.out⟩
end Go.Proofs.Ytncbojocglcieaa

/- bank's reference: Scan, Same; the law's all. -/
namespace Go.Proofs.Ytncbojocglcieaa
open Go.RowKit
set_option linter.unusedSimpArgs false
set_option linter.unusedVariables false
set_option maxRecDepth 100000 in
set_option maxHeartbeats 2000000 in
theorem scan_ref (w : World) (fg off fcap : Nat) (F : List ByteArray) (h : Strs w fg off F) (hcap : F.length ≤ fcap) (hcm : fcap ≤ maxLen) (hFne : F ≠ []) (hF64 : ∀ f ∈ F, f.size = 64) (hFl : F.length ≤ 4096) :
    Calls Try.prog 38 #[.slice (some ⟨fg, off, none⟩) F.length fcap] w fun e w' => ∃ v, e = .returned (.tuple #[v, .int .i64 ((1 + (scanned (F.drop 1)).2 : Nat) : Int)]) ∧ Row EStr w' w.heap.size v ((scanned (F.drop 1)).1.map bL) ∧ Below w.heap.size w w' := by
  have HS4 := Lib.hid h
  have H64 := Lib.hid hF64
  clear h hF64
  obtain ⟨N1, hN1⟩ : ∃ N, w.heap.size = N := ⟨_, rfl⟩
  rw [hN1]
  have hln : 0 < F.length := List.length_pos_iff.2 hFne
  unfold maxLen at hcm
  go_enter Try.func38, Try.ntmps38
  go_wp2_with fail
  go_loopw [4, 5] (fun ov av wr => ScanRel w N1 F ov av wr) (fun _ av _ => F.length - (intOf av).toNat)
  case atStart => exact ⟨1, [], rfl, Nat.le_refl _, by omega, by simp, Row.nil _ _ _, rfl, rfl, Below.refl _ _⟩
  case round =>
    obtain ⟨a, rs, rfl, ha1, ha2, hrl, hr, hs1, hs2, hb⟩ := hrel
    have HR := Lib.hid hr
    have HB := Lib.hid hb
    have HS1 := Lib.hid hs1
    have HS2 := Lib.hid hs2
    have hNr : N1 ≤ wr.heap.size := by have := hb.size; omega
    obtain ⟨oa, oc, rfl⟩ := hr.shape
    rw [List.length_map] at HR ⊢
    clear hr hb hs1 hs2
    by_cases hlt : a < F.length
    · have i1 : (a : Int) < F.length := by omega
      have i2 : (a : Int) ≤ F.length := by omega
      have i3 : a ≤ F.length := by omega
      have hSr : Strs wr fg (off + a) (F.drop a) := ((HS4.out.below (by rw [hN1]; exact HB.out)).drop a)
      have hdl : (F.drop a).length = F.length - a := by rw [List.length_drop]
      have hdne : F.drop a ≠ [] := by intro q; have := congrArg List.length q; rw [hdl] at this; simp at this; omega
      have hd64 : ∀ x ∈ F.drop a, x.size = 64 := fun x hx => H64.out x (List.mem_of_mem_drop hx)
      have hstd := one_any wr fg (off + a) (fcap - a) (F.drop a) hSr (by omega) (by unfold maxLen at *; omega) hdne hd64 (by omega)
      rw [hdl] at hstd
      have hfit := stand_fits (F.drop a) hd64
      have hgo := scanned_go (F.drop a) hdne
      have hstop := scanned_stop (F.drop a)
      rw [hdl] at hfit
      generalize hS : standL (F.drop a) = S at *
      have HSTD := Lib.hid hstd
      have HFIT := Lib.hid hfit
      have HGO := Lib.hid hgo
      have HSTOP := Lib.hid hstop
      clear hSr hdl hdne hd64 hstd hfit hgo hstop hS
      have hcp : ¬ (fcap = a) := by omega
      go_wp2_with fail
      refine HSTD.out.mono ?_
      rintro e w5 ⟨rfl, hb5⟩
      have HR5 := Lib.hid (HR.out.below hb5)
      have HB5 := Lib.hid (HB.out.trans (hb5.mono hNr))
      have hNr5 : N1 ≤ w5.heap.size := Nat.le_trans hNr hb5.size
      clear hb5
      by_cases q : S = []
      · have e3 := HSTOP.out q
        subst q
        rw [show bL ([] : List UInt8) = ⟨#[]⟩ from rfl]
        go_wp2_with fail
        go_ret2
        have e1 := HS1.out
        have e2 := HS2.out
        rw [e3] at e1 e2
        rw [e1, List.append_nil]
        refine ⟨_, by rw [e2]; rfl, HR5.out, HB5.out⟩
      · obtain ⟨f1, f2, f3⟩ := HFIT.out q
        have e3 := HGO.out q
        rw [List.drop_drop] at e3
        have hXs := bL_size S
        have hne := str_full (x := bL S) (by rw [hXs]; omega)
        have hcut := fun w => cut_ref (bL S) w (by rw [hXs]; omega)
        rw [show (bL S).data.toList = S by simp [bL]] at hcut
        have hcl : (cutL S).length = nframes S.length := cutL_length S
        have hmap : (rs ++ [S]).map bL = rs.map bL ++ [bL S] := by simp
        have HE3 := Lib.hid e3
        have HM := Lib.hid hmap
        have HCL := Lib.hid hcl
        have hnp := nframes_pos f3
        generalize nframes S.length = k at *
        generalize bL S = X at *
        clear q e3 hmap hcl
        go_wp2_with (first
          | (refine app_row EStr.laid rfl _ _ 49 49 Try.underlying49 Try.underlying49 rfl _ (rs.map bL) rfl (HR5.out.alloc _) _ [X] rfl ?c1 ?c2 ?c3 (Nat.le_trans hNr5 (by simp)) ?_
             case c1 => exact Arg.blk (m_alloc _ _ _ rfl) [X] rfl 1
             case c2 => rw [List.length_map]; show (rs.length + 1) * 16 ≤ _; omega
             case c3 => rw [List.length_map]; show rs.length + 1 ≤ maxLen; unfold maxLen; omega
             intro v6 w6 hr6 hv6 k6))
        refine (hcut _).mono ?_
        rintro e w7 ⟨cv, rfl, hr7, hb7⟩
        obtain ⟨ca, cc, rfl⟩ := hr7.shape
        rw [HCL.out]
        rw [← HM.out] at hr6
        have hb6 : Below N1 w w6 := (HB5.out.alloc (by omega) _).trans (k6.toBelow (by simp; omega) (fun k q => HR5.out.ge q.symm))
        have HR7 := Lib.hid (hr6.below hb7)
        have HB7 := Lib.hid (hb6.trans (hb7.mono (by have := hb6.size; omega)))
        clear hr6 hb6 hb7 hr7 k6 hv6
        have z1 : (a : Int) + k ≤ F.length := by omega
        go_wp2_with fail
        refine ⟨⟨a + k, rs ++ [S], by go_num, by omega, by omega, by simp; omega, HR7.out, ?_, ?_, HB7.out⟩, by simp [intOf]; omega⟩
        · rw [HS1.out, HE3.out]; simp
        · rw [HS2.out, HE3.out]; simp only []; omega
    · have ea : a = F.length := by omega
      subst ea
      go_wp2_with fail
      go_ret2
      have e1 := HS1.out
      have e2 := HS2.out
      rw [List.drop_length] at e1 e2
      rw [e1, show (scanned []).1 = [] from rfl, List.append_nil]
      refine ⟨_, by rw [e2]; rfl, HR.out, HB.out⟩
end Go.Proofs.Ytncbojocglcieaa

/- bank's reference: Same; the law's all. -/
namespace Go.Proofs.Ytncbojocglcieaa
open Go.RowKit
set_option linter.unusedSimpArgs false
set_option linter.unusedVariables false
theorem take_eq_of {α : Type} {l m : List α} (h : l.length = m.length) (q : l.take l.length = m.take l.length) : l = m := by
  rw [List.take_length] at q; rw [q, h, List.take_length]
set_option maxRecDepth 100000 in
set_option maxHeartbeats 2000000 in
theorem same_any (w : World) (va vb : Value) (la lb : List ByteArray) (ha : Arg EStr w va la) (hb : Arg EStr w vb lb) (ml : la.length ≤ maxLen) (ml2 : lb.length ≤ maxLen) :
    Calls Try.prog 37 #[va, vb] w fun e w' => e = .returned (.bool (decide (la = lb))) ∧ Below w.heap.size w w' := by
  obtain ⟨aa, ca, rfl⟩ := ha.shape
  obtain ⟨ab, cb, rfl⟩ := hb.shape
  have HA := Lib.hid ha
  have HB := Lib.hid hb
  unfold maxLen at ml ml2
  obtain ⟨P, hP⟩ : ∃ P, decide (la = lb) = P := ⟨_, rfl⟩
  rw [hP]
  have HP := Lib.hid hP
  clear ha hb hP
  by_cases hl : la.length = lb.length
  · have l1 : ((la.length : Int) != lb.length) = false := by rw [hl]; simp
    have l2 : (la.length != lb.length) = false := by rw [hl]; simp
    have HL := Lib.hid hl
    clear hl
    go_enter Try.func37, Try.ntmps37
    go_wp2_with fail
    go_loopw [5] (fun iv wr => ∃ i : Nat, iv = .int .i64 i ∧ i ≤ la.length ∧ la.take i = lb.take i ∧ Below w.heap.size w wr) (fun iv _ => la.length - (intOf iv).toNat)
    case atStart => exact ⟨0, rfl, Nat.zero_le _, rfl, Below.refl _ _⟩
    case round =>
      obtain ⟨i, rfl, hi, ht, hbw⟩ := hrel
      have HT := Lib.hid ht
      have HBW := Lib.hid hbw
      clear ht hbw
      by_cases hlt : i < la.length
      · obtain ⟨x, hx⟩ : ∃ x, la[i]? = some x := ⟨_, List.getElem?_eq_getElem hlt⟩
        obtain ⟨y, hy⟩ : ∃ y, lb[i]? = some y := ⟨_, List.getElem?_eq_getElem (by have := HL.out; omega)⟩
        obtain ⟨ga, oa, ka, e1, hca⟩ := (HA.out.below HBW.out).cells (by intro q; rw [q] at hlt; simp at hlt)
        obtain ⟨gb, ob, kb, e2, hcb⟩ := (HB.out.below HBW.out).cells (by intro q; have h := HL.out; rw [q] at h; rw [h] at hlt; simp at hlt)
        simp only [Value.slice.injEq] at e1 e2
        obtain ⟨rfl, -, rfl⟩ := e1
        obtain ⟨rfl, -, rfl⟩ := e2
        have c1 : wr.cell? ⟨ga, oa + i, none⟩ = some (.string x) := by have := hca i x hx 0 (by decide); simpa [EStr] using this
        have c2 : wr.cell? ⟨gb, ob + i, none⟩ = some (.string y) := by have := hcb i y hy 0 (by decide); simpa [EStr] using this
        have i1 : (i : Int) < la.length := by omega
        have i2 : (i : Int) < lb.length := by have := HL.out; omega
        have i3 : i < lb.length := by have := HL.out; omega
        have HX := Lib.hid hx
        have HY := Lib.hid hy
        clear hca hcb hx hy
        by_cases q : x = y
        · subst q
          have hre := str_refl x
          go_wp2_with fail
          go_quiet (fail)
          have hbq : Below wr.heap.size wr (wr.drewN nq) := qt_below (Qt.drewN wr nq)
          have HB6 := Lib.hid (HBW.out.trans (hbq.mono HBW.out.size))
          clear hbq c1 c2
          generalize wr.drewN nq = w6 at *
          go_wp2_with fail
          have htn : la.take (i + 1) = lb.take (i + 1) := by
            obtain ⟨p1, p2⟩ := List.getElem?_eq_some_iff.1 HX.out
            obtain ⟨p3, p4⟩ := List.getElem?_eq_some_iff.1 HY.out
            rw [List.take_succ_eq_append_getElem p1, List.take_succ_eq_append_getElem p3, p2, p4, HT.out]
          exact ⟨⟨i + 1, by go_num, hlt, htn, HB6.out⟩, by simp [intOf]; omega⟩
        · have hne := str_ne q
          have hPf : P = false := by
            rw [← HP.out, decide_eq_false_iff_not]
            intro e
            have h1 := HX.out
            rw [e, HY.out] at h1
            exact q (Option.some.inj h1).symm
          subst hPf
          go_wp2_with fail
          go_quiet (fail)
          have hbq : Below wr.heap.size wr (wr.drewN nq) := qt_below (Qt.drewN wr nq)
          have HB6 := Lib.hid (HBW.out.trans (hbq.mono HBW.out.size))
          clear hbq c1 c2
          generalize wr.drewN nq = w6 at *
          go_wp2_with fail
          go_ret
          exact ⟨rfl, HB6.out⟩
      · have ei : i = la.length := by omega
        have hPt : P = true := by
          rw [← HP.out, decide_eq_true_eq]
          have h1 := HT.out
          rw [ei] at h1
          exact take_eq_of HL.out h1
        subst hPt
        have i1 : ¬ ((i : Int) < la.length) := by omega
        go_wp2_with fail
        go_ret
        exact ⟨rfl, HBW.out⟩
  · have l1 : ((la.length : Int) != lb.length) = true := by simp; omega
    have l2 : (la.length != lb.length) = true := by simp; omega
    have hPf : P = false := by
      rw [← HP.out, decide_eq_false_iff_not]
      intro e
      exact hl (by rw [e])
    subst hPf
    go_enter Try.func37, Try.ntmps37
    go_wp2_with fail
    go_ret
    exact ⟨rfl, Below.refl _ _⟩
end Go.Proofs.Ytncbojocglcieaa

/- bank: records that are written behind one another, in plain Lean. -/
namespace Go.Proofs.Ytncbojocglcieaa
open Go.RowKit
set_option linter.unusedSimpArgs false
set_option linter.unusedVariables false
def enumPos : Int → List ByteArray → List (Int × ByteArray)
  | _, [] => []
  | p, f :: fs => (p, f) :: enumPos (p + 1) fs
theorem enumPos_length (fs : List ByteArray) : ∀ p, (enumPos p fs).length = fs.length := by
  induction fs with
  | nil => intro p; rfl
  | cons f fs ih => intro p; simp [enumPos, ih]
theorem put_sec (d : DevD) (i : Int) (x : ByteArray) (j : Int) : (d.put i x).sec j = if j = i then x else d.sec j := by
  unfold DevD.sec DevD.put
  simp only []
  rw [mget_put]
  by_cases e : j = i
  · rw [if_pos e, if_pos e]; rfl
  · rw [if_neg e, if_neg e]
theorem puts_ok (fs : List ByteArray) : ∀ (d : DevD) (pos : Int), d.left = -1 → 0 ≤ pos → pos + fs.length ≤ d.size → (∀ f ∈ fs, f.size = 64) →
    (d.puts pos fs).2 = 0 ∧ (d.puts pos fs).1.left = -1 ∧ (d.puts pos fs).1.size = d.size ∧ (d.puts pos fs).1.safe = d.safe ∧ (d.puts pos fs).1.queue = d.queue ++ enumPos pos fs ∧
      ∀ i, (d.puts pos fs).1.sec i = if pos ≤ i ∧ i < pos + fs.length then fs.getD (i - pos).toNat zsec else d.sec i := by
  induction fs with
  | nil => intro d pos h1 _ _ _; exact ⟨rfl, h1, rfl, rfl, (List.append_nil _).symm, fun i => by rw [if_neg (by simp)]; rfl⟩
  | cons f fs ih =>
    intro d pos h1 h2 h3 h4
    have hf := h4 f List.mem_cons_self
    have he : d.putErr pos f = 0 := by
      have hask : d.ask pos = 0 := by
        unfold DevD.ask
        simp only [List.length_cons] at h3
        rw [h1, if_neg (by decide), if_neg (by omega)]
      unfold DevD.putErr
      rw [hask, hf]; rfl
    have hl : (d.put pos f).left = -1 := by unfold DevD.put; simp [h1]
    obtain ⟨i1, i2, i3, i4, i5, i6⟩ := ih (d.put pos f) (pos + 1) hl (by omega) (by simp only [List.length_cons] at h3; show _ ≤ (d.size : Int); omega) (fun x hx => h4 x (List.mem_cons_of_mem _ hx))
    unfold DevD.puts
    rw [if_pos he]
    refine ⟨i1, i2, i3, i4, ?_, fun i => ?_⟩
    · rw [i5, enumPos]; show d.queue ++ [(pos, f)] ++ _ = _; simp
    · rw [i6, put_sec]
      by_cases e : i = pos
      · subst e
        rw [if_neg (by omega), if_pos rfl, if_pos (by simp only [List.length_cons]; omega), Int.sub_self]
        rfl
      · rw [if_neg e]
        by_cases e2 : pos + 1 ≤ i ∧ i < pos + 1 + fs.length
        · rw [if_pos e2, if_pos (by simp only [List.length_cons]; omega)]
          obtain ⟨k, hk⟩ : ∃ k : Nat, (i - pos).toNat = k + 1 := ⟨(i - pos).toNat - 1, by omega⟩
          rw [hk, show (i - (pos + 1)).toNat = k from by omega]; rfl
        · rw [if_neg e2, if_neg (by simp only [List.length_cons]; omega)]
theorem secs_get (d : DevD) (f : Int) (n i : Nat) (h : i < n) : (d.secs f n)[i]? = some (d.sec (f + i)) := by simp [DevD.secs, h]
theorem secs_puts (d : DevD) (f : Int) (n a : Nat) (fs : List ByteArray) (h1 : d.left = -1) (h2 : 0 ≤ f) (h3 : f + n ≤ d.size) (h4 : ∀ x ∈ fs, x.size = 64) (h5 : a + fs.length ≤ n) :
    (d.puts (f + a) fs).1.secs f n = (d.secs f n).take a ++ fs ++ (d.secs f n).drop (a + fs.length) := by
  obtain ⟨_, _, _, _, _, i6⟩ := puts_ok fs d (f + a) h1 (by omega) (by omega) h4
  apply List.ext_getElem?
  intro j
  by_cases hj : j < n
  · rw [secs_get _ _ _ _ hj, i6]
    by_cases e1 : j < a
    · rw [if_neg (by omega), List.append_assoc, List.getElem?_append_left (by rw [List.length_take, secs_length]; omega), List.getElem?_take_of_lt e1, secs_get _ _ _ _ hj]
    · rw [List.append_assoc, List.getElem?_append_right (by rw [List.length_take, secs_length]; omega), List.length_take, secs_length, Nat.min_eq_left (by omega)]
      by_cases e2 : j < a + fs.length
      · rw [if_pos (by omega), List.getElem?_append_left (by omega), show (f + (j : Int) - (f + a)).toNat = j - a from by omega]
        have : j - a < fs.length := by omega
        simp [List.getD, this]
      · rw [if_neg (by omega), List.getElem?_append_right (by omega), List.getElem?_drop, secs_get _ _ _ _ (by omega)]
        congr 3
        omega
  · rw [List.getElem?_eq_none (by rw [secs_length]; omega), List.getElem?_eq_none (by simp [secs_length]; omega)]
/-- A bank in which the records rs stand, and nothing behind them. -/
structure Bank (d : DevD) (f : Int) (n a : Nat) (rs : List (List UInt8)) : Prop where
  left : d.left = -1
  pos : 0 ≤ f
  on : f + n ≤ d.size
  good : ∀ i, (d.sec i).size = 64
  len : a = 1 + (rs.flatMap cutL).length
  fits : a ≤ n
  ok : ∀ r ∈ rs, r ≠ [] ∧ r.length ≤ 60000
  secs : (d.secs f n).drop 1 = rs.flatMap cutL ++ List.replicate (n - a) zsec
theorem cutL_64 (r : List UInt8) : ∀ x ∈ cutL r, x.size = 64 := by
  intro x hx
  unfold cutL at hx
  obtain ⟨i, _, rfl⟩ := List.mem_map.1 hx
  exact frB_size _
theorem Bank.scan {d : DevD} {f : Int} {n a : Nat} {rs : List (List UInt8)} (h : Bank d f n a rs) (hn : 1 ≤ n) : d.scan f n = (rs, (a : Int), 0) := by
  have ho : d.on f n = true := by unfold DevD.on; rw [decide_eq_true_eq]; exact ⟨by omega, h.pos, h.on⟩
  have e := scanned_cuts rs (List.replicate (n - a) zsec) h.ok (by
    cases hr : n - a with
    | zero => exact Or.inl rfl
    | succ m => exact Or.inr (by rw [List.replicate_succ]; exact stands_zero _))
  unfold DevD.scan
  rw [if_neg (by rw [h.left]; decide), if_neg (by rw [ho]; decide), show ((n : Int).toNat) = n from rfl, h.secs, e, h.len]
/-- One record more. -/
theorem Bank.more {d : DevD} {f : Int} {n a : Nat} {rs : List (List UInt8)} (h : Bank d f n a rs) (r : List UInt8) (h0 : r ≠ []) (h1 : r.length ≤ 60000) (hf : a + nframes r.length ≤ n) :
    Bank (d.puts (f + a) (cutL r)).1 f n (a + nframes r.length) (rs ++ [r]) := by
  have hfl : (cutL r).length = nframes r.length := cutL_length r
  have hs := secs_puts d f n a (cutL r) h.left h.pos h.on (cutL_64 r) (by omega)
  have hlo := h.pos
  have hon := h.on
  obtain ⟨i1, i2, i3, i4, i5, i6⟩ := puts_ok (cutL r) d (f + a) h.left (by omega) (by rw [hfl]; omega) (cutL_64 r)
  have ha := h.len
  refine ⟨i2, h.pos, by rw [i3]; exact h.on, fun i => ?_, ?_, hf, fun x hx => ?_, ?_⟩
  · rw [i6]
    split
    · rename_i q
      have hlt : (i - (f + a)).toNat < (cutL r).length := by omega
      simp only [List.getD, List.getElem?_eq_getElem hlt, Option.getD_some]
      exact cutL_64 r _ (List.getElem_mem hlt)
    · exact h.good i
  · rw [List.flatMap_append, List.flatMap_singleton, List.length_append, hfl]; omega
  · rcases List.mem_append.1 hx with q | q
    · exact h.ok x q
    · rw [List.mem_singleton.1 q]; exact ⟨h0, h1⟩
  · have hsl := secs_length d f n
    have e2 : ((d.secs f n).take a).drop 1 = rs.flatMap cutL := by
      rw [List.drop_take, h.secs, List.take_left' (by omega)]
    have e3 : (d.secs f n).drop (a + (cutL r).length) = List.replicate (n - (a + nframes r.length)) zsec := by
      have : (d.secs f n).drop (a + (cutL r).length) = ((d.secs f n).drop 1).drop ((rs.flatMap cutL).length + nframes r.length) := by rw [List.drop_drop, hfl]; congr 1; omega
      rw [this, h.secs, ← List.drop_drop, List.drop_left' rfl, List.drop_replicate]
      congr 1; omega
    rw [hs, e3, List.append_assoc, List.drop_append_of_le_length (by rw [List.length_take, hsl]; have := h.fits; omega), e2, List.flatMap_append, List.flatMap_singleton, List.append_assoc]
theorem newdev_secs (n : Nat) (f : Int) (m : Nat) : (DevD.mk n [] [] [] (-1)).secs f m = List.replicate m zsec := by
  apply List.ext_getElem?
  intro j
  by_cases hj : j < m
  · rw [secs_get _ _ _ _ hj, List.getElem?_replicate, if_pos hj]; rfl
  · rw [List.getElem?_eq_none (by rw [secs_length]; omega), List.getElem?_eq_none (by simp; omega)]
theorem Bank.new (N : Nat) (f n : Nat) (h : f + n ≤ N) (hn : 1 ≤ n) : Bank ⟨N, [], [], [], -1⟩ f n 1 [] :=
  ⟨rfl, by omega, by show ((f : Int) + n) ≤ (N : Int); omega, fun i => by show zsec.size = 64; exact zsec_size, rfl, hn, fun r hr => by simp at hr, by rw [newdev_secs, List.drop_replicate]; rfl⟩
/-- What Write answers in such a bank. -/
theorem Bank.wErr {d : DevD} {f : Int} {n a : Nat} {rs : List (List UInt8)} (h : Bank d f n a rs) (hn : 1 ≤ n) (m : Nat) (hm : m ≤ 60000) : d.wErr f n a m = if m = 0 then 4 else if n < a + nframes m then 11 else 0 := by
  have ho : d.on f n = true := by unfold DevD.on; rw [decide_eq_true_eq]; exact ⟨by omega, h.pos, h.on⟩
  have ha := h.len
  unfold DevD.wErr
  rw [if_neg (by rw [h.left]; decide), if_neg (by rw [ho]; simp; omega)]
  by_cases e : m = 0
  · rw [if_pos (Or.inl e), if_pos e]
  · rw [if_neg (by omega), if_neg e]
    by_cases e2 : n < a + nframes m
    · rw [if_pos (by omega), if_pos e2]
    · rw [if_neg (by omega), if_neg e2]
theorem Bank.write_bad {d : DevD} {f : Int} {n a : Nat} {rs : List (List UInt8)} (h : Bank d f n a rs) (hn : 1 ≤ n) (r : ByteArray) (hm : r.size ≤ 60000) (hb : r.size = 0 ∨ n < a + nframes r.size) :
    d.write f n a r = (d, 0, if r.size = 0 then 4 else 11) := by
  unfold DevD.write
  rw [h.wErr hn r.size hm]
  by_cases e : r.size = 0
  · rw [if_pos e]; rw [if_pos e]; rfl
  · rw [if_neg e, if_neg e, if_pos (hb.resolve_left e)]; rfl
theorem Bank.write_ok {d : DevD} {f : Int} {n a : Nat} {rs : List (List UInt8)} (h : Bank d f n a rs) (hn : 1 ≤ n) (r : ByteArray) (hm : r.size ≤ 60000) (h0 : r.size ≠ 0) (hf : a + nframes r.size ≤ n) :
    d.write f n a r = ((d.puts (f + a) (cutL r.data.toList)).1, ((a + nframes r.size : Nat) : Int), 0) := by
  have hrl : r.data.toList.length = r.size := by rw [Array.length_toList]; rfl
  have hlo := h.pos
  have hon := h.on
  obtain ⟨i1, _⟩ := puts_ok (cutL r.data.toList) d (f + a) h.left (by omega) (by rw [cutL_length, hrl]; omega) (cutL_64 _)
  unfold DevD.write
  have e : d.wErr f n a r.size = 0 := by rw [h.wErr hn r.size hm, if_neg h0, if_neg (by omega)]
  rw [e, if_neg (show ¬ ((0 : Int) ≠ 0) by decide), if_pos i1]
  simp
end Go.Proofs.Ytncbojocglcieaa

/- bank: what is answered of arguments, in plain Lean. -/
namespace Go.Proofs.Ytncbojocglcieaa
open Go.RowKit
set_option linter.unusedSimpArgs false
set_option linter.unusedVariables false
theorem wipes_zero : ∀ (n : Nat) (d : DevD) (pos : Int), d.left ≠ 0 → (∀ i : Nat, i < n → d.sec (pos + i) = zsec) → d.wipes pos n = (d, 0) := by
  intro n
  induction n with
  | zero => intro d pos _ _; rfl
  | succ n ih =>
    intro d pos h1 h2
    rw [DevD.wipes, if_neg h1, if_pos (by have := h2 0 (by omega); simpa using this)]
    exact ih d (pos + 1) h1 (fun i hi => by have := h2 (i + 1) (by omega); rw [← this]; congr 1; omega)
def dev0 (n : Nat) : DevD := ⟨n, [], [], [], -1⟩
theorem args_on (n : Nat) (f s : Int) : (dev0 n).on f s = decide (1 ≤ s ∧ 0 ≤ f ∧ f + s ≤ n) := rfl
theorem args_scan (n : Nat) (f s : Int) : ((dev0 n).scan f s).2.2 = if 1 ≤ s ∧ 0 ≤ f ∧ f + s ≤ n then 0 else 1 := by
  unfold DevD.scan
  rw [if_neg (show ¬ (dev0 n).left = 0 by show ¬ ((-1 : Int) = 0); decide), args_on]
  by_cases h : 1 ≤ s ∧ 0 ≤ f ∧ f + s ≤ n
  · rw [if_neg (by rw [decide_eq_true h]; decide), if_pos h]
  · rw [if_pos (decide_eq_false h), if_neg h]
theorem args_wipe (n : Nat) (f s a : Int) : (dev0 n).wipe f s a = (dev0 n, if 1 ≤ s ∧ 0 ≤ f ∧ f + s ≤ n then 0 else 1) := by
  unfold DevD.wipe
  rw [if_neg (show ¬ (dev0 n).left = 0 by show ¬ ((-1 : Int) = 0); decide), args_on]
  by_cases h : 1 ≤ s ∧ 0 ≤ f ∧ f + s ≤ n
  · rw [if_neg (by rw [decide_eq_true h]; decide), if_pos h]
    exact wipes_zero _ _ _ (by show ¬ ((-1 : Int) = 0); decide) (fun _ _ => rfl)
  · rw [if_pos (decide_eq_false h), if_neg h]
theorem args_write (n : Nat) (f s a : Int) (x : ByteArray) (hx : x.size = 1) : ∃ D NX, (dev0 n).write f s a x = (D, NX, if ¬ (1 ≤ s ∧ 0 ≤ f ∧ f + s ≤ n) ∨ a < 1 then 1 else if s ≤ a then 11 else 0) ∧ D.left = -1 ∧ D.size = n ∧ D.queue.length ≤ 1 ∧ ∀ i, (D.sec i).size = 64 := by
  have h0 : (dev0 n).left = -1 := rfl
  have e : (dev0 n).wErr f s a x.size = if ¬ (1 ≤ s ∧ 0 ≤ f ∧ f + s ≤ n) ∨ a < 1 then 1 else if s ≤ a then 11 else 0 := by
    unfold DevD.wErr
    rw [h0, args_on, hx, if_neg (by decide)]
    by_cases h : ¬ (1 ≤ s ∧ 0 ≤ f ∧ f + s ≤ n) ∨ a < 1
    · rw [if_pos h, if_pos (by rcases h with h | h; exact Or.inl (decide_eq_false h); exact Or.inr h)]
    · rw [if_neg h, if_neg (by simp at h ⊢; omega), if_neg (by decide)]
      by_cases h2 : s ≤ a
      · rw [if_pos h2, if_pos (by show s - (nframes 1 : Int) < a; have : nframes 1 = 1 := rfl; rw [this]; omega)]
      · rw [if_neg h2, if_neg (by show ¬ s - (nframes 1 : Int) < a; have : nframes 1 = 1 := rfl; rw [this]; omega)]
  unfold DevD.write
  rw [e]
  by_cases h : ¬ (1 ≤ s ∧ 0 ≤ f ∧ f + s ≤ n) ∨ a < 1
  · rw [if_pos h, if_pos (by decide)]
    exact ⟨_, _, rfl, rfl, rfl, Nat.zero_le _, fun _ => zsec_size⟩
  · rw [if_neg h]
    by_cases h2 : s ≤ a
    · rw [if_pos h2, if_pos (by decide)]
      exact ⟨_, _, rfl, rfl, rfl, Nat.zero_le _, fun _ => zsec_size⟩
    · rw [if_neg h2, if_neg (by decide)]
      have hcl : (cutL x.data.toList).length = 1 := by rw [cutL_length, Array.length_toList]; show nframes x.size = 1; rw [hx]; rfl
      obtain ⟨i1, i2, i3, i4, i5, i6⟩ := puts_ok (cutL x.data.toList) (dev0 n) (f + a) h0 (by omega) (by rw [hcl]; show f + a + 1 ≤ (n : Int); omega) (cutL_64 _)
      rw [if_pos i1]
      refine ⟨_, _, rfl, i2, i3, ?_, fun i => ?_⟩
      · rw [i5]; show ([] ++ enumPos (f + a) _).length ≤ 1; rw [List.nil_append, enumPos_length, hcl]; exact Nat.le_refl _
      · rw [i6]
        split
        · rename_i q
          have hlt : (i - (f + a)).toNat < (cutL x.data.toList).length := by omega
          simp only [List.getD, List.getElem?_eq_getElem hlt, Option.getD_some]
          exact cutL_64 _ _ (List.getElem_mem hlt)
        · exact zsec_size
theorem cut_lost {d : DevD} (h : d.left = -1) : (d.cut 0).left = 0 ∧ (d.cut 0).size = d.size ∧ (d.cut 0).queue = d.queue ∧ ∀ i, (d.cut 0).sec i = d.sec i := by
  unfold DevD.cut
  rw [if_neg (by rw [h]; decide)]
  exact ⟨rfl, rfl, rfl, fun _ => rfl⟩
theorem lost_all {d : DevD} (h : d.left = 0) (f s a : Int) (x : ByteArray) : d.scan f s = ([], 0, 13) ∧ d.write f s a x = (d, 0, 13) ∧ d.wipe f s a = (d, 13) := by
  refine ⟨by unfold DevD.scan; rw [if_pos h], ?_, by unfold DevD.wipe; rw [if_pos h]⟩
  have e : d.wErr f s a x.size = 13 := by unfold DevD.wErr; rw [if_pos h]
  unfold DevD.write
  rw [e]; rfl
end Go.Proofs.Ytncbojocglcieaa

/- bank: a bank that is wiped from its end on. -/
namespace Go.Proofs.Ytncbojocglcieaa
open Go.RowKit
set_option linter.unusedSimpArgs false
set_option linter.unusedVariables false
/-- Sectors that are wiped: no error, and noughts. -/
theorem wipes_ok : ∀ (n : Nat) (d : DevD) (pos : Int), d.left = -1 → (d.wipes pos n).2 = 0 ∧ (d.wipes pos n).1.left = -1 ∧ (d.wipes pos n).1.size = d.size ∧ (d.wipes pos n).1.queue.length ≤ d.queue.length + n ∧
    ∀ i, (d.wipes pos n).1.sec i = if pos ≤ i ∧ i < pos + n then zsec else d.sec i := by
  intro n
  induction n with
  | zero => intro d pos h; exact ⟨rfl, h, rfl, Nat.le_add_right _ _, fun i => by rw [if_neg (by omega)]; rfl⟩
  | succ n ih =>
    intro d pos h
    rw [DevD.wipes, if_neg (by rw [h]; decide)]
    by_cases e : d.sec pos = zsec
    · rw [if_pos e]
      obtain ⟨i1, i2, i3, i4, i5⟩ := ih d (pos + 1) h
      refine ⟨i1, i2, i3, by omega, fun i => ?_⟩
      rw [i5]
      by_cases q : i = pos
      · subst q; rw [if_neg (by omega), if_pos (by omega), e]
      · by_cases q2 : pos + 1 ≤ i ∧ i < pos + 1 + n
        · rw [if_pos q2, if_pos (by omega)]
        · rw [if_neg q2, if_neg (by omega)]
    · rw [if_neg e]
      have hl : (d.put pos zsec).left = -1 := by unfold DevD.put; simp [h]
      obtain ⟨p1, p2, p3⟩ := put_parts d pos zsec
      obtain ⟨i1, i2, i3, i4, i5⟩ := ih (d.put pos zsec) (pos + 1) hl
      refine ⟨i1, i2, by rw [i3, p1], by omega, fun i => ?_⟩
      rw [i5, put_sec]
      by_cases q : i = pos
      · subst q; rw [if_neg (by omega), if_pos rfl, if_pos (by omega)]
      · rw [if_neg q]
        by_cases q2 : pos + 1 ≤ i ∧ i < pos + 1 + n
        · rw [if_pos q2, if_pos (by omega)]
        · rw [if_neg q2, if_neg (by omega)]
/-- Scanned, wiped from the end on, and scanned anew. -/
theorem scan_wipe {d : DevD} (n : Nat) (h : d.left = -1) (hn : 1 ≤ n) (hs : n ≤ d.size) (h64 : ∀ i, (d.sec i).size = 64) :
    ∃ (rs : List (List UInt8)) (a : Nat) (D : DevD), d.scan 0 n = (rs, (a : Int), 0) ∧ (scanned ((d.secs 0 n).drop 1)).1 = rs ∧ 1 + (scanned ((d.secs 0 n).drop 1)).2 = a ∧ 1 ≤ a ∧ a ≤ n ∧ d.wipe 0 n a = (D, 0) ∧ D.left = -1 ∧ D.size = d.size ∧ D.queue.length ≤ d.queue.length + n ∧
      (∀ i, (D.sec i).size = 64) ∧ D.scan 0 n = (rs, (a : Int), 0) ∧ ∀ i : Nat, a ≤ i → i < n → D.sec i = zsec := by
  have hon : ∀ e : DevD, e.size = d.size → e.on 0 n = true := by
    intro e he
    unfold DevD.on; rw [decide_eq_true_eq, he]; omega
  have hsc : ∀ e : DevD, e.left = -1 → e.size = d.size → e.scan 0 n = ((scanned ((e.secs 0 n).drop 1)).1, ((1 + (scanned ((e.secs 0 n).drop 1)).2 : Nat) : Int), 0) := by
    intro e h1 h2
    unfold DevD.scan
    rw [if_neg (by rw [h1]; decide), if_neg (by rw [hon e h2]; decide)]; rfl
  have hF64 : ∀ x ∈ (d.secs 0 n).drop 1, x.size = 64 := by
    intro x hx
    have := List.mem_of_mem_drop hx
    unfold DevD.secs at this
    obtain ⟨i, _, rfl⟩ := List.mem_map.1 this
    exact h64 _
  have hFl : ((d.secs 0 n).drop 1).length = n - 1 := by rw [List.length_drop, secs_length]
  have hle := scanned_le _ _ (Nat.le_refl _) hF64
  obtain ⟨r1, r2, r3⟩ := scanned_recs _ _ (Nat.le_refl _) hF64
  rw [hFl] at hle
  obtain ⟨m, hm⟩ : ∃ m, (scanned ((d.secs 0 n).drop 1)).2 = m := ⟨_, rfl⟩
  rw [hm] at hle r1 r3
  have hwe : d.wipe 0 n ((1 + m : Nat) : Int) = d.wipes ((1 + m : Nat) : Int) (n - (1 + m)) := by
    unfold DevD.wipe
    rw [if_neg (by rw [h]; decide), if_neg (by rw [hon d rfl]; decide), show max (((1 + m : Nat) : Int)) 1 = ((1 + m : Nat) : Int) from by omega, Int.zero_add]
    congr 1; omega
  obtain ⟨w1, w2, w3, w4, w5⟩ := wipes_ok (n - (1 + m)) d ((1 + m : Nat) : Int) h
  obtain ⟨D, hD⟩ : ∃ D, (d.wipes ((1 + m : Nat) : Int) (n - (1 + m))).1 = D := ⟨_, rfl⟩
  rw [hD] at w2 w3 w4 w5
  have hsec : (D.secs 0 n).drop 1 = (scanned ((d.secs 0 n).drop 1)).1.flatMap cutL ++ List.replicate (n - (1 + m)) zsec := by
    rw [r1]
    apply List.ext_getElem?
    intro p
    by_cases hp : 1 + p < n
    · rw [List.getElem?_drop, secs_get _ _ _ _ hp, w5]
      by_cases h1 : p < m
      · rw [if_neg (by omega), List.getElem?_append_left (by rw [List.length_take, hFl]; omega), List.getElem?_take_of_lt h1, List.getElem?_drop, secs_get _ _ _ _ hp]
      · rw [if_pos (by omega), List.getElem?_append_right (by rw [List.length_take, hFl]; omega), List.getElem?_replicate, if_pos (by rw [List.length_take, hFl]; omega)]
    · rw [List.getElem?_eq_none (by rw [List.length_drop, secs_length]; omega), List.getElem?_eq_none (by rw [List.length_append, List.length_take, hFl, List.length_replicate]; omega)]
  have hlen : ((scanned ((d.secs 0 n).drop 1)).1.flatMap cutL).length = m := by rw [r1, List.length_take, hFl]; omega
  have hag := scanned_cuts (scanned ((d.secs 0 n).drop 1)).1 (List.replicate (n - (1 + m)) zsec) r2 (by
    cases hr : n - (1 + m) with
    | zero => exact Or.inl rfl
    | succ k => exact Or.inr (by rw [List.replicate_succ]; exact stands_zero _))
  refine ⟨(scanned ((d.secs 0 n).drop 1)).1, 1 + m, D, by rw [hsc d h rfl, hm], rfl, by rw [hm], by omega, by omega, ?_, w2, w3, by omega, fun i => ?_, ?_, fun i h1 h2 => ?_⟩
  · rw [hwe, ← hD, ← w1]
  · rw [w5]; split
    · exact zsec_size
    · exact h64 i
  · rw [hsc D w2 w3, hsec, hag, hlen]
  · rw [w5, if_pos (by omega)]
end Go.Proofs.Ytncbojocglcieaa

/- bank: what is lost of what wasn't flushed, in plain Lean. -/
namespace Go.Proofs.Ytncbojocglcieaa
open Go.RowKit
set_option linter.unusedSimpArgs false
set_option linter.unusedVariables false
theorem scanned_append (rs : List (List UInt8)) (X : List ByteArray) (h : ∀ r ∈ rs, r ≠ [] ∧ r.length ≤ 60000) : (scanned (rs.flatMap cutL ++ X)).1 = rs ++ (scanned X).1 := by
  induction rs with
  | nil => rfl
  | cons r rs ih =>
    obtain ⟨h1, h2⟩ := h r List.mem_cons_self
    have i := ih fun x hx => h x (List.mem_cons_of_mem _ hx)
    have hs := stands_cut r h1 h2 (rs.flatMap cutL ++ X)
    rw [List.flatMap_cons, List.append_assoc]
    have hne : cutL r ++ (rs.flatMap cutL ++ X) ≠ [] := by rw [cutL_cons r h1]; simp
    rw [scanned_go _ hne (by rw [hs]; exact h1), hs]
    have e : (cutL r ++ (rs.flatMap cutL ++ X)).drop (nframes r.length) = rs.flatMap cutL ++ X := by rw [← cutL_length r]; exact List.drop_left' rfl
    rw [e]
    show r :: (scanned _).1 = _
    rw [i]; rfl
/-- Each frame is as it was, or noughts. -/
def Masked (fs gs : List ByteArray) : Prop := gs.length = fs.length ∧ ∀ (t : Nat) (g : ByteArray), gs[t]? = some g → fs[t]? = some g ∨ g = zsec
theorem Masked.nil : Masked [] [] := ⟨rfl, fun t g h => by simp at h⟩
theorem Masked.split {a b gs : List ByteArray} (h : Masked (a ++ b) gs) : ∃ x y, gs = x ++ y ∧ Masked a x ∧ Masked b y := by
  obtain ⟨h1, h2⟩ := h
  rw [List.length_append] at h1
  refine ⟨gs.take a.length, gs.drop a.length, (List.take_append_drop _ _).symm, ⟨by rw [List.length_take]; omega, fun t g hg => ?_⟩, ⟨by rw [List.length_drop]; omega, fun t g hg => ?_⟩⟩
  · have ht : t < (gs.take a.length).length := (List.getElem?_eq_some_iff.1 hg).1
    rw [List.length_take] at ht
    rw [List.getElem?_take_of_lt (by omega)] at hg
    rcases h2 t g hg with q | q
    · rw [List.getElem?_append_left (by omega)] at q; exact Or.inl q
    · exact Or.inr q
  · rw [List.getElem?_drop] at hg
    rcases h2 _ g hg with q | q
    · rw [List.getElem?_append_right (by omega), Nat.add_sub_cancel_left] at q; exact Or.inl q
    · exact Or.inr q
theorem frB_get (R : List UInt8) (t : Nat) (h : t < nframes R.length) : (cutL R)[t]? = some (frB (R.drop (t * 62))) := by
  unfold cutL
  rw [List.getElem?_map, List.getElem?_range h]; rfl
/-- A record of which something is lost doesn't stand. -/
theorem stand_masked (r : List UInt8) (h0 : r ≠ []) (h1 : r.length ≤ 60000) (gs X : List ByteArray) (hm : Masked (cutL r) gs) (hne : gs ≠ cutL r) (h64 : ∀ g ∈ gs, g.size = 64) : standL (gs ++ X) = [] := by
  have hl : 0 < r.length := List.length_pos_iff.2 h0
  obtain ⟨hm1, hm2⟩ := hm
  rw [cutL_length] at hm1
  have hp := nframes_pos hl
  have hn : ¬ stands (gs ++ X) := by
    intro hs
    obtain ⟨g0, gs', rfl⟩ : ∃ g l, gs = g :: l := List.exists_cons_of_ne_nil (by intro q; rw [q] at hm1; simp at hm1; omega)
    have hd0 : hdN (g0 :: gs' ++ X) = hdB g0 := rfl
    have hg0 : g0 = frB r := by
      rcases hm2 0 g0 rfl with q | q
      · rw [frB_get r 0 hp] at q
        have := Option.some.inj q
        rw [Nat.zero_mul, List.drop_zero] at this
        exact this.symm
      · have := hs.1
        rw [hd0, q] at this
        exact absurd this (by decide)
    have hdn : hdN (g0 :: gs' ++ X) = r.length := by rw [hd0, hg0]; exact frB_head r (by omega)
    have htk : (g0 :: gs' ++ X).take (nframes r.length) = g0 :: gs' := List.take_left' hm1
    have hcut := hs.2.2.2
    have hrl : (recL (g0 :: gs' ++ X)).length = r.length := by
      unfold recL
      rw [hdn, htk, List.length_take, frCat_length _ h64, hm1]
      unfold nframes; omega
    rw [hdn, htk] at hcut
    apply hne
    apply List.ext_getElem?
    intro t
    by_cases ht : t < nframes r.length
    · obtain ⟨g, hg⟩ : ∃ g, (g0 :: gs')[t]? = some g := ⟨_, List.getElem?_eq_getElem (by omega)⟩
      rcases hm2 t g hg with q | q
      · rw [hg, q]
      · have e1 := frB_get (recL (g0 :: gs' ++ X)) t (by rw [hrl]; exact ht)
        rw [hcut, hg] at e1
        have e2 := Option.some.inj e1
        have e3 := frB_head ((recL (g0 :: gs' ++ X)).drop (t * 62)) (by rw [List.length_drop, hrl]; omega)
        rw [← e2, q, List.length_drop, hrl] at e3
        have e4 : hdB zsec = 0 := by decide
        rw [e4] at e3
        unfold nframes at ht
        omega
    · rw [List.getElem?_eq_none (by omega), List.getElem?_eq_none (by rw [cutL_length]; omega)]
  unfold standL
  rw [if_neg hn]
theorem scanned_masked (tl : List ByteArray) (ht : tl = [] ∨ standL tl = []) : ∀ (rs : List (List UInt8)) (gs : List ByteArray), Masked (rs.flatMap cutL) gs → (∀ r ∈ rs, r ≠ [] ∧ r.length ≤ 60000) → (∀ g ∈ gs, g.size = 64) → ∃ j, j ≤ rs.length ∧ (scanned (gs ++ tl)).1 = rs.take j := by
  intro rs
  induction rs with
  | nil =>
    intro gs h _ _
    have : gs = [] := List.eq_nil_of_length_eq_zero h.1
    subst this
    refine ⟨0, Nat.le_refl _, ?_⟩
    rcases ht with rfl | ht
    · rfl
    · rw [List.nil_append, scanned_stop _ ht]; rfl
  | cons r rs ih =>
    intro gs h hok h64
    rw [List.flatMap_cons] at h
    obtain ⟨x, y, rfl, hx, hy⟩ := h.split
    obtain ⟨h0, h1⟩ := hok r List.mem_cons_self
    by_cases e : x = cutL r
    · subst e
      obtain ⟨j, hj, e2⟩ := ih y hy (fun z hz => hok z (List.mem_cons_of_mem _ hz)) (fun g hg => h64 g (List.mem_append_right _ hg))
      have hs := stands_cut r h0 h1 (y ++ tl)
      have hne : cutL r ++ (y ++ tl) ≠ [] := by rw [cutL_cons r h0]; simp
      refine ⟨j + 1, Nat.succ_le_succ hj, ?_⟩
      rw [List.append_assoc, scanned_go _ hne (by rw [hs]; exact h0), hs]
      have e3 : (cutL r ++ (y ++ tl)).drop (nframes r.length) = y ++ tl := by rw [← cutL_length r]; exact List.drop_left' rfl
      rw [e3, e2]; rfl
    · refine ⟨0, Nat.zero_le _, ?_⟩
      rw [List.append_assoc, scanned_stop _ (stand_masked r h0 h1 x (y ++ tl) hx e (fun g hg => h64 g (List.mem_append_left _ hg)))]; rfl
/-- What is kept of frames that were written behind one another. -/
theorem keepers_enum (kept : List Int) (fs : List ByteArray) : ∀ (i : Nat) (p : Int) (s : List (Int × ByteArray)) (q : Int),
    mget (keepers kept i (enumPos p fs) s) q = mget s q ∨ ∃ t : Nat, t < fs.length ∧ q = p + t ∧ mget (keepers kept i (enumPos p fs) s) q = fs[t]? := by
  induction fs with
  | nil => intro i p s q; exact Or.inl rfl
  | cons f fs ih =>
    intro i p s q
    unfold enumPos keepers
    rcases ih (i + 1) (p + 1) (if (i : Int) ∈ kept then mput s p f else s) q with h | ⟨t, h1, h2, h3⟩
    · rw [h]
      by_cases hk : (i : Int) ∈ kept
      · rw [if_pos hk, mget_put]
        by_cases e : q = p
        · rw [if_pos e]; exact Or.inr ⟨0, by simp, by omega, rfl⟩
        · rw [if_neg e]; exact Or.inl rfl
      · rw [if_neg hk]; exact Or.inl rfl
    · refine Or.inr ⟨t + 1, by simp; omega, by omega, ?_⟩
      rw [h3]; rfl
/-- A restart behind a flush: a beginning of the records that came since stands. -/
theorem restart_scan {d0 d : DevD} {n a0 : Nat} {rs0 rs1 : List (List UInt8)} (hb : Bank d0 0 n a0 rs0) (hn : 1 ≤ n) (hs : d.safe = d0.seen) (hq : d.queue = enumPos a0 (rs1.flatMap cutL)) (hz : d.size = d0.size) (hok : ∀ r ∈ rs1, r ≠ [] ∧ r.length ≤ 60000) (hf : a0 + (rs1.flatMap cutL).length ≤ n) (kept : List Int) :
    ∃ j e, j ≤ rs1.length ∧ (d.restart kept).scan 0 n = (rs0 ++ rs1.take j, e, 0) ∧ ∀ i, ((d.restart kept).sec i).size = 64 := by
  have h64f : ∀ x ∈ rs1.flatMap cutL, x.size = 64 := by
    intro x hx
    obtain ⟨r, _, h⟩ := List.mem_flatMap.1 hx
    exact cutL_64 r x h
  have hsec : ∀ q, (d.restart kept).sec q = d0.sec q ∨ ∃ t : Nat, t < (rs1.flatMap cutL).length ∧ q = (a0 : Int) + t ∧ (rs1.flatMap cutL)[t]? = some ((d.restart kept).sec q) := by
    intro q
    unfold DevD.sec DevD.restart DevD.kept
    simp only []
    rw [hq, hs]
    rcases keepers_enum kept (rs1.flatMap cutL) 0 a0 d0.seen q with h | ⟨t, h1, h2, h3⟩
    · left; rw [h]
    · right
      refine ⟨t, h1, h2, ?_⟩
      rw [h3, List.getElem?_eq_getElem h1]; rfl
  have hgood : ∀ i, ((d.restart kept).sec i).size = 64 := by
    intro i
    rcases hsec i with h | ⟨t, h1, _, h3⟩
    · rw [h]; exact hb.good i
    · exact h64f _ (List.mem_of_getElem? h3)
  have ho : (d.restart kept).on 0 n = true := by
    have := hb.on
    unfold DevD.on; rw [decide_eq_true_eq]
    exact ⟨by omega, Int.le_refl _, by show (0 : Int) + n ≤ (d.size : Int); rw [hz]; exact this⟩
  have ha := hb.len
  have hlen0 : ((d0.secs 0 n).drop 1).length = n - 1 := by rw [List.length_drop, secs_length]
  -- the sectors
  let gs := ((d.restart kept).secs 0 n).drop a0 |>.take (rs1.flatMap cutL).length
  have hgsl : gs.length = (rs1.flatMap cutL).length := by
    show (List.take _ _).length = _
    rw [List.length_take, List.length_drop, secs_length]; omega
  have hzero : ∀ p : Nat, a0 ≤ p → p < n → d0.sec (0 + (p : Int)) = zsec := by
    intro p h1 h2
    have e1 : ((d0.secs 0 n).drop 1)[p - 1]? = (rs0.flatMap cutL ++ List.replicate (n - a0) zsec)[p - 1]? := by rw [hb.secs]
    rw [List.getElem?_drop, show 1 + (p - 1) = p from by omega, secs_get _ _ _ _ h2, List.getElem?_append_right (by omega), List.getElem?_replicate, if_pos (by omega)] at e1
    exact Option.some.inj e1
  have hmask : Masked (rs1.flatMap cutL) gs := by
    refine ⟨hgsl, fun t g hg => ?_⟩
    have ht : t < (rs1.flatMap cutL).length := by rw [← hgsl]; exact (List.getElem?_eq_some_iff.1 hg).1
    have e1 : g = (d.restart kept).sec (0 + ((a0 + t : Nat) : Int)) := by
      have : gs[t]? = some ((d.restart kept).sec (0 + ((a0 + t : Nat) : Int))) := by
        show (List.take _ _)[t]? = _
        rw [List.getElem?_take_of_lt ht, List.getElem?_drop, secs_get _ _ _ _ (by omega)]
      rw [hg] at this
      exact Option.some.inj this
    rcases hsec (0 + ((a0 + t : Nat) : Int)) with h | ⟨t', h1, h2, h3⟩
    · right; rw [e1, h]; exact hzero _ (by omega) (by omega)
    · left
      have : t' = t := by omega
      subst this
      rw [e1]; exact h3
  have hsecs : ((d.restart kept).secs 0 n).drop 1 = rs0.flatMap cutL ++ (gs ++ List.replicate (n - a0 - (rs1.flatMap cutL).length) zsec) := by
    apply List.ext_getElem?
    intro p
    by_cases hp : p + 1 < n
    · rw [List.getElem?_drop, secs_get _ _ _ _ (by omega)]
      by_cases h1 : p < (rs0.flatMap cutL).length
      · rw [List.getElem?_append_left h1]
        have e1 : ((d0.secs 0 n).drop 1)[p]? = (rs0.flatMap cutL ++ List.replicate (n - a0) zsec)[p]? := by rw [hb.secs]
        rw [List.getElem?_drop, secs_get _ _ _ _ (by omega), List.getElem?_append_left h1] at e1
        rw [← e1]
        congr 1
        rcases hsec (0 + ((1 + p : Nat) : Int)) with h | ⟨t', h1', h2, h3⟩
        · exact h
        · exfalso; omega
      · rw [List.getElem?_append_right (by omega)]
        by_cases h2 : p - (rs0.flatMap cutL).length < gs.length
        · rw [List.getElem?_append_left h2]
          show _ = (List.take _ _)[_]?
          rw [List.getElem?_take_of_lt (by omega), List.getElem?_drop, secs_get _ _ _ _ (by omega)]
          congr 3; omega
        · rw [List.getElem?_append_right (by omega), List.getElem?_replicate, if_pos (by omega)]
          congr 1
          rcases hsec (0 + ((1 + p : Nat) : Int)) with h | ⟨t', h1', h2', h3⟩
          · rw [h]; exact hzero _ (by omega) (by omega)
          · exfalso; omega
    · rw [List.getElem?_eq_none (by rw [List.length_drop, secs_length]; omega), List.getElem?_eq_none (by
        rw [List.length_append, List.length_append, List.length_replicate, hgsl]; omega)]
  obtain ⟨j, hj, hjs⟩ := scanned_masked (List.replicate (n - a0 - (rs1.flatMap cutL).length) zsec) (by
    cases hr : n - a0 - (rs1.flatMap cutL).length with
    | zero => exact Or.inl rfl
    | succ m => exact Or.inr (by rw [List.replicate_succ]; exact stands_zero _)) rs1 gs hmask hok (by
      intro g hg
      obtain ⟨t, ht⟩ := List.getElem?_of_mem hg
      rcases hmask.2 t g ht with q | q
      · exact h64f _ (List.mem_of_getElem? q)
      · rw [q]; exact zsec_size)
  have hsc : (d.restart kept).scan 0 n = ((scanned (((d.restart kept).secs 0 n).drop 1)).1, ((1 + (scanned (((d.restart kept).secs 0 n).drop 1)).2 : Nat) : Int), 0) := by
    unfold DevD.scan
    rw [if_neg (show ¬ (d.restart kept).left = 0 by show ¬ ((-1 : Int) = 0); decide), if_neg (by rw [ho]; decide), show ((n : Int).toNat) = n from rfl]
  have e1 : (scanned (((d.restart kept).secs 0 n).drop 1)).1 = rs0 ++ rs1.take j := by rw [hsecs, scanned_append _ _ hb.ok, hjs]
  exact ⟨j, ((1 + (scanned (((d.restart kept).secs 0 n).drop 1)).2 : Nat) : Int), hj, by rw [hsc, e1], hgood⟩
end Go.Proofs.Ytncbojocglcieaa
