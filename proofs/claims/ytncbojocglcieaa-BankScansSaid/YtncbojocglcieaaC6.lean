/- bank's reference: one. -/
import Derived.Test.YtncbojocglcieaaC3
import Derived.Test.YtncbojocglcieaaC5
namespace Go.Proofs.Ytncbojocglcieaa
open Go.RowKit
set_option linter.unusedSimpArgs false
set_option linter.unusedVariables false
theorem wrap64_nat (n : Nat) (h : n < 65536) : wrap64 (n : Int) = n := by unfold wrap64; omega
set_option maxRecDepth 100000 in
set_option maxHeartbeats 4000000 in
theorem one_any (w : World) (b off cap : Nat) (l : List ByteArray) (h : Strs w b off l) (hcap : l.length ≤ cap) (hcm : cap ≤ maxLen) (h0 : l ≠ []) (h64 : ∀ f ∈ l, f.size = 64) (hl : l.length ≤ 4096) :
    Calls Try.prog 65 #[.slice (some ⟨b, off, none⟩) l.length cap] w fun e w' => e = .returned (.string (bL (standL l))) ∧ Below w.heap.size w w' := by
  obtain ⟨f0, fs, rfl⟩ := List.exists_cons_of_ne_nil h0
  have HC := Lib.hid h
  have c0 : w.cell? ⟨b, off, none⟩ = some (.string f0) := h 0 f0 rfl
  unfold maxLen at hcm
  have hs0 : f0.size = 64 := h64 f0 List.mem_cons_self
  have hi0 : 0 < f0.size := by omega
  have hi1 : 1 < f0.size := by omega
  have b0 := byte_get f0 0 hi0
  have b1 := byte_get f0 1 hi1
  have hlen : 0 < (f0 :: fs).length := by simp
  obtain ⟨x, hx⟩ : ∃ x, f0[0] = x := ⟨_, rfl⟩
  obtain ⟨y, hy⟩ : ∃ y, f0[1] = y := ⟨_, rfl⟩
  have hn : hdN (f0 :: fs) = x.toNat * 256 + y.toNat := by show hdB f0 = _; unfold hdB; rw [← b0, ← b1, hx, hy]
  have hnn : hdN (f0 :: fs) < 65536 := by have := x.toNat_lt; have := y.toNat_lt; omega
  obtain ⟨S, hS⟩ : ∃ S, standL (f0 :: fs) = S := ⟨_, rfl⟩
  rw [hS]
  have HS := Lib.hid hS
  obtain ⟨n, hnE⟩ : ∃ n, hdN (f0 :: fs) = n := ⟨_, rfl⟩
  rw [hnE] at hnn
  have HN := Lib.hid hnE
  obtain ⟨k, hk⟩ : ∃ k, nframes n = k := ⟨_, rfl⟩
  have HK := Lib.hid hk
  obtain ⟨L, hL⟩ : ∃ L, f0 :: fs = L := ⟨_, rfl⟩
  have hxy : (x.toNat : Int) * 256 + y.toNat = n := by rw [← hnE, hn]; omega
  have hwx : wrap64 (x.toNat : Int) = x.toNat := by have := x.toNat_lt; unfold wrap64; omega
  have hwy : wrap64 (y.toNat : Int) = y.toNat := by have := y.toNat_lt; unfold wrap64; omega
  have hwz : wrap64 ((x.toNat : Int) * 256) = (x.toNat : Int) * 256 := by have := x.toNat_lt; unfold wrap64; omega
  have hwn : wrap64 (n : Int) = n := wrap64_nat n hnn
  rw [hL] at hlen hl HC h64 HS HN hcap ⊢
  have HL := Lib.hid hL
  have H64 := Lib.hid h64
  clear h h0 hn hnE hS hk b0 b1 hL h64
  have hk2 : k ≤ 1058 := by have := HK.out; unfold nframes at this; omega
  by_cases hg : n ≤ 60000
  · have d2 : decide ((60000 : Int) < n) = false := decide_eq_false (by omega)
    go_enter Try.func65, Try.ntmps65
    go_wp2_with fail
    go_quiet (fail)
    have hb1 : Below w.heap.size w (w.drewN nq) := qt_below (Qt.drewN w nq)
    generalize w.drewN nq = w1 at *
    have HB1 := Lib.hid hb1
    clear hb1 hwx hwy hwz hx hy
    go_wp2_with fail
    go_loopw [4, 5] (fun av iv wr => ∃ i : Nat, iv = .int .i64 i ∧ i ≤ k ∧ i ≤ L.length ∧ av = .string (bL (frCat (L.take i))) ∧ wr = w1) (fun _ iv _ => L.length - (intOf iv).toNat)
    case atStart => exact ⟨0, rfl, Nat.zero_le _, Nat.zero_le _, rfl, rfl⟩
    case round =>
      obtain ⟨i, rfl, hi, hil, rfl, rfl⟩ := hrel
      have hfl := frCat_length (L.take i) (fun f hf => H64.out f (List.mem_of_mem_take hf))
      have hbs := bL_size (frCat (L.take i))
      rw [hfl, List.length_take, Nat.min_eq_left hil] at hbs
      by_cases hlt : i < k ∧ i < L.length
      · obtain ⟨hlt, hlt2⟩ := hlt
        have i1 : (i : Int) < L.length := by omega
        obtain ⟨x, hx⟩ : ∃ x, L[i]? = some x := ⟨_, List.getElem?_eq_getElem (by omega)⟩
        have hx64 : x.size = 64 := H64.out x (List.mem_of_getElem? hx)
        have ci : wr.cell? ⟨b, off + i, none⟩ = some (.string x) := (HC.out.below HB1.out) i x hx
        have hbn : (bL (frCat (L.take i))).size < n := by rw [hbs]; have := HK.out; unfold nframes at this; omega
        have hbn2 : ((bL (frCat (L.take i))).size : Int) < n := by omega
        have hbs2 : (bL (frCat (L.take i))).size ≤ 65596 := by omega
        have hsn : bL (frCat (L.take i)) ++ x.extract 2 64 = bL (frCat (L.take (i + 1))) := frCat_snoc L i x hx hx64
        have HSN := Lib.hid hsn
        generalize bL (frCat (L.take i)) = acc at *
        clear hsn hfl hbs hx
        go_wp2_with fail
        exact ⟨⟨i + 1, by go_num, hlt, hlt2, by rw [HSN.out], trivial⟩, by simp [intOf]; omega⟩
      · by_cases hkl : k ≤ L.length
        · have ei : i = k := by omega
          subst ei
          have hkn : n ≤ 62 * i := by have := HK.out; unfold nframes at this; omega
          have hn1 : n ≤ (bL (frCat (L.take i))).size := by omega
          have hn2 : (n : Int) ≤ (bL (frCat (L.take i))).size := by omega
          have dn1 : decide (((bL (frCat (L.take i))).size : Int) < n) = false := decide_eq_false (by omega)
          have dn2 : decide ((bL (frCat (L.take i))).size < n) = false := decide_eq_false (by omega)
          have hrec : (bL (frCat (L.take i))).extract 0 n = bL (recL L) := by
            unfold recL; rw [HN.out, HK.out]
            apply ByteArray.ext; apply Array.ext'
            rw [Lib.extract_data]; simp [bL]
          have hrl : (recL L).length = n := by
            have := recL_length L H64.out (by rw [HN.out, HK.out]; exact hkl)
            rw [this, HN.out]
          have hrs : (bL (recL L)).size = n := by rw [bL_size, hrl]
          have hcl : (cutL (recL L)).length = i := by rw [cutL_length, hrl, HK.out]
          have hal : (bL (recL L)).data.toList = recL L := by simp [bL]
          have hst : n ≠ 0 → (stands L ↔ cutL (recL L) = L.take i) := by
            intro hn0
            unfold stands; rw [HN.out, HK.out]
            exact ⟨fun h => h.2.2.2, fun h => ⟨by omega, hg, hkl, h⟩⟩
          have hS0 : n = 0 → S = [] := by
            intro hn0
            rw [← HS.out]; unfold standL
            rw [if_neg]
            intro hs
            have := hs.1
            rw [HN.out] at this
            omega
          have hcut := fun w => cut_ref (bL (recL L)) w (by rw [hrs]; omega)
          rw [hal] at hcut
          have hrecN : n = 0 → recL L = [] := fun q => List.eq_nil_of_length_eq_zero (by rw [hrl, q])
          have HREC := Lib.hid hrec
          have HRL := Lib.hid hrl
          have HST := Lib.hid hst
          have HS0 := Lib.hid hS0
          have HCL := Lib.hid hcl
          have HRN := Lib.hid hrecN
          have hbs2 : (bL (frCat (L.take i))).size ≤ 65596 := by omega
          generalize bL (frCat (L.take i)) = acc at *
          obtain ⟨a, haE⟩ : ∃ a, bL (recL L) = a := ⟨_, rfl⟩
          rw [haE] at hrs hcut
          have HAE := Lib.hid haE
          clear hrec hrl hst hS0 hcl hfl hbs haE hal hlt hrecN
          have hrest : ∀ (P : Prop), P → P := fun _ h => h
          rcases Nat.lt_or_ge i L.length with hil2 | hil2
          all_goals
            first
              | (have i1 : (i : Int) < L.length := by omega)
              | (have i1 : ¬ ((i : Int) < L.length) := by omega
                 have i2 : decide ((i : Int) < L.length) = false := decide_eq_false i1
                 have i3 : decide (i < L.length) = false := decide_eq_false (by omega))
            go_wp2_with fail
            rw [HREC.out, HAE.out]
            refine (hcut _).mono ?_
            rintro e w5 ⟨wv, rfl, hr5, hb5⟩
            obtain ⟨wa, wc, rfl⟩ := hr5.shape
            rw [HCL.out] at hr5 ⊢
            have HR5 := Lib.hid hr5
            have HB5 := Lib.hid (HB1.out.trans (hb5.mono HB1.out.size))
            clear hr5 hb5
            go_wp2_with fail
            go_loopw [7] (fun iv wx => ∃ j : Nat, iv = .int .i64 j ∧ j ≤ i ∧ (cutL (recL L)).take j = L.take j ∧ Below w5.heap.size w5 wx) (fun iv _ => i - (intOf iv).toNat)
            case atStart => exact ⟨0, rfl, Nat.zero_le _, rfl, Below.refl _ _⟩
            case round =>
              rename_i wr0
              obtain ⟨j, rfl, hj, htk, hbj⟩ := hrel
              have HT := Lib.hid htk
              have HBJ := Lib.hid (HB5.out.trans (hbj.mono HB5.out.size))
              have HBW := Lib.hid hbj
              have HRJ := Lib.hid (HR5.out.below hbj)
              clear htk hbj
              by_cases hjl : j < i
              · have j1 : (j : Int) < i := by omega
                have j2 : (j : Int) < L.length := by omega
                obtain ⟨x, hx⟩ : ∃ x, L[j]? = some x := ⟨_, List.getElem?_eq_getElem (by omega)⟩
                have cj : wr.cell? ⟨b, off + j, none⟩ = some (.string x) := (HC.out.below HBJ.out) j x hx
                obtain ⟨X, hX⟩ : ∃ X, (cutL (recL L))[j]? = some X := ⟨_, List.getElem?_eq_getElem (by rw [HCL.out]; exact hjl)⟩
                obtain ⟨wg, wcap, e', wl, _, _, hwst⟩ := HRJ.out.strs (by intro q; have := HCL.out; rw [q] at this; simp at this; omega)
                simp only [Value.slice.injEq] at e'
                obtain ⟨rfl, -, rfl⟩ := e'
                have ck : wr.cell? ⟨wg, j, none⟩ = some (.string X) := by have := hwst j X hX; rwa [Nat.zero_add] at this
                have HX := Lib.hid hx
                have HXX := Lib.hid hX
                clear hx hX hwst
                by_cases q : X = x
                · subst q
                  have hre := str_refl X
                  go_wp2_with fail
                  go_quiet (fail)
                  have hbq : Below wr.heap.size wr (wr.drewN nq) := qt_below (Qt.drewN wr nq)
                  have HB6 := Lib.hid (HBW.out.trans (hbq.mono HBW.out.size))
                  have HB7 := Lib.hid (HBJ.out.trans (hbq.mono HBJ.out.size))
                  clear hbq cj ck
                  generalize wr.drewN nq = w6 at *
                  go_wp2_with fail
                  have htn : (cutL (recL L)).take (j + 1) = L.take (j + 1) := by
                    obtain ⟨p1, p2⟩ := List.getElem?_eq_some_iff.1 HXX.out
                    obtain ⟨p3, p4⟩ := List.getElem?_eq_some_iff.1 HX.out
                    rw [List.take_succ_eq_append_getElem p1, List.take_succ_eq_append_getElem p3, p2, p4, HT.out]
                  exact ⟨⟨j + 1, by go_num, hjl, htn, HB6.out⟩, by simp [intOf]; omega⟩
                · have hne := str_ne q
                  have hS : S = [] := by
                    by_cases hn0 : n = 0
                    · exact HS0.out hn0
                    · rw [← HS.out]; unfold standL
                      rw [if_neg]
                      intro hs
                      have h1 := (HST.out hn0).1 hs
                      have h2 := HXX.out
                      rw [h1, List.getElem?_take_of_lt hjl, HX.out] at h2
                      exact q (Option.some.inj h2).symm
                  subst hS
                  go_wp2_with fail
                  go_quiet (fail)
                  have hbq : Below wr.heap.size wr (wr.drewN nq) := qt_below (Qt.drewN wr nq)
                  have HB6 := Lib.hid (HBW.out.trans (hbq.mono HBW.out.size))
                  have HB7 := Lib.hid (HBJ.out.trans (hbq.mono HBJ.out.size))
                  clear hbq cj ck
                  generalize wr.drewN nq = w6 at *
                  go_wp2_with fail
                  go_ret
                  exact ⟨rfl, HB7.out⟩
              · have ej : j = i := by omega
                subst ej
                have hSa : bL S = a := by
                  by_cases hn0 : n = 0
                  · rw [← HAE.out, HS0.out hn0, HRN.out hn0]
                  · rw [← HAE.out, ← HS.out]; unfold standL
                    rw [if_pos]
                    rw [HST.out hn0, ← HT.out, List.take_of_length_le (by rw [HCL.out]; exact Nat.le_refl _)]
                have HSA := Lib.hid hSa
                clear hSa
                go_wp2_with fail
                go_ret
                exact ⟨by rw [HSA.out, ← HAE.out, ← HREC.out]; rfl, HBJ.out⟩
        · have ei : i = L.length := by omega
          subst ei
          have hS : S = [] := by
            rw [← HS.out]; unfold standL
            rw [if_neg]
            intro hs
            have := hs.2.2.1
            rw [HN.out, HK.out] at this
            omega
          subst hS
          have hkn : 62 * L.length < n := by have := HK.out; unfold nframes at this; omega
          have i1 : ¬ ((L.length : Int) < L.length) := by omega
          have dn0 : decide ((bL (frCat (L.take L.length))).size < n) = true := decide_eq_true (by omega)
          have dn1 : decide (((bL (frCat (L.take L.length))).size : Int) < n) = true := decide_eq_true (by omega)
          generalize bL (frCat (L.take L.length)) = acc at *
          clear hlt
          go_wp2_with fail
          go_ret
          exact ⟨rfl, HB1.out⟩
  · have hS : S = [] := by
      rw [← HS.out]; unfold standL
      rw [if_neg]
      intro hs
      have := hs.2.1
      rw [HN.out] at this
      omega
    subst hS
    have e1 : decide ((60000 : Int) < n) = true := decide_eq_true (by omega)
    have e2 : decide (60000 < n) = true := decide_eq_true (by omega)
    go_enter Try.func65, Try.ntmps65
    go_wp2_with fail
    go_quiet (fail)
    have hb1 : Below w.heap.size w (w.drewN nq) := qt_below (Qt.drewN w nq)
    generalize w.drewN nq = w1 at *
    have HB1 := Lib.hid hb1
    clear hb1 hwx hwy hwz hx hy
    go_wp2_with fail
    go_ret
    exact ⟨rfl, HB1.out⟩
end Go.Proofs.Ytncbojocglcieaa
