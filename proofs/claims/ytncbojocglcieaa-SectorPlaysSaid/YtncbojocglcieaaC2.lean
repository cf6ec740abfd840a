/- bank: stand. -/
import Derived.Test.YtncbojocglcieaaC1
import Derived.Test.YtncbojocglcieaaFz
import Derived.Lib.Strings
namespace Go.Proofs.Ytncbojocglcieaa
open Go.RowKit
set_option linter.unusedSimpArgs false
set_option linter.unusedVariables false
theorem byte_get (s : ByteArray) (i : Nat) (h : i < s.size) : (s[i] : UInt8) = s.data.toList.getD i 0 := by
  have : i < s.data.size := h
  show s.data[i] = _
  simp only [List.getD, Array.getElem?_toList]
  rw [Array.getElem?_eq_getElem this]; rfl
def bL (l : List UInt8) : ByteArray := ⟨l.toArray⟩
theorem bL_size (l : List UInt8) : (bL l).size = l.length := by simp [bL, ByteArray.size]
theorem qt_below {w w' : World} (q : Qt w w') : Below w.heap.size w w' := ⟨q.os, q.tape, q.output, by rw [q.heap]; exact Nat.le_refl _, fun k _ => by rw [q.heap]⟩
/-- Strings that can be read. -/
def Strs (w : World) (b off : Nat) (l : List ByteArray) : Prop := ∀ i x, l[i]? = some x → w.cell? ⟨b, off + i, none⟩ = some (.string x)
theorem Strs.below {w w' : World} {b off : Nat} {l : List ByteArray} (h : Strs w b off l) (hb : Below w.heap.size w w') : Strs w' b off l := fun i x hx => by
  have := h i x hx
  rw [hb.cell (World.block_lt_of_cell? _ _ this)]; exact this
theorem Strs.drop {w : World} {b off : Nat} {l : List ByteArray} (h : Strs w b off l) (n : Nat) : Strs w b (off + n) (l.drop n) := fun i x hx => by
  rw [Nat.add_assoc]; exact h (n + i) x (by rw [← hx, List.getElem?_drop])
theorem Row.strs {w : World} {B : Nat} {v : Value} {l : List ByteArray} (h : Row EStr w B v l) (h0 : l ≠ []) : ∃ g cap, v = .slice (some ⟨g, 0, none⟩) l.length cap ∧ l.length ≤ cap ∧ cap ≤ maxLen ∧ B ≤ g ∧ Strs w g 0 l := by
  obtain ⟨g, cap, e, h1, h2, h3, h4, h5, _⟩ := h.slice h0
  refine ⟨g, cap, e, h3, h4, h1, fun i x hx => ?_⟩
  have := h5 i x hx 0 (by decide)
  rw [Nat.zero_add]
  simpa [EStr] using this
theorem frCat_snoc (L : List ByteArray) (i : Nat) (x : ByteArray) (hx : L[i]? = some x) (h64 : x.size = 64) : bL (frCat (L.take i)) ++ x.extract 2 64 = bL (frCat (L.take (i + 1))) := by
  obtain ⟨hi, hxe⟩ := List.getElem?_eq_some_iff.1 hx
  apply ByteArray.ext; apply Array.ext'
  rw [List.take_succ_eq_append_getElem hi, hxe]
  have hd : x.data.toList.length = 64 := by rw [Array.length_toList]; exact h64
  simp only [ByteArray.data_append, Array.toList_append, Lib.extract_data, bL]
  unfold frCat
  rw [List.flatMap_append, List.flatMap_singleton]
  simp
  rw [List.take_of_length_le (by rw [List.length_drop, hd]; exact Nat.le_refl _)]
set_option maxRecDepth 100000 in
set_option maxHeartbeats 2000000 in
theorem stand_any (w : World) (b off cap : Nat) (l : List ByteArray) (h : Strs w b off l) (hcap : l.length ≤ cap) (hcm : cap ≤ maxLen) (h0 : l ≠ []) (h64 : ∀ f ∈ l, f.size = 64) (hl : l.length ≤ 4096) :
    Calls Try.prog 64 #[.slice (some ⟨b, off, none⟩) l.length cap] w fun e w' => e = .returned (.string (bL (standL l))) ∧ Below w.heap.size w w' := by
  obtain ⟨f0, fs, rfl⟩ := List.exists_cons_of_ne_nil h0
  have HC := Lib.hid h
  have c0 : w.cell? ⟨b, off, none⟩ = some (.string f0) := h 0 f0 rfl
  unfold maxLen at hcm
  have hs0 : f0.size = 64 := h64 f0 List.mem_cons_self
  have hi0 : 0 < f0.size := by omega
  have hi1 : 1 < f0.size := by omega
  have b0 := byte_get f0 0 hi0
  have b1 := byte_get f0 1 hi1
  have hlen : 0 < (f0 :: fs).length := by simp
  obtain ⟨x, hx⟩ : ∃ x, f0[0] = x := ⟨_, rfl⟩
  obtain ⟨y, hy⟩ : ∃ y, f0[1] = y := ⟨_, rfl⟩
  have hn : hdN (f0 :: fs) = x.toNat * 256 + y.toNat := by show hdB f0 = _; unfold hdB; rw [← b0, ← b1, hx, hy]
  have hor := or_byte x.toNat y.toNat (by have := x.toNat_lt; omega) y.toNat_lt
  rw [← hn] at hor
  have hnn : hdN (f0 :: fs) < 65536 := by have := x.toNat_lt; have := y.toNat_lt; omega
  obtain ⟨S, hS⟩ : ∃ S, standL (f0 :: fs) = S := ⟨_, rfl⟩
  rw [hS]
  have HS := Lib.hid hS
  obtain ⟨n, hnE⟩ : ∃ n, hdN (f0 :: fs) = n := ⟨_, rfl⟩
  rw [hnE] at hor hnn
  have HN := Lib.hid hnE
  obtain ⟨k, hk⟩ : ∃ k, nframes n = k := ⟨_, rfl⟩
  have hfr := fun w => frames_any (n : Int) w (by omega)
  simp only [frames_nat, hk] at hfr
  have HK := Lib.hid hk
  obtain ⟨L, hL⟩ : ∃ L, f0 :: fs = L := ⟨_, rfl⟩
  rw [hL] at hlen hl HC h64 HS HN hcap ⊢
  have HL := Lib.hid hL
  have H64 := Lib.hid h64
  clear h h0 hn hnE hS hk b0 b1 hL h64
  have hwx : wrap64 (x.toNat : Int) = x.toNat := by have := x.toNat_lt; unfold wrap64; omega
  have hwy : wrap64 (y.toNat : Int) = y.toNat := by have := y.toNat_lt; unfold wrap64; omega
  have hwz : wrap64 ((x.toNat : Int) * 256) = (x.toNat : Int) * 256 := by have := x.toNat_lt; unfold wrap64; omega
  have hk2 : k ≤ 1058 := by have := HK.out; unfold nframes at this; omega
  by_cases hg : 1 ≤ n ∧ n ≤ 60000 ∧ k ≤ L.length
  · obtain ⟨g1, g2, g3⟩ := hg
    have d1 : decide ((n : Int) < 1) = false := decide_eq_false (by omega)
    have d2 : decide ((60000 : Int) < n) = false := decide_eq_false (by omega)
    have d3 : decide ((L.length : Int) < k) = false := decide_eq_false (by omega)
    have d4 : decide (L.length < k) = false := decide_eq_false (by omega)
    go_enter Try.func64, Try.ntmps64
    go_wp2_with fail
    go_quiet (fail)
    have hb1 : Below w.heap.size w (w.drewN nq) := qt_below (Qt.drewN w nq)
    generalize w.drewN nq = w1 at *
    have HB1 := Lib.hid hb1
    clear hb1 hor hwx hwy hwz hx hy
    go_wp2_with fail
    refine (hfr _).mono ?_
    rintro e w2 ⟨rfl, rfl⟩
    go_wp2_with fail
    go_loopw [5, 40] (fun av iv wr => ∃ i : Nat, iv = .int .i64 i ∧ i ≤ k ∧ av = .string (bL (frCat (L.take i))) ∧ wr = w2) (fun _ iv _ => k - (intOf iv).toNat)
    case atStart => exact ⟨0, rfl, Nat.zero_le _, rfl, rfl⟩
    case round =>
      obtain ⟨i, rfl, hi, rfl, rfl⟩ := hrel
      by_cases hlt : i < k
      · have i1 : (i : Int) < k := by omega
        obtain ⟨x, hx⟩ : ∃ x, L[i]? = some x := ⟨_, List.getElem?_eq_getElem (by omega)⟩
        have hx64 : x.size = 64 := H64.out x (List.mem_of_getElem? hx)
        have ci : wr.cell? ⟨b, off + i, none⟩ = some (.string x) := (HC.out.below HB1.out) i x hx
        have hfl := frCat_length (L.take i) (fun f hf => H64.out f (List.mem_of_mem_take hf))
        have hbs := bL_size (frCat (L.take i))
        rw [hfl, List.length_take] at hbs
        have hbs2 : (bL (frCat (L.take i))).size ≤ 65596 := by omega
        have hsn : bL (frCat (L.take i)) ++ x.extract 2 64 = bL (frCat (L.take (i + 1))) := frCat_snoc L i x hx hx64
        have HSN := Lib.hid hsn
        generalize bL (frCat (L.take i)) = acc at *
        clear hsn hfl hbs hx
        go_wp2_with fail
        exact ⟨⟨i + 1, by go_num, hlt, by rw [HSN.out], trivial⟩, by simp [intOf]; omega⟩
      · have ei : i = k := by omega
        subst ei
        have hfl := frCat_length (L.take i) (fun f hf => H64.out f (List.mem_of_mem_take hf))
        have hbs := bL_size (frCat (L.take i))
        rw [hfl, List.length_take] at hbs
        have hkn : n ≤ 62 * i := by have := HK.out; unfold nframes at this; omega
        have hn1 : n ≤ (bL (frCat (L.take i))).size := by omega
        have hn2 : (n : Int) ≤ (bL (frCat (L.take i))).size := by omega
        have hrec : (bL (frCat (L.take i))).extract 0 n = bL (recL L) := by
          unfold recL; rw [HN.out, HK.out]
          apply ByteArray.ext; apply Array.ext'
          rw [Lib.extract_data]; simp [bL]
        have hrl : (recL L).length = n := by
          have := recL_length L H64.out (by rw [HN.out, HK.out]; exact g3)
          rw [this, HN.out]
        have hrs : (bL (recL L)).size = n := by rw [bL_size, hrl]
        have hcl : (cutL (recL L)).length = i := by rw [cutL_length, hrl, HK.out]
        have hst : stands L ↔ cutL (recL L) = L.take i := by
          unfold stands; rw [HN.out, HK.out]
          exact ⟨fun h => h.2.2.2, fun h => ⟨g1, g2, g3, h⟩⟩
        have HREC := Lib.hid hrec
        have HRL := Lib.hid hrl
        have HST := Lib.hid hst
        have HCL := Lib.hid hcl
        generalize bL (frCat (L.take i)) = acc at *
        clear hrec hrl hst hcl hfl hbs
        go_wp2_with fail
        rw [HREC.out]
        obtain ⟨a, haE⟩ : ∃ a, bL (recL L) = a := ⟨_, rfl⟩
        rw [haE] at hrs ⊢
        have HAE := Lib.hid haE
        clear haE
        go_loopw [56] (fun iv wr => ∃ j : Nat, iv = .int .i64 j ∧ j ≤ i ∧ (cutL (recL L)).take j = L.take j ∧ Below w.heap.size w wr) (fun iv _ => i - (intOf iv).toNat)
        case atStart => exact ⟨0, rfl, Nat.zero_le _, rfl, HB1.out⟩
        case round =>
          rename_i wr0
          obtain ⟨j, rfl, hj, htk, hbj⟩ := hrel
          have HT := Lib.hid htk
          have HBJ := Lib.hid hbj
          clear htk hbj
          by_cases hjl : j < i
          · have j1 : (j : Int) < i := by omega
            obtain ⟨x, hx⟩ : ∃ x, L[j]? = some x := ⟨_, List.getElem?_eq_getElem (by omega)⟩
            have cj : wr.cell? ⟨b, off + j, none⟩ = some (.string x) := (HC.out.below HBJ.out) j x hx
            have hal : a.data.toList = recL L := by rw [← HAE.out]; simp [bL]
            have hcj : (cutL (recL L))[j]? = some (frameB (a.extract (j * 62) n)) := by
              unfold cutL
              rw [List.getElem?_map, List.getElem?_range (by rw [HRL.out, HK.out]; exact hjl)]
              simp only [Option.map_some, frameB_of, Lib.extract_data, hal]
              congr 2
              have := HRL.out
              rw [List.take_of_length_le (by rw [List.length_drop, this]; exact Nat.le_refl _)]
            have hxs : (a.extract (j * 62) n).size ≤ 1000000 := by rw [ByteArray.size_extract]; omega
            have hjm : j * 62 ≤ n := by have := HK.out; unfold nframes at this; omega
            have z1 : (0 : Int) ≤ (j : Int) * 62 := by omega
            have z2 : (j : Int) * 62 ≤ n := by omega
            have HCJ := Lib.hid hcj
            obtain ⟨X, hX⟩ : ∃ X, frameB (a.extract (j * 62) n) = X := ⟨_, rfl⟩
            have hfrm := fun w => frame_any (a.extract (j * 62) n) w hxs
            rw [hX] at hcj hfrm
            have HCX := Lib.hid hcj
            have HX := Lib.hid hx
            clear hcj hX HCJ hal hx
            go_wp2_with fail
            refine (hfrm _).mono ?_
            rintro e w4 ⟨rfl, hb4⟩
            have HB4 := Lib.hid (HBJ.out.trans (hb4.mono HBJ.out.size))
            clear hb4
            by_cases q : X = x
            · subst q
              have hre := str_refl X
              go_wp2_with fail
              have htn : (cutL (recL L)).take (j + 1) = L.take (j + 1) := by
                obtain ⟨p1, p2⟩ := List.getElem?_eq_some_iff.1 HCX.out
                obtain ⟨p3, p4⟩ := List.getElem?_eq_some_iff.1 HX.out
                rw [List.take_succ_eq_append_getElem p1, List.take_succ_eq_append_getElem p3, p2, p4, HT.out]
              exact ⟨⟨j + 1, by go_num, hjl, htn, HB4.out⟩, by simp [intOf]; omega⟩
            · have hne := str_ne q
              have hS : S = [] := by
                rw [← HS.out]; unfold standL
                rw [if_neg]
                intro hs
                have h1 := HST.out.1 hs
                have h2 := HCX.out
                rw [h1, List.getElem?_take_of_lt hjl, HX.out] at h2
                exact q (Option.some.inj h2).symm
              subst hS
              go_wp2_with fail
              go_ret
              exact ⟨rfl, HB4.out⟩
          · have ej : j = i := by omega
            subst ej
            have hS : S = recL L := by
              rw [← HS.out]; unfold standL
              rw [if_pos]
              rw [HST.out, ← HT.out, List.take_of_length_le (by rw [HCL.out]; exact Nat.le_refl _)]
            subst hS
            go_wp2_with fail
            go_ret
            exact ⟨by rw [HAE.out]; rfl, HBJ.out⟩
  · have hS : S = [] := by
      rw [← HS.out]; unfold standL
      rw [if_neg]
      intro hs
      unfold stands at hs
      rw [HN.out, HK.out] at hs
      exact hg ⟨hs.1, hs.2.1, hs.2.2.1⟩
    subst hS
    have hd : (decide (n < 1) = true) ∨ (decide (n < 1) = false ∧ decide (60000 < n) = true) ∨ (decide (n < 1) = false ∧ decide (60000 < n) = false ∧ decide (L.length < k) = true) := by
      simp only [decide_eq_true_eq, decide_eq_false_iff_not]; omega
    clear hg
    rcases hd with d1 | ⟨d1, d2⟩ | ⟨d1, d2, d3⟩
    · have e1 : decide ((n : Int) < 1) = true := by rw [← d1]; congr 1; simp; omega
      go_enter Try.func64, Try.ntmps64
      go_wp2_with fail
      go_quiet (fail)
      have hb1 : Below w.heap.size w (w.drewN nq) := qt_below (Qt.drewN w nq)
      generalize w.drewN nq = w1 at *
      have HB1 := Lib.hid hb1
      clear hb1 hor hwx hwy hwz hx hy
      go_wp2_with fail
      refine (hfr _).mono ?_
      rintro e w2 ⟨rfl, rfl⟩
      go_wp2_with fail
      go_ret
      exact ⟨rfl, HB1.out⟩
    · have e1 : decide ((n : Int) < 1) = false := by rw [← d1]; congr 1; simp; omega
      have e2 : decide ((60000 : Int) < n) = true := by rw [← d2]; congr 1; simp; omega
      go_enter Try.func64, Try.ntmps64
      go_wp2_with fail
      go_quiet (fail)
      have hb1 : Below w.heap.size w (w.drewN nq) := qt_below (Qt.drewN w nq)
      generalize w.drewN nq = w1 at *
      have HB1 := Lib.hid hb1
      clear hb1 hor hwx hwy hwz hx hy
      go_wp2_with fail
      refine (hfr _).mono ?_
      rintro e w2 ⟨rfl, rfl⟩
      go_wp2_with fail
      go_ret
      exact ⟨rfl, HB1.out⟩
    · have e1 : decide ((n : Int) < 1) = false := by rw [← d1]; congr 1; simp; omega
      have e2 : decide ((60000 : Int) < n) = false := by rw [← d2]; congr 1; simp; omega
      have e3 : decide ((L.length : Int) < k) = true := by rw [← d3]; congr 1; simp
      go_enter Try.func64, Try.ntmps64
      go_wp2_with fail
      go_quiet (fail)
      have hb1 : Below w.heap.size w (w.drewN nq) := qt_below (Qt.drewN w nq)
      generalize w.drewN nq = w1 at *
      have HB1 := Lib.hid hb1
      clear hb1 hor hwx hwy hwz hx hy
      go_wp2_with fail
      refine (hfr _).mono ?_
      rintro e w2 ⟨rfl, rfl⟩
      go_wp2_with fail
      go_ret
      exact ⟨rfl, HB1.out⟩
end Go.Proofs.Ytncbojocglcieaa
