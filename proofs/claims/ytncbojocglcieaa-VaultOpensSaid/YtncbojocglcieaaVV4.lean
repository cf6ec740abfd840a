/- Lemmas for the laws of one seat, texts C2 C3 C4 CpK C5; no condition beyond those that each states. -/
import Derived.Test.YtncbojocglcieaaVV3
import Derived.Lib.Strings
import Derived.Lib.BufferWrite
import Derived.Deep.RegionLaw
/- bank: stand. -/
namespace Go.Proofs.Ytncbojocglcieaa
open Go.RowKit
set_option linter.unusedSimpArgs false
set_option linter.unusedVariables false
theorem byte_get (s : ByteArray) (i : Nat) (h : i < s.size) : (s[i] : UInt8) = s.data.toList.getD i 0 := by
  have : i < s.data.size := h
  show s.data[i] = _
  simp only [List.getD, Array.getElem?_toList]
  rw [Array.getElem?_eq_getElem this]; rfl
def bL (l : List UInt8) : ByteArray := ⟨l.toArray⟩
theorem bL_size (l : List UInt8) : (bL l).size = l.length := by simp [bL, ByteArray.size]
theorem qt_below {w w' : World} (q : Qt w w') : Below w.heap.size w w' := ⟨q.os, q.tape, q.output, by rw [q.heap]; exact Nat.le_refl _, fun k _ => by rw [q.heap]⟩
/-- Strings that can be read. -/
def Strs (w : World) (b off : Nat) (l : List ByteArray) : Prop := ∀ i x, l[i]? = some x → w.cell? ⟨b, off + i, none⟩ = some (.string x)
theorem Strs.below {w w' : World} {b off : Nat} {l : List ByteArray} (h : Strs w b off l) (hb : Below w.heap.size w w') : Strs w' b off l := fun i x hx => by
  have := h i x hx
  rw [hb.cell (World.block_lt_of_cell? _ _ this)]; exact this
theorem Strs.drop {w : World} {b off : Nat} {l : List ByteArray} (h : Strs w b off l) (n : Nat) : Strs w b (off + n) (l.drop n) := fun i x hx => by
  rw [Nat.add_assoc]; exact h (n + i) x (by rw [← hx, List.getElem?_drop])
theorem Row.strs {w : World} {B : Nat} {v : Value} {l : List ByteArray} (h : Row EStr w B v l) (h0 : l ≠ []) : ∃ g cap, v = .slice (some ⟨g, 0, none⟩) l.length cap ∧ l.length ≤ cap ∧ cap ≤ maxLen ∧ B ≤ g ∧ Strs w g 0 l := by
  obtain ⟨g, cap, e, h1, h2, h3, h4, h5, _⟩ := h.slice h0
  refine ⟨g, cap, e, h3, h4, h1, fun i x hx => ?_⟩
  have := h5 i x hx 0 (by decide)
  rw [Nat.zero_add]
  simpa [EStr] using this
theorem frCat_snoc (L : List ByteArray) (i : Nat) (x : ByteArray) (hx : L[i]? = some x) (h64 : x.size = 64) : bL (frCat (L.take i)) ++ x.extract 2 64 = bL (frCat (L.take (i + 1))) := by
  obtain ⟨hi, hxe⟩ := List.getElem?_eq_some_iff.1 hx
  apply ByteArray.ext; apply Array.ext'
  rw [List.take_succ_eq_append_getElem hi, hxe]
  have hd : x.data.toList.length = 64 := by rw [Array.length_toList]; exact h64
  simp only [ByteArray.data_append, Array.toList_append, Lib.extract_data, bL]
  unfold frCat
  rw [List.flatMap_append, List.flatMap_singleton]
  simp
  rw [List.take_of_length_le (by rw [List.length_drop, hd]; exact Nat.le_refl _)]
set_option maxRecDepth 100000 in
set_option maxHeartbeats 2000000 in
theorem stand_any (w : World) (b off cap : Nat) (l : List ByteArray) (h : Strs w b off l) (hcap : l.length ≤ cap) (hcm : cap ≤ maxLen) (h0 : l ≠ []) (h64 : ∀ f ∈ l, f.size = 64) (hl : l.length ≤ 4096) :
    Calls Try.prog 64 #[.slice (some ⟨b, off, none⟩) l.length cap] w fun e w' => e = .returned (.string (bL (standL l))) ∧ Below w.heap.size w w' := by
  obtain ⟨f0, fs, rfl⟩ := List.exists_cons_of_ne_nil h0
  have HC := Lib.hid h
  have c0 : w.cell? ⟨b, off, none⟩ = some (.string f0) := h 0 f0 rfl
  unfold maxLen at hcm
  have hs0 : f0.size = 64 := h64 f0 List.mem_cons_self
  have hi0 : 0 < f0.size := by omega
  have hi1 : 1 < f0.size := by omega
  have b0 := byte_get f0 0 hi0
  have b1 := byte_get f0 1 hi1
  have hlen : 0 < (f0 :: fs).length := by simp
  obtain ⟨x, hx⟩ : ∃ x, f0[0] = x := ⟨_, rfl⟩
  obtain ⟨y, hy⟩ : ∃ y, f0[1] = y := ⟨_, rfl⟩
  have hn : hdN (f0 :: fs) = x.toNat * 256 + y.toNat := by show hdB f0 = _; unfold hdB; rw [← b0, ← b1, hx, hy]
  have hor := or_byte x.toNat y.toNat (by have := x.toNat_lt; omega) y.toNat_lt
  rw [← hn] at hor
  have hnn : hdN (f0 :: fs) < 65536 := by have := x.toNat_lt; have := y.toNat_lt; omega
  obtain ⟨S, hS⟩ : ∃ S, standL (f0 :: fs) = S := ⟨_, rfl⟩
  rw [hS]
  have HS := Lib.hid hS
  obtain ⟨n, hnE⟩ : ∃ n, hdN (f0 :: fs) = n := ⟨_, rfl⟩
  rw [hnE] at hor hnn
  have HN := Lib.hid hnE
  obtain ⟨k, hk⟩ : ∃ k, nframes n = k := ⟨_, rfl⟩
  have hfr := fun w => frames_any (n : Int) w (by omega)
  simp only [frames_nat, hk] at hfr
  have HK := Lib.hid hk
  obtain ⟨L, hL⟩ : ∃ L, f0 :: fs = L := ⟨_, rfl⟩
  rw [hL] at hlen hl HC h64 HS HN hcap ⊢
  have HL := Lib.hid hL
  have H64 := Lib.hid h64
  clear h h0 hn hnE hS hk b0 b1 hL h64
  have hwx : wrap64 (x.toNat : Int) = x.toNat := by have := x.toNat_lt; unfold wrap64; omega
  have hwy : wrap64 (y.toNat : Int) = y.toNat := by have := y.toNat_lt; unfold wrap64; omega
  have hwz : wrap64 ((x.toNat : Int) * 256) = (x.toNat : Int) * 256 := by have := x.toNat_lt; unfold wrap64; omega
  have hk2 : k ≤ 1058 := by have := HK.out; unfold nframes at this; omega
  by_cases hg : 1 ≤ n ∧ n ≤ 60000 ∧ k ≤ L.length
  · obtain ⟨g1, g2, g3⟩ := hg
    have d1 : decide ((n : Int) < 1) = false := decide_eq_false (by omega)
    have d2 : decide ((60000 : Int) < n) = false := decide_eq_false (by omega)
    have d3 : decide ((L.length : Int) < k) = false := decide_eq_false (by omega)
    have d4 : decide (L.length < k) = false := decide_eq_false (by omega)
    go_enter Try.func64, Try.ntmps64
    go_wp2_with fail
    go_quiet (fail)
    have hb1 : Below w.heap.size w (w.drewN nq) := qt_below (Qt.drewN w nq)
    generalize w.drewN nq = w1 at *
    have HB1 := Lib.hid hb1
    clear hb1 hor hwx hwy hwz hx hy
    go_wp2_with fail
    refine (hfr _).mono ?_
    rintro e w2 ⟨rfl, rfl⟩
    go_wp2_with fail
    go_loopw [5, 40] (fun av iv wr => ∃ i : Nat, iv = .int .i64 i ∧ i ≤ k ∧ av = .string (bL (frCat (L.take i))) ∧ wr = w2) (fun _ iv _ => k - (intOf iv).toNat)
    case atStart => exact ⟨0, rfl, Nat.zero_le _, rfl, rfl⟩
    case round =>
      obtain ⟨i, rfl, hi, rfl, rfl⟩ := hrel
      by_cases hlt : i < k
      · have i1 : (i : Int) < k := by omega
        obtain ⟨x, hx⟩ : ∃ x, L[i]? = some x := ⟨_, List.getElem?_eq_getElem (by omega)⟩
        have hx64 : x.size = 64 := H64.out x (List.mem_of_getElem? hx)
        have ci : wr.cell? ⟨b, off + i, none⟩ = some (.string x) := (HC.out.below HB1.out) i x hx
        have hfl := frCat_length (L.take i) (fun f hf => H64.out f (List.mem_of_mem_take hf))
        have hbs := bL_size (frCat (L.take i))
        rw [hfl, List.length_take] at hbs
        have hbs2 : (bL (frCat (L.take i))).size ≤ 65596 := by omega
        have hsn : bL (frCat (L.take i)) ++ x.extract 2 64 = bL (frCat (L.take (i + 1))) := frCat_snoc L i x hx hx64
        have HSN := Lib.hid hsn
        generalize bL (frCat (L.take i)) = acc at *
        clear hsn hfl hbs hx
        go_wp2_with fail
        exact ⟨⟨i + 1, by go_num, hlt, by rw [HSN.out], trivial⟩, by simp [intOf]; omega⟩
      · have ei : i = k := by omega
        subst ei
        have hfl := frCat_length (L.take i) (fun f hf => H64.out f (List.mem_of_mem_take hf))
        have hbs := bL_size (frCat (L.take i))
        rw [hfl, List.length_take] at hbs
        have hkn : n ≤ 62 * i := by have := HK.out; unfold nframes at this; omega
        have hn1 : n ≤ (bL (frCat (L.take i))).size := by omega
        have hn2 : (n : Int) ≤ (bL (frCat (L.take i))).size := by omega
        have hrec : (bL (frCat (L.take i))).extract 0 n = bL (recL L) := by
          unfold recL; rw [HN.out, HK.out]
          apply ByteArray.ext; apply Array.ext'
          rw [Lib.extract_data]; simp [bL]
        have hrl : (recL L).length = n := by
          have := recL_length L H64.out (by rw [HN.out, HK.out]; exact g3)
          rw [this, HN.out]
        have hrs : (bL (recL L)).size = n := by rw [bL_size, hrl]
        have hcl : (cutL (recL L)).length = i := by rw [cutL_length, hrl, HK.out]
        have hst : stands L ↔ cutL (recL L) = L.take i := by
          unfold stands; rw [HN.out, HK.out]
          exact ⟨fun h => h.2.2.2, fun h => ⟨g1, g2, g3, h⟩⟩
        have HREC := Lib.hid hrec
        have HRL := Lib.hid hrl
        have HST := Lib.hid hst
        have HCL := Lib.hid hcl
        generalize bL (frCat (L.take i)) = acc at *
        clear hrec hrl hst hcl hfl hbs
        go_wp2_with fail
        rw [HREC.out]
        obtain ⟨a, haE⟩ : ∃ a, bL (recL L) = a := ⟨_, rfl⟩
        rw [haE] at hrs ⊢
        have HAE := Lib.hid haE
        clear haE
        go_loopw [56] (fun iv wr => ∃ j : Nat, iv = .int .i64 j ∧ j ≤ i ∧ (cutL (recL L)).take j = L.take j ∧ Below w.heap.size w wr) (fun iv _ => i - (intOf iv).toNat)
        case atStart => exact ⟨0, rfl, Nat.zero_le _, rfl, HB1.out⟩
        case round =>
          rename_i wr0
          obtain ⟨j, rfl, hj, htk, hbj⟩ := hrel
          have HT := Lib.hid htk
          have HBJ := Lib.hid hbj
          clear htk hbj
          by_cases hjl : j < i
          · have j1 : (j : Int) < i := by omega
            obtain ⟨x, hx⟩ : ∃ x, L[j]? = some x := ⟨_, List.getElem?_eq_getElem (by omega)⟩
            have cj : wr.cell? ⟨b, off + j, none⟩ = some (.string x) := (HC.out.below HBJ.out) j x hx
            have hal : a.data.toList = recL L := by rw [← HAE.out]; simp [bL]
            have hcj : (cutL (recL L))[j]? = some (frameB (a.extract (j * 62) n)) := by
              unfold cutL
              rw [List.getElem?_map, List.getElem?_range (by rw [HRL.out, HK.out]; exact hjl)]
              simp only [Option.map_some, frameB_of, Lib.extract_data, hal]
              congr 2
              have := HRL.out
              rw [List.take_of_length_le (by rw [List.length_drop, this]; exact Nat.le_refl _)]
            have hxs : (a.extract (j * 62) n).size ≤ 1000000 := by rw [ByteArray.size_extract]; omega
            have hjm : j * 62 ≤ n := by have := HK.out; unfold nframes at this; omega
            have z1 : (0 : Int) ≤ (j : Int) * 62 := by omega
            have z2 : (j : Int) * 62 ≤ n := by omega
            have HCJ := Lib.hid hcj
            obtain ⟨X, hX⟩ : ∃ X, frameB (a.extract (j * 62) n) = X := ⟨_, rfl⟩
            have hfrm := fun w => frame_any (a.extract (j * 62) n) w hxs
            rw [hX] at hcj hfrm
            have HCX := Lib.hid hcj
            have HX := Lib.hid hx
            clear hcj hX HCJ hal hx
            go_wp2_with fail
            refine (hfrm _).mono ?_
            rintro e w4 ⟨rfl, hb4⟩
            have HB4 := Lib.hid (HBJ.out.trans (hb4.mono HBJ.out.size))
            clear hb4
            by_cases q : X = x
            · subst q
              have hre := str_refl X
              go_wp2_with fail
              have htn : (cutL (recL L)).take (j + 1) = L.take (j + 1) := by
                obtain ⟨p1, p2⟩ := List.getElem?_eq_some_iff.1 HCX.out
                obtain ⟨p3, p4⟩ := List.getElem?_eq_some_iff.1 HX.out
                rw [List.take_succ_eq_append_getElem p1, List.take_succ_eq_append_getElem p3, p2, p4, HT.out]
              exact ⟨⟨j + 1, by go_num, hjl, htn, HB4.out⟩, by simp [intOf]; omega⟩
            · have hne := str_ne q
              have hS : S = [] := by
                rw [← HS.out]; unfold standL
                rw [if_neg]
                intro hs
                have h1 := HST.out.1 hs
                have h2 := HCX.out
                rw [h1, List.getElem?_take_of_lt hjl, HX.out] at h2
                exact q (Option.some.inj h2).symm
              subst hS
              go_wp2_with fail
              go_ret
              exact ⟨rfl, HB4.out⟩
          · have ej : j = i := by omega
            subst ej
            have hS : S = recL L := by
              rw [← HS.out]; unfold standL
              rw [if_pos]
              rw [HST.out, ← HT.out, List.take_of_length_le (by rw [HCL.out]; exact Nat.le_refl _)]
            subst hS
            go_wp2_with fail
            go_ret
            exact ⟨by rw [HAE.out]; rfl, HBJ.out⟩
  · have hS : S = [] := by
      rw [← HS.out]; unfold standL
      rw [if_neg]
      intro hs
      unfold stands at hs
      rw [HN.out, HK.out] at hs
      exact hg ⟨hs.1, hs.2.1, hs.2.2.1⟩
    subst hS
    have hd : (decide (n < 1) = true) ∨ (decide (n < 1) = false ∧ decide (60000 < n) = true) ∨ (decide (n < 1) = false ∧ decide (60000 < n) = false ∧ decide (L.length < k) = true) := by
      simp only [decide_eq_true_eq, decide_eq_false_iff_not]; omega
    clear hg
    rcases hd with d1 | ⟨d1, d2⟩ | ⟨d1, d2, d3⟩
    · have e1 : decide ((n : Int) < 1) = true := by rw [← d1]; congr 1; simp; omega
      go_enter Try.func64, Try.ntmps64
      go_wp2_with fail
      go_quiet (fail)
      have hb1 : Below w.heap.size w (w.drewN nq) := qt_below (Qt.drewN w nq)
      generalize w.drewN nq = w1 at *
      have HB1 := Lib.hid hb1
      clear hb1 hor hwx hwy hwz hx hy
      go_wp2_with fail
      refine (hfr _).mono ?_
      rintro e w2 ⟨rfl, rfl⟩
      go_wp2_with fail
      go_ret
      exact ⟨rfl, HB1.out⟩
    · have e1 : decide ((n : Int) < 1) = false := by rw [← d1]; congr 1; simp; omega
      have e2 : decide ((60000 : Int) < n) = true := by rw [← d2]; congr 1; simp; omega
      go_enter Try.func64, Try.ntmps64
      go_wp2_with fail
      go_quiet (fail)
      have hb1 : Below w.heap.size w (w.drewN nq) := qt_below (Qt.drewN w nq)
      generalize w.drewN nq = w1 at *
      have HB1 := Lib.hid hb1
      clear hb1 hor hwx hwy hwz hx hy
      go_wp2_with fail
      refine (hfr _).mono ?_
      rintro e w2 ⟨rfl, rfl⟩
      go_wp2_with fail
      go_ret
      exact ⟨rfl, HB1.out⟩
    · have e1 : decide ((n : Int) < 1) = false := by rw [← d1]; congr 1; simp; omega
      have e2 : decide ((60000 : Int) < n) = false := by rw [← d2]; congr 1; simp; omega
      have e3 : decide ((L.length : Int) < k) = true := by rw [← d3]; congr 1; simp
      go_enter Try.func64, Try.ntmps64
      go_wp2_with fail
      go_quiet (fail)
      have hb1 : Below w.heap.size w (w.drewN nq) := qt_below (Qt.drewN w nq)
      generalize w.drewN nq = w1 at *
      have HB1 := Lib.hid hb1
      clear hb1 hor hwx hwy hwz hx hy
      go_wp2_with fail
      refine (hfr _).mono ?_
      rintro e w2 ⟨rfl, rfl⟩
      go_wp2_with fail
      go_ret
      exact ⟨rfl, HB1.out⟩
end Go.Proofs.Ytncbojocglcieaa

/- bank: Scan. -/
namespace Go.Proofs.Ytncbojocglcieaa
open Go.RowKit
set_option linter.unusedSimpArgs false
set_option linter.unusedVariables false
theorem stand_fits (l : List ByteArray) (h64 : ∀ f ∈ l, f.size = 64) (h : standL l ≠ []) : nframes (standL l).length ≤ l.length ∧ (standL l).length ≤ 60000 ∧ 0 < (standL l).length := by
  have hst : stands l := by
    by_cases q : stands l
    · exact q
    · exact absurd (by unfold standL; rw [if_neg q]) h
  have e : standL l = recL l := by unfold standL; rw [if_pos hst]
  rw [e, recL_length l h64 hst.2.2.1]
  exact ⟨hst.2.2.1, hst.2.1, hst.1⟩
theorem str_full {x : ByteArray} (h : x.size ≠ 0) : x.toList.isEmpty = false := by
  rw [ByteArray.toList_eq]
  cases hx : x.data.toList with
  | nil => exact absurd (by show x.data.size = 0; rw [← Array.length_toList, hx]; rfl) h
  | cons a l => rfl
/-- What stands in a bank, its end, and the error. -/
def DevD.scan (d : DevD) (f s : Int) : List (List UInt8) × Int × Int :=
  if d.left = 0 then ([], 0, 13) else if d.on f s = false then ([], 0, 1) else
    ((scanned ((d.secs f s.toNat).drop 1)).1, ((1 + (scanned ((d.secs f s.toNat).drop 1)).2 : Nat) : Int), 0)
def ScanRel (w1 : World) (N1 : Nat) (F : List ByteArray) (ov av : Value) (wr : World) : Prop :=
  ∃ (a : Nat) (rs : List (List UInt8)), av = .int .i64 a ∧ 1 ≤ a ∧ a ≤ F.length ∧ rs.length ≤ a ∧ Row EStr wr N1 ov (rs.map bL) ∧
    (scanned (F.drop 1)).1 = rs ++ (scanned (F.drop a)).1 ∧ 1 + (scanned (F.drop 1)).2 = a + (scanned (F.drop a)).2 ∧ Below N1 w1 wr
set_option maxRecDepth 100000 in
set_option maxHeartbeats 2000000 in
theorem scan_any {w0 w : World} {R : Nat → Prop} {g : Nat} {d : DevD} (f s : Int) (h : OwnR w0 w R g d) (hs : s ≤ 9223372036854775807) (hd : d.size ≤ 4096) (h64 : ∀ i, (d.sec i).size = 64) :
    Calls Try.prog 36 #[.pointer (some ⟨g, 0, none⟩), .int .i64 f, .int .i64 s] w fun e w' => ∃ v, e = .returned (.tuple #[v, .int .i64 (d.scan f s).2.1, .int .i64 (d.scan f s).2.2]) ∧ Row EStr w' w.heap.size v ((d.scan f s).1.map bL) ∧ OwnR w0 w' R g d ∧ Below w.heap.size w w' := by
  have H := Lib.hid h
  clear h
  obtain ⟨sc, hsc⟩ : ∃ sc, d.scan f s = sc := ⟨_, rfl⟩
  rw [hsc]
  have HSC := Lib.hid hsc
  clear hsc
  by_cases e1 : d.left = 0
  · have hw : sc = ([], 0, 13) := by rw [← HSC.out]; unfold DevD.scan; rw [if_pos e1]
    have hp : d.pow = 13 := by unfold DevD.pow; rw [if_pos e1]
    subst hw
    go_enter Try.func36, Try.ntmps36
    go_wp2_with fail
    refine (power_any H.out).mono ?_
    rintro e w2 ⟨rfl, h2, hb2⟩
    rw [hp]
    have H2 := Lib.hid h2
    go_wp2_with fail
    go_ret3
    exact ⟨_, rfl, Row.nil _ _ _, H2.out, hb2⟩
  · have hp : d.pow = 0 := by unfold DevD.pow; rw [if_neg e1]
    obtain ⟨o, ho⟩ : ∃ o, d.on f s = o := ⟨_, rfl⟩
    have HON := Lib.hid ho
    have E1 := Lib.hid e1
    clear e1 ho
    cases o
    · have hw : sc = ([], 0, 1) := by rw [← HSC.out]; unfold DevD.scan; rw [if_neg E1.out, if_pos HON.out]
      subst hw
      go_enter Try.func36, Try.ntmps36
      go_wp2_with fail
      refine (power_any H.out).mono ?_
      rintro e w2 ⟨rfl, h2, hb2⟩
      rw [hp]
      have H2 := Lib.hid h2
      have HB2 := Lib.hid hb2
      clear h2 hb2
      go_wp2_with fail
      refine (on_any f s H2.out hs hd).mono ?_
      rintro e w3 ⟨rfl, rfl⟩
      rw [HON.out]
      go_wp2_with fail
      go_ret3
      exact ⟨_, rfl, Row.nil _ _ _, H2.out, HB2.out⟩
    · have hon : 1 ≤ s ∧ 0 ≤ f ∧ f + s ≤ d.size := by have := HON.out; unfold DevD.on at this; simpa using this
      obtain ⟨q1, q2, q3⟩ := hon
      obtain ⟨n, rfl⟩ : ∃ n : Nat, s = n := ⟨s.toNat, by omega⟩
      have hF64 : ∀ x ∈ d.secs f n, x.size = 64 := by
        intro x hx
        unfold DevD.secs at hx
        obtain ⟨i, _, rfl⟩ := List.mem_map.1 hx
        exact h64 _
      have hFl := secs_length d f n
      have hw : sc = ((scanned ((d.secs f n).drop 1)).1, ((1 + (scanned ((d.secs f n).drop 1)).2 : Nat) : Int), 0) := by
        rw [← HSC.out]; unfold DevD.scan; rw [if_neg E1.out, if_neg (by rw [HON.out]; decide)]; rfl
      subst hw
      have hfr : ∀ {wx : World}, OwnR w0 wx R g d → Calls Try.prog 63 #[.pointer (some ⟨g, 0, none⟩), .int .i64 f, .int .i64 n] wx fun e w' => ∃ v, e = .returned (.tuple #[v, .int .i64 0]) ∧ Row EStr w' wx.heap.size v (d.secs f n) ∧ OwnR w0 w' R g d ∧ Below wx.heap.size wx w' :=
        fun hx => frames_ok f n hx E1.out q2 q3 hd
      generalize d.secs f n = F at *
      have H64 := Lib.hid hF64
      clear h64 hF64 HSC
      have hFne : F ≠ [] := by intro q; rw [q] at hFl; simp at hFl; omega
      go_enter Try.func36, Try.ntmps36
      go_wp2_with fail
      refine (power_any H.out).mono ?_
      rintro e w2 ⟨rfl, h2, hb2⟩
      rw [hp]
      have H2 := Lib.hid h2
      have HB2 := Lib.hid hb2
      clear h2 hb2
      go_wp2_with fail
      refine (on_any f n H2.out hs hd).mono ?_
      rintro e w3 ⟨rfl, rfl⟩
      rw [HON.out]
      go_wp2_with fail
      refine (hfr H2.out).mono ?_
      rintro e w4 ⟨fv, rfl, hr4, h4, hb4⟩
      obtain ⟨fg, fcap, rfl, hc1, hc2, hc3, hst4⟩ := hr4.strs hFne
      have hfgl : fg < w4.heap.size := by have := hr4.lt (k := fg) rfl; exact this
      have H4 := Lib.hid h4
      have HB4 := Lib.hid (HB2.out.trans (hb4.mono HB2.out.size))
      have HS4 := Lib.hid hst4
      clear h4 hb4 hst4 hr4
      obtain ⟨N1, hN1⟩ : ∃ N, w4.heap.size = N := ⟨_, rfl⟩
      have hNw : w.heap.size ≤ N1 := by rw [← hN1]; exact HB4.out.size
      go_wp2_with fail
      go_loopw [12, 13] (fun ov av wr => ScanRel w4 N1 F ov av wr) (fun _ av _ => F.length - (intOf av).toNat)
      case atStart => exact ⟨1, [], rfl, Nat.le_refl _, by omega, by simp, Row.nil _ _ _, rfl, rfl, Below.refl _ _⟩
      case round =>
        obtain ⟨a, rs, rfl, ha1, ha2, hrl, hr, hs1, hs2, hb⟩ := hrel
        have HR := Lib.hid hr
        have HB := Lib.hid hb
        have HS1 := Lib.hid hs1
        have HS2 := Lib.hid hs2
        have hNr : N1 ≤ wr.heap.size := by have := hb.size; omega
        obtain ⟨oa, oc, rfl⟩ := hr.shape
        rw [List.length_map] at HR ⊢
        clear hr hb hs1 hs2
        by_cases hlt : a < F.length
        · have i1 : (a : Int) < n := by omega
          have i2 : (a : Int) ≤ n := by omega
          have i3 : a ≤ n := by omega
          have i4 : n ≤ fcap := by omega
          have hSr : Strs wr fg (0 + a) (F.drop a) := ((HS4.out.below (by rw [hN1]; exact HB.out)).drop a)
          rw [Nat.zero_add] at hSr
          have hdl : (F.drop a).length = n - a := by rw [List.length_drop, hFl]
          have hdne : F.drop a ≠ [] := by intro q; have := congrArg List.length q; rw [hdl] at this; simp at this; omega
          have hd64 : ∀ x ∈ F.drop a, x.size = 64 := fun x hx => H64.out x (List.mem_of_mem_drop hx)
          have hstd := stand_any wr fg a (fcap - a) (F.drop a) hSr (by omega) (by unfold maxLen at *; omega) hdne hd64 (by omega)
          rw [hdl] at hstd
          have hfit := stand_fits (F.drop a) hd64
          have hgo := scanned_go (F.drop a) hdne
          have hstop := scanned_stop (F.drop a)
          rw [hdl] at hfit
          generalize hS : standL (F.drop a) = S at *
          have HSTD := Lib.hid hstd
          have HFIT := Lib.hid hfit
          have HGO := Lib.hid hgo
          have HSTOP := Lib.hid hstop
          clear hSr hdl hdne hd64 hstd hfit hgo hstop hS
          go_wp2_with fail
          refine HSTD.out.mono ?_
          rintro e w5 ⟨rfl, hb5⟩
          have HR5 := Lib.hid (HR.out.below hb5)
          have HB5 := Lib.hid (HB.out.trans (hb5.mono hNr))
          have hNr5 : N1 ≤ w5.heap.size := Nat.le_trans hNr hb5.size
          clear hb5
          by_cases q : S = []
          · have e3 := HSTOP.out q
            subst q
            rw [show bL ([] : List UInt8) = ⟨#[]⟩ from rfl]
            go_wp2_with fail
            go_ret3
            have e1 := HS1.out
            have e2 := HS2.out
            rw [e3] at e1 e2
            rw [e1, List.append_nil]
            refine ⟨_, by rw [e2]; rfl, HR5.out.mono hNw, H4.out.below (by rw [hN1]; exact HB5.out), HB4.out.trans (HB5.out.mono hNw)⟩
          · obtain ⟨f1, f2, f3⟩ := HFIT.out q
            have e3 := HGO.out q
            rw [List.drop_drop] at e3
            have hXs := bL_size S
            have hne := str_full (x := bL S) (by rw [hXs]; omega)
            have hfk := fun w => frames_any (S.length : Int) w (by omega)
            simp only [frames_nat] at hfk
            have hmap : (rs ++ [S]).map bL = rs.map bL ++ [bL S] := by simp
            have HE3 := Lib.hid e3
            have HM := Lib.hid hmap
            have hnp := nframes_pos f3
            generalize nframes S.length = k at *
            generalize bL S = X at *
            clear q e3 hmap
            go_wp2_with (first
              | (refine app_row EStr.laid rfl _ _ 49 49 Try.underlying49 Try.underlying49 rfl _ (rs.map bL) rfl (HR5.out.alloc _) _ [X] rfl ?c1 ?c2 ?c3 (Nat.le_trans hNr5 (by simp)) ?_
                 case c1 => exact Arg.blk (m_alloc _ _ _ rfl) [X] rfl 1
                 case c2 => rw [List.length_map]; show (rs.length + 1) * 16 ≤ _; omega
                 case c3 => rw [List.length_map]; show rs.length + 1 ≤ maxLen; unfold maxLen; omega
                 intro v6 w6 hr6 hv6 k6))
            refine (hfk _).mono ?_
            rintro e w7 ⟨rfl, rfl⟩
            rw [← HM.out] at hr6
            have hb7 : Below N1 w4 w7 := (HB5.out.alloc (by omega) _).trans (k6.toBelow (by simp; omega) (fun k q => HR5.out.ge q.symm))
            have HR7 := Lib.hid hr6
            have HB7 := Lib.hid hb7
            clear hr6 hb7 k6 hv6
            have z1 : (a : Int) + k ≤ n := by omega
            go_wp2_with fail
            refine ⟨⟨a + k, rs ++ [S], by go_num, by omega, by omega, by simp; omega, HR7.out, ?_, ?_, HB7.out⟩, by simp [intOf]; omega⟩
            · rw [HS1.out, HE3.out]; simp
            · rw [HS2.out, HE3.out]; simp only []; omega
        · have ea : a = F.length := by omega
          subst ea
          go_wp2_with fail
          go_ret3
          have e1 := HS1.out
          have e2 := HS2.out
          rw [List.drop_length] at e1 e2
          rw [e1, show (scanned []).1 = [] from rfl, List.append_nil]
          refine ⟨_, by rw [e2]; rfl, HR.out.mono hNw, H4.out.below (by rw [hN1]; exact HB.out), HB4.out.trans (HB.out.mono hNw)⟩
end Go.Proofs.Ytncbojocglcieaa

/- bank: Wipe. -/
namespace Go.Proofs.Ytncbojocglcieaa
open Go.RowKit
set_option linter.unusedSimpArgs false
set_option linter.unusedVariables false
/-- Sectors that are made noughts, up to the first error. -/
def DevD.wipes : DevD → Int → Nat → DevD × Int
  | d, _, 0 => (d, 0)
  | d, pos, n + 1 => if d.left = 0 then (d, 13) else if d.sec pos = zsec then d.wipes (pos + 1) n else (d.put pos zsec).wipes (pos + 1) n
def DevD.wipe (d : DevD) (f s a : Int) : DevD × Int := if d.left = 0 then (d, 13) else if d.on f s = false then (d, 1) else d.wipes (f + max a 1) (s - max a 1).toNat
theorem zsec_size : zsec.size = 64 := by simp [zsec, ByteArray.size]
theorem put_parts (d : DevD) (i : Int) (x : ByteArray) : (d.put i x).size = d.size ∧ (d.put i x).queue.length = d.queue.length + 1 ∧ (d.put i x).left ≤ d.left := by
  refine ⟨rfl, by simp [DevD.put], ?_⟩
  unfold DevD.put; simp only; split <;> omega
def WipeRel (w0 : World) (R : Nat → Prop) (g : Nat) (d : DevD) (pos m : Int) (cnt : Nat) (wb : World) (iv : Value) (wr : World) : Prop :=
  ∃ (i : Nat) (D : DevD), iv = .int .i64 (m + i) ∧ i ≤ cnt ∧ OwnR w0 wr R g D ∧ d.wipes pos cnt = D.wipes (pos + i) (cnt - i) ∧ D.size = d.size ∧ D.queue.length ≤ d.queue.length + i ∧ D.left ≤ d.left ∧ Held w0 R wb wr
set_option maxRecDepth 100000 in
set_option maxHeartbeats 2000000 in
theorem wipe_any {w0 w : World} {R : Nat → Prop} {g : Nat} {d : DevD} (f s a : Int) (h : OwnR w0 w R g d) (hd : d.size ≤ 4096) (hq : d.queue.length ≤ 900000) (hl : d.left ≤ 9223372036854775807) (hs : s ≤ 9223372036854775807) (ha : a ≤ 9223372036854775807) :
    Calls Try.prog 40 #[.pointer (some ⟨g, 0, none⟩), .int .i64 f, .int .i64 s, .int .i64 a] w fun e w' =>
      e = .returned (.int .i64 (d.wipe f s a).2) ∧ OwnR w0 w' R g (d.wipe f s a).1 ∧ Held w0 R w w' := by
  have H := Lib.hid h
  have hRlt : ∀ k, R k → k < w.heap.size := fun k q => h.lt q
  have HR := Lib.hid hRlt
  obtain ⟨W, hW⟩ : ∃ W, d.wipe f s a = W := ⟨_, rfl⟩
  rw [hW]
  have HW := Lib.hid hW
  clear h hRlt hW
  by_cases e1 : d.left = 0
  · have hw : W = (d, 13) := by rw [← HW.out]; unfold DevD.wipe; rw [if_pos e1]
    have hp : d.pow = 13 := by unfold DevD.pow; rw [if_pos e1]
    subst hw
    go_enter Try.func40, Try.ntmps40
    go_wp2_with fail
    refine (power_any H.out).mono ?_
    rintro e w2 ⟨rfl, h2, hb2⟩
    rw [hp]
    have H2 := Lib.hid h2
    go_wp2_with fail
    go_ret
    exact ⟨rfl, H2.out, Held.below HR.out hb2⟩
  · have hp : d.pow = 0 := by unfold DevD.pow; rw [if_neg e1]
    obtain ⟨o, ho⟩ : ∃ o, d.on f s = o := ⟨_, rfl⟩
    have HON := Lib.hid ho
    have E1 := Lib.hid e1
    clear e1 ho
    cases o
    · have hw : W = (d, 1) := by rw [← HW.out]; unfold DevD.wipe; rw [if_neg E1.out, if_pos HON.out]
      subst hw
      go_enter Try.func40, Try.ntmps40
      go_wp2_with fail
      refine (power_any H.out).mono ?_
      rintro e w2 ⟨rfl, h2, hb2⟩
      rw [hp]
      have H2 := Lib.hid h2
      have HB2 := Lib.hid hb2
      clear h2 hb2
      go_wp2_with fail
      refine (on_any f s H2.out hs hd).mono ?_
      rintro e w3 ⟨rfl, rfl⟩
      rw [HON.out]
      go_wp2_with fail
      go_ret
      exact ⟨rfl, H2.out, Held.below HR.out HB2.out⟩
    · have hon : 1 ≤ s ∧ 0 ≤ f ∧ f + s ≤ d.size := by have := HON.out; unfold DevD.on at this; simpa using this
      obtain ⟨q1, q2, q3⟩ := hon
      obtain ⟨m, hm⟩ : ∃ m, max a 1 = m := ⟨_, rfl⟩
      obtain ⟨cnt, hcnt⟩ : ∃ n, (s - m).toNat = n := ⟨_, rfl⟩
      have hm1 : 1 ≤ m := by omega
      have hm2 : m ≤ 9223372036854775807 := by omega
      have hw : d.wipes (f + m) cnt = W := by
        rw [← HW.out]; unfold DevD.wipe; rw [if_neg E1.out, if_neg (by rw [HON.out]; decide), hm, hcnt]
      have HWW := Lib.hid hw
      have HM := Lib.hid hm
      clear hw HW
      have hrep := fun w => rep_any 64 w (by decide)
      rw [show (⟨(List.replicate 64 (0 : UInt8)).toArray⟩ : ByteArray) = zsec from rfl] at hrep
      have hzs := zsec_size
      obtain ⟨Z, hZ⟩ : ∃ Z, zsec = Z := ⟨_, rfl⟩
      rw [hZ] at hrep hzs
      have HZ := Lib.hid hZ
      clear hZ
      go_enter Try.func40, Try.ntmps40
      go_wp2_with fail
      refine (power_any H.out).mono ?_
      rintro e w2 ⟨rfl, h2, hb2⟩
      rw [hp]
      have H2 := Lib.hid h2
      have HB2 := Lib.hid hb2
      clear h2 hb2
      go_wp2_with fail
      refine (on_any f s H2.out hs hd).mono ?_
      rintro e w3 ⟨rfl, rfl⟩
      rw [HON.out]
      go_wp2_with fail
      refine (hrep _).mono ?_
      rintro e w4 ⟨rfl, hb4⟩
      have H4 := Lib.hid (H2.out.below hb4)
      have HH4 := Lib.hid ((Held.below (w0 := w0) HR.out HB2.out).trans (Held.below (fun k q => H2.out.lt q) hb4))
      clear hb4
      go_wp2_with fail
      go_loopw [10] (fun iv wr => WipeRel w0 R g d (f + m) m cnt w iv wr) (fun iv _ => (s - intOf iv).toNat)
      case atStart => exact ⟨0, d, by rw [← HM.out]; simp, Nat.zero_le _, H4.out, by simp, rfl, by omega, Int.le_refl _, HH4.out⟩
      case round =>
        obtain ⟨i, D, rfl, hi, hown, heq, hsz, hqq, hll, hheld⟩ := hrel
        have HO := Lib.hid hown
        have HEQ := Lib.hid heq
        have HH := Lib.hid hheld
        clear hown heq hheld
        by_cases hlt : i < cnt
        · have i1 : m + (i : Int) < s := by omega
          have i2 : m + (i : Int) ≤ 4096 := by omega
          have i3 : f + (m + (i : Int)) ≤ 4096 := by omega
          have hstep : D.wipes (f + m + i) (cnt - i) = if D.left = 0 then (D, 13) else if D.sec (f + (m + i)) = Z then D.wipes (f + m + (i + 1 : Nat)) (cnt - (i + 1)) else (D.put (f + (m + i)) Z).wipes (f + m + (i + 1 : Nat)) (cnt - (i + 1)) := by
            rw [show cnt - i = (cnt - (i + 1)) + 1 from by omega, DevD.wipes, HZ.out, show f + m + (i : Int) + 1 = f + m + (i + 1 : Nat) from by omega, show f + m + (i : Int) = f + (m + i) from by omega]
          have HSTEP := Lib.hid hstep
          clear hstep
          by_cases h0 : D.left = 0
          · have hask : D.ask (f + (m + i)) = 13 := by unfold DevD.ask; rw [if_pos h0]
            have hget : D.get (f + (m + i)) = ⟨#[]⟩ := by unfold DevD.get; rw [if_neg (by rw [hask]; decide)]
            have HA := Lib.hid hask
            have HG := Lib.hid hget
            have H0 := Lib.hid h0
            clear hask hget h0
            go_wp2_with fail
            refine (ownr_get HO.out (f + (m + i))).mono ?_
            rintro e w5 ⟨rfl, h5, hb5⟩
            rw [HA.out, HG.out]
            have H5 := Lib.hid h5
            have HH5 := Lib.hid (HH.out.trans (Held.below (fun k q => HO.out.lt q) hb5))
            clear h5 hb5
            go_wp2_with fail
            go_ret
            have e1 := HEQ.out
            rw [HSTEP.out, if_pos H0.out, HWW.out] at e1
            subst e1
            exact ⟨rfl, H5.out, HH5.out⟩
          · have hask : D.ask (f + (m + i)) = 0 := by unfold DevD.ask; rw [if_neg h0, if_neg (by rw [hsz]; omega)]
            have hget : D.get (f + (m + i)) = D.sec (f + (m + i)) := by unfold DevD.get; rw [if_pos hask]
            have hpe : D.putErr (f + (m + i)) Z = 0 := by unfold DevD.putErr; rw [if_neg (by rw [hask]; decide), if_neg (by rw [hzs]; decide)]
            have hpp := put_parts D (f + (m + i)) Z
            have HA := Lib.hid hask
            have HG := Lib.hid hget
            have HPE := Lib.hid hpe
            have H0 := Lib.hid h0
            clear hask hget h0 hpe
            go_wp2_with fail
            refine (ownr_get HO.out (f + (m + i))).mono ?_
            rintro e w5 ⟨rfl, h5, hb5⟩
            rw [HA.out, HG.out]
            have H5 := Lib.hid h5
            have HH5 := Lib.hid (HH.out.trans (Held.below (fun k q => HO.out.lt q) hb5))
            clear h5 hb5
            have e1 := HEQ.out
            rw [HSTEP.out, if_neg H0.out] at e1
            by_cases hZ : D.sec (f + (m + i)) = Z
            · rw [if_pos hZ] at e1
              rw [hZ]
              have HE1 := Lib.hid e1
              have hre := str_refl Z
              clear e1 hZ
              go_wp2_with fail
              exact ⟨⟨i + 1, D, by go_num, hlt, H5.out, HE1.out, hsz, by omega, hll, HH5.out⟩, by simp [intOf]; omega⟩
            · rw [if_neg hZ] at e1
              have hne := str_ne hZ
              have HE1 := Lib.hid e1
              clear e1 hZ
              generalize D.sec (f + (m + i)) = X at *
              go_wp2_with fail
              refine (ownr_put_ok H5.out (f + (m + i)) Z (by omega) (by omega) HPE.out).mono ?_
              rintro e w6 ⟨rfl, h6, hh6⟩
              have H6 := Lib.hid h6
              have HH6 := Lib.hid (HH5.out.trans hh6)
              clear h6 hh6
              obtain ⟨p1, p2, p3⟩ := hpp
              go_wp2_with fail
              exact ⟨⟨i + 1, _, by go_num, hlt, H6.out, HE1.out, by rw [p1, hsz], by omega, by omega, HH6.out⟩, by simp [intOf]; omega⟩
        · have ei : i = cnt := by omega
          subst ei
          have i1 : s ≤ m + (i : Int) := by omega
          have i2 : ¬ (m + (i : Int) < s) := by omega
          go_wp2_with fail
          go_ret
          have e1 := HEQ.out
          rw [Nat.sub_self, HWW.out, DevD.wipes] at e1
          subst e1
          exact ⟨rfl, HO.out, HH.out⟩
end Go.Proofs.Ytncbojocglcieaa

/- A string that is copied into a row of bytes. -/
namespace Go.Proofs.Ytncbojocglcieaa
open Go.RowKit
set_option linter.unusedSimpArgs false
set_option linter.unusedVariables false
theorem EByt.info : (Try.prog.info? 5).map (·.size) = some 1 := by kernel_rfl
theorem keep_setRow (w : World) (g : Nat) (cs : Array Value) : Keep (fun k => k = g) w (w.setRow g cs) := by
  refine ⟨rfl, rfl, rfl, by simp [World.setRow], fun k hk hn => ?_⟩
  simp only [World.setRow, Array.getElem?_modify]
  rw [if_neg (fun e => hn e.symm)]
section
variable {ops : Array Oper} {rest : List Oper} {o : Oper} {a : Act} {w : World} {Q : Exit → Act → World → Prop} {B : Nat}
set_option maxRecDepth 100000 in
theorem wp_copy_str {K : Act → World → Prop} (d s : Operand) (ho : o.op = .call { callee := .builtin .copy, args := #[d, s], argTypes := #[60, 9] }) (g off dLen dCap n cap : Nat) (l : List UInt8) (x : ByteArray)
    (hd : a.eval d = .slice (some ⟨g, off, none⟩) dLen dCap) (hs : a.eval s = .string x) (hrow : Row EByt w B (.slice (some ⟨g, 0, none⟩) n cap) l) (hle : x.size ≤ dLen) (hfit : off + x.size ≤ l.length)
    (h : ∀ w', Row EByt w' B (.slice (some ⟨g, 0, none⟩) n cap) (l.take off ++ x.data.toList ++ l.drop (off + x.size)) → Keep (fun k => k = g) w w' → K (a.put o.dst (goInt x.size)) w') : Oper.wp Try.prog o a w K Q := by
  have hn := hrow.len_eq
  subst hn
  have hrow0 := hrow
  obtain ⟨h1, h2⟩ := hrow
  rcases h2 with ⟨h2, _⟩ | ⟨g', cap', cur, e, hg, hh, hnc, hc, hcs, hcur⟩
  · simp at h2
  simp only [Value.slice.injEq, Option.some.injEq, Addr.mk.injEq] at e
  obtain ⟨⟨rfl, -, -⟩, -, rfl⟩ := e
  rw [EByt.flat] at hcur
  have hcur' : cur.toList.take l.length = bv l := by rw [← hcur]; congr 1; show _ = _ * 1; omega
  have hcs' : cur.size = cap := by rw [hcs]; show _ * 1 = _; omega
  have hxl : (Lib.byteCells x.data.toList).length = x.size := by rw [Lib.byteCells_length, Lib.size_eq]
  have hrun := Lib.run_copy_row_string (P := Try.prog) w 60 9 o.type 5 g off dLen dCap x cur _ Try.underlying60 EByt.info hh hle (by omega)
  unfold Oper.wp
  simp [execOp, ho, resolve, invoke, builtin, hd, hs, hrun, Result.andThen]
  refine h _ ?_ (keep_setRow w g _)
  have hln : (l.take off ++ x.data.toList ++ l.drop (off + x.size)).length = l.length := by
    simp only [List.length_append, List.length_take, List.length_drop, Array.length_toList]
    have : x.data.size = x.size := rfl
    omega
  have hsh := setRow_heap w g cur (cur.toList.take off ++ Lib.byteCells x.data.toList ++ cur.toList.drop (off + x.size)).toArray _ _ hh
  refine ⟨by rw [hln, EByt.flat, bv_length, hln]; show _ = _ * 1; omega, Or.inr ⟨g, cap, _, by rw [hln], hg, by simpa using hsh, by rw [hln]; exact hnc, hc, ?_, ?_⟩⟩
  · have : (cur.toList.take off ++ (Lib.byteCells x.data.toList ++ cur.toList.drop (off + x.size))).length = cap := by
      simp only [List.length_append, List.length_take, List.length_drop, hxl, Array.length_toList]; omega
    rw [List.size_toArray, this]; show _ = _ * 1; omega
  · rw [hln, EByt.flat, bv_append, bv_append]
    have e1 : (bv (l.take off)) = cur.toList.take off := by
      have : bv (l.take off) = (bv l).take off := by simp [bv, List.map_take]
      rw [this, ← hcur', List.take_take, Nat.min_eq_left (by omega)]
    have e2 : bv (l.drop (off + x.size)) = (cur.toList.take l.length).drop (off + x.size) := by
      rw [hcur']; simp [bv, List.map_drop]
    rw [e1, e2]
    show List.take (l.length * 1) (cur.toList.take off ++ (Lib.byteCells x.data.toList ++ cur.toList.drop (off + x.size))) = _
    have hto : (cur.toList.take off).length = off := by rw [List.length_take, Array.length_toList]; omega
    rw [Nat.mul_one, List.take_append, hto, List.take_of_length_le (by omega), List.append_assoc]
    congr 1
    rw [List.take_append, hxl, List.take_of_length_le (by rw [hxl]; omega)]
    congr 1
    rw [List.take_drop]
    congr 1
    congr 1
    omega
theorem copy_str (hgd : o.guard = none) (d s : Operand) (ho : o.op = .call { callee := .builtin .copy, args := #[d, s], argTypes := #[60, 9] }) (g off dLen dCap n cap : Nat) (l : List UInt8) (x : ByteArray)
    (hd : a.eval d = .slice (some ⟨g, off, none⟩) dLen dCap) (hs : a.eval s = .string x) (hrow : Row EByt w B (.slice (some ⟨g, 0, none⟩) n cap) l) (hle : x.size ≤ dLen) (hfit : off + x.size ≤ l.length)
    (h : ∀ w', Row EByt w' B (.slice (some ⟨g, 0, none⟩) n cap) (l.take off ++ x.data.toList ++ l.drop (off + x.size)) → Keep (fun k => k = g) w w' → wpList Try.prog ops Q rest (a.put o.dst (goInt x.size)) w') : wpList Try.prog ops Q (o :: rest) a w :=
  wpList_plain hgd fun _ hK => wp_copy_str d s ho g off dLen dCap n cap l x hd hs hrow hle hfit fun w' h1 h2 => hK _ _ (h w' h1 h2)
theorem step_copy_str {K : Act → World → Prop} {E1 : Prop} (hgd : o.guard = none) (d s : Operand) (ho : o.op = .call { callee := .builtin .copy, args := #[d, s], argTypes := #[60, 9] }) (g off dLen dCap n cap : Nat) (l : List UInt8) (x : ByteArray)
    (hd : a.eval d = .slice (some ⟨g, off, none⟩) dLen dCap) (hs : a.eval s = .string x) (hrow : Row EByt w B (.slice (some ⟨g, 0, none⟩) n cap) l) (hle : x.size ≤ dLen) (hfit : off + x.size ≤ l.length)
    (h : ∀ w', Row EByt w' B (.slice (some ⟨g, 0, none⟩) n cap) (l.take off ++ x.data.toList ++ l.drop (off + x.size)) → Keep (fun k => k = g) w w' → K (a.put o.dst (goInt x.size)) w') : if Region.wanted o (yielded ops a.tmps) = true then Oper.wp Try.prog o a w K Q else E1 := by
  have hw : Region.wanted o (yielded ops a.tmps) = true := by simp [Region.wanted, hgd]
  rw [if_pos hw]
  exact wp_copy_str d s ho g off dLen dCap n cap l x hd hs hrow hle hfit h
end
end Go.Proofs.Ytncbojocglcieaa

/- bank's reference: Cut. -/
namespace Go.Proofs.Ytncbojocglcieaa
open Go.RowKit
set_option linter.unusedSimpArgs false
set_option linter.unusedVariables false
def CutFr (w : World) (B : Nat) (L : List ByteArray) (ov iv : Value) (wr : World) : Prop :=
  ∃ j : Nat, iv = .int .i64 ((62 * j : Nat) : Int) ∧ j ≤ L.length ∧ Row EStr wr B ov (L.take j) ∧ Below B w wr
set_option maxRecDepth 10000 in
theorem cut_frame (r : ByteArray) (i k : Nat) (x0 x1 : UInt8) (hk : min (i + 62) r.size = k) (hi : i < r.size) (hr : r.size ≤ 65535) (h0 : ((r.size : Int) - i) / 256 = x0.toNat) (h1 : ((r.size : Int) - i) % 256 = x1.toNat) :
    ((((List.replicate 64 (0 : UInt8)).set 0 x0).set 1 x1).take 2 ++ (r.extract i k).data.toList ++ (((List.replicate 64 (0 : UInt8)).set 0 x0).set 1 x1).drop (2 + (r.extract i k).size)) = frameL (r.data.toList.drop i) := by
  have hl : (r.data.toList.drop i).length = r.size - i := by rw [List.length_drop, Array.length_toList]; rfl
  have hs : (r.extract i k).size = k - i := by rw [ByteArray.size_extract]; omega
  have e : (((List.replicate 64 (0 : UInt8)).set 0 x0).set 1 x1) = x0 :: x1 :: List.replicate 62 0 := rfl
  have f0 : x0 = UInt8.ofNat ((r.size - i) / 256 % 256) := by
    apply UInt8.toNat_inj.1
    rw [UInt8.toNat_ofNat']; omega
  have f1 : x1 = UInt8.ofNat ((r.size - i) % 256) := by
    apply UInt8.toNat_inj.1
    rw [UInt8.toNat_ofNat']; omega
  rw [e, hs]
  unfold frameL
  rw [hl, ← f0, ← f1]
  have e2 : (r.extract i k).data.toList = (r.data.toList.drop i).take 62 := by
    rw [Lib.extract_data]
    by_cases q : i + 62 ≤ r.size
    · rw [show k - i = 62 from by omega]
    · rw [List.take_of_length_le (by rw [hl]; omega), List.take_of_length_le (by rw [hl]; omega)]
  have e3 : (x0 :: x1 :: List.replicate 62 (0 : UInt8)).drop (2 + (k - i)) = List.replicate (62 - min (r.size - i) 62) 0 := by
    rw [Nat.add_comm]
    simp only [List.drop_succ_cons, List.drop_replicate]
    congr 1
    omega
  rw [e3, e2]
  rfl
set_option maxRecDepth 100000 in
set_option maxHeartbeats 2000000 in
theorem cut_ref (r : ByteArray) (w : World) (hr : r.size ≤ 65535) : Calls Try.prog 34 #[.string r] w fun e w' => ∃ v, e = .returned v ∧ Row EStr w' w.heap.size v (cutL r.data.toList) ∧ Below w.heap.size w w' := by
  obtain ⟨B, hB⟩ : ∃ B, w.heap.size = B := ⟨_, rfl⟩
  rw [hB]
  obtain ⟨L, hL⟩ : ∃ L, cutL r.data.toList = L := ⟨_, rfl⟩
  have hLl : L.length = nframes r.size := by rw [← hL, cutL_length, Array.length_toList]; rfl
  rw [hL]
  have HL := Lib.hid hL
  clear hL
  go_enter Try.func34, Try.ntmps34
  go_wp2_with fail
  go_loopw [3, 4] (fun ov iv wr => CutFr w B L ov iv wr) (fun _ iv _ => 70000 - (intOf iv).toNat)
  case atStart => exact ⟨0, rfl, Nat.zero_le _, Row.nil _ _ _, Below.refl _ _⟩
  case round =>
    obtain ⟨j, rfl, hj, ho, hb⟩ := hrel
    have HO := Lib.hid ho
    have HBW := Lib.hid hb
    have hBr : B ≤ wr.heap.size := by have := hb.size; omega
    obtain ⟨oa, oc, rfl⟩ := ho.shape
    have htl : (L.take j).length = j := by rw [List.length_take]; omega
    rw [htl] at HO ⊢
    have HTL := Lib.hid htl
    clear ho hb htl
    by_cases hlt : j < L.length
    · have hjr : 62 * j < r.size := by unfold nframes at hLl; omega
      obtain ⟨i, hi⟩ : ∃ i, 62 * j = i := ⟨_, rfl⟩
      rw [hi] at hjr ⊢
      have i1 : (i : Int) < r.size := by omega
      have i2 : (i : Int) ≤ r.size := by omega
      have i3 : (0 : Int) ≤ r.size - i := by omega
      obtain ⟨k, hk⟩ : ∃ k, min (i + 62) r.size = k := ⟨_, rfl⟩
      have hki : min ((i : Int) + 62) r.size = k := by omega
      have hk1 : i ≤ k := by omega
      have hk2 : k ≤ r.size := by omega
      have hk3 : k ≤ i + 62 := by omega
      have HK := Lib.hid hk
      have HI := Lib.hid hi
      obtain ⟨G, hG⟩ : ∃ G, wr.heap.size = G := ⟨_, rfl⟩
      clear hk hi
      go_wp2_with (first
        | (refine make_row (E := EByt) (B := wr.heap.size) (z := .int .u8 0) (0 : UInt8) (by kernel_rfl) (by rfl) rfl 60 Try.underlying60 _ _ rfl 64 64 64 rfl rfl rfl rfl (by decide) (by decide) (Nat.le_refl _) ?_
           intro w1 hr1 hb1
           obtain ⟨g', cap', e', _, hgl, _, _, hcell, hfr⟩ := hr1.slice (by decide)
           simp only [Value.slice.injEq, Option.some.injEq, Addr.mk.injEq] at e'
           obtain ⟨⟨rfl, -, -⟩, -, -⟩ := e'
           have hx0 : w1.cell? ⟨wr.heap.size, 0, none⟩ = some (.int .u8 0) := by have := hcell 0 0 rfl 0 (by decide); simpa [EByt] using this
           have hx1 : w1.cell? ⟨wr.heap.size, 1, none⟩ = some (.int .u8 0) := by have := hcell 1 0 rfl 0 (by decide); simpa [EByt] using this
           have hf0 := hfr 0
           have hf1 := hfr 1
           have HR1 := Lib.hid hr1
           have HB1 := Lib.hid hb1
           rw [hG] at hx0 hx1 hf0 hf1 HR1 HB1
           clear hcell hfr hr1 hb1))
      obtain ⟨x0, hx0'⟩ : ∃ x : UInt8, ((r.size : Int) - i) / 256 = x.toNat := ⟨UInt8.ofNat ((r.size - i) / 256), by simp; omega⟩
      obtain ⟨x1, hx1'⟩ : ∃ x : UInt8, ((r.size : Int) - i) % 256 = x.toNat := ⟨UInt8.ofNat ((r.size - i) % 256), by simp; omega⟩
      rw [hx0', hx1']
      have hr2 := (HR1.out.set1 rfl 0 x0 (.int .u8 x0.toNat) rfl).set1 rfl 1 x1 (.int .u8 x1.toNat) rfl
      have hk2 := ((Keep.refl (fun k => k = G) w1).set G 0 (.int .u8 x0.toNat) (Or.inl rfl)).set G 1 (.int .u8 x1.toNat) (Or.inl rfl)
      have HX0 := Lib.hid hx0'
      have HX1 := Lib.hid hx1'
      have HR2 := Lib.hid hr2
      have HK2 := Lib.hid hk2
      clear hx0 hx1 hf0 hf1 hx0' hx1' hr2 hk2
      generalize (w1.setCell ⟨G, 0, none⟩ (.int .u8 x0.toNat)).setCell ⟨G, 1, none⟩ (.int .u8 x1.toNat) = w2 at *
      have hxs : (r.extract i k).size ≤ 62 := by rw [ByteArray.size_extract]; omega
      have HX := Lib.hid hxs
      have hwz : IntKind.i64.wrap ((i : Int) + 62) = (i : Int) + 62 := IntWalk.i64_in _ (by omega)
      have kz1 : (0 : Int) ≤ k := by omega
      have kz2 : (k : Int) ≤ r.size := by omega
      have kz3 : (i : Int) ≤ k := by omega
      go_region_law
        (refine step_copy_str rfl _ _ rfl G 2 62 62 64 64 _ (r.extract i k) rfl rfl (HR2.out.qt (Qt.drewN w2 1)) HX.out ?c1 ?c2
         case c1 => (have := HX.out; simp only [List.length_set, List.length_replicate]; omega)
         intro w3 hr3 hk3)
      have hfe := cut_frame r i k x0 x1 HK.out hjr hr HX0.out HX1.out
      rw [hfe] at hr3
      have hLj : L[j]? = some (frB (r.data.toList.drop i)) := by
        rw [← HL.out]; unfold cutL
        rw [List.getElem?_map, List.getElem?_range (by rw [Array.length_toList]; show j < nframes r.size; rw [← hLl]; exact hlt)]
        simp only [Option.map_some]
        rw [show j * 62 = i from by rw [← HI.out, Nat.mul_comm]]
      have hLs : L.take (j + 1) = L.take j ++ [frB (r.data.toList.drop i)] := by
        obtain ⟨p1, p2⟩ := List.getElem?_eq_some_iff.1 hLj
        rw [List.take_succ_eq_append_getElem p1, p2]
      have hfb : (⟨(frameL (r.data.toList.drop i)).toArray⟩ : ByteArray) = frB (r.data.toList.drop i) := rfl
      have hb3 : Below wr.heap.size wr w3 := by
        have k1 : Keep (fun k => k = G) w1 w3 := HK2.out.trans (((Keep.refl (fun k => k = G) w2).drew).trans hk3)
        have := k1.toBelow (B := wr.heap.size) (by have := HB1.out.size; omega) (fun i q => by omega)
        exact (show Below wr.heap.size wr w1 from hG ▸ HB1.out).trans this
      have HO3 := Lib.hid (HO.out.below hb3)
      have HB3 := Lib.hid (HBW.out.trans (hb3.mono hBr))
      have hBr3 : B ≤ w3.heap.size := Nat.le_trans hBr hb3.size
      have HR3 := Lib.hid hr3
      have HLS := Lib.hid hLs
      clear hr3 hk3 hfe hLj hLs hb3 hwz kz1 kz2 kz3
      have HFB := Lib.hid hfb
      have hj2 : j + 1 ≤ 2000 := by unfold nframes at hLl; omega
      clear hfb
      generalize frB (r.data.toList.drop i) = X at *
      go_wp2_with (first
        | (refine conv_row rfl _ rfl _ _ rfl HR3.out ?_; rw [HFB.out])
        | (refine app_row EStr.laid rfl _ _ 49 49 Try.underlying49 Try.underlying49 rfl _ (L.take j) rfl (HO3.out.alloc _) _ [X] rfl ?e1 ?e2 ?e3 (Nat.le_trans hBr3 (by simp)) ?_
           case e1 => exact Arg.blk (m_alloc _ _ _ rfl) [X] rfl 1
           case e2 => (rw [HTL.out]; show (j + 1) * 16 ≤ _; omega)
           case e3 => (rw [HTL.out]; show j + 1 ≤ maxLen; unfold maxLen; omega)
           intro v6 w6 hr6 hv6 k6))
      rw [← HLS.out] at hr6
      have hb6 : Below B w w6 := (HB3.out.alloc (by omega) _).trans (k6.toBelow (by simp; omega) (fun k q => HO3.out.ge q.symm))
      refine ⟨⟨j + 1, ?_, hlt, hr6, hb6⟩, by simp [intOf]; omega⟩
      have := HI.out
      go_num
    · have ej : j = L.length := by omega
      subst ej
      have hjr : ¬ (((62 * L.length : Nat) : Int) < r.size) := by unfold nframes at hLl; omega
      have hjr2 : (r.size : Int) ≤ ((62 * L.length : Nat) : Int) := by omega
      go_wp2_with fail
      go_ret
      have := HO.out
      rw [List.take_length] at this
      exact ⟨_, rfl, (show Row EStr wr B (Value.slice oa (nframes r.size) oc) L by rw [← hLl]; exact this), HBW.out⟩
end Go.Proofs.Ytncbojocglcieaa
