/- slices.Index, slices.Contains at int; slices.IsSortedFunc at entries with the maker's order. -/
import Derived.Test.YtolilbcpfdnkjaaGreatZBMR
import Derived.Test.YtolilbcpfdnkjaaGreatZBUB
import Derived.Outline
import Derived.Deep.Cut
import Derived.Deep.RegionHeld3
import Derived.Test.YtolilbcpfdnkjaaGreatZBMapsS
namespace Go.Proofs.YtolilbcpfdnkjaaGreat
open Go.RowKit
set_option linter.unusedSimpArgs false
set_option linter.unusedVariables false
theorem int_cell {w : World} {a : Option Addr} {n c : Nat} {l : List Int} (h : Arg EInt w (.slice a n c) l) (i : Nat) (x : Int) (hx : l[i]? = some x) : ∃ g off, a = some ⟨g, off, none⟩ ∧ w.cell? ⟨g, off + i, none⟩ = some (.int .i64 x) := by
  obtain ⟨g, off, cap, e, hc⟩ := h.cells (by intro q; rw [q] at hx; simp at hx)
  simp only [Value.slice.injEq] at e
  have := hc i x hx 0 (by decide)
  rw [show off + (i * EInt.size + 0) = off + i from by show off + (i * 1 + 0) = _; omega] at this
  exact ⟨g, off, e.1, this⟩
def idxI (l : List Int) (x : Int) : Int := if x ∈ l then 0 else -1
set_option maxRecDepth 100000 in
set_option maxHeartbeats 2000000 in
theorem indexI_any {v : Value} {l : List Int} (w : World) (x : Int) (h : Arg EInt w v l) (hl : l.length ≤ maxLen) :
    Calls Tryz.prog 124 #[v, .int .i64 x] w fun e w' => ∃ r : Int, e = .returned (.int .i64 r) ∧ -1 ≤ r ∧ (0 ≤ r ↔ x ∈ l) ∧ Below w.heap.size w w' := by
  obtain ⟨a, c, rfl⟩ := h.shape
  have H := Lib.hid h
  unfold maxLen at hl
  clear h
  go_enter Tryz.func124, Tryz.ntmps124
  go_wp2_with fail
  go_loopw [8] (fun iv wr => ∃ i : Nat, iv = .int .i64 i ∧ i ≤ l.length ∧ (∀ k y, k < i → l[k]? = some y → y ≠ x) ∧ wr = w) (fun iv _ => l.length - (intOf iv).toNat)
  case atStart => exact ⟨0, rfl, Nat.zero_le _, fun k y hk => absurd hk (Nat.not_lt_zero _), rfl⟩
  case round =>
    obtain ⟨i, rfl, hi, hall, rfl⟩ := hrel
    have HALL := Lib.hid hall
    clear hall
    by_cases hlt : i < l.length
    · have i1 : (i : Int) < l.length := by omega
      obtain ⟨y, hy⟩ : ∃ y, l[i]? = some y := ⟨_, List.getElem?_eq_getElem hlt⟩
      obtain ⟨g1, o1, rfl, c0⟩ := int_cell H.out i y hy
      have HY := Lib.hid hy
      clear hy
      by_cases e : x = y
      · have e1 : (x == y) = true := by simpa using e
        go_wp2_with fail
        go_ret
        exact ⟨i, rfl, by omega, ⟨fun _ => e ▸ List.mem_of_getElem? HY.out, fun _ => by omega⟩, Below.refl _ _⟩
      · have e1 : (x == y) = false := by simpa using e
        go_wp2_with fail
        refine ⟨⟨i + 1, by go_num, hlt, fun k z hk hz => ?_, trivial⟩, by simp [intOf]; omega⟩
        by_cases ek : k = i
        · subst ek
          rw [HY.out] at hz
          exact fun q => e (by rw [← q]; exact (Option.some.inj hz).symm ▸ rfl)
        · exact HALL.out k z (by omega) hz
    · have ei : i = l.length := by omega
      subst ei
      have i2 : ¬ ((l.length : Int) < l.length) := by omega
      go_wp2_with fail
      go_ret
      refine ⟨-1, rfl, by omega, ⟨fun q => absurd q (by decide), fun q => ?_⟩, Below.refl _ _⟩
      obtain ⟨k, hk⟩ := List.getElem?_of_mem q
      exact absurd rfl (HALL.out k x (List.getElem?_eq_some_iff.1 hk).1 hk)
set_option maxRecDepth 100000 in
set_option maxHeartbeats 2000000 in
theorem containsI_any {v : Value} {l : List Int} (w : World) (x : Int) (h : Arg EInt w v l) (hl : l.length ≤ maxLen) :
    Calls Tryz.prog 108 #[v, .int .i64 x] w fun e w' => e = .returned (.bool (decide (x ∈ l))) ∧ Below w.heap.size w w' := by
  have HI := Lib.hid (indexI_any w x h hl)
  clear h
  go_enter Tryz.func108, Tryz.ntmps108
  go_wp2_with fail
  refine HI.out.mono ?_
  rintro e w1 ⟨r, rfl, h1, h2, hb⟩
  by_cases hx : x ∈ l
  · have e1 : decide ((0 : Int) ≤ r) = true := decide_eq_true (h2.2 hx)
    have e2 := h2.2 hx
    clear h2
    go_wp2_with fail
    go_ret
    exact ⟨ret_bool (decide_eq_true hx).symm, hb⟩
  · have e1 : decide ((0 : Int) ≤ r) = false := decide_eq_false (fun q => hx (h2.1 q))
    have e2 : ¬ (0 : Int) ≤ r := fun q => hx (h2.1 q)
    clear h2
    go_wp2_with fail
    go_ret
    exact ⟨ret_bool (decide_eq_false hx).symm, hb⟩
/-- The order of a directory's entries, as the maker asks for it. -/
def ckDiff (x y : Ent) : Int := wrap64 (y.cookie - x.cookie)
def SortedE (l : List Ent) : Prop := ∀ i x y, l[i]? = some x → l[i + 1]? = some y → 0 ≤ ckDiff x y
set_option maxRecDepth 100000 in
set_option maxHeartbeats 2000000 in
theorem dircmp_any (x y : Ent) (w : World) :
    Calls Tryz.prog 85 #[y.val, x.val] w fun e w' => ∃ r : Int, e = .returned (.int .i64 r) ∧ (r < 0 ↔ ckDiff x y < 0) ∧ Below w.heap.size w w' := by
  obtain ⟨d, hd⟩ : ∃ d, ckDiff x y = d := ⟨_, rfl⟩
  rw [hd]
  unfold ckDiff at hd
  have HD := Lib.hid hd
  clear hd
  go_enter Tryz.func85, Tryz.ntmps85
  go_wp2_with fail
  go_ret
  refine ⟨_, rfl, ?_, ((Below.refl _ w).alloc (Nat.le_refl _) _).alloc (by simp) _⟩
  rw [HD.out]
  omega
def SortPost (w : World) (l : List Ent) (e : Ending) (w' : World) : Prop := ∃ b, e = .returned (.bool b) ∧ (b = true ↔ SortedE l) ∧ Below w.heap.size w w'
set_option maxRecDepth 100000 in
set_option maxHeartbeats 2000000 in
theorem sortedE_any {v : Value} {l : List Ent} (w : World) (h : Arg EEnt w v l) (hl : l.length ≤ 1000000) :
    Calls Tryz.prog 84 #[v, .func (.func 85) #[] #[]] w (SortPost w l) := by
  obtain ⟨a, c, rfl⟩ := h.shape
  have H := Lib.hid h
  clear h
  go_enter Tryz.func84, Tryz.ntmps84
  go_wp2_with fail
  go_loopw [5] (fun iv wr => ∃ i : Int, iv = .int .i64 i ∧ -1 ≤ i ∧ i < l.length ∧ (∀ (k : Nat) x y, i ≤ (k : Int) → l[k]? = some x → l[k + 1]? = some y → 0 ≤ ckDiff x y) ∧ Below w.heap.size w wr) (fun iv _ => (intOf iv).toNat)
  case atStart => exact ⟨(l.length : Int) - 1, by go_num, by omega, by omega, fun k x y hk hx hy => absurd (List.getElem?_eq_some_iff.1 hy).1 (by omega), Below.refl _ _⟩
  case round =>
    obtain ⟨i, rfl, hi, hil, hall, hb⟩ := hrel
    have HALL := Lib.hid hall
    have HB := Lib.hid hb
    clear hall hb
    by_cases hlt : 0 < i
    · obtain ⟨j, rfl⟩ : ∃ j : Nat, i = (j : Int) + 1 := ⟨(i - 1).toNat, by omega⟩
      have hj0 : (0 : Int) ≤ (j : Int) + 1 := by omega
      have hj1 : (j : Int) + 1 < l.length := by omega
      have hj2 : ((j : Int) + 1).toNat = j + 1 := by omega
      have hj5 : (j : Int) ≤ 1000000 := by omega
      have hj6 : IntKind.i64.wrap (j : Int) = j := by rw [IntKind.wrap_i64]; omega
      obtain ⟨y, hy⟩ : ∃ y, l[j + 1]? = some y := ⟨_, List.getElem?_eq_getElem (by omega)⟩
      obtain ⟨x, hx⟩ : ∃ x, l[j]? = some x := ⟨_, List.getElem?_eq_getElem (by omega)⟩
      obtain ⟨g1, o1, rfl, -, p0, p1, p2, p3, p4⟩ := ent_cells (H.out.below HB.out) (j + 1) y hy
      obtain ⟨g2, o2, eg, -, q0, q1, q2, q3, q4⟩ := ent_cells (H.out.below HB.out) j x hx
      simp only [Option.some.injEq, Addr.mk.injEq, and_true] at eg
      obtain ⟨rfl, rfl⟩ := eg
      have HX := Lib.hid hx
      have HY := Lib.hid hy
      have j2 : (j : Int) < l.length := by omega
      have HS := Lib.hid (show ∀ w', Below wr.heap.size wr w' → (w'.cell? ⟨g1, o1 + (j + 1) * 5, none⟩ = some (.string y.name) ∧ w'.cell? ⟨g1, o1 + (j + 1) * 5 + 1, none⟩ = some (.int .i64 y.node) ∧ w'.cell? ⟨g1, o1 + (j + 1) * 5 + 2, none⟩ = some (.bool y.dir) ∧ w'.cell? ⟨g1, o1 + (j + 1) * 5 + 3, none⟩ = some (.int .i64 y.cookie) ∧ w'.cell? ⟨g1, o1 + (j + 1) * 5 + 4, none⟩ = some (.int .i64 y.short) ∧
          w'.cell? ⟨g1, o1 + j * 5, none⟩ = some (.string x.name) ∧ w'.cell? ⟨g1, o1 + j * 5 + 1, none⟩ = some (.int .i64 x.node) ∧ w'.cell? ⟨g1, o1 + j * 5 + 2, none⟩ = some (.bool x.dir) ∧ w'.cell? ⟨g1, o1 + j * 5 + 3, none⟩ = some (.int .i64 x.cookie) ∧ w'.cell? ⟨g1, o1 + j * 5 + 4, none⟩ = some (.int .i64 x.short)) from fun w' k =>
        ⟨cell_later k p0, cell_later k p1, cell_later k p2, cell_later k p3, cell_later k p4, cell_later k q0, cell_later k q1, cell_later k q2, cell_later k q3, cell_later k q4⟩)
      clear hx hy
      go_wp2_with fail
      go_region_held3 (fun w' => w'.cell? ⟨g1, o1 + (j + 1) * 5, none⟩ = some (.string y.name) ∧ w'.cell? ⟨g1, o1 + (j + 1) * 5 + 1, none⟩ = some (.int .i64 y.node) ∧ w'.cell? ⟨g1, o1 + (j + 1) * 5 + 2, none⟩ = some (.bool y.dir) ∧ w'.cell? ⟨g1, o1 + (j + 1) * 5 + 3, none⟩ = some (.int .i64 y.cookie) ∧ w'.cell? ⟨g1, o1 + (j + 1) * 5 + 4, none⟩ = some (.int .i64 y.short) ∧
          w'.cell? ⟨g1, o1 + j * 5, none⟩ = some (.string x.name) ∧ w'.cell? ⟨g1, o1 + j * 5 + 1, none⟩ = some (.int .i64 x.node) ∧ w'.cell? ⟨g1, o1 + j * 5 + 2, none⟩ = some (.bool x.dir) ∧ w'.cell? ⟨g1, o1 + j * 5 + 3, none⟩ = some (.int .i64 x.cookie) ∧ w'.cell? ⟨g1, o1 + j * 5 + 4, none⟩ = some (.int .i64 x.short))
        (first | exact HS.out _ HB1.out | exact HS.out _ (show Below wr.heap.size wr _ from (by repeat (first | exact Below.refl _ _ | assumption | (refine Below.drew ?_) | (refine below_drewN ?_ _) | (refine Below.alloc ?_ (by simp; done) _) | (refine Below.alloc ?_ (by simp; omega) _)))))
        (first
         | (go_at_call 85
            refine (dircmp_any x y wr.drew).mono ?_
            rintro e w1 ⟨r, rfl, hr, hb1⟩
            have HR := Lib.hid hr
            have HB1 := Lib.hid ((Below.refl _ wr).drew.trans hb1)
            clear hr hb1))
      by_cases hr0 : r < 0
      · have d1 : decide (r < 0) = true := decide_eq_true hr0
        go_wp2_with fail
        go_ret
        refine ⟨false, rfl, ⟨fun q => (by cases q), fun q => ?_⟩, HB.out.trans (HB1.out.mono HB.out.size)⟩
        have := q j x y HX.out HY.out
        have := HR.out.1 hr0
        omega
      · have d1 : decide (r < 0) = false := decide_eq_false hr0
        have HCK := Lib.hid (show 0 ≤ ckDiff x y from by have := HR.out.2; omega)
        go_wp2_with fail
        refine ⟨⟨j, rfl, by omega, by omega, fun k x' y' hk hx' hy' => ?_, HB.out.trans (HB1.out.mono HB.out.size)⟩, by simp [intOf]⟩
        by_cases ek : k = j
        · subst ek
          rw [HX.out] at hx'
          rw [HY.out] at hy'
          cases hx'; cases hy'
          exact HCK.out
        · exact HALL.out k x' y' (by omega) hx' hy'
    · have i2 : ¬ (0 < i) := hlt
      go_wp2_with fail
      go_ret
      refine ⟨true, rfl, ⟨fun _ => fun k x y hx hy => HALL.out k x y (by omega) hx hy, fun _ => rfl⟩, HB.out⟩
end Go.Proofs.YtolilbcpfdnkjaaGreat
