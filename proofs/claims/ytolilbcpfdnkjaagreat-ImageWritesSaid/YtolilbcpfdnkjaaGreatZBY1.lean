/- Lemmas, texts Y1 Y2; no condition beyond those that each states. -/
import Derived.Test.YtolilbcpfdnkjaaGreatZBUB
import Derived.Test.YtolilbcpfdnkjaaGreatZBRkA
/- the reference's tree, by value: kind, List. -/
namespace Go.Proofs.YtolilbcpfdnkjaaGreat
open Go.RowKit
set_option linter.unusedSimpArgs false
set_option linter.unusedVariables false
@[reducible] def Itm.cells (i : Itm) : List Value := [.int .i64 i.d, .string i.e.name, .int .i64 i.e.node, .bool i.e.dir, .int .i64 i.e.cookie, .int .i64 i.e.short]
def EItm : EK Itm := ⟨116, 6, 56, Itm.cells, fun _ => rfl, fun _ u hu => by simp at hu; rcases hu with rfl | rfl | rfl | rfl | rfl | rfl <;> rfl, by decide⟩
theorem EItm.laid : EItm.Laid := EK.laid (z := .agg #[.int .i64 0, .string ⟨#[]⟩, .int .i64 0, .bool false, .int .i64 0, .int .i64 0]) (by kernel_rfl) (by decide)
theorem itm_cells {w : World} {a : Option Addr} {n c : Nat} {l : List Itm} (h : Arg EItm w (.slice a n c) l) (i : Nat) (x : Itm) (hx : l[i]? = some x) : ∃ g off, a = some ⟨g, off, none⟩ ∧ n = l.length ∧
    w.cell? ⟨g, off + i * 6, none⟩ = some (.int .i64 x.d) ∧ w.cell? ⟨g, off + i * 6 + 1, none⟩ = some (.string x.e.name) ∧ w.cell? ⟨g, off + i * 6 + 2, none⟩ = some (.int .i64 x.e.node) ∧ w.cell? ⟨g, off + i * 6 + 3, none⟩ = some (.bool x.e.dir) ∧ w.cell? ⟨g, off + i * 6 + 4, none⟩ = some (.int .i64 x.e.cookie) ∧ w.cell? ⟨g, off + i * 6 + 5, none⟩ = some (.int .i64 x.e.short) := by
  obtain ⟨g, off, cap, e, hc⟩ := h.cells (by intro q; rw [q] at hx; simp at hx)
  simp only [Value.slice.injEq] at e
  obtain ⟨rfl, rfl, rfl⟩ := e
  have k := hc i x hx
  exact ⟨g, off, rfl, rfl, k 0 (by decide), k 1 (by decide), k 2 (by decide), k 3 (by decide), k 4 (by decide), k 5 (by decide)⟩
theorem ents_len {L : List Itm} {next : Int} (h : TInv L next) (d : Int) : (entries L d).length ≤ 200 := by
  unfold entries
  rw [List.length_map]
  exact Nat.le_trans (List.length_filter_le _ _) h.len
/-- The reference's kind of a node. -/
def kindT (L : List Itm) (n : Int) : Int := if n = 0 then 2 else match L.find? (fun i => decide (i.e.node = n)) with | some i => if i.e.dir = true then 2 else 1 | none => 0
theorem kindT_at {L : List Itm} {n : Int} (h0 : n ≠ 0) {i : Nat} {x : Itm} (hx : L[i]? = some x) (hn : x.e.node = n) (hb : ∀ (j : Nat) y, j < i → L[j]? = some y → y.e.node ≠ n) : kindT L n = if x.e.dir = true then 2 else 1 := by
  unfold kindT
  rw [if_neg h0]
  have : L.find? (fun i => decide (i.e.node = n)) = some x := by
    obtain ⟨hi, e⟩ := List.getElem?_eq_some_iff.1 hx
    rw [List.find?_eq_some_iff_getElem]
    exact ⟨by simp [hn], i, hi, e, fun j hj => by simpa using hb j L[j] hj (List.getElem?_eq_getElem (by omega))⟩
  rw [this]
theorem kindT_none {L : List Itm} {n : Int} (h0 : n ≠ 0) (hb : ∀ (j : Nat) y, j < L.length → L[j]? = some y → y.e.node ≠ n) : kindT L n = 0 := by
  unfold kindT
  rw [if_neg h0]
  have : L.find? (fun i => decide (i.e.node = n)) = none := by
    rw [List.find?_eq_none]
    intro x hx
    obtain ⟨j, hj⟩ := List.getElem?_of_mem hx
    simpa using hb j x (List.getElem?_eq_some_iff.1 hj).1 hj
  rw [this]
theorem rtree_laid {a : Option Addr} {c : Nat} {L : List Itm} (w : World) (next : Int) : Below w.heap.size w (w.alloc (.cells #[.slice a L.length c, .int .i64 next] 29)) ∧
    (w.alloc (.cells #[.slice a L.length c, .int .i64 next] 29)).cell? ⟨w.heap.size, 0, none⟩ = some (.slice a L.length c) ∧ (w.alloc (.cells #[.slice a L.length c, .int .i64 next] 29)).cell? ⟨w.heap.size, 1, none⟩ = some (.int .i64 next) :=
  ⟨(Below.refl _ _).alloc (Nat.le_refl _) _, (m_cells (m_alloc w (.cells #[.slice a L.length c, .int .i64 next] 29 (0, 0)) w.heap.size rfl)).1 0, (m_cells (m_alloc w (.cells #[.slice a L.length c, .int .i64 next] 29 (0, 0)) w.heap.size rfl)).1 1⟩
set_option maxRecDepth 100000 in
set_option maxHeartbeats 2000000 in
theorem rkind_any {v : Value} {L : List Itm} (w : World) (next n : Int) (h : Arg EItm w v L) (hl : L.length ≤ 1000000) :
    Calls Tryz.prog 76 #[.agg #[v, .int .i64 next], .int .i64 n] w fun e w' => e = .returned (.int .i64 (kindT L n)) ∧ Below w.heap.size w w' := by
  obtain ⟨a, c, rfl⟩ := h.shape
  obtain ⟨hbw, ht0, ht1⟩ := rtree_laid (a := a) (c := c) (L := L) w next
  obtain ⟨W, hW⟩ : ∃ W, w.alloc (.cells #[.slice a L.length c, .int .i64 next] 29) = W := ⟨_, rfl⟩
  rw [hW] at hbw ht0 ht1
  have H := Lib.hid (h.below hbw)
  have HBW := Lib.hid hbw
  clear h hbw
  go_enter Tryz.func76, Tryz.ntmps76
  by_cases h0 : n = 0
  · subst h0
    go_wp2_with fail
    go_ret
    exact ⟨rfl, HBW.out⟩
  · have n0 : (n == 0) = false := by simpa using h0
    have HN0 := Lib.hid h0
    clear h0
    go_wp2_with fail
    clear hW
    go_loopw [5] (fun iv wr => ∃ i : Nat, iv = .int .i64 i ∧ i ≤ L.length ∧ (∀ (j : Nat) y, j < i → L[j]? = some y → y.e.node ≠ n) ∧ Below W.heap.size W wr) (fun iv _ => L.length - (intOf iv).toNat)
    case atStart => exact ⟨0, rfl, Nat.zero_le _, fun j y hj => absurd hj (Nat.not_lt_zero _), Below.refl _ _⟩
    case round =>
      obtain ⟨i, rfl, hi, hall, hb⟩ := hrel
      have HALL := Lib.hid hall
      have HB := Lib.hid hb
      have ht0 := cell_later hb ht0
      clear hall hb
      by_cases hlt : i < L.length
      · have i1 : (i : Int) < L.length := by omega
        obtain ⟨x, hx⟩ : ∃ x, L[i]? = some x := ⟨_, List.getElem?_eq_getElem hlt⟩
        obtain ⟨g, off, rfl, -, c0, c1, c2, c3, c4, c5⟩ := itm_cells H.out i x hx
        have c2 := cell_later HB.out c2
        have c3 := cell_later HB.out c3
        have HX := Lib.hid hx
        clear hx c0 c1 c4 c5
        by_cases hn : x.e.node = n
        · have hn1 : (x.e.node == n) = true := by simpa using hn
          have HK := Lib.hid (kindT_at HN0.out HX.out hn HALL.out)
          obtain ⟨d, hd⟩ : ∃ d, x.e.dir = d := ⟨_, rfl⟩
          rw [hd] at c3 HK
          clear hn hd
          cases d
          · go_wp2_with fail
            go_ret
            exact ⟨ret_int (by rw [HK.out]; rfl), HBW.out.trans (HB.out.mono HBW.out.size)⟩
          · go_wp2_with fail
            go_ret
            exact ⟨ret_int (by rw [HK.out]; rfl), HBW.out.trans (HB.out.mono HBW.out.size)⟩
        · have hn1 : (x.e.node == n) = false := by simpa using hn
          have HNN := Lib.hid hn
          clear hn
          go_wp2_with fail
          exact ⟨⟨i + 1, by go_num, hlt, fun j y hj hy => (Nat.lt_succ_iff_lt_or_eq.1 hj).elim (fun q => HALL.out j y q hy) (fun q => by subst q; have := HX.out.symm.trans hy; cases this; exact HNN.out), HB.out⟩, by simp [intOf]; omega⟩
      · have ei : i = L.length := by omega
        subst ei
        have i2 : ¬ ((L.length : Int) < L.length) := by omega
        go_wp2_with fail
        go_ret
        exact ⟨ret_int (kindT_none HN0.out HALL.out).symm, HBW.out.trans (HB.out.mono HBW.out.size)⟩
/-- The directory in which a node stands. -/
def aboveT (L : List Itm) (n : Int) : Int := match L.find? (fun i => decide (i.e.node = n)) with | some i => i.d | none => -1
theorem aboveT_at {L : List Itm} {n : Int} {i : Nat} {x : Itm} (hx : L[i]? = some x) (hn : x.e.node = n) (hb : ∀ (j : Nat) y, j < i → L[j]? = some y → y.e.node ≠ n) : aboveT L n = x.d := by
  unfold aboveT
  have : L.find? (fun i => decide (i.e.node = n)) = some x := by
    obtain ⟨hi, e⟩ := List.getElem?_eq_some_iff.1 hx
    rw [List.find?_eq_some_iff_getElem]
    exact ⟨by simp [hn], i, hi, e, fun j hj => by simpa using hb j L[j] hj (List.getElem?_eq_getElem (by omega))⟩
  rw [this]
theorem aboveT_none {L : List Itm} {n : Int} (hb : ∀ (j : Nat) y, j < L.length → L[j]? = some y → y.e.node ≠ n) : aboveT L n = -1 := by
  unfold aboveT
  have : L.find? (fun i => decide (i.e.node = n)) = none := by
    rw [List.find?_eq_none]
    intro x hx
    obtain ⟨j, hj⟩ := List.getElem?_of_mem hx
    simpa using hb j x (List.getElem?_eq_some_iff.1 hj).1 hj
  rw [this]
set_option maxRecDepth 100000 in
set_option maxHeartbeats 2000000 in
theorem rabove_any {v : Value} {L : List Itm} (w : World) (next n : Int) (h : Arg EItm w v L) (hl : L.length ≤ 1000000) :
    Calls Tryz.prog 79 #[.agg #[v, .int .i64 next], .int .i64 n] w fun e w' => e = .returned (.int .i64 (aboveT L n)) ∧ Below w.heap.size w w' := by
  obtain ⟨a, c, rfl⟩ := h.shape
  obtain ⟨hbw, ht0, ht1⟩ := rtree_laid (a := a) (c := c) (L := L) w next
  obtain ⟨W, hW⟩ : ∃ W, w.alloc (.cells #[.slice a L.length c, .int .i64 next] 29) = W := ⟨_, rfl⟩
  rw [hW] at hbw ht0 ht1
  have H := Lib.hid (h.below hbw)
  have HBW := Lib.hid hbw
  clear h hbw
  go_enter Tryz.func79, Tryz.ntmps79
  go_wp2_with fail
  clear hW
  go_loopw [5] (fun iv wr => ∃ i : Nat, iv = .int .i64 i ∧ i ≤ L.length ∧ (∀ (j : Nat) y, j < i → L[j]? = some y → y.e.node ≠ n) ∧ Below W.heap.size W wr) (fun iv _ => L.length - (intOf iv).toNat)
  case atStart => exact ⟨0, rfl, Nat.zero_le _, fun j y hj => absurd hj (Nat.not_lt_zero _), Below.refl _ _⟩
  case round =>
    obtain ⟨i, rfl, hi, hall, hb⟩ := hrel
    have HALL := Lib.hid hall
    have HB := Lib.hid hb
    have ht0 := cell_later hb ht0
    clear hall hb
    by_cases hlt : i < L.length
    · have i1 : (i : Int) < L.length := by omega
      obtain ⟨x, hx⟩ : ∃ x, L[i]? = some x := ⟨_, List.getElem?_eq_getElem hlt⟩
      obtain ⟨g, off, rfl, -, c0, c1, c2, c3, c4, c5⟩ := itm_cells H.out i x hx
      have c0 := cell_later HB.out c0
      have c2 := cell_later HB.out c2
      have HX := Lib.hid hx
      clear hx c1 c3 c4 c5
      by_cases hn : x.e.node = n
      · have hn1 : (x.e.node == n) = true := by simpa using hn
        have HK := Lib.hid (aboveT_at HX.out hn HALL.out)
        clear hn
        go_wp2_with fail
        go_ret
        exact ⟨ret_int (by rw [HK.out]), HBW.out.trans (HB.out.mono HBW.out.size)⟩
      · have hn1 : (x.e.node == n) = false := by simpa using hn
        have HNN := Lib.hid hn
        clear hn
        go_wp2_with fail
        exact ⟨⟨i + 1, by go_num, hlt, fun j y hj hy => (Nat.lt_succ_iff_lt_or_eq.1 hj).elim (fun q => HALL.out j y q hy) (fun q => by subst q; have := HX.out.symm.trans hy; cases this; exact HNN.out), HB.out⟩, by simp [intOf]; omega⟩
    · have ei : i = L.length := by omega
      subst ei
      have i2 : ¬ ((L.length : Int) < L.length) := by omega
      go_wp2_with fail
      go_ret
      exact ⟨ret_int (aboveT_none HALL.out).symm, HBW.out.trans (HB.out.mono HBW.out.size)⟩
theorem kind_dir {L : List Itm} {next : Int} (h : TInv L next) (n : Int) : (kindT L n = 2 ↔ isDirB L n = true) ∧ (kindT L n = 1 ↔ isFileB L n = true) ∧ (kindT L n = 0 ∨ kindT L n = 1 ∨ kindT L n = 2) ∧ (isDirB L n = true → isFileB L n = false) := by
  unfold kindT
  by_cases h0 : n = 0
  · subst h0
    rw [if_pos rfl]
    have hf : isFileB L 0 = false := by
      cases c : isFileB L 0 with
      | false => rfl
      | true =>
        obtain ⟨i, hi, e, _⟩ := (isFileB_iff L 0).1 c
        have := (h.rg i hi).1; omega
    exact ⟨⟨fun _ => (isDirB_iff L 0).2 (Or.inl rfl), fun _ => rfl⟩, ⟨fun q => (by cases q), fun q => (by rw [hf] at q; cases q)⟩, Or.inr (Or.inr rfl), fun _ => hf⟩
  · rw [if_neg h0]
    cases hf : L.find? (fun i => decide (i.e.node = n)) with
    | none =>
      have hno : ∀ i ∈ L, i.e.node ≠ n := fun i hi e => by
        have := List.find?_eq_none.1 hf i hi
        simp [e] at this
      have d1 : isDirB L n = false := by
        rw [Bool.eq_false_iff]; intro q
        rcases (isDirB_iff L n).1 q with q | ⟨i, hi, e, _⟩
        · exact h0 q
        · exact hno i hi e
      have d2 : isFileB L n = false := by
        rw [Bool.eq_false_iff]; intro q
        obtain ⟨i, hi, e, _⟩ := (isFileB_iff L n).1 q
        exact hno i hi e
      rw [d1, d2]; simp
    | some x =>
      have hx := List.mem_of_find?_eq_some hf
      have hxn : x.e.node = n := by have := List.find?_some hf; simpa using this
      have huq : ∀ i ∈ L, i.e.node = n → i = x := fun i hi e => inj_of_nodup (f := fun i : Itm => i.e.node) h.nd hi hx (by rw [e, hxn])
      cases hd : x.e.dir with
      | true =>
        have d1 : isDirB L n = true := (isDirB_iff L n).2 (Or.inr ⟨x, hx, hxn, hd⟩)
        have d2 : isFileB L n = false := by
          rw [Bool.eq_false_iff]; intro q
          obtain ⟨i, hi, e, e2⟩ := (isFileB_iff L n).1 q
          rw [huq i hi e, hd] at e2; cases e2
        rw [d1, d2]; simp [hd]
      | false =>
        have d2 : isFileB L n = true := (isFileB_iff L n).2 ⟨x, hx, hxn, hd⟩
        have d1 : isDirB L n = false := by
          rw [Bool.eq_false_iff]; intro q
          rcases (isDirB_iff L n).1 q with q | ⟨i, hi, e, e2⟩
          · exact h0 q
          · rw [huq i hi e, hd] at e2; cases e2
        rw [d1, d2]; simp [hd]
theorem kind_list {L : List Itm} {next : Int} (h : TInv L next) (n : Int) : listErr L n = if kindT L n = 0 then 5 else if kindT L n = 1 then 8 else 0 := by
  obtain ⟨a, b, c, d⟩ := kind_dir h n
  unfold listErr
  rcases c with c | c | c
  · have h1 : isDirB L n = false := by rw [Bool.eq_false_iff]; intro q; rw [a.2 q] at c; cases c
    have h2 : isFileB L n = false := by rw [Bool.eq_false_iff]; intro q; rw [b.2 q] at c; cases c
    rw [h1, h2, c]; rfl
  · have h2 := b.1 c
    have h1 : isDirB L n = false := by rw [Bool.eq_false_iff]; intro q; rw [a.2 q] at c; cases c
    rw [h1, h2, c]; rfl
  · rw [a.1 c, c]; rfl
theorem entries_take (L : List Itm) (d : Int) (i : Nat) (x : Itm) (hx : L[i]? = some x) : entries (L.take (i + 1)) d = entries (L.take i) d ++ if x.d = d then [x.e] else [] := by
  rw [show L.take (i + 1) = L.take i ++ [x] from by rw [List.take_add_one, hx]; rfl, entries_snoc]
def RListPost (w : World) (L : List Itm) (d : Int) (e : Ending) (w' : World) : Prop :=
  ∃ v' l, e = .returned (.tuple #[v', .int .i64 (listErr L d)]) ∧ Row EEnt w' w.heap.size v' l ∧ (listErr L d = 0 → l = entries L d) ∧ (listErr L d ≠ 0 → l = []) ∧ Below w.heap.size w w'
set_option maxRecDepth 100000 in
set_option maxHeartbeats 2000000 in
theorem rlist_any {v : Value} {L : List Itm} (w : World) (next d : Int) (h : Arg EItm w v L) (hi : TInv L next) :
    Calls Tryz.prog 46 #[.agg #[v, .int .i64 next], .int .i64 d] w (RListPost w L d) := by
  obtain ⟨a, c, rfl⟩ := h.shape
  obtain ⟨hbw, ht0, ht1⟩ := rtree_laid (a := a) (c := c) (L := L) w next
  obtain ⟨W, hW⟩ : ∃ W, w.alloc (.cells #[.slice a L.length c, .int .i64 next] 29) = W := ⟨_, rfl⟩
  rw [hW] at hbw ht0 ht1
  have H := Lib.hid (h.below hbw)
  have HBW := Lib.hid hbw
  have hlen := hi.len
  have HK := Lib.hid (rkind_any W next d (h.below hbw) (by omega))
  have HKL := Lib.hid (kind_list hi d)
  obtain ⟨-, -, hk3, -⟩ := kind_dir hi d
  obtain ⟨kd, hkd⟩ : ∃ kd, kindT L d = kd := ⟨_, rfl⟩
  rw [hkd] at HK HKL hk3
  clear h hbw hkd
  go_enter Tryz.func46, Tryz.ntmps46
  rcases hk3 with rfl | rfl | rfl
  · go_wp2_with fail
    refine HK.out.mono ?_
    rintro e w1 ⟨rfl, hb1⟩
    have HB1 := Lib.hid (HBW.out.trans (hb1.mono HBW.out.size))
    clear hb1
    go_wp2_with fail
    go_ret2
    unfold RListPost
    rw [HKL.out]
    exact ⟨_, [], rfl, Row.nil _ _ _, fun q => (by cases q), fun _ => rfl, HB1.out⟩
  · go_wp2_with fail
    refine HK.out.mono ?_
    rintro e w1 ⟨rfl, hb1⟩
    have HB1 := Lib.hid (HBW.out.trans (hb1.mono HBW.out.size))
    clear hb1
    go_wp2_with fail
    go_ret2
    unfold RListPost
    rw [HKL.out]
    exact ⟨_, [], rfl, Row.nil _ _ _, fun q => (by cases q), fun _ => rfl, HB1.out⟩
  · go_wp2_with fail
    refine HK.out.mono ?_
    rintro e w1 ⟨rfl, hb1⟩
    have HB1 := Lib.hid (HBW.out.trans (hb1.mono HBW.out.size))
    have H1 := Lib.hid (H.out.below hb1)
    have ht0 := cell_later hb1 ht0
    clear hb1 H
    go_wp2_with fail
    clear hW
    go_loopw [7, 8] (fun ov iv wr => ∃ i : Nat, iv = .int .i64 i ∧ i ≤ L.length ∧ Row EEnt wr w1.heap.size ov (entries (L.take i) d) ∧ Below w1.heap.size w1 wr) (fun _ iv _ => L.length - (intOf iv).toNat)
    case atStart => exact ⟨0, rfl, Nat.zero_le _, Row.nil _ _ _, Below.refl _ _⟩
    case round =>
      obtain ⟨i, rfl, hi, hro, hb⟩ := hrel
      obtain ⟨ao, co, rfl⟩ := hro.shape
      have HRO := Lib.hid hro
      have HB := Lib.hid hb
      have ht0 := cell_later hb ht0
      have hel : (entries (L.take i) d).length ≤ 200 := by
        unfold entries; rw [List.length_map]
        exact Nat.le_trans (List.length_filter_le _ _) (by rw [List.length_take]; omega)
      clear hro hb
      by_cases hlt : i < L.length
      · have i1 : (i : Int) < L.length := by omega
        obtain ⟨x, hx⟩ : ∃ x, L[i]? = some x := ⟨_, List.getElem?_eq_getElem hlt⟩
        obtain ⟨g, off, rfl, -, c0, c1, c2, c3, c4, c5⟩ := itm_cells H1.out i x hx
        have c0 := cell_later HB.out c0
        have c1 := cell_later HB.out c1
        have c2 := cell_later HB.out c2
        have c3 := cell_later HB.out c3
        have c4 := cell_later HB.out c4
        have c5 := cell_later HB.out c5
        have HT := Lib.hid (entries_take L d i x hx)
        clear hx
        obtain ⟨A, hA⟩ : ∃ A, entries (L.take i) d = A := ⟨_, rfl⟩
        rw [hA] at HRO hel HT
        rw [hA]
        clear hA
        by_cases hn : x.d = d
        · have hn1 : (x.d == d) = true := by simpa using hn
          rw [if_pos hn] at HT
          clear hn
          go_wp2_with (first
            | (refine app_on EEnt.laid rfl _ _ 49 49 Tryz.underlying49 Tryz.underlying49 rfl _ A rfl ((HRO.out).alloc _) ((HB.out).alloc (HB.out).size _) (Nat.le_refl _) _ [x.e] rfl ?e1 ?e2 ?e3 ?_
               case e1 => exact Arg.blk (m_alloc _ _ _ rfl) [x.e] rfl 1
               case e2 => (show (A.length + 1) * 48 ≤ _; omega)
               case e3 => (show A.length + 1 ≤ maxLen; unfold maxLen; omega)
               intro v6 w6 hr6 hb6
               have HR6 := Lib.hid hr6
               have HB6 := Lib.hid hb6
               obtain ⟨a6, c6', rfl⟩ := hr6.shape
               clear hr6 hb6))
          refine ⟨⟨i + 1, by go_num, hlt, ?_, HB6.out⟩, by simp [intOf]; omega⟩
          have z := HR6.out
          rw [List.length_append] at z
          rw [HT.out]; exact z
        · have hn1 : (x.d == d) = false := by simpa using hn
          rw [if_neg hn, List.append_nil] at HT
          clear hn
          go_wp2_with fail
          exact ⟨⟨i + 1, by go_num, hlt, by rw [HT.out]; exact HRO.out, HB.out⟩, by simp [intOf]; omega⟩
      · have ei : i = L.length := by omega
        subst ei
        have i2 : ¬ ((L.length : Int) < L.length) := by omega
        rw [List.take_length] at HRO
        go_wp2_with fail
        go_ret2
        unfold RListPost
        rw [HKL.out]
        exact ⟨_, entries L d, rfl, HRO.out.mono HB1.out.size, fun _ => rfl, fun q => absurd rfl q, HB1.out.trans (HB.out.mono HB1.out.size)⟩
end Go.Proofs.YtolilbcpfdnkjaaGreat

/- the reference's tree, by value: Find. -/
namespace Go.Proofs.YtolilbcpfdnkjaaGreat
open Go.RowKit
set_option linter.unusedSimpArgs false
set_option linter.unusedVariables false
theorem idxP_first {l : List Ent} {p : Ent → Bool} {i : Nat} {x : Ent} (hx : l[i]? = some x) (hp : p x = true) (hb : ∀ (j : Nat) y, j < i → l[j]? = some y → p y = false) : l.find? p = some x := by
  obtain ⟨hi, e⟩ := List.getElem?_eq_some_iff.1 hx
  rw [List.find?_eq_some_iff_getElem]
  exact ⟨hp, i, hi, e, fun j hj => by simpa using hb j l[j] hj (List.getElem?_eq_getElem (by omega))⟩
theorem idxP_nofirst {l : List Ent} {p : Ent → Bool} (hb : ∀ (j : Nat) y, j < l.length → l[j]? = some y → p y = false) : l.find? p = none := by
  rw [List.find?_eq_none]
  intro x hx
  obtain ⟨j, hj⟩ := List.getElem?_of_mem hx
  simpa using hb j x (List.getElem?_eq_some_iff.1 hj).1 hj
set_option maxRecDepth 100000 in
set_option maxHeartbeats 2000000 in
theorem rfind_any {v : Value} {L : List Itm} (w : World) (next d : Int) (name : ByteArray) (h : Arg EItm w v L) (hi : TInv L next) :
    Calls Tryz.prog 75 #[.agg #[v, .int .i64 next], .int .i64 d, .string name] w fun e w' => e = .returned (.tuple #[(findRes L d name).1.val, .int .i64 (findRes L d name).2]) ∧ Below w.heap.size w w' := by
  obtain ⟨a, c, rfl⟩ := h.shape
  have hb0 : Below w.heap.size w ((w.alloc (.cells #[.slice a L.length c, .int .i64 next] 29)).alloc (.cells #[.string ⟨#[]⟩, .int .i64 0, .bool false, .int .i64 0, .int .i64 0] 84)) := ((Below.refl _ _).alloc (Nat.le_refl _) _).alloc (by simp) _
  have hk0 := m_alloc (w.alloc (.cells #[.slice a L.length c, .int .i64 next] 29)) (.cells #[.string ⟨#[]⟩, .int .i64 0, .bool false, .int .i64 0, .int .i64 0] 84) (w.heap.size + 1) (by simp)
  have ht := m_old (.cells #[.string ⟨#[]⟩, .int .i64 0, .bool false, .int .i64 0, .int .i64 0] 84) (m_alloc w (.cells #[.slice a L.length c, .int .i64 next] 29) w.heap.size rfl)
  have ht0 := (m_cells ht).1 0
  have ht1 := (m_cells ht).1 1
  obtain ⟨W, hW⟩ : ∃ W, (w.alloc (.cells #[.slice a L.length c, .int .i64 next] 29)).alloc (.cells #[.string ⟨#[]⟩, .int .i64 0, .bool false, .int .i64 0, .int .i64 0] 84) = W := ⟨_, rfl⟩
  rw [hW] at hb0 hk0 ht0 ht1
  clear ht
  have ht0 : W.cell? ⟨w.heap.size, 0, none⟩ = some (.slice a L.length c) := ht0
  have ht1 : W.cell? ⟨w.heap.size, 1, none⟩ = some (.int .i64 next) := ht1
  have HL := Lib.hid (rlist_any W next d (h.below hb0) hi)
  have HBW := Lib.hid hb0
  have hwl : w.heap.size ≤ W.heap.size := hb0.size
  have hBW : w.heap.size + 1 < W.heap.size := m_lt hk0
  obtain ⟨B, hB⟩ : ∃ B, w.heap.size + 1 = B := ⟨_, rfl⟩
  rw [hB] at hk0 hBW
  have HBB := Lib.hid hB
  have HK := Lib.hid hk0
  clear h hb0 hk0
  go_enter Tryz.func75, Tryz.ntmps75
  go_wp2_with fail
  clear hW
  refine HL.out.mono ?_
  rintro e w1 ⟨v1, l, rfl, hr, hle, hle2, hb⟩
  obtain ⟨a1, k1, rfl⟩ := hr.shape
  have HR := Lib.hid hr
  have HW1 := Lib.hid (HBW.out.trans (hb.mono hwl))
  have HK1 := Lib.hid ((hb.block B hBW).trans HK.out)
  have hB1 : B < w1.heap.size := Nat.lt_of_lt_of_le hBW hb.size
  have hlen := ents_len hi d
  have hll : l.length ≤ 200 := by
    by_cases q : listErr L d = 0
    · rw [hle q]; exact hlen
    · rw [hle2 q]; exact Nat.zero_le _
  obtain ⟨E, hE⟩ : ∃ E, listErr L d = E := ⟨_, rfl⟩
  rw [hE] at hle hle2
  have HLE := Lib.hid hle
  have HLE2 := Lib.hid hle2
  have HE := Lib.hid hE
  rw [hE]
  clear hr hle hle2 hb hE HL HK hi hlen
  have hinf : (Tryz.prog.info? 84).map (·.size) = some 5 := by kernel_rfl
  have HINF := Lib.hid hinf
  clear hinf
  -- the end: the result's cell has been written
  have hend : ∀ (w2 : World) (x : Ent) (tm : Array Value) (E2 : Int), Below w.heap.size w w2 → w2.heap[B]? = some (.cells #[.string ⟨#[]⟩, .int .i64 0, .bool false, .int .i64 0, .int .i64 0] 84 (0, 0)) → findRes L d name = (x, E2) →
      tm.getD 6 undef = .pointer (some ⟨B, 0, none⟩) → tm.getD 7 undef = .int .i64 E2 →
      bodyPost Tryz.prog Tryz.f75 (fun e w' => e = .returned (.tuple #[(findRes L d name).1.val, .int .i64 (findRes L d name).2]) ∧ Below w.heap.size w w') Exit.ret ⟨tm, []⟩ (w2.setRow B #[.string x.name, .int .i64 x.node, .bool x.dir, .int .i64 x.cookie, .int .i64 x.short]) := by
    intro w2 x tm E2 hb2 hk hf h6 h7
    refine bodyPost_ret (v := .tuple #[x.val, .int .i64 E2]) ?_ rfl ⟨by rw [hf], ?_⟩
    · have := results2_row (P := Tryz.prog) (fn := Tryz.f75) (p := 6) (q := 7) (ty := 84) rfl tm _ B 84 _ (0, 0) _ h6 (setRow_heap w2 B _ #[.string x.name, .int .i64 x.node, .bool x.dir, .int .i64 x.cookie, .int .i64 x.short] _ _ hk) Tryz.underlying84 rfl (by rw [HINF.out]; rfl)
      rw [h7] at this
      exact this
    · exact ⟨hb2.os, hb2.tape, hb2.output, by have := hb2.size; simp [World.setRow]; exact this, fun k hk2 => by rw [setRow_other _ _ _ _ (by have := HBB.out; omega)]; exact hb2.block k hk2⟩
  have HEND := Lib.hid hend
  clear hend
  go_wp2_with fail
  go_loopw [10] (fun iv wr => ∃ i : Nat, iv = .int .i64 i ∧ i ≤ l.length ∧ (∀ (j : Nat) y, j < i → l[j]? = some y → hasName name y = false) ∧ Below w1.heap.size w1 wr) (fun iv _ => l.length - (intOf iv).toNat)
  case atStart => exact ⟨0, rfl, Nat.zero_le _, fun j y hj => absurd hj (Nat.not_lt_zero _), Below.refl _ _⟩
  case round =>
    obtain ⟨i, rfl, hi, hall, hb⟩ := hrel
    have HALL := Lib.hid hall
    have HB := Lib.hid hb
    have HWR := Lib.hid (HW1.out.trans (hb.mono HW1.out.size))
    have HKR := Lib.hid ((hb.block B hB1).trans HK1.out)
    clear hall hb
    by_cases hlt : i < l.length
    · have i1 : (i : Int) < l.length := by omega
      obtain ⟨x, hx⟩ : ∃ x, l[i]? = some x := ⟨_, List.getElem?_eq_getElem hlt⟩
      obtain ⟨g, off, rfl, -, c0, c1, c2, c3, c4⟩ := ent_cells HR.out.arg i x hx
      have c0 := cell_later HB.out c0
      have c1 := cell_later HB.out c1
      have c2 := cell_later HB.out c2
      have c3 := cell_later HB.out c3
      have c4 := cell_later HB.out c4
      have HX := Lib.hid hx
      clear hx
      by_cases hn : x.name = name
      · have hn1 : (x.name.toList == name.toList) = true := (bstr_eq_iff _ _).2 hn
        have HF := Lib.hid (show findRes L d name = (x, 0) from by
          by_cases q : E = 0
          · have hl := HLE.out q
            unfold findRes findE
            rw [HE.out, if_neg (by simpa using q), ← hl, idxP_first HX.out (by simpa [hasName] using hn) HALL.out]
          · have hl := HLE2.out q
            rw [hl] at hlt
            exact absurd hlt (Nat.not_lt_zero _))
        clear hn
        go_wp2_with (first
          | (refine wpList_store_row rfl 84 _ _ rfl B _ rfl rfl 84 _ HKR.out ?d2 rfl ?d4 ?_; (case d2 => rw [HINF.out]; rfl); (case d4 => simp [Value.oneCell'])))
        exact HEND.out wr x _ 0 HWR.out HKR.out HF.out rfl rfl
      · have hn1 : (x.name.toList == name.toList) = false := by rw [Bool.eq_false_iff, ne_eq, bstr_eq_iff]; exact hn
        have HNN := Lib.hid hn
        clear hn
        go_wp2_with fail
        exact ⟨⟨i + 1, by go_num, hlt, fun j y hj hy => (Nat.lt_succ_iff_lt_or_eq.1 hj).elim (fun q => HALL.out j y q hy) (fun q => by subst q; have := HX.out.symm.trans hy; cases this; simpa [hasName] using HNN.out), HB.out⟩, by simp [intOf]; omega⟩
    · have ei : i = l.length := by omega
      subst ei
      have i2 : ¬ ((l.length : Int) < l.length) := by omega
      by_cases q : E = 0
      · subst q
        have HF := Lib.hid (show findRes L d name = (Ent.zero, 5) from by
          have hl := HLE.out rfl
          unfold findRes findE
          rw [HE.out, if_neg (by decide), ← hl, idxP_nofirst HALL.out])
        go_wp2_with (first
          | (refine wpList_store_row rfl 84 _ _ rfl B _ rfl rfl 84 _ HKR.out ?d2 rfl ?d4 ?_; (case d2 => rw [HINF.out]; rfl); (case d4 => simp [Value.oneCell'])))
        exact HEND.out wr Ent.zero _ 5 HWR.out HKR.out HF.out rfl rfl
      · have q1 : (E == 0) = false := by simpa using q
        have HF := Lib.hid (show findRes L d name = (Ent.zero, E) from by
          unfold findRes
          rw [HE.out, if_pos q])
        go_wp2_with (first
          | (refine wpList_store_row rfl 84 _ _ rfl B _ rfl rfl 84 _ HKR.out ?d2 rfl ?d4 ?_; (case d2 => rw [HINF.out]; rfl); (case d4 => simp [Value.oneCell'])))
        exact HEND.out wr Ent.zero _ E HWR.out HKR.out HF.out rfl rfl
end Go.Proofs.YtolilbcpfdnkjaaGreat
