/- tree: Same. -/
import Derived.Test.YtolilbcpfdnkjaaUD
import Derived.Laws.StructEq
namespace Go.Proofs.Ytolilbcpfdnkjaa
open Go.RowKit
set_option linter.unusedSimpArgs false
set_option linter.unusedVariables false
instance : DecidableEq Ent := fun x y => decidable_of_iff (x.name = y.name ∧ x.node = y.node ∧ x.dir = y.dir ∧ x.cookie = y.cookie ∧ x.short = y.short) (by
  cases x; cases y; simp)
theorem neq_ent (x y : Ent) (w : World) : (binOp .neq 40 x.val y.val).run Try.prog w = .ok (.bool (!decide (x = y))) w := by
  have u2 := Try.underlying2
  have u3 := Try.underlying3
  have u4 := Try.underlying4
  have u9 := Try.underlying9
  have a2 := Try.isAgg2
  have a3 := Try.isAgg3
  have a4 := Try.isAgg4
  have a9 := Try.isAgg9
  have z2 := Try.sizeOf2
  have z3 := Try.sizeOf3
  have z4 := Try.sizeOf4
  have z9 := Try.sizeOf9
  have hS : Try.prog.underlying 40 = some (.struct (Try.prog.fieldsOf 40)) := by kernel_rfl
  have hp : Try.prog.stoodInHeld 40 = false := by kernel_rfl
  have hd : decide (x = y) = ((x.name.toList == y.name.toList) && ((x.node == y.node) && ((x.dir == y.dir) && ((x.cookie == y.cookie) && (x.short == y.short))))) := by
    rw [Bool.eq_iff_iff, decide_eq_true_iff]
    have hs : (x.name.toList = y.name.toList) ↔ x.name = y.name := by rw [← bstr_eq_iff, beq_iff_eq]
    simp only [Bool.and_eq_true, beq_iff_eq, hs]
    cases x; cases y; simp
  rw [hd]
  rw [run_neq_struct, show (10000 : Nat) = 9999 + 1 from rfl, run_equalIn_agg w 9999 40 _ _ hS hp]
  simp only [Program.fieldsOf, Try.underlying40]
  go_simp
  by_cases h1 : x.name.toList = y.name.toList <;> by_cases h2 : x.node = y.node <;> by_cases h3 : x.dir = y.dir <;> by_cases h4 : x.cookie = y.cookie <;> by_cases h5 : x.short = y.short <;> simp [h1, h2, h3, h4, h5]
set_option maxRecDepth 100000 in
set_option maxHeartbeats 2000000 in
theorem same_any {v1 v2 : Value} (w : World) (l1 l2 : List Ent) (h1 : Arg EEnt w v1 l1) (h2 : Arg EEnt w v2 l2) (ml : l1.length ≤ maxLen) (ml2 : l2.length ≤ maxLen) :
    Calls Try.prog 17 #[v1, v2] w fun e w' => e = .returned (.bool (decide (l1 = l2))) ∧ Below w.heap.size w w' := by
  obtain ⟨a1, k1, rfl⟩ := h1.shape
  obtain ⟨a2, k2, rfl⟩ := h2.shape
  have H1 := Lib.hid h1
  have H2 := Lib.hid h2
  unfold maxLen at ml ml2
  clear h1 h2
  go_enter Try.func17, Try.ntmps17
  by_cases hl : l1.length = l2.length
  · have hl1 : (l1.length : Int) = l2.length := by omega
    have e1 : ((l1.length : Int) != l2.length) = false := by simp [hl1]
    obtain ⟨n, hn⟩ : ∃ n, l1.length = n := ⟨_, rfl⟩
    have hn2 : l2.length = n := by omega
    have HN := Lib.hid hn
    have HN2 := Lib.hid hn2
    rw [hn] at ml
    rw [hn, hn2]
    clear hl hl1 e1 hn hn2 ml2
    go_wp2_with fail
    go_loopw [5] (fun iv wr => ∃ i : Nat, iv = .int .i64 i ∧ i ≤ n ∧ (∀ k, k < i → l1[k]? = l2[k]?) ∧ Below w.heap.size w wr) (fun iv _ => n - (intOf iv).toNat)
    case atStart => exact ⟨0, rfl, Nat.zero_le _, fun k hk => absurd hk (Nat.not_lt_zero _), Below.refl _ _⟩
    case round =>
      obtain ⟨i, rfl, hi, hall, hb⟩ := hrel
      have HALL := Lib.hid hall
      have HB := Lib.hid hb
      clear hall hb
      by_cases hlt : i < n
      · have i1 : (i : Int) < n := by omega
        obtain ⟨x, hx⟩ : ∃ x, l1[i]? = some x := ⟨_, List.getElem?_eq_getElem (by rw [HN.out]; exact hlt)⟩
        obtain ⟨y, hy⟩ : ∃ y, l2[i]? = some y := ⟨_, List.getElem?_eq_getElem (by rw [HN2.out]; exact hlt)⟩
        obtain ⟨g, off, rfl, -, c0, c1, c2, c3, c4⟩ := ent_cells H1.out i x hx
        obtain ⟨g2, off2, rfl, -, d0, d1, d2, d3, d4⟩ := ent_cells H2.out i y hy
        have c0 := cell_later HB.out c0
        have c1 := cell_later HB.out c1
        have c2 := cell_later HB.out c2
        have c3 := cell_later HB.out c3
        have c4 := cell_later HB.out c4
        have d0 := cell_later HB.out d0
        have d1 := cell_later HB.out d1
        have d2 := cell_later HB.out d2
        have d3 := cell_later HB.out d3
        have d4 := cell_later HB.out d4
        have hne := neq_ent x y
        have HX := Lib.hid hx
        have HY := Lib.hid hy
        clear hx hy
        go_wp2_with fail
        go_quiet (fail)
        have HBQ := Lib.hid (show Below wr.heap.size wr (wr.drewN nq) from ⟨rfl, rfl, rfl, Nat.le_refl _, fun _ _ => rfl⟩)
        by_cases e : x = y
        · have hd : decide (x = y) = true := decide_eq_true e
          rw [hd]
          go_wp2_with fail
          refine ⟨⟨i + 1, by go_num, hlt, fun k hk => ?_, HB.out.trans (HBQ.out.mono HB.out.size)⟩, by simp [intOf]; omega⟩
          by_cases ek : k = i
          · subst ek; rw [HX.out, HY.out, e]
          · exact HALL.out k (by omega)
        · have hd : decide (x = y) = false := decide_eq_false e
          rw [hd]
          go_wp2_with fail
          go_ret
          refine ⟨ret_bool ?_, HB.out.trans (HBQ.out.mono HB.out.size)⟩
          symm
          rw [decide_eq_false_iff_not]
          intro q
          rw [q, HY.out] at HX
          exact e (Option.some.inj HX.out).symm
      · have ei : i = n := by omega
        subst ei
        have i2 : ¬ ((i : Int) < i) := by omega
        go_wp2_with fail
        go_ret
        refine ⟨ret_bool ?_, HB.out⟩
        symm
        rw [decide_eq_true_iff]
        refine List.ext_getElem? (fun k => ?_)
        by_cases hk : k < i
        · exact HALL.out k hk
        · rw [List.getElem?_eq_none (by rw [HN.out]; omega), List.getElem?_eq_none (by rw [HN2.out]; omega)]
  · have hl1 : ¬ (l1.length : Int) = l2.length := by omega
    have e1 : ((l1.length : Int) != l2.length) = true := by simp [hl1]
    have HD := Lib.hid (show decide (l1 = l2) = false from decide_eq_false (fun e => hl (by rw [e])))
    clear hl
    go_wp2_with fail
    go_ret
    exact ⟨ret_bool HD.out.symm, Below.refl _ _⟩
end Go.Proofs.Ytolilbcpfdnkjaa
