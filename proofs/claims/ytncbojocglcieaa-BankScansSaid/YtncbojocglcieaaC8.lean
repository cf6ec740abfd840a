/- bank's reference: Same; the law's all. -/
import Derived.Test.YtncbojocglcieaaC7
namespace Go.Proofs.Ytncbojocglcieaa
open Go.RowKit
set_option linter.unusedSimpArgs false
set_option linter.unusedVariables false
theorem take_eq_of {α : Type} {l m : List α} (h : l.length = m.length) (q : l.take l.length = m.take l.length) : l = m := by
  rw [List.take_length] at q; rw [q, h, List.take_length]
set_option maxRecDepth 100000 in
set_option maxHeartbeats 2000000 in
theorem same_any (w : World) (va vb : Value) (la lb : List ByteArray) (ha : Arg EStr w va la) (hb : Arg EStr w vb lb) (ml : la.length ≤ maxLen) (ml2 : lb.length ≤ maxLen) :
    Calls Try.prog 37 #[va, vb] w fun e w' => e = .returned (.bool (decide (la = lb))) ∧ Below w.heap.size w w' := by
  obtain ⟨aa, ca, rfl⟩ := ha.shape
  obtain ⟨ab, cb, rfl⟩ := hb.shape
  have HA := Lib.hid ha
  have HB := Lib.hid hb
  unfold maxLen at ml ml2
  obtain ⟨P, hP⟩ : ∃ P, decide (la = lb) = P := ⟨_, rfl⟩
  rw [hP]
  have HP := Lib.hid hP
  clear ha hb hP
  by_cases hl : la.length = lb.length
  · have l1 : ((la.length : Int) != lb.length) = false := by rw [hl]; simp
    have l2 : (la.length != lb.length) = false := by rw [hl]; simp
    have HL := Lib.hid hl
    clear hl
    go_enter Try.func37, Try.ntmps37
    go_wp2_with fail
    go_loopw [5] (fun iv wr => ∃ i : Nat, iv = .int .i64 i ∧ i ≤ la.length ∧ la.take i = lb.take i ∧ Below w.heap.size w wr) (fun iv _ => la.length - (intOf iv).toNat)
    case atStart => exact ⟨0, rfl, Nat.zero_le _, rfl, Below.refl _ _⟩
    case round =>
      obtain ⟨i, rfl, hi, ht, hbw⟩ := hrel
      have HT := Lib.hid ht
      have HBW := Lib.hid hbw
      clear ht hbw
      by_cases hlt : i < la.length
      · obtain ⟨x, hx⟩ : ∃ x, la[i]? = some x := ⟨_, List.getElem?_eq_getElem hlt⟩
        obtain ⟨y, hy⟩ : ∃ y, lb[i]? = some y := ⟨_, List.getElem?_eq_getElem (by have := HL.out; omega)⟩
        obtain ⟨ga, oa, ka, e1, hca⟩ := (HA.out.below HBW.out).cells (by intro q; rw [q] at hlt; simp at hlt)
        obtain ⟨gb, ob, kb, e2, hcb⟩ := (HB.out.below HBW.out).cells (by intro q; have h := HL.out; rw [q] at h; rw [h] at hlt; simp at hlt)
        simp only [Value.slice.injEq] at e1 e2
        obtain ⟨rfl, -, rfl⟩ := e1
        obtain ⟨rfl, -, rfl⟩ := e2
        have c1 : wr.cell? ⟨ga, oa + i, none⟩ = some (.string x) := by have := hca i x hx 0 (by decide); simpa [EStr] using this
        have c2 : wr.cell? ⟨gb, ob + i, none⟩ = some (.string y) := by have := hcb i y hy 0 (by decide); simpa [EStr] using this
        have i1 : (i : Int) < la.length := by omega
        have i2 : (i : Int) < lb.length := by have := HL.out; omega
        have i3 : i < lb.length := by have := HL.out; omega
        have HX := Lib.hid hx
        have HY := Lib.hid hy
        clear hca hcb hx hy
        by_cases q : x = y
        · subst q
          have hre := str_refl x
          go_wp2_with fail
          go_quiet (fail)
          have hbq : Below wr.heap.size wr (wr.drewN nq) := qt_below (Qt.drewN wr nq)
          have HB6 := Lib.hid (HBW.out.trans (hbq.mono HBW.out.size))
          clear hbq c1 c2
          generalize wr.drewN nq = w6 at *
          go_wp2_with fail
          have htn : la.take (i + 1) = lb.take (i + 1) := by
            obtain ⟨p1, p2⟩ := List.getElem?_eq_some_iff.1 HX.out
            obtain ⟨p3, p4⟩ := List.getElem?_eq_some_iff.1 HY.out
            rw [List.take_succ_eq_append_getElem p1, List.take_succ_eq_append_getElem p3, p2, p4, HT.out]
          exact ⟨⟨i + 1, by go_num, hlt, htn, HB6.out⟩, by simp [intOf]; omega⟩
        · have hne := str_ne q
          have hPf : P = false := by
            rw [← HP.out, decide_eq_false_iff_not]
            intro e
            have h1 := HX.out
            rw [e, HY.out] at h1
            exact q (Option.some.inj h1).symm
          subst hPf
          go_wp2_with fail
          go_quiet (fail)
          have hbq : Below wr.heap.size wr (wr.drewN nq) := qt_below (Qt.drewN wr nq)
          have HB6 := Lib.hid (HBW.out.trans (hbq.mono HBW.out.size))
          clear hbq c1 c2
          generalize wr.drewN nq = w6 at *
          go_wp2_with fail
          go_ret
          exact ⟨rfl, HB6.out⟩
      · have ei : i = la.length := by omega
        have hPt : P = true := by
          rw [← HP.out, decide_eq_true_eq]
          have h1 := HT.out
          rw [ei] at h1
          exact take_eq_of HL.out h1
        subst hPt
        have i1 : ¬ ((i : Int) < la.length) := by omega
        go_wp2_with fail
        go_ret
        exact ⟨rfl, HBW.out⟩
  · have l1 : ((la.length : Int) != lb.length) = true := by simp; omega
    have l2 : (la.length != lb.length) = true := by simp; omega
    have hPf : P = false := by
      rw [← HP.out, decide_eq_false_iff_not]
      intro e
      exact hl (by rw [e])
    subst hPf
    go_enter Try.func37, Try.ntmps37
    go_wp2_with fail
    go_ret
    exact ⟨rfl, Below.refl _ _⟩
end Go.Proofs.Ytncbojocglcieaa
