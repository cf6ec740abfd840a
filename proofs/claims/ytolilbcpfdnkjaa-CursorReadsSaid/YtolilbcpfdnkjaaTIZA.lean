/- The reference of layer 16: Read. -/
import Derived.Test.YtolilbcpfdnkjaaTIX1
import Derived.Test.YtolilbcpfdnkjaaTIRkA
namespace Go.Proofs.Ytolilbcpfdnkjaa
open Go.RowKit
set_option linter.unusedSimpArgs false
set_option linter.unusedVariables false
theorem lastC_snoc (a : List Ent) (x : Ent) (c : Int) : lastC (a ++ [x]) c = x.cookie := by
  unfold lastC; rw [List.getLast?_append]; rfl
/-- The next entry is behind, and there is room. -/
theorem behind_more {l : List Ent} (hs : (l.map (·.cookie)).Pairwise (· < ·)) {c n : Int} (h1 : 1 ≤ n) {i : Nat} {x : Ent} (hx : l[i]? = some x) (hlen : ((behind (l.take i) c n).length : Int) < n) :
    (lastC (behind (l.take i) c n) c < x.cookie → behind (l.take (i + 1)) c n = behind (l.take i) c n ++ [x]) ∧ (¬ lastC (behind (l.take i) c n) c < x.cookie → behind (l.take (i + 1)) c n = behind (l.take i) c n) := by
  have et : l.take (i + 1) = l.take i ++ [x] := by rw [List.take_add_one, hx]; rfl
  have hfl : ((l.take i).filter (fun x => decide (c < x.cookie))).length < n.toNat := by
    unfold behind at hlen; rw [List.length_take] at hlen; omega
  have hb : behind (l.take i) c n = (l.take i).filter (fun x => decide (c < x.cookie)) := by
    unfold behind; rw [List.take_of_length_le (by omega)]
  have hb1 : behind (l.take (i + 1)) c n = (l.take i).filter (fun x => decide (c < x.cookie)) ++ (if c < x.cookie then [x] else []) := by
    unfold behind
    rw [et, List.filter_append]
    have : List.filter (fun x => decide (c < x.cookie)) [x] = if c < x.cookie then [x] else [] := by
      by_cases q : c < x.cookie <;> simp [q]
    rw [this, List.take_of_length_le]
    rw [List.length_append]
    split
    · simp only [List.length_cons, List.length_nil]; omega
    · simp only [List.length_nil]; omega
  -- where the last one stands
  have key : lastC (behind (l.take i) c n) c < x.cookie ↔ c < x.cookie := by
    rw [hb]
    cases hq : ((l.take i).filter (fun x => decide (c < x.cookie))).getLast? with
    | none => unfold lastC; rw [hq]
    | some y =>
      have hm := List.mem_of_getLast? hq
      obtain ⟨hm1, hm2⟩ := List.mem_filter.1 hm
      have hm2 : c < y.cookie := by simpa using hm2
      have hlt : y.cookie < x.cookie := by
        obtain ⟨j, hj⟩ := List.getElem?_of_mem hm1
        have hji : j < i := by
          have := (List.getElem?_eq_some_iff.1 hj).1
          rw [List.length_take] at this; omega
        rw [List.getElem?_take_of_lt hji] at hj
        obtain ⟨h1, e1⟩ := List.getElem?_eq_some_iff.1 hj
        obtain ⟨h2, e2⟩ := List.getElem?_eq_some_iff.1 hx
        have := List.pairwise_iff_getElem.1 hs j i (by simpa using h1) (by simpa using h2) hji
        simp only [List.getElem_map, e1, e2] at this
        exact this
      unfold lastC; rw [hq]
      constructor
      · intro _; omega
      · intro _; exact hlt
  rw [key, hb1, hb]
  constructor
  · intro q; rw [if_pos q]
  · intro q; rw [if_neg q, List.append_nil]
/-- Full: what follows does not come. -/
theorem behind_full {l : List Ent} {c n : Int} {i : Nat} (hlen : ((behind (l.take i) c n).length : Int) = n) : behind l c n = behind (l.take i) c n := by
  have e := List.take_append_drop i l
  conv => lhs; rw [← e]
  unfold behind at hlen ⊢
  rw [List.filter_append, List.take_append_of_le_length]
  rw [List.length_take] at hlen
  omega
theorem behind_le (l : List Ent) {c n : Int} (h1 : 1 ≤ n) : ((behind l c n).length : Int) ≤ n := by
  unfold behind; rw [List.length_take]; omega
def RRel16 (w : World) (l : List Ent) (c n : Int) (cv ov iv : Value) (wr : World) : Prop :=
  ∃ i : Nat, iv = .int .i64 i ∧ i ≤ l.length ∧ cv = .int .i64 (lastC (behind (l.take i) c n) c) ∧ Row EEnt wr w.heap.size ov (behind (l.take i) c n) ∧ Below w.heap.size w wr
def RReadPost (w : World) (l : List Ent) (c n : Int) (e : Ending) (w' : World) : Prop :=
  ∃ v', e = .returned (.tuple #[v', .int .i64 (readT l c n).2.1, .int .i64 (readT l c n).2.2]) ∧ Row EEnt w' w.heap.size v' (readT l c n).1 ∧ Below w.heap.size w w'
set_option maxRecDepth 100000 in
set_option maxHeartbeats 2000000 in
theorem rread_any {v : Value} {l : List Ent} (w : World) (c n : Int) (h : Arg EEnt w v l) (hl : l.length ≤ 1000000) (hs : (l.map (·.cookie)).Pairwise (· < ·)) :
    Calls Try.prog 36 #[v, .int .i64 c, .int .i64 n] w (RReadPost w l c n) := by
  obtain ⟨a, cap, rfl⟩ := h.shape
  have H := Lib.hid h
  have HS := Lib.hid hs
  clear h hs
  go_enter Try.func36, Try.ntmps36
  by_cases n1 : n < 1
  · have d1 : decide (n < 1) = true := decide_eq_true n1
    have HR := Lib.hid (show readT l c n = ([], 0, 1) from by unfold readT; rw [if_pos (Or.inl n1)])
    go_wp2_with fail
    go_ret3
    unfold RReadPost
    rw [HR.out]
    exact ⟨_, rfl, Row.nil _ _ _, Below.refl _ _⟩
  by_cases n64 : 64 < n
  · have d1 : decide (n < 1) = false := decide_eq_false n1
    have d2 : decide (64 < n) = true := decide_eq_true n64
    have HR := Lib.hid (show readT l c n = ([], 0, 1) from by unfold readT; rw [if_pos (Or.inr n64)])
    go_wp2_with fail
    go_ret3
    unfold RReadPost
    rw [HR.out]
    exact ⟨_, rfl, Row.nil _ _ _, Below.refl _ _⟩
  have d1 : decide (n < 1) = false := decide_eq_false n1
  have d2 : decide (64 < n) = false := decide_eq_false n64
  by_cases cn : c < 0
  · have d3 : decide (c < 0) = true := decide_eq_true cn
    have HR := Lib.hid (show readT l c n = ([], 0, 14) from by unfold readT; rw [if_neg (by omega), if_pos cn])
    go_wp2_with fail
    go_ret3
    unfold RReadPost
    rw [HR.out]
    exact ⟨_, rfl, Row.nil _ _ _, Below.refl _ _⟩
  have d3 : decide (c < 0) = false := decide_eq_false cn
  have n1' : 1 ≤ n := by omega
  have HR := Lib.hid (show readT l c n = (behind l c n, lastC (behind l c n) c, 0) from by unfold readT; rw [if_neg (by omega), if_neg cn])
  go_wp2_with fail
  go_loopw [1, 9, 10] (fun cv ov iv wr => RRel16 w l c n cv ov iv wr) (fun _ _ iv _ => l.length - (intOf iv).toNat)
  case atStart => exact ⟨0, rfl, Nat.zero_le _, by unfold behind; simp [lastC], by unfold behind; simp; exact Row.nil _ _ _, Below.refl _ _⟩
  case round =>
    obtain ⟨i, rfl, hi, rfl, hro, hb⟩ := hrel
    obtain ⟨ao, co, rfl⟩ := hro.shape
    have HRO := Lib.hid hro
    have HB := Lib.hid hb
    have hal := behind_le (l.take i) (c := c) n1'
    clear hro hb
    by_cases hlt : i < l.length
    · have i1 : (i : Int) < l.length := by omega
      obtain ⟨x, hx⟩ : ∃ x, l[i]? = some x := ⟨_, List.getElem?_eq_getElem hlt⟩
      obtain ⟨g, off, rfl, -, k0, k1, k2, k3, k4⟩ := ent_cells H.out i x hx
      have K3 := Lib.hid k3
      have k0 := cell_later HB.out k0
      have k1 := cell_later HB.out k1
      have k2 := cell_later HB.out k2
      have k3 := cell_later HB.out k3
      have k4 := cell_later HB.out k4
      have HM := Lib.hid (fun q => behind_more HS.out n1' hx (n := n) (c := c) q)
      have HF := Lib.hid (fun q => behind_full (l := l) (c := c) (n := n) (i := i) q)
      clear hx
      obtain ⟨A, hA⟩ : ∃ A, behind (l.take i) c n = A := ⟨_, rfl⟩
      rw [hA] at HRO hal HM HF
      rw [hA]
      obtain ⟨C, hC⟩ : ∃ C, lastC A c = C := ⟨_, rfl⟩
      rw [hC] at HM
      rw [hC]
      have HC := Lib.hid hC
      clear hA hC
      by_cases hfull : (A.length : Int) = n
      · have e1 : ((A.length : Int) == n) = true := by simpa using hfull
        have e2 : decide ((A.length : Int) < n) = false := decide_eq_false (by omega)
        have HF := Lib.hid (HF.out hfull)
        clear hfull
        have HEND := Lib.hid (show RReadPost w l c n (.returned (.tuple #[.slice ao A.length co, .int .i64 C, .int .i64 0])) wr from by
          unfold RReadPost
          rw [HR.out, HF.out, HC.out]
          exact ⟨_, rfl, HRO.out, HB.out⟩)
        clear HM HF
        by_cases hf : C < x.cookie
        · have e3 : decide (C < x.cookie) = true := decide_eq_true hf
          go_wp2_with fail
          go_ret3
          exact HEND.out
        · have e3 : decide (C < x.cookie) = false := decide_eq_false hf
          go_wp2_with fail
          go_ret3
          exact HEND.out
      · have e1 : ((A.length : Int) == n) = false := by simpa using hfull
        have hfl : (A.length : Int) < n := by omega
        have e2 : decide ((A.length : Int) < n) = true := decide_eq_true hfl
        have HM := Lib.hid (HM.out hfl)
        by_cases hf : C < x.cookie
        · have e3 : decide (C < x.cookie) = true := decide_eq_true hf
          go_wp2_with (first
            | ((refine app_on EEnt.laid rfl _ _ 33 33 Try.underlying33 Try.underlying33 rfl _ A rfl ((HRO.out).alloc _) ((HB.out).alloc (HB.out).size _) (Nat.le_refl _) _ [x] rfl ?e1 ?e2 ?e3 ?_
                case e1 => exact Arg.blk (m_alloc _ _ _ rfl) [x] rfl 1
                case e2 => (show (A.length + 1) * 48 ≤ _; omega)
                case e3 => (show A.length + 1 ≤ maxLen; unfold maxLen; omega)
                intro v6 w6 hr6 hb6
                have HR6 := Lib.hid hr6
                have HB6 := Lib.hid hb6
                obtain ⟨a6, c6', rfl⟩ := hr6.shape
                clear hr6 hb6); have k3 := cell_later HB6.out K3.out))
          refine ⟨⟨i + 1, by go_num, hlt, by rw [HM.out.1 hf, lastC_snoc], ?_, HB6.out⟩, by simp [intOf]; omega⟩
          have z := HR6.out
          rw [List.length_append] at z
          rw [HM.out.1 hf]; exact z
        · have e3 : decide (C < x.cookie) = false := decide_eq_false hf
          go_wp2_with fail
          exact ⟨⟨i + 1, by go_num, hlt, by rw [HM.out.2 hf, HC.out], by rw [HM.out.2 hf]; exact HRO.out, HB.out⟩, by simp [intOf]; omega⟩
    · have ei : i = l.length := by omega
      subst ei
      have i2 : ¬ ((l.length : Int) < l.length) := by omega
      rw [List.take_length] at HRO
      rw [List.take_length]
      go_wp2_with fail
      go_ret3
      unfold RReadPost
      rw [HR.out]
      exact ⟨_, rfl, HRO.out, HB.out⟩
end Go.Proofs.Ytolilbcpfdnkjaa
