/- tree: Few, awake, Same. -/
import Derived.Test.YtolilbcpfdnkjaaUC
import Derived.Outline
namespace Go.Proofs.Ytolilbcpfdnkjaa
open Go.RowKit
set_option linter.unusedSimpArgs false
set_option linter.unusedVariables false
def Op1.Small (o : Op1) : Prop := o.name.size ≤ 400 ∧ o.as_.size ≤ 400
def FewO (l : List Op1) (n : Int) (v : Value) : Prop := ∃ b, v = .bool b ∧ (b = true → (l.length : Int) ≤ n ∧ ∀ o ∈ l.take 500, o.Small)
theorem op1_cells {w : World} {a : Option Addr} {n c : Nat} {l : List Op1} (h : Arg EOp w (.slice a n c) l) (i : Nat) (o : Op1) (ho : l[i]? = some o) : ∃ g off, a = some ⟨g, off, none⟩ ∧ n = l.length ∧
    w.cell? ⟨g, off + i * 7, none⟩ = some (.int .u8 o.kind) ∧ w.cell? ⟨g, off + i * 7 + 1, none⟩ = some (.int .i64 o.dir) ∧ w.cell? ⟨g, off + i * 7 + 2, none⟩ = some (.int .i64 o.to_) ∧ w.cell? ⟨g, off + i * 7 + 3, none⟩ = some (.string o.name) ∧
    w.cell? ⟨g, off + i * 7 + 4, none⟩ = some (.string o.as_) ∧ w.cell? ⟨g, off + i * 7 + 5, none⟩ = some (.bool o.is_) ∧ w.cell? ⟨g, off + i * 7 + 6, none⟩ = some (.int .i64 o.short) := by
  obtain ⟨g, off, cap, e, hc⟩ := h.cells (by intro q; rw [q] at ho; simp at ho)
  simp only [Value.slice.injEq] at e
  obtain ⟨rfl, rfl, rfl⟩ := e
  exact ⟨g, off, rfl, rfl, hc i o ho 0 (by decide), hc i o ho 1 (by decide), hc i o ho 2 (by decide), hc i o ho 3 (by decide), hc i o ho 4 (by decide), hc i o ho 5 (by decide), hc i o ho 6 (by decide)⟩
set_option maxRecDepth 100000 in
set_option maxHeartbeats 2000000 in
theorem few10_any (w : World) (v : Value) (l : List Op1) (n : Int) (h : Arg EOp w v l) (ml : l.length ≤ maxLen) (hok : ∀ o ∈ l, o.name.size ≤ maxLen ∧ o.as_.size ≤ maxLen) :
    Calls Try.prog 11 #[v, .int .i64 n] w fun e w' => ∃ b, e = .returned b ∧ FewO l n b ∧ Below w.heap.size w w' := by
  obtain ⟨va, vc, rfl⟩ := h.shape
  have A := Lib.hid h
  have OK := Lib.hid hok
  unfold maxLen at ml
  clear h hok
  go_enter Try.func11, Try.ntmps11
  go_wp2_with fail
  go_loopw [5] (fun iv wr => ∃ i : Nat, iv = .int .i64 i ∧ i ≤ l.length ∧ i ≤ 500 ∧ (∀ k o, k < i → l[k]? = some o → o.Small) ∧ wr = w) (fun iv _ => l.length - (intOf iv).toNat)
  case atStart => exact ⟨0, rfl, Nat.zero_le _, Nat.zero_le _, fun k o hk => absurd hk (Nat.not_lt_zero _), rfl⟩
  case round =>
    obtain ⟨i, rfl, hi, hi100, hall, rfl⟩ := hrel
    have HALL := Lib.hid hall
    clear hall
    by_cases hlt : i < l.length
    · have i1 : (i : Int) < l.length := by omega
      by_cases h3 : i < 500
      · have i2 : (i : Int) < 500 := by omega
        obtain ⟨o, ho⟩ : ∃ o, l[i]? = some o := ⟨_, List.getElem?_eq_getElem hlt⟩
        obtain ⟨hob, hok⟩ := OK.out o (List.mem_of_getElem? ho)
        unfold maxLen at hob hok
        obtain ⟨g, off, rfl, _, _, _, _, c3, c4, _, _⟩ := op1_cells A.out i o ho
        have HO := Lib.hid ho
        clear ho
        by_cases hb : o.name.size ≤ 400
        · have b1 : ¬ ((400 : Int) < o.name.size) := by omega
          have b2 : decide ((400 : Int) < o.name.size) = false := decide_eq_false b1
          by_cases hk : o.as_.size ≤ 400
          · have k1 : ¬ ((400 : Int) < o.as_.size) := by omega
            have k2 : decide ((400 : Int) < o.as_.size) = false := decide_eq_false k1
            go_wp2_with fail
            refine ⟨⟨i + 1, by go_num, hlt, h3, fun k x hk2 hx => ?_, trivial⟩, by simp [intOf]; omega⟩
            by_cases e : k = i
            · subst e
              have := HO.out
              rw [hx] at this
              rw [Option.some.inj this]
              exact ⟨hb, hk⟩
            · exact HALL.out k x (by omega) hx
          · have k1 : (400 : Int) < o.as_.size := by omega
            have k2 : decide ((400 : Int) < o.as_.size) = true := decide_eq_true k1
            go_wp2_with fail
            go_ret
            exact ⟨_, rfl, ⟨false, rfl, fun q => by simp at q⟩, Below.refl _ _⟩
        · have b1 : (400 : Int) < o.name.size := by omega
          have b2 : decide ((400 : Int) < o.name.size) = true := decide_eq_true b1
          go_wp2_with fail
          go_ret
          exact ⟨_, rfl, ⟨false, rfl, fun q => by simp at q⟩, Below.refl _ _⟩
      · have i2 : ¬ ((i : Int) < 500) := by omega
        have i3 : decide ((i : Int) < 500) = false := decide_eq_false i2
        go_wp2_with fail
        go_ret
        refine ⟨_, rfl, ⟨_, rfl, fun q => ?_⟩, Below.refl _ _⟩
        have q2 : (l.length : Int) ≤ n := by simpa using q
        refine ⟨q2, fun o ho => ?_⟩
        obtain ⟨k, hk⟩ := List.getElem?_of_mem ho
        have hkl : k < (l.take 500).length := (List.getElem?_eq_some_iff.1 hk).1
        rw [List.length_take] at hkl
        rw [List.getElem?_take_of_lt (by omega)] at hk
        exact HALL.out k o (by omega) hk
    · have ei : i = l.length := by omega
      subst ei
      have i2 : ¬ ((l.length : Int) < l.length) := by omega
      go_wp2_with fail
      go_ret
      refine ⟨_, rfl, ⟨_, rfl, fun q => ?_⟩, Below.refl _ _⟩
      have q2 : (l.length : Int) ≤ n := by simpa using q
      refine ⟨q2, fun o ho => ?_⟩
      obtain ⟨k, hk⟩ := List.getElem?_of_mem (List.mem_of_mem_take ho)
      exact HALL.out k o (List.getElem?_eq_some_iff.1 hk).1 hk
end Go.Proofs.Ytolilbcpfdnkjaa
