/- sector's reference: a call's kind; few. -/
import Derived.Test.YtncbojocglcieaaRowRk
import Derived.Test.YtncbojocglcieaaS6
import Derived.Test.YtncbojocglcieaaC2
namespace Go.Proofs.Ytncbojocglcieaa
open Go.RowKit
set_option linter.unusedSimpArgs false
set_option linter.unusedVariables false
/-- A call, by value. -/
structure OpD where
  kind : UInt8
  i : Int
  n : Int
  b : ByteArray
  ka : Option Addr
  kn : Nat
  kc : Nat
def OpD.kv (o : OpD) : Value := .slice o.ka o.kn o.kc
def OpD.cells (o : OpD) : List Value := [.int .u8 o.kind.toNat, .int .i64 o.i, .int .i64 o.n, .string o.b, o.kv]
def EOp : EK OpD := ⟨46, 5, 64, OpD.cells, fun _ => rfl, fun _ u hu => by simp [OpD.cells, OpD.kv] at hu; rcases hu with rfl | rfl | rfl | rfl | rfl <;> rfl, by decide⟩
/-- What can be said of a call that came in. -/
def OpD.Ok (w : World) (o : OpD) : Prop := o.b.size ≤ maxLen ∧ (-9223372036854775808 ≤ o.i ∧ o.i ≤ 9223372036854775807) ∧ (-9223372036854775808 ≤ o.n ∧ o.n ≤ 9223372036854775807) ∧ o.kn ≤ maxLen ∧ ∃ kl, Arg EInt w o.kv kl ∧ kl.length = o.kn
def FewP (l : List OpD) (v : Value) : Prop := ∃ b, v = .bool b ∧ (b = true → l.length ≤ 150 ∧ ∀ o ∈ l, o.b.size ≤ 200 ∧ o.kn ≤ 100)
theorem op_cells {w : World} {a : Option Addr} {n c : Nat} {l : List OpD} (h : Arg EOp w (.slice a n c) l) (i : Nat) (o : OpD) (ho : l[i]? = some o) : ∃ g off, a = some ⟨g, off, none⟩ ∧ n = l.length ∧
    w.cell? ⟨g, off + i * 5, none⟩ = some (.int .u8 o.kind.toNat) ∧ w.cell? ⟨g, off + i * 5 + 1, none⟩ = some (.int .i64 o.i) ∧ w.cell? ⟨g, off + i * 5 + 2, none⟩ = some (.int .i64 o.n) ∧ w.cell? ⟨g, off + i * 5 + 3, none⟩ = some (.string o.b) ∧ w.cell? ⟨g, off + i * 5 + 4, none⟩ = some o.kv := by
  obtain ⟨g, off, cap, e, hc⟩ := h.cells (by intro q; rw [q] at ho; simp at ho)
  simp only [Value.slice.injEq] at e
  obtain ⟨rfl, rfl, rfl⟩ := e
  exact ⟨g, off, rfl, rfl, hc i o ho 0 (by decide), hc i o ho 1 (by decide), hc i o ho 2 (by decide), hc i o ho 3 (by decide), hc i o ho 4 (by decide)⟩
set_option maxRecDepth 100000 in
set_option maxHeartbeats 2000000 in
theorem few06_any (w : World) (v : Value) (l : List OpD) (h : Arg EOp w v l) (ml : l.length ≤ maxLen) (hok : ∀ o ∈ l, o.b.size ≤ maxLen ∧ o.kn ≤ maxLen) :
    Calls Try.prog 26 #[v] w fun e w' => ∃ b, e = .returned b ∧ FewP l b ∧ Below w.heap.size w w' := by
  obtain ⟨va, vc, rfl⟩ := h.shape
  have A := Lib.hid h
  have OK := Lib.hid hok
  unfold maxLen at ml
  clear h hok
  go_enter Try.func26, Try.ntmps26
  go_wp2_with fail
  go_loopw [3] (fun iv wr => ∃ i : Nat, iv = .int .i64 i ∧ i ≤ l.length ∧ (∀ k o, k < i → l[k]? = some o → o.b.size ≤ 200 ∧ o.kn ≤ 100) ∧ wr = w) (fun iv _ => l.length - (intOf iv).toNat)
  case atStart => exact ⟨0, rfl, Nat.zero_le _, fun k o hk => absurd hk (Nat.not_lt_zero _), rfl⟩
  case round =>
    obtain ⟨i, rfl, hi, hall, rfl⟩ := hrel
    have HALL := Lib.hid hall
    clear hall
    by_cases hlt : i < l.length
    · have i1 : (i : Int) < l.length := by omega
      by_cases h3 : i < 300
      · have i2 : (i : Int) < 300 := by omega
        obtain ⟨o, ho⟩ : ∃ o, l[i]? = some o := ⟨_, List.getElem?_eq_getElem hlt⟩
        obtain ⟨hob, hok⟩ := OK.out o (List.mem_of_getElem? ho)
        unfold maxLen at hob hok
        obtain ⟨g, off, rfl, _, _, _, _, c3, c4⟩ := op_cells A.out i o ho
        unfold OpD.kv at c4
        have HO := Lib.hid ho
        clear ho
        by_cases hb : o.b.size ≤ 200
        · have b1 : ¬ ((200 : Int) < o.b.size) := by omega
          have b2 : decide ((200 : Int) < o.b.size) = false := decide_eq_false b1
          by_cases hk : o.kn ≤ 100
          · have k1 : ¬ ((100 : Int) < o.kn) := by omega
            have k2 : decide ((100 : Int) < o.kn) = false := decide_eq_false k1
            go_wp2_with fail
            refine ⟨⟨i + 1, by go_num, hlt, fun k x hk2 hx => ?_, trivial⟩, by simp [intOf]; omega⟩
            by_cases e : k = i
            · subst e
              have := HO.out
              rw [hx] at this
              rw [Option.some.inj this]
              exact ⟨hb, hk⟩
            · exact HALL.out k x (by omega) hx
          · have k1 : (100 : Int) < o.kn := by omega
            have k2 : decide ((100 : Int) < o.kn) = true := decide_eq_true k1
            go_wp2_with fail
            go_ret
            exact ⟨_, rfl, ⟨false, rfl, fun q => by simp at q⟩, Below.refl _ _⟩
        · have b1 : (200 : Int) < o.b.size := by omega
          have b2 : decide ((200 : Int) < o.b.size) = true := decide_eq_true b1
          go_wp2_with fail
          go_ret
          exact ⟨_, rfl, ⟨false, rfl, fun q => by simp at q⟩, Below.refl _ _⟩
      · have i2 : ¬ ((i : Int) < 300) := by omega
        have i3 : decide ((i : Int) < 300) = false := decide_eq_false i2
        have l1 : decide ((l.length : Int) ≤ 150) = false := decide_eq_false (by omega)
        go_wp2_with fail
        go_ret
        exact ⟨_, rfl, ⟨false, rfl, fun q => by simp at q⟩, Below.refl _ _⟩
    · have ei : i = l.length := by omega
      subst ei
      have i2 : ¬ ((l.length : Int) < l.length) := by omega
      go_wp2_with fail
      go_ret
      refine ⟨_, rfl, ⟨_, rfl, fun q => ?_⟩, Below.refl _ _⟩
      have q2 : l.length ≤ 150 := by simp at q; omega
      refine ⟨q2, fun o ho => ?_⟩
      obtain ⟨k, hk⟩ := List.getElem?_of_mem ho
      exact HALL.out k o (List.getElem?_eq_some_iff.1 hk).1 hk
end Go.Proofs.Ytncbojocglcieaa
