/- sector's reference: any call. -/
import Derived.Test.YtncbojocglcieaaR8
namespace Go.Proofs.Ytncbojocglcieaa
open Go.RowKit
set_option linter.unusedSimpArgs false
set_option linter.unusedVariables false
theorem do_any {w : World} {F : Nat → Prop} {g : Nat} {r : RefD} (o : OpD) (kl : List Int) (h : RDev w F g r) (hbs : o.b.size ≤ maxLen) (harg : ∀ w', Keep F w w' → Arg EInt w' o.kv kl) (hkn : kl.length = o.kn) (hkm : o.kn ≤ 100)
    (hsl : r.safe.length ≤ 4096) (hse : r.seen.length = r.safe.length) (had : r.data.length = r.at_.length) (hal : r.at_.length ≤ 100000) (hat : ∀ a ∈ r.at_, 0 ≤ a ∧ a < r.safe.length) (hlm : r.left ≤ 9223372036854775807) :
    Calls Try.prog 29 #[.pointer (some ⟨g, 0, none⟩), .agg o.cells.toArray] w fun e w' => e = .returned (.tuple #[.string (r.step o kl).2.1, .int .i64 (r.step o kl).2.2]) ∧ RStepped w F g (r.step o kl).1 w' := by
  have h0 := h
  obtain ⟨sv, ev, av, dv, rfl, h⟩ := h
  have hq5 : o.kind.toNat % 5 < 5 := Nat.mod_lt _ (by decide)
  unfold RefD.step
  by_cases hb : r.bad o ≠ 0
  · rw [if_pos hb]
    refine (do_bad o h hb hbs).mono ?_
    rintro e w' ⟨rfl, hbel⟩
    exact ⟨rfl, RStepped.still h0 hbel⟩
  · rw [if_neg hb]
    have hb0 : r.bad o = 0 := by
      by_cases q : r.bad o = 0
      · exact q
      · exact absurd q hb
    have hl : o.kind.toNat % 5 < 3 → r.left ≠ 0 := by
      intro q e
      unfold RefD.bad at hb0
      rw [if_pos ⟨q, e⟩] at hb0
      exact absurd hb0 (by decide)
    have hi : o.kind.toNat % 5 < 2 → 0 ≤ o.i ∧ o.i < r.seen.length := by
      intro q
      unfold RefD.bad at hb0
      rw [if_neg (fun e => hl (by omega) e.2)] at hb0
      by_cases e : o.i < 0 ∨ (r.seen.length : Int) ≤ o.i
      · rw [if_pos ⟨q, e⟩] at hb0; exact absurd hb0 (by decide)
      · omega
    have h64 : o.kind.toNat % 5 = 0 → o.b.size = 64 := by
      intro q
      unfold RefD.bad at hb0
      rw [if_neg (fun e => hl (by omega) e.2), if_neg (fun e => by have := hi e.1; omega)] at hb0
      by_cases e : o.b.size ≠ 64
      · rw [if_pos ⟨q, e⟩] at hb0; exact absurd hb0 (by decide)
      · omega
    by_cases q0 : o.kind.toNat % 5 = 0
    · rw [if_pos q0]
      exact do_put o h q0 (hl (by omega)) hlm (hi (by omega)) (h64 q0) hal (by omega) hbs
    · rw [if_neg q0]
      by_cases q1 : o.kind.toNat % 5 = 1
      · rw [if_pos q1]
        refine (do_get o h q1 (hl (by omega)) (hi (by omega)) hbs).mono ?_
        rintro e w' ⟨rfl, hbel⟩
        exact ⟨rfl, RStepped.still h0 hbel⟩
      · rw [if_neg q1]
        by_cases q2 : o.kind.toNat % 5 = 2
        · rw [if_pos q2]
          exact do_flush o h q2 (hl (by omega)) (by omega) hbs
        · rw [if_neg q2]
          by_cases q3 : o.kind.toNat % 5 = 3
          · rw [if_pos q3]
            exact do_cut o h q3 hbs
          · rw [if_neg q3]
            exact do_restart o h kl (by omega) harg hkn hkm hsl had hal hat hbs
end Go.Proofs.Ytncbojocglcieaa
