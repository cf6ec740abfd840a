/- An int map's own entries are found. -/
import Derived.Test.YtolilbcpfdnkjaaTKMapsM
namespace Go.Proofs.Ytolilbcpfdnkjaa
open Go.RowKit
set_option linter.unusedSimpArgs false
set_option linter.unusedVariables false
theorem mget_of_mem {V : Type} {L : List (Int × V)} (hn : (mkeys L).Nodup) {p : Int × V} (hp : p ∈ L) : mget L p.1 = some p.2 := by
  induction L with
  | nil => cases hp
  | cons q L ih =>
    rw [mget_cons]
    have hn' : q.1 ∉ mkeys L ∧ (mkeys L).Nodup := List.nodup_cons.1 (show (q.1 :: mkeys L).Nodup from hn)
    rcases List.mem_cons.1 hp with e | hp
    · subst e; rw [if_pos rfl]
    · have hne : q.1 ≠ p.1 := fun e => hn'.1 (e ▸ List.mem_map_of_mem (f := Prod.fst) hp)
      rw [if_neg hne]
      exact ih hn'.2 hp
end Go.Proofs.Ytolilbcpfdnkjaa
