/- image: what a program that does nothing does not answer; ImageRaw's walk. -/
import Derived.Test.YtolilbcpfdnkjaaTKIM9
import Derived.Test.YtolilbcpfdnkjaaTKUB
namespace Go.Proofs.Ytolilbcpfdnkjaa
open Go.RowKit
set_option linter.unusedSimpArgs false
set_option linter.unusedVariables false
theorem img_nil : imgB [] 1 = [0, 0, 0, 0, 0, 0, 0, 1, 0, 1, 0, 0, 0, 0] := by decide +kernel
set_option maxRecDepth 100000 in
set_option maxHeartbeats 2000000 in
theorem awake12_any (w : World) : Calls Try.prog 25 #[] w fun e w' => e = .returned (.bool true) ∧ Below w.heap.size w w' := by
  have HO := Lib.hid (own_new w (Below.refl _ w))
  go_enter Try.func25, Try.ntmps25
  go_wp2_with fail
  refine HO.out.mono ?_
  rintro e w1 ⟨g, rfl, F, htm, hF, hb1⟩
  have HE := Lib.hid (iencode_any htm TInv.new (by decide))
  have HB1 := Lib.hid hb1
  rw [img_nil] at HE
  clear htm hF hb1 HO
  go_wp2_with fail
  refine HE.out.mono ?_
  rintro e w2 ⟨rfl, hb2⟩
  have HB2 := Lib.hid (HB1.out.trans (hb2.mono HB1.out.size))
  clear hb2 HE
  go_wp2_with fail
  go_ret
  exact ⟨by first | rfl | (congr 1; congr 1; decide +kernel), HB2.out⟩
end Go.Proofs.Ytolilbcpfdnkjaa
