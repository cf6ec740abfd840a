/- ImageRaw's walk. -/
import Derived.Test.YtolilbcpfdnkjaaTKIMA
namespace Go.Proofs.Ytolilbcpfdnkjaa
open Go.RowKit
set_option linter.unusedSimpArgs false
set_option linter.unusedVariables false
set_option maxRecDepth 100000 in
set_option maxHeartbeats 2000000 in
theorem imageraw_any (b : ByteArray) (w : World) (hb : b.size ≤ maxLen) : Calls Try.prog 6 #[.string b] w fun e w' => e = .returned (.bool true) ∧ Below w.heap.size w w' := by
  unfold maxLen at hb
  have HA := Lib.hid (awake12_any w)
  go_enter Try.func6, Try.ntmps6
  go_wp2_with fail
  refine HA.out.mono ?_
  rintro e w1 ⟨rfl, hb1⟩
  have HB1 := Lib.hid hb1
  clear hb1 HA
  by_cases h2 : 2000 < b.size
  · have i2 : (2000 : Int) < b.size := by omega
    have HA := Lib.hid (awake12_any w1)
    go_wp2_with fail
    refine HA.out.mono ?_
    rintro e w2 ⟨rfl, hb2⟩
    have HB2 := Lib.hid hb2
    clear hb2
    go_wp2_with fail
    go_ret
    exact ⟨rfl, HB1.out.trans (HB2.out.mono HB1.out.size)⟩
  · have i2 : ¬ (2000 : Int) < b.size := by omega
    have HD := Lib.hid (idecode_any (w := w1) b (by omega))
    go_wp2_with fail
    refine HD.out.mono ?_
    rintro e w2 (⟨L, next, g, F, hti, hn, himg, rfl, htm, hF, hb2⟩ | ⟨hno, rfl, hb2⟩)
    · have HE := Lib.hid (iencode_any htm hti hn)
      have HIM := Lib.hid himg
      have HB2 := Lib.hid hb2
      have e2 : (imgB L next == b.toList) = true := by
        have e1 := (bstr_eq_iff _ _).2 himg
        simpa [bmk] using e1
      clear hti hn himg htm hF hb2 HD
      go_wp2_with fail
      refine HE.out.mono ?_
      rintro e w3 ⟨rfl, hb3⟩
      have HB3 := Lib.hid hb3
      clear hb3
      go_wp2_with fail
      go_ret
      exact ⟨by simp, HB1.out.trans ((HB2.out.trans (HB3.out.mono HB2.out.size)).mono HB1.out.size)⟩
    · have HB2 := Lib.hid hb2
      clear hno hb2 HD
      go_wp2_with fail
      go_ret
      exact ⟨by simp, HB1.out.trans (HB2.out.mono HB1.out.size)⟩
end Go.Proofs.Ytolilbcpfdnkjaa
