/- Small numbers that are arguments. -/
import Derived.Test.YtolilbcpfdnkjaaGreatZBLib0
import Derived.ProofKit
namespace Go.Proofs.YtolilbcpfdnkjaaGreat
open Go.RowKit
theorem u8_of {n : Int} (h : (Lit.int .u8 n).wf = true) : ∃ c : UInt8, n = c.toNat := by
  simp only [Lit.wf, Bool.and_eq_true, decide_eq_true_eq] at h
  have e1 : IntKind.u8.min = 0 := by decide
  have e2 : IntKind.u8.max = 255 := by decide
  refine ⟨UInt8.ofNat n.toNat, ?_⟩
  simp only [UInt8.toNat_ofNat']
  omega
end Go.Proofs.YtolilbcpfdnkjaaGreat
