/- Words that came in by value. -/
import Derived.Test.YtmkencdkglbpbaaLawWords
import Derived.ProofKit
set_option maxRecDepth 100000
namespace Go.Proofs.Ytmkencdkglbpbaa
open Go.RowKit
theorem u32_bd {n : Int} (h : (Lit.int .u32 n).wf = true) : 0 ≤ n ∧ n < 4294967296 := by
  simp [Lit.wf, IntKind.min, IntKind.max, IntKind.signed, IntKind.bits] at h
  omega
end Go.Proofs.Ytmkencdkglbpbaa
