/- Closed facts of one region of the document's value. -/
import Derived.Test.YtmkencdkglbpbaaBoth
set_option maxRecDepth 100000
namespace Go.Proofs.Ytmkencdkglbpbaa
open Go.RowKit

/-- The operations of a region. -/
def regionOps (n : Nat) : Code → Option (Array Oper)
  | .region id ops _ => if id == n then some ops else none
  | .seq a b => match regionOps n a with
    | some c => some c
    | none => regionOps n b
  | .block _ c => regionOps n c
  | .loop c => regionOps n c
  | .scope c => regionOps n c
  | .cond _ a b => match regionOps n a with
    | some c => some c
    | none => regionOps n b
  | _ => none

set_option maxRecDepth 1000000 in
theorem lexVal : Region.lexHead .any ((Try.f28.body.bind (regionOps 8)).getD #[]) 2 91 0 (Array.replicate 93 false) = true := by kernel_rfl
set_option maxRecDepth 1000000 in
theorem nosVal : Region.noSelect ((Try.f28.body.bind (regionOps 8)).getD #[]) = true := by kernel_rfl
end Go.Proofs.Ytmkencdkglbpbaa
