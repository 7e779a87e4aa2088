/-
  No cell of these rows narrows 'for every input' (looked for: loops, veiled, ifaces, maps, wideKeys, modest, calm, conditions, laid).
  DERIVED. THE GIVEN ROWS OF THIS SEAT. 2 by the template 'for every input the law returns true; each argument reads behind the call as it read before'; 0 by the template 'total and deterministic' (their statements: YtmkencdkglbpbaaTotals.lean).
  GIVEN WITH THE SEED: the statements are not yours to turn. If you find one false, say at which input.
  Laid BY PROGRAM, IN A SANDBOX (cutbox-rows.mjs): the forced cells as the released guide's own fill.sh prints them over the translation 7621a96621b1421f… (all of the seat's roots in one cut). By AI agents, Wed Nov 11 2026. No macro, syntax, notation, axiom, sorry.
-/
import Derived.Test.YtmkencdkglbpbaaChecked
import GoSem.Claim
import GoSem.ClaimJoined
import GoSem.ClaimMapViews
import Derived.JoinedTies
import Derived.KernelRfl
namespace Go.Proofs.Ytmkencdkglbpbaa
/- THE CELL 'sum', in the pinned program and in every row, IS THE sha256 OF THE DUMP (.gsa) THAT YtmkencdkglbpbaaProg.lean LOADS. Nothing in Lean hashes anything: it is a label: what it is worth is what the hold of that sum in a sandbox is worth. -/
noncomputable def Try.pinned : Pinned := { name := "ytmkencdkglbpbaa", sum := "7621a96621b1421f2e5e7746483b5fdb00c3cbbf2349b40716e02346b6c898bb", checked := Try.checked }
namespace Rows
def none {H : Type} : Left H := { results := [], args := [] }

/-- 'remontoirelaw16.VopWords': WHATEVER THE INPUT: true; the input reads as it did. -/
def vopWordsSpec : ChangeSpec := { name := "vopWords", fn := fun _ => fun
  | [d1, d2, d3, d4] => { results := [.lit (.bool true)], args := [d1, d2, d3, d4] }
  | _ => none }
def vopWordsRow : OpenClaim := { program := "ytmkencdkglbpbaa", sum := "7621a96621b1421f2e5e7746483b5fdb00c3cbbf2349b40716e02346b6c898bb", func := "remontoire/remontoirelaw16.VopWords", spec := "vopWords", apart := false }
def VopWordsSaid : Prop := vopWordsRow.holds Try.pinned (OpenSpec.ofChange vopWordsSpec)

/-- ITS FALSE NEIGHBOUR: 'it returns false'. Refute it at one input. -/
def vopWordsWrong : ChangeSpec := { name := "vopWords", fn := fun _ => fun
  | [d1, d2, d3, d4] => { results := [.lit (.bool false)], args := [d1, d2, d3, d4] }
  | _ => none }
def VopWordsWrongFalsely : Prop := vopWordsRow.holds Try.pinned (OpenSpec.ofChange vopWordsWrong)

/-- 'remontoirelaw16.VopRuns': WHATEVER THE INPUT: true; the input reads as it did. -/
def vopRunsSpec : ChangeSpec := { name := "vopRuns", fn := fun _ => fun
  | [d1, d2, d3] => { results := [.lit (.bool true)], args := [d1, d2, d3] }
  | _ => none }
def vopRunsRow : OpenClaim := { program := "ytmkencdkglbpbaa", sum := "7621a96621b1421f2e5e7746483b5fdb00c3cbbf2349b40716e02346b6c898bb", func := "remontoire/remontoirelaw16.VopRuns", spec := "vopRuns", unfollowed := true, recurses := true, apart := false }
def VopRunsSaid : Prop := vopRunsRow.holds Try.pinned (OpenSpec.ofChange vopRunsSpec)

/-- ITS FALSE NEIGHBOUR: 'it returns false'. Refute it at one input. -/
def vopRunsWrong : ChangeSpec := { name := "vopRuns", fn := fun _ => fun
  | [d1, d2, d3] => { results := [.lit (.bool false)], args := [d1, d2, d3] }
  | _ => none }
def VopRunsWrongFalsely : Prop := vopRunsRow.holds Try.pinned (OpenSpec.ofChange vopRunsWrong)

/- THE SECOND FORM. 'bulk': how many values and letters a reading holds, each counted each time it is reached (what is shared counts as often as it is met; a slice's spare places count too). A statement '..UptoSaid' is the law's where the arguments, and the package variables that the reading takes, are together of bulk at most 1048576: NARROWER than '..Said'. Prove '..Said' where nothing that the law and all that it calls make is longer than what came in: it says more and counts as full. Else prove '..UptoSaid'. A law counts once. -/
mutual
def uptoBulk {H : Type} : DataW H → Nat
  | .lit (.string bytes) => bytes.length + 1
  | .lit _ => 1
  | .nil => 1
  | .ptr d => uptoBulk d + 1
  | .slice elems spare => uptoBulkAll elems + uptoBulkAll spare + 1
  | .agg parts => uptoBulkAll parts + 1
  | .iface _ d => uptoBulk d + 1
  | .map entries => uptoBulkEntries entries + 1
  | .held _ => 1
def uptoBulkAll {H : Type} : List (DataW H) → Nat
  | [] => 0
  | d :: r => uptoBulk d + uptoBulkAll r
def uptoBulkEntries {H : Type} : List (Lit × DataW H) → Nat
  | [] => 0
  | x :: r => uptoBulkEntry x + uptoBulkEntries r
def uptoBulkEntry {H : Type} : Lit × DataW H → Nat
  | (.string bytes, d) => bytes.length + uptoBulk d + 1
  | (_, d) => uptoBulk d + 1
 end
def uptoSmall : (H : Type) → List (DataW H) → Bool := fun _ ds => decide (uptoBulkAll ds ≤ 1048576)
def OpenSpec.upto (s : _root_.Go.ChangeSpec) : _root_.Go.OpenSpec := { _root_.Go.OpenSpec.ofChange s with cond := some uptoSmall }

/-- 'remontoirelaw16.VopWords', WHERE WHAT IT READS IS OF BULK AT MOST 1048576: true; the input reads as it did. -/
def vopWordsUptoRow : OpenClaim := { program := "ytmkencdkglbpbaa", sum := "7621a96621b1421f2e5e7746483b5fdb00c3cbbf2349b40716e02346b6c898bb", func := "remontoire/remontoirelaw16.VopWords", spec := "vopWords", apart := false, narrowed := true }
def VopWordsUptoSaid : Prop := vopWordsUptoRow.holds Try.pinned (OpenSpec.upto vopWordsSpec)

/-- 'remontoirelaw16.VopRuns', WHERE WHAT IT READS IS OF BULK AT MOST 1048576: true; the input reads as it did. -/
def vopRunsUptoRow : OpenClaim := { program := "ytmkencdkglbpbaa", sum := "7621a96621b1421f2e5e7746483b5fdb00c3cbbf2349b40716e02346b6c898bb", func := "remontoire/remontoirelaw16.VopRuns", spec := "vopRuns", unfollowed := true, recurses := true, apart := false, narrowed := true }
def VopRunsUptoSaid : Prop := vopRunsUptoRow.holds Try.pinned (OpenSpec.upto vopRunsSpec)

end Rows
end Go.Proofs.Ytmkencdkglbpbaa
