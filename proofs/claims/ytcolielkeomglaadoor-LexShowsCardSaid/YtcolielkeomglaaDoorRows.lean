/-
  NARROWER THAN 'FOR EVERY INPUT', by the rows' own cells (each row's printed sentence says how): LexTokens: laid · LexParts: laid · LexBytes: laid · LexJoins: laid · LexShows: laid.
  DERIVED. THE GIVEN ROWS OF THIS SEAT. 5 by the template 'for every input the law returns true; each argument reads behind the call as it read before'; 0 by the template 'total and deterministic' (their statements: YtcolielkeomglaaDoorTotals.lean).
  GIVEN WITH THE SEED: the statements are not yours to turn. If you find one false, say at which input.
  Laid BY PROGRAM, IN A SANDBOX (cutbox-rows.mjs): the forced cells as the released guide's own fill.sh prints them over the translation 245764dd0f161f31… (all of the seat's roots in one cut). By AI agents, Wed Nov 11 2026. No macro, syntax, notation, axiom, sorry.
-/
import Derived.Test.YtcolielkeomglaaDoorChecked
import GoSem.Claim
import GoSem.ClaimJoined
import GoSem.ClaimMapViews
import Derived.JoinedTies
import Derived.KernelRfl
namespace Go.Proofs.YtcolielkeomglaaDoor
/- THE CELL 'sum', in the pinned program and in every row, IS THE sha256 OF THE DUMP (.gsa) THAT YtcolielkeomglaaDoorProg.lean LOADS. Nothing in Lean hashes anything: it is a label: what it is worth is what the hold of that sum in a sandbox is worth. -/
noncomputable def Tryd.pinned : Pinned := { name := "ytcolielkeomglaadoor", sum := "245764dd0f161f317b74f52f08d85e77ddf9dec8cc866c7bd686bf94d1baed3d", checked := Tryd.checked }
namespace Rows
def none {H : Type} : Left H := { results := [], args := [] }

/- WHAT THE LISTED PACKAGE-LEVEL VARIABLES READ AS WHEN THE CALL BEGINS. Each datum BY PROGRAM (the guide's laid-datum.mjs) off the statement by which the dump's own 'gosem.cut.vars' lays the variable. In a bare row this is a premise. The card (YtcolielkeomglaaDoorCards.lean) ties it to the program's text. -/
def laid_remontoire_lex_signs {H : Type} : DataW H := .agg [.lit (.string [45, 62]), .lit (.string [46, 46]), .lit (.string [61, 61]), .lit (.string [60, 60, 60]), .lit (.string [60, 60]), .lit (.string [62, 62]), .lit (.string [60]), .lit (.string [40]), .lit (.string [41]), .lit (.string [123]), .lit (.string [125]), .lit (.string [91]), .lit (.string [93]), .lit (.string [44]), .lit (.string [59]), .lit (.string [58]), .lit (.string [61]), .lit (.string [43]), .lit (.string [45]), .lit (.string [42]), .lit (.string [47]), .lit (.string [37]), .lit (.string [38]), .lit (.string [124]), .lit (.string [94]), .lit (.string [126])]

/-- 'remontoirelaw09.LexTokens': WHATEVER THE INPUT: true; the input reads as it did. -/
def lexTokensSpec : ChangeSpec := { name := "lexTokens", fn := fun _ => fun
  | [d] => { results := [.lit (.bool true)], args := [d] }
  | _ => none }
def lexTokensRow : OpenClaim := { program := "ytcolielkeomglaadoor", sum := "245764dd0f161f317b74f52f08d85e77ddf9dec8cc866c7bd686bf94d1baed3d", func := "remontoire/remontoirelaw09.LexTokens", spec := "lexTokens", inPlace := ["internal/bytealg.IndexByteString"], named := ["remontoire/lex.signs"], apart := false, laid := [("remontoire/lex.signs", laid_remontoire_lex_signs)] }
def LexTokensSaid : Prop := lexTokensRow.holds Tryd.pinned (OpenSpec.ofChange lexTokensSpec)

/-- ITS FALSE NEIGHBOUR: 'it returns false'. Refute it at one input. -/
def lexTokensWrong : ChangeSpec := { name := "lexTokens", fn := fun _ => fun
  | [d] => { results := [.lit (.bool false)], args := [d] }
  | _ => none }
def LexTokensWrongFalsely : Prop := lexTokensRow.holds Tryd.pinned (OpenSpec.ofChange lexTokensWrong)

/-- 'remontoirelaw09.LexParts': WHATEVER THE INPUT: true; the input reads as it did. -/
def lexPartsSpec : ChangeSpec := { name := "lexParts", fn := fun _ => fun
  | [d] => { results := [.lit (.bool true)], args := [d] }
  | _ => none }
def lexPartsRow : OpenClaim := { program := "ytcolielkeomglaadoor", sum := "245764dd0f161f317b74f52f08d85e77ddf9dec8cc866c7bd686bf94d1baed3d", func := "remontoire/remontoirelaw09.LexParts", spec := "lexParts", inPlace := ["internal/bytealg.IndexByteString"], named := ["remontoire/lex.signs"], apart := false, laid := [("remontoire/lex.signs", laid_remontoire_lex_signs)] }
def LexPartsSaid : Prop := lexPartsRow.holds Tryd.pinned (OpenSpec.ofChange lexPartsSpec)

/-- ITS FALSE NEIGHBOUR: 'it returns false'. Refute it at one input. -/
def lexPartsWrong : ChangeSpec := { name := "lexParts", fn := fun _ => fun
  | [d] => { results := [.lit (.bool false)], args := [d] }
  | _ => none }
def LexPartsWrongFalsely : Prop := lexPartsRow.holds Tryd.pinned (OpenSpec.ofChange lexPartsWrong)

/-- 'remontoirelaw09.LexBytes': WHATEVER THE INPUT: true; the input reads as it did. -/
def lexBytesSpec : ChangeSpec := { name := "lexBytes", fn := fun _ => fun
  | [d] => { results := [.lit (.bool true)], args := [d] }
  | _ => none }
def lexBytesRow : OpenClaim := { program := "ytcolielkeomglaadoor", sum := "245764dd0f161f317b74f52f08d85e77ddf9dec8cc866c7bd686bf94d1baed3d", func := "remontoire/remontoirelaw09.LexBytes", spec := "lexBytes", inPlace := ["internal/bytealg.IndexByteString"], named := ["remontoire/lex.signs"], apart := false, laid := [("remontoire/lex.signs", laid_remontoire_lex_signs)] }
def LexBytesSaid : Prop := lexBytesRow.holds Tryd.pinned (OpenSpec.ofChange lexBytesSpec)

/-- ITS FALSE NEIGHBOUR: 'it returns false'. Refute it at one input. -/
def lexBytesWrong : ChangeSpec := { name := "lexBytes", fn := fun _ => fun
  | [d] => { results := [.lit (.bool false)], args := [d] }
  | _ => none }
def LexBytesWrongFalsely : Prop := lexBytesRow.holds Tryd.pinned (OpenSpec.ofChange lexBytesWrong)

/-- 'remontoirelaw09.LexJoins': WHATEVER THE INPUT: true; the input reads as it did. -/
def lexJoinsSpec : ChangeSpec := { name := "lexJoins", fn := fun _ => fun
  | [d1, d2] => { results := [.lit (.bool true)], args := [d1, d2] }
  | _ => none }
def lexJoinsRow : OpenClaim := { program := "ytcolielkeomglaadoor", sum := "245764dd0f161f317b74f52f08d85e77ddf9dec8cc866c7bd686bf94d1baed3d", func := "remontoire/remontoirelaw09.LexJoins", spec := "lexJoins", inPlace := ["internal/bytealg.IndexByteString"], named := ["remontoire/lex.signs"], apart := false, laid := [("remontoire/lex.signs", laid_remontoire_lex_signs)] }
def LexJoinsSaid : Prop := lexJoinsRow.holds Tryd.pinned (OpenSpec.ofChange lexJoinsSpec)

/-- ITS FALSE NEIGHBOUR: 'it returns false'. Refute it at one input. -/
def lexJoinsWrong : ChangeSpec := { name := "lexJoins", fn := fun _ => fun
  | [d1, d2] => { results := [.lit (.bool false)], args := [d1, d2] }
  | _ => none }
def LexJoinsWrongFalsely : Prop := lexJoinsRow.holds Tryd.pinned (OpenSpec.ofChange lexJoinsWrong)

/-- 'remontoirelaw09.LexShows': WHATEVER THE INPUT: true; the input reads as it did. -/
def lexShowsSpec : ChangeSpec := { name := "lexShows", fn := fun _ => fun
  | [d] => { results := [.lit (.bool true)], args := [d] }
  | _ => none }
def lexShowsRow : OpenClaim := { program := "ytcolielkeomglaadoor", sum := "245764dd0f161f317b74f52f08d85e77ddf9dec8cc866c7bd686bf94d1baed3d", func := "remontoire/remontoirelaw09.LexShows", spec := "lexShows", inPlace := ["internal/bytealg.IndexByteString", "internal/abi.NoEscape"], named := ["remontoire/lex.signs"], apart := false, laid := [("remontoire/lex.signs", laid_remontoire_lex_signs)] }
def LexShowsSaid : Prop := lexShowsRow.holds Tryd.pinned (OpenSpec.ofChange lexShowsSpec)

/-- ITS FALSE NEIGHBOUR: 'it returns false'. Refute it at one input. -/
def lexShowsWrong : ChangeSpec := { name := "lexShows", fn := fun _ => fun
  | [d] => { results := [.lit (.bool false)], args := [d] }
  | _ => none }
def LexShowsWrongFalsely : Prop := lexShowsRow.holds Tryd.pinned (OpenSpec.ofChange lexShowsWrong)

/- THE SECOND FORM. 'bulk': how many values and letters a reading holds, each counted each time it is reached (what is shared counts as often as it is met; a slice's spare places count too). A statement '..UptoSaid' is the law's where the arguments, and the package variables that the reading takes, are together of bulk at most 1048576: NARROWER than '..Said'. Prove '..Said' where nothing that the law and all that it calls make is longer than what came in: it says more and counts as full. Else prove '..UptoSaid'. A law counts once. -/
mutual
def uptoBulk {H : Type} : DataW H → Nat
  | .lit (.string bytes) => bytes.length + 1
  | .lit _ => 1
  | .nil => 1
  | .ptr d => uptoBulk d + 1
  | .slice elems spare => uptoBulkAll elems + uptoBulkAll spare + 1
  | .agg parts => uptoBulkAll parts + 1
  | .iface _ d => uptoBulk d + 1
  | .map entries => uptoBulkEntries entries + 1
  | .held _ => 1
def uptoBulkAll {H : Type} : List (DataW H) → Nat
  | [] => 0
  | d :: r => uptoBulk d + uptoBulkAll r
def uptoBulkEntries {H : Type} : List (Lit × DataW H) → Nat
  | [] => 0
  | x :: r => uptoBulkEntry x + uptoBulkEntries r
def uptoBulkEntry {H : Type} : Lit × DataW H → Nat
  | (.string bytes, d) => bytes.length + uptoBulk d + 1
  | (_, d) => uptoBulk d + 1
 end
def uptoSmall : (H : Type) → List (DataW H) → Bool := fun _ ds => decide (uptoBulkAll ds ≤ 1048576)
def OpenSpec.upto (s : _root_.Go.ChangeSpec) : _root_.Go.OpenSpec := { _root_.Go.OpenSpec.ofChange s with cond := some uptoSmall }

/-- 'remontoirelaw09.LexTokens', WHERE WHAT IT READS IS OF BULK AT MOST 1048576: true; the input reads as it did. -/
def lexTokensUptoRow : OpenClaim := { program := "ytcolielkeomglaadoor", sum := "245764dd0f161f317b74f52f08d85e77ddf9dec8cc866c7bd686bf94d1baed3d", func := "remontoire/remontoirelaw09.LexTokens", spec := "lexTokens", inPlace := ["internal/bytealg.IndexByteString"], named := ["remontoire/lex.signs"], apart := false, laid := [("remontoire/lex.signs", laid_remontoire_lex_signs)], narrowed := true }
def LexTokensUptoSaid : Prop := lexTokensUptoRow.holds Tryd.pinned (OpenSpec.upto lexTokensSpec)

/-- 'remontoirelaw09.LexParts', WHERE WHAT IT READS IS OF BULK AT MOST 1048576: true; the input reads as it did. -/
def lexPartsUptoRow : OpenClaim := { program := "ytcolielkeomglaadoor", sum := "245764dd0f161f317b74f52f08d85e77ddf9dec8cc866c7bd686bf94d1baed3d", func := "remontoire/remontoirelaw09.LexParts", spec := "lexParts", inPlace := ["internal/bytealg.IndexByteString"], named := ["remontoire/lex.signs"], apart := false, laid := [("remontoire/lex.signs", laid_remontoire_lex_signs)], narrowed := true }
def LexPartsUptoSaid : Prop := lexPartsUptoRow.holds Tryd.pinned (OpenSpec.upto lexPartsSpec)

/-- 'remontoirelaw09.LexBytes', WHERE WHAT IT READS IS OF BULK AT MOST 1048576: true; the input reads as it did. -/
def lexBytesUptoRow : OpenClaim := { program := "ytcolielkeomglaadoor", sum := "245764dd0f161f317b74f52f08d85e77ddf9dec8cc866c7bd686bf94d1baed3d", func := "remontoire/remontoirelaw09.LexBytes", spec := "lexBytes", inPlace := ["internal/bytealg.IndexByteString"], named := ["remontoire/lex.signs"], apart := false, laid := [("remontoire/lex.signs", laid_remontoire_lex_signs)], narrowed := true }
def LexBytesUptoSaid : Prop := lexBytesUptoRow.holds Tryd.pinned (OpenSpec.upto lexBytesSpec)

/-- 'remontoirelaw09.LexJoins', WHERE WHAT IT READS IS OF BULK AT MOST 1048576: true; the input reads as it did. -/
def lexJoinsUptoRow : OpenClaim := { program := "ytcolielkeomglaadoor", sum := "245764dd0f161f317b74f52f08d85e77ddf9dec8cc866c7bd686bf94d1baed3d", func := "remontoire/remontoirelaw09.LexJoins", spec := "lexJoins", inPlace := ["internal/bytealg.IndexByteString"], named := ["remontoire/lex.signs"], apart := false, laid := [("remontoire/lex.signs", laid_remontoire_lex_signs)], narrowed := true }
def LexJoinsUptoSaid : Prop := lexJoinsUptoRow.holds Tryd.pinned (OpenSpec.upto lexJoinsSpec)

/-- 'remontoirelaw09.LexShows', WHERE WHAT IT READS IS OF BULK AT MOST 1048576: true; the input reads as it did. -/
def lexShowsUptoRow : OpenClaim := { program := "ytcolielkeomglaadoor", sum := "245764dd0f161f317b74f52f08d85e77ddf9dec8cc866c7bd686bf94d1baed3d", func := "remontoire/remontoirelaw09.LexShows", spec := "lexShows", inPlace := ["internal/bytealg.IndexByteString", "internal/abi.NoEscape"], named := ["remontoire/lex.signs"], apart := false, laid := [("remontoire/lex.signs", laid_remontoire_lex_signs)], narrowed := true }
def LexShowsUptoSaid : Prop := lexShowsUptoRow.holds Tryd.pinned (OpenSpec.upto lexShowsSpec)

end Rows
end Go.Proofs.YtcolielkeomglaaDoor
