/-
  NARROWER THAN 'FOR EVERY INPUT', by the rows' own cells (each row's printed sentence says how): AllocLists: laid · AllocBases: laid · AllocOrder: laid · AllocFew: laid · VopApart: laid · VopRight: laid · VopLists: laid · AllocRuns: laid.
  DERIVED. THE GIVEN ROWS OF THIS SEAT. 8 by the template 'for every input the law returns true; each argument reads behind the call as it read before'; 0 by the template 'total and deterministic' (their statements: YtmkencdkglbpbaaDoorTotals.lean).
  GIVEN WITH THE SEED: the statements are not yours to turn. If you find one false, say at which input.
  Laid BY PROGRAM, IN A SANDBOX (cutbox-rows.mjs): the forced cells as the released guide's own fill.sh prints them over the translation 2a505bde02c2947b… (all of the seat's roots in one cut). By AI agents, Wed Nov 11 2026. No macro, syntax, notation, axiom, sorry.
-/
import Derived.Test.YtmkencdkglbpbaaDoorChecked
import GoSem.Claim
import GoSem.ClaimJoined
import GoSem.ClaimMapViews
import Derived.JoinedTies
import Derived.KernelRfl
namespace Go.Proofs.YtmkencdkglbpbaaDoor
/- THE CELL 'sum', in the pinned program and in every row, IS THE sha256 OF THE DUMP (.gsa) THAT YtmkencdkglbpbaaDoorProg.lean LOADS. Nothing in Lean hashes anything: it is a label: what it is worth is what the hold of that sum in a sandbox is worth. -/
noncomputable def Tryd.pinned : Pinned := { name := "ytmkencdkglbpbaadoor", sum := "2a505bde02c2947bdb00f886d15b44be3ff93cc56d621990b169ad913a1eb0e1", checked := Tryd.checked }
namespace Rows
def none {H : Type} : Left H := { results := [], args := [] }

/- WHAT THE LISTED PACKAGE-LEVEL VARIABLES READ AS WHEN THE CALL BEGINS. Each datum BY PROGRAM (the guide's laid-datum.mjs) off the statement by which the dump's own 'gosem.cut.vars' lays the variable. In a bare row this is a premise. The card (YtmkencdkglbpbaaDoorCards.lean) ties it to the program's text. -/
def laid_remontoire_vop_rows {H : Type} : DataW H := .agg [.agg [.lit (.int .i64 0), .lit (.int .i64 0)], .agg [.lit (.int .i64 1), .lit (.int .i64 0)], .agg [.lit (.int .i64 1), .lit (.int .i64 0)], .agg [.lit (.int .i64 0), .lit (.int .i64 1)], .agg [.lit (.int .i64 1), .lit (.int .i64 0)], .agg [.lit (.int .i64 1), .lit (.int .i64 2)], .agg [.lit (.int .i64 0), .lit (.int .i64 3)], .agg [.lit (.int .i64 1), .lit (.int .i64 2)], .agg [.lit (.int .i64 1), .lit (.int .i64 2)], .agg [.lit (.int .i64 1), .lit (.int .i64 2)], .agg [.lit (.int .i64 1), .lit (.int .i64 2)], .agg [.lit (.int .i64 1), .lit (.int .i64 2)], .agg [.lit (.int .i64 1), .lit (.int .i64 2)], .agg [.lit (.int .i64 1), .lit (.int .i64 2)], .agg [.lit (.int .i64 1), .lit (.int .i64 2)], .agg [.lit (.int .i64 1), .lit (.int .i64 2)], .agg [.lit (.int .i64 1), .lit (.int .i64 1)], .agg [.lit (.int .i64 1), .lit (.int .i64 1)], .agg [.lit (.int .i64 1), .lit (.int .i64 1)], .agg [.lit (.int .i64 1), .lit (.int .i64 1)], .agg [.lit (.int .i64 1), .lit (.int .i64 1)], .agg [.lit (.int .i64 1), .lit (.int .i64 2)], .agg [.lit (.int .i64 1), .lit (.int .i64 2)], .agg [.lit (.int .i64 2), .lit (.int .i64 4)], .agg [.lit (.int .i64 2), .lit (.int .i64 4)], .agg [.lit (.int .i64 1), .lit (.int .i64 4)], .agg [.lit (.int .i64 2), .lit (.int .i64 2)], .agg [.lit (.int .i64 1), .lit (.int .i64 1)], .agg [.lit (.int .i64 1), .lit (.int .i64 2)], .agg [.lit (.int .i64 1), .lit (.int .i64 3)], .agg [.lit (.int .i64 0), .lit (.int .i64 1)], .agg [.lit (.int .i64 0), .lit (.int .i64 1)]]

/-- 'remontoirelaw17.AllocLists': WHATEVER THE INPUT: true; the input reads as it did. -/
def allocListsSpec : ChangeSpec := { name := "allocLists", fn := fun _ => fun
  | [d1, d2] => { results := [.lit (.bool true)], args := [d1, d2] }
  | _ => none }
def allocListsRow : OpenClaim := { program := "ytmkencdkglbpbaadoor", sum := "2a505bde02c2947bdb00f886d15b44be3ff93cc56d621990b169ad913a1eb0e1", func := "remontoire/remontoirelaw17.AllocLists", spec := "allocLists", named := ["remontoire/vop.rows"], apart := false, laid := [("remontoire/vop.rows", laid_remontoire_vop_rows)] }
def AllocListsSaid : Prop := allocListsRow.holds Tryd.pinned (OpenSpec.ofChange allocListsSpec)

/-- ITS FALSE NEIGHBOUR: 'it returns false'. Refute it at one input. -/
def allocListsWrong : ChangeSpec := { name := "allocLists", fn := fun _ => fun
  | [d1, d2] => { results := [.lit (.bool false)], args := [d1, d2] }
  | _ => none }
def AllocListsWrongFalsely : Prop := allocListsRow.holds Tryd.pinned (OpenSpec.ofChange allocListsWrong)

/-- 'remontoirelaw17.AllocBases': WHATEVER THE INPUT: true; the input reads as it did. -/
def allocBasesSpec : ChangeSpec := { name := "allocBases", fn := fun _ => fun
  | [d1, d2, d3] => { results := [.lit (.bool true)], args := [d1, d2, d3] }
  | _ => none }
def allocBasesRow : OpenClaim := { program := "ytmkencdkglbpbaadoor", sum := "2a505bde02c2947bdb00f886d15b44be3ff93cc56d621990b169ad913a1eb0e1", func := "remontoire/remontoirelaw17.AllocBases", spec := "allocBases", named := ["remontoire/vop.rows"], apart := false, laid := [("remontoire/vop.rows", laid_remontoire_vop_rows)] }
def AllocBasesSaid : Prop := allocBasesRow.holds Tryd.pinned (OpenSpec.ofChange allocBasesSpec)

/-- ITS FALSE NEIGHBOUR: 'it returns false'. Refute it at one input. -/
def allocBasesWrong : ChangeSpec := { name := "allocBases", fn := fun _ => fun
  | [d1, d2, d3] => { results := [.lit (.bool false)], args := [d1, d2, d3] }
  | _ => none }
def AllocBasesWrongFalsely : Prop := allocBasesRow.holds Tryd.pinned (OpenSpec.ofChange allocBasesWrong)

/-- 'remontoirelaw17.AllocOrder': WHATEVER THE INPUT: true; the input reads as it did. -/
def allocOrderSpec : ChangeSpec := { name := "allocOrder", fn := fun _ => fun
  | [d1, d2] => { results := [.lit (.bool true)], args := [d1, d2] }
  | _ => none }
def allocOrderRow : OpenClaim := { program := "ytmkencdkglbpbaadoor", sum := "2a505bde02c2947bdb00f886d15b44be3ff93cc56d621990b169ad913a1eb0e1", func := "remontoire/remontoirelaw17.AllocOrder", spec := "allocOrder", named := ["remontoire/vop.rows"], apart := false, laid := [("remontoire/vop.rows", laid_remontoire_vop_rows)] }
def AllocOrderSaid : Prop := allocOrderRow.holds Tryd.pinned (OpenSpec.ofChange allocOrderSpec)

/-- ITS FALSE NEIGHBOUR: 'it returns false'. Refute it at one input. -/
def allocOrderWrong : ChangeSpec := { name := "allocOrder", fn := fun _ => fun
  | [d1, d2] => { results := [.lit (.bool false)], args := [d1, d2] }
  | _ => none }
def AllocOrderWrongFalsely : Prop := allocOrderRow.holds Tryd.pinned (OpenSpec.ofChange allocOrderWrong)

/-- 'remontoirelaw17.AllocFew': WHATEVER THE INPUT: true; the input reads as it did. -/
def allocFewSpec : ChangeSpec := { name := "allocFew", fn := fun _ => fun
  | [d1, d2] => { results := [.lit (.bool true)], args := [d1, d2] }
  | _ => none }
def allocFewRow : OpenClaim := { program := "ytmkencdkglbpbaadoor", sum := "2a505bde02c2947bdb00f886d15b44be3ff93cc56d621990b169ad913a1eb0e1", func := "remontoire/remontoirelaw17.AllocFew", spec := "allocFew", named := ["remontoire/vop.rows"], apart := false, laid := [("remontoire/vop.rows", laid_remontoire_vop_rows)] }
def AllocFewSaid : Prop := allocFewRow.holds Tryd.pinned (OpenSpec.ofChange allocFewSpec)

/-- ITS FALSE NEIGHBOUR: 'it returns false'. Refute it at one input. -/
def allocFewWrong : ChangeSpec := { name := "allocFew", fn := fun _ => fun
  | [d1, d2] => { results := [.lit (.bool false)], args := [d1, d2] }
  | _ => none }
def AllocFewWrongFalsely : Prop := allocFewRow.holds Tryd.pinned (OpenSpec.ofChange allocFewWrong)

/-- 'remontoirelaw16.VopApart': WHATEVER THE INPUT: true; the input reads as it did. -/
def vopApartSpec : ChangeSpec := { name := "vopApart", fn := fun _ => fun
  | [d1, d2, d3] => { results := [.lit (.bool true)], args := [d1, d2, d3] }
  | _ => none }
def vopApartRow : OpenClaim := { program := "ytmkencdkglbpbaadoor", sum := "2a505bde02c2947bdb00f886d15b44be3ff93cc56d621990b169ad913a1eb0e1", func := "remontoire/remontoirelaw16.VopApart", spec := "vopApart", named := ["remontoire/vop.rows"], apart := false, laid := [("remontoire/vop.rows", laid_remontoire_vop_rows)] }
def VopApartSaid : Prop := vopApartRow.holds Tryd.pinned (OpenSpec.ofChange vopApartSpec)

/-- ITS FALSE NEIGHBOUR: 'it returns false'. Refute it at one input. -/
def vopApartWrong : ChangeSpec := { name := "vopApart", fn := fun _ => fun
  | [d1, d2, d3] => { results := [.lit (.bool false)], args := [d1, d2, d3] }
  | _ => none }
def VopApartWrongFalsely : Prop := vopApartRow.holds Tryd.pinned (OpenSpec.ofChange vopApartWrong)

/-- 'remontoirelaw16.VopRight': WHATEVER THE INPUT: true; the input reads as it did. -/
def vopRightSpec : ChangeSpec := { name := "vopRight", fn := fun _ => fun
  | [d] => { results := [.lit (.bool true)], args := [d] }
  | _ => none }
def vopRightRow : OpenClaim := { program := "ytmkencdkglbpbaadoor", sum := "2a505bde02c2947bdb00f886d15b44be3ff93cc56d621990b169ad913a1eb0e1", func := "remontoire/remontoirelaw16.VopRight", spec := "vopRight", named := ["remontoire/vop.rows"], apart := false, laid := [("remontoire/vop.rows", laid_remontoire_vop_rows)] }
def VopRightSaid : Prop := vopRightRow.holds Tryd.pinned (OpenSpec.ofChange vopRightSpec)

/-- ITS FALSE NEIGHBOUR: 'it returns false'. Refute it at one input. -/
def vopRightWrong : ChangeSpec := { name := "vopRight", fn := fun _ => fun
  | [d] => { results := [.lit (.bool false)], args := [d] }
  | _ => none }
def VopRightWrongFalsely : Prop := vopRightRow.holds Tryd.pinned (OpenSpec.ofChange vopRightWrong)

/-- 'remontoirelaw16.VopLists': WHATEVER THE INPUT: true; the input reads as it did. -/
def vopListsSpec : ChangeSpec := { name := "vopLists", fn := fun _ => fun
  | [d] => { results := [.lit (.bool true)], args := [d] }
  | _ => none }
def vopListsRow : OpenClaim := { program := "ytmkencdkglbpbaadoor", sum := "2a505bde02c2947bdb00f886d15b44be3ff93cc56d621990b169ad913a1eb0e1", func := "remontoire/remontoirelaw16.VopLists", spec := "vopLists", named := ["remontoire/vop.rows"], apart := false, laid := [("remontoire/vop.rows", laid_remontoire_vop_rows)] }
def VopListsSaid : Prop := vopListsRow.holds Tryd.pinned (OpenSpec.ofChange vopListsSpec)

/-- ITS FALSE NEIGHBOUR: 'it returns false'. Refute it at one input. -/
def vopListsWrong : ChangeSpec := { name := "vopLists", fn := fun _ => fun
  | [d] => { results := [.lit (.bool false)], args := [d] }
  | _ => none }
def VopListsWrongFalsely : Prop := vopListsRow.holds Tryd.pinned (OpenSpec.ofChange vopListsWrong)

/-- 'remontoirelaw17.AllocRuns': WHATEVER THE INPUT: true; the input reads as it did. -/
def allocRunsSpec : ChangeSpec := { name := "allocRuns", fn := fun _ => fun
  | [d1, d2, d3, d4] => { results := [.lit (.bool true)], args := [d1, d2, d3, d4] }
  | _ => none }
def allocRunsRow : OpenClaim := { program := "ytmkencdkglbpbaadoor", sum := "2a505bde02c2947bdb00f886d15b44be3ff93cc56d621990b169ad913a1eb0e1", func := "remontoire/remontoirelaw17.AllocRuns", spec := "allocRuns", named := ["remontoire/vop.rows"], apart := false, laid := [("remontoire/vop.rows", laid_remontoire_vop_rows)] }
def AllocRunsSaid : Prop := allocRunsRow.holds Tryd.pinned (OpenSpec.ofChange allocRunsSpec)

/-- ITS FALSE NEIGHBOUR: 'it returns false'. Refute it at one input. -/
def allocRunsWrong : ChangeSpec := { name := "allocRuns", fn := fun _ => fun
  | [d1, d2, d3, d4] => { results := [.lit (.bool false)], args := [d1, d2, d3, d4] }
  | _ => none }
def AllocRunsWrongFalsely : Prop := allocRunsRow.holds Tryd.pinned (OpenSpec.ofChange allocRunsWrong)

/- THE SECOND FORM. 'bulk': how many values and letters a reading holds, each counted each time it is reached (what is shared counts as often as it is met; a slice's spare places count too). A statement '..UptoSaid' is the law's where the arguments, and the package variables that the reading takes, are together of bulk at most 1048576: NARROWER than '..Said'. Prove '..Said' where nothing that the law and all that it calls make is longer than what came in: it says more and counts as full. Else prove '..UptoSaid'. A law counts once. -/
mutual
def uptoBulk {H : Type} : DataW H → Nat
  | .lit (.string bytes) => bytes.length + 1
  | .lit _ => 1
  | .nil => 1
  | .ptr d => uptoBulk d + 1
  | .slice elems spare => uptoBulkAll elems + uptoBulkAll spare + 1
  | .agg parts => uptoBulkAll parts + 1
  | .iface _ d => uptoBulk d + 1
  | .map entries => uptoBulkEntries entries + 1
  | .held _ => 1
def uptoBulkAll {H : Type} : List (DataW H) → Nat
  | [] => 0
  | d :: r => uptoBulk d + uptoBulkAll r
def uptoBulkEntries {H : Type} : List (Lit × DataW H) → Nat
  | [] => 0
  | x :: r => uptoBulkEntry x + uptoBulkEntries r
def uptoBulkEntry {H : Type} : Lit × DataW H → Nat
  | (.string bytes, d) => bytes.length + uptoBulk d + 1
  | (_, d) => uptoBulk d + 1
 end
def uptoSmall : (H : Type) → List (DataW H) → Bool := fun _ ds => decide (uptoBulkAll ds ≤ 1048576)
def OpenSpec.upto (s : _root_.Go.ChangeSpec) : _root_.Go.OpenSpec := { _root_.Go.OpenSpec.ofChange s with cond := some uptoSmall }

/-- 'remontoirelaw17.AllocLists', WHERE WHAT IT READS IS OF BULK AT MOST 1048576: true; the input reads as it did. -/
def allocListsUptoRow : OpenClaim := { program := "ytmkencdkglbpbaadoor", sum := "2a505bde02c2947bdb00f886d15b44be3ff93cc56d621990b169ad913a1eb0e1", func := "remontoire/remontoirelaw17.AllocLists", spec := "allocLists", named := ["remontoire/vop.rows"], apart := false, laid := [("remontoire/vop.rows", laid_remontoire_vop_rows)], narrowed := true }
def AllocListsUptoSaid : Prop := allocListsUptoRow.holds Tryd.pinned (OpenSpec.upto allocListsSpec)

/-- 'remontoirelaw17.AllocBases', WHERE WHAT IT READS IS OF BULK AT MOST 1048576: true; the input reads as it did. -/
def allocBasesUptoRow : OpenClaim := { program := "ytmkencdkglbpbaadoor", sum := "2a505bde02c2947bdb00f886d15b44be3ff93cc56d621990b169ad913a1eb0e1", func := "remontoire/remontoirelaw17.AllocBases", spec := "allocBases", named := ["remontoire/vop.rows"], apart := false, laid := [("remontoire/vop.rows", laid_remontoire_vop_rows)], narrowed := true }
def AllocBasesUptoSaid : Prop := allocBasesUptoRow.holds Tryd.pinned (OpenSpec.upto allocBasesSpec)

/-- 'remontoirelaw17.AllocOrder', WHERE WHAT IT READS IS OF BULK AT MOST 1048576: true; the input reads as it did. -/
def allocOrderUptoRow : OpenClaim := { program := "ytmkencdkglbpbaadoor", sum := "2a505bde02c2947bdb00f886d15b44be3ff93cc56d621990b169ad913a1eb0e1", func := "remontoire/remontoirelaw17.AllocOrder", spec := "allocOrder", named := ["remontoire/vop.rows"], apart := false, laid := [("remontoire/vop.rows", laid_remontoire_vop_rows)], narrowed := true }
def AllocOrderUptoSaid : Prop := allocOrderUptoRow.holds Tryd.pinned (OpenSpec.upto allocOrderSpec)

/-- 'remontoirelaw17.AllocFew', WHERE WHAT IT READS IS OF BULK AT MOST 1048576: true; the input reads as it did. -/
def allocFewUptoRow : OpenClaim := { program := "ytmkencdkglbpbaadoor", sum := "2a505bde02c2947bdb00f886d15b44be3ff93cc56d621990b169ad913a1eb0e1", func := "remontoire/remontoirelaw17.AllocFew", spec := "allocFew", named := ["remontoire/vop.rows"], apart := false, laid := [("remontoire/vop.rows", laid_remontoire_vop_rows)], narrowed := true }
def AllocFewUptoSaid : Prop := allocFewUptoRow.holds Tryd.pinned (OpenSpec.upto allocFewSpec)

/-- 'remontoirelaw16.VopApart', WHERE WHAT IT READS IS OF BULK AT MOST 1048576: true; the input reads as it did. -/
def vopApartUptoRow : OpenClaim := { program := "ytmkencdkglbpbaadoor", sum := "2a505bde02c2947bdb00f886d15b44be3ff93cc56d621990b169ad913a1eb0e1", func := "remontoire/remontoirelaw16.VopApart", spec := "vopApart", named := ["remontoire/vop.rows"], apart := false, laid := [("remontoire/vop.rows", laid_remontoire_vop_rows)], narrowed := true }
def VopApartUptoSaid : Prop := vopApartUptoRow.holds Tryd.pinned (OpenSpec.upto vopApartSpec)

/-- 'remontoirelaw16.VopRight', WHERE WHAT IT READS IS OF BULK AT MOST 1048576: true; the input reads as it did. -/
def vopRightUptoRow : OpenClaim := { program := "ytmkencdkglbpbaadoor", sum := "2a505bde02c2947bdb00f886d15b44be3ff93cc56d621990b169ad913a1eb0e1", func := "remontoire/remontoirelaw16.VopRight", spec := "vopRight", named := ["remontoire/vop.rows"], apart := false, laid := [("remontoire/vop.rows", laid_remontoire_vop_rows)], narrowed := true }
def VopRightUptoSaid : Prop := vopRightUptoRow.holds Tryd.pinned (OpenSpec.upto vopRightSpec)

/-- 'remontoirelaw16.VopLists', WHERE WHAT IT READS IS OF BULK AT MOST 1048576: true; the input reads as it did. -/
def vopListsUptoRow : OpenClaim := { program := "ytmkencdkglbpbaadoor", sum := "2a505bde02c2947bdb00f886d15b44be3ff93cc56d621990b169ad913a1eb0e1", func := "remontoire/remontoirelaw16.VopLists", spec := "vopLists", named := ["remontoire/vop.rows"], apart := false, laid := [("remontoire/vop.rows", laid_remontoire_vop_rows)], narrowed := true }
def VopListsUptoSaid : Prop := vopListsUptoRow.holds Tryd.pinned (OpenSpec.upto vopListsSpec)

/-- 'remontoirelaw17.AllocRuns', WHERE WHAT IT READS IS OF BULK AT MOST 1048576: true; the input reads as it did. -/
def allocRunsUptoRow : OpenClaim := { program := "ytmkencdkglbpbaadoor", sum := "2a505bde02c2947bdb00f886d15b44be3ff93cc56d621990b169ad913a1eb0e1", func := "remontoire/remontoirelaw17.AllocRuns", spec := "allocRuns", named := ["remontoire/vop.rows"], apart := false, laid := [("remontoire/vop.rows", laid_remontoire_vop_rows)], narrowed := true }
def AllocRunsUptoSaid : Prop := allocRunsUptoRow.holds Tryd.pinned (OpenSpec.upto allocRunsSpec)

end Rows
end Go.Proofs.YtmkencdkglbpbaaDoor
