/-
  No cell of these rows narrows 'for every input' (looked for: loops, veiled, ifaces, maps, wideKeys, modest, calm, conditions, laid).
  DERIVED. THE GIVEN ROWS OF THIS SEAT. 5 by the template 'for every input the law returns true; each argument reads behind the call as it read before'; 0 by the template 'total and deterministic' (their statements: YtpfeddfbmnimlaaTotals.lean).
  GIVEN WITH THE SEED: the statements are not yours to turn. If you find one false, say at which input.
  Laid BY PROGRAM, IN A SANDBOX (cutbox-rows.mjs): the forced cells as the released guide's own fill.sh prints them over the translation 89ea562a5b0ad61e… (all of the seat's roots in one cut). By AI agents, Wed Nov 11 2026. No macro, syntax, notation, axiom, sorry.
-/
import Derived.Test.YtpfeddfbmnimlaaChecked
import GoSem.Claim
import GoSem.ClaimJoined
import GoSem.ClaimMapViews
import Derived.JoinedTies
import Derived.KernelRfl
namespace Go.Proofs.Ytpfeddfbmnimlaa
/- THE CELL 'sum', in the pinned program and in every row, IS THE sha256 OF THE DUMP (.gsa) THAT YtpfeddfbmnimlaaProg.lean LOADS. Nothing in Lean hashes anything: it is a label: what it is worth is what the hold of that sum in a sandbox is worth. -/
noncomputable def Try.pinned : Pinned := { name := "ytpfeddfbmnimlaa", sum := "89ea562a5b0ad61e9c316662daf41b34d87c39982d4d7785abbe3a7dfb1d7572", checked := Try.checked }
namespace Rows
def none {H : Type} : Left H := { results := [], args := [] }

/-- 'remontoirelaw06.MemHalves': WHATEVER THE INPUT: true; the input reads as it did. -/
def memHalvesSpec : ChangeSpec := { name := "memHalves", fn := fun _ => fun
  | [d1, d2] => { results := [.lit (.bool true)], args := [d1, d2] }
  | _ => none }
def memHalvesRow : OpenClaim := { program := "ytpfeddfbmnimlaa", sum := "89ea562a5b0ad61e9c316662daf41b34d87c39982d4d7785abbe3a7dfb1d7572", func := "remontoire/remontoirelaw06.MemHalves", spec := "memHalves", apart := false }
def MemHalvesSaid : Prop := memHalvesRow.holds Try.pinned (OpenSpec.ofChange memHalvesSpec)

/-- ITS FALSE NEIGHBOUR: 'it returns false'. Refute it at one input. -/
def memHalvesWrong : ChangeSpec := { name := "memHalves", fn := fun _ => fun
  | [d1, d2] => { results := [.lit (.bool false)], args := [d1, d2] }
  | _ => none }
def MemHalvesWrongFalsely : Prop := memHalvesRow.holds Try.pinned (OpenSpec.ofChange memHalvesWrong)

/-- 'remontoirelaw06.MemStores': WHATEVER THE INPUT: true; the input reads as it did. -/
def memStoresSpec : ChangeSpec := { name := "memStores", fn := fun _ => fun
  | [d1, d2, d3, d4] => { results := [.lit (.bool true)], args := [d1, d2, d3, d4] }
  | _ => none }
def memStoresRow : OpenClaim := { program := "ytpfeddfbmnimlaa", sum := "89ea562a5b0ad61e9c316662daf41b34d87c39982d4d7785abbe3a7dfb1d7572", func := "remontoire/remontoirelaw06.MemStores", spec := "memStores", apart := false }
def MemStoresSaid : Prop := memStoresRow.holds Try.pinned (OpenSpec.ofChange memStoresSpec)

/-- ITS FALSE NEIGHBOUR: 'it returns false'. Refute it at one input. -/
def memStoresWrong : ChangeSpec := { name := "memStores", fn := fun _ => fun
  | [d1, d2, d3, d4] => { results := [.lit (.bool false)], args := [d1, d2, d3, d4] }
  | _ => none }
def MemStoresWrongFalsely : Prop := memStoresRow.holds Try.pinned (OpenSpec.ofChange memStoresWrong)

/-- 'remontoirelaw06.MemSizes': WHATEVER THE INPUT: true; the input reads as it did. -/
def memSizesSpec : ChangeSpec := { name := "memSizes", fn := fun _ => fun
  | [d] => { results := [.lit (.bool true)], args := [d] }
  | _ => none }
def memSizesRow : OpenClaim := { program := "ytpfeddfbmnimlaa", sum := "89ea562a5b0ad61e9c316662daf41b34d87c39982d4d7785abbe3a7dfb1d7572", func := "remontoire/remontoirelaw06.MemSizes", spec := "memSizes", apart := false }
def MemSizesSaid : Prop := memSizesRow.holds Try.pinned (OpenSpec.ofChange memSizesSpec)

/-- ITS FALSE NEIGHBOUR: 'it returns false'. Refute it at one input. -/
def memSizesWrong : ChangeSpec := { name := "memSizes", fn := fun _ => fun
  | [d] => { results := [.lit (.bool false)], args := [d] }
  | _ => none }
def MemSizesWrongFalsely : Prop := memSizesRow.holds Try.pinned (OpenSpec.ofChange memSizesWrong)

/-- 'remontoirelaw06.MemLeast': WHATEVER THE INPUT: true; the input reads as it did. -/
def memLeastSpec : ChangeSpec := { name := "memLeast", fn := fun _ => fun
  | [d1, d2, d3] => { results := [.lit (.bool true)], args := [d1, d2, d3] }
  | _ => none }
def memLeastRow : OpenClaim := { program := "ytpfeddfbmnimlaa", sum := "89ea562a5b0ad61e9c316662daf41b34d87c39982d4d7785abbe3a7dfb1d7572", func := "remontoire/remontoirelaw06.MemLeast", spec := "memLeast", unfollowed := true, recurses := true, apart := false }
def MemLeastSaid : Prop := memLeastRow.holds Try.pinned (OpenSpec.ofChange memLeastSpec)

/-- ITS FALSE NEIGHBOUR: 'it returns false'. Refute it at one input. -/
def memLeastWrong : ChangeSpec := { name := "memLeast", fn := fun _ => fun
  | [d1, d2, d3] => { results := [.lit (.bool false)], args := [d1, d2, d3] }
  | _ => none }
def MemLeastWrongFalsely : Prop := memLeastRow.holds Try.pinned (OpenSpec.ofChange memLeastWrong)

/-- 'remontoirelaw06.MemPlays': WHATEVER THE INPUT: true; the input reads as it did. -/
def memPlaysSpec : ChangeSpec := { name := "memPlays", fn := fun _ => fun
  | [d1, d2] => { results := [.lit (.bool true)], args := [d1, d2] }
  | _ => none }
def memPlaysRow : OpenClaim := { program := "ytpfeddfbmnimlaa", sum := "89ea562a5b0ad61e9c316662daf41b34d87c39982d4d7785abbe3a7dfb1d7572", func := "remontoire/remontoirelaw06.MemPlays", spec := "memPlays", unfollowed := true, recurses := true, apart := false }
def MemPlaysSaid : Prop := memPlaysRow.holds Try.pinned (OpenSpec.ofChange memPlaysSpec)

/-- ITS FALSE NEIGHBOUR: 'it returns false'. Refute it at one input. -/
def memPlaysWrong : ChangeSpec := { name := "memPlays", fn := fun _ => fun
  | [d1, d2] => { results := [.lit (.bool false)], args := [d1, d2] }
  | _ => none }
def MemPlaysWrongFalsely : Prop := memPlaysRow.holds Try.pinned (OpenSpec.ofChange memPlaysWrong)

/- THE SECOND FORM. 'bulk': how many values and letters a reading holds, each counted each time it is reached (what is shared counts as often as it is met; a slice's spare places count too). A statement '..UptoSaid' is the law's where the arguments, and the package variables that the reading takes, are together of bulk at most 1048576: NARROWER than '..Said'. Prove '..Said' where nothing that the law and all that it calls make is longer than what came in: it says more and counts as full. Else prove '..UptoSaid'. A law counts once. -/
mutual
def uptoBulk {H : Type} : DataW H → Nat
  | .lit (.string bytes) => bytes.length + 1
  | .lit _ => 1
  | .nil => 1
  | .ptr d => uptoBulk d + 1
  | .slice elems spare => uptoBulkAll elems + uptoBulkAll spare + 1
  | .agg parts => uptoBulkAll parts + 1
  | .iface _ d => uptoBulk d + 1
  | .map entries => uptoBulkEntries entries + 1
  | .held _ => 1
def uptoBulkAll {H : Type} : List (DataW H) → Nat
  | [] => 0
  | d :: r => uptoBulk d + uptoBulkAll r
def uptoBulkEntries {H : Type} : List (Lit × DataW H) → Nat
  | [] => 0
  | x :: r => uptoBulkEntry x + uptoBulkEntries r
def uptoBulkEntry {H : Type} : Lit × DataW H → Nat
  | (.string bytes, d) => bytes.length + uptoBulk d + 1
  | (_, d) => uptoBulk d + 1
 end
def uptoSmall : (H : Type) → List (DataW H) → Bool := fun _ ds => decide (uptoBulkAll ds ≤ 1048576)
def OpenSpec.upto (s : _root_.Go.ChangeSpec) : _root_.Go.OpenSpec := { _root_.Go.OpenSpec.ofChange s with cond := some uptoSmall }

/-- 'remontoirelaw06.MemHalves', WHERE WHAT IT READS IS OF BULK AT MOST 1048576: true; the input reads as it did. -/
def memHalvesUptoRow : OpenClaim := { program := "ytpfeddfbmnimlaa", sum := "89ea562a5b0ad61e9c316662daf41b34d87c39982d4d7785abbe3a7dfb1d7572", func := "remontoire/remontoirelaw06.MemHalves", spec := "memHalves", apart := false, narrowed := true }
def MemHalvesUptoSaid : Prop := memHalvesUptoRow.holds Try.pinned (OpenSpec.upto memHalvesSpec)

/-- 'remontoirelaw06.MemStores', WHERE WHAT IT READS IS OF BULK AT MOST 1048576: true; the input reads as it did. -/
def memStoresUptoRow : OpenClaim := { program := "ytpfeddfbmnimlaa", sum := "89ea562a5b0ad61e9c316662daf41b34d87c39982d4d7785abbe3a7dfb1d7572", func := "remontoire/remontoirelaw06.MemStores", spec := "memStores", apart := false, narrowed := true }
def MemStoresUptoSaid : Prop := memStoresUptoRow.holds Try.pinned (OpenSpec.upto memStoresSpec)

/-- 'remontoirelaw06.MemSizes', WHERE WHAT IT READS IS OF BULK AT MOST 1048576: true; the input reads as it did. -/
def memSizesUptoRow : OpenClaim := { program := "ytpfeddfbmnimlaa", sum := "89ea562a5b0ad61e9c316662daf41b34d87c39982d4d7785abbe3a7dfb1d7572", func := "remontoire/remontoirelaw06.MemSizes", spec := "memSizes", apart := false, narrowed := true }
def MemSizesUptoSaid : Prop := memSizesUptoRow.holds Try.pinned (OpenSpec.upto memSizesSpec)

/-- 'remontoirelaw06.MemLeast', WHERE WHAT IT READS IS OF BULK AT MOST 1048576: true; the input reads as it did. -/
def memLeastUptoRow : OpenClaim := { program := "ytpfeddfbmnimlaa", sum := "89ea562a5b0ad61e9c316662daf41b34d87c39982d4d7785abbe3a7dfb1d7572", func := "remontoire/remontoirelaw06.MemLeast", spec := "memLeast", unfollowed := true, recurses := true, apart := false, narrowed := true }
def MemLeastUptoSaid : Prop := memLeastUptoRow.holds Try.pinned (OpenSpec.upto memLeastSpec)

/-- 'remontoirelaw06.MemPlays', WHERE WHAT IT READS IS OF BULK AT MOST 1048576: true; the input reads as it did. -/
def memPlaysUptoRow : OpenClaim := { program := "ytpfeddfbmnimlaa", sum := "89ea562a5b0ad61e9c316662daf41b34d87c39982d4d7785abbe3a7dfb1d7572", func := "remontoire/remontoirelaw06.MemPlays", spec := "memPlays", unfollowed := true, recurses := true, apart := false, narrowed := true }
def MemPlaysUptoSaid : Prop := memPlaysUptoRow.holds Try.pinned (OpenSpec.upto memPlaysSpec)

end Rows
end Go.Proofs.Ytpfeddfbmnimlaa
