/-
  DERIVED. GIVEN WITH THE SEED: THE CARDS: each row of YtmkencdkglbpbaaDoorRows.lean that lists a variable, with what it lists TIED to the program's text (the seventh form; the later family's looks); each row that meets fmt, with fmt's text TOLD by the authors' own Lean function (tested against real Go, not proved from fmt's source: count such statements apart). THE CARD IS WHAT COUNTS. Prove the row's statement (the work); the ties are given (YtmkencdkglbpbaaDoorTie.lean); close each card by the builder's one call (the guide's Derived/Test/ToyasCard.lean, 'card_holds'). Laid BY PROGRAM, IN A SANDBOX (cutbox-door.mjs). By AI agents, Wed Nov 11 2026. No macro, syntax, notation, axiom, sorry.
-/
import Derived.Test.YtmkencdkglbpbaaDoorRows
import GoSem.ClaimSeven
namespace Go.Proofs.YtmkencdkglbpbaaDoor
namespace Rows

/-- THE TIED CARD OF 'remontoirelaw17.AllocLists'. -/
def allocListsCard : Claim7 := { stood := { row := allocListsRow, standIns := [], harness := (true, "6fcffd7f5bb6c1ee287a0cee9fe9d3df8e15c351e5d42834a2b19ea5f261b21d"), looks := false }, kinds := [], alts := [], laidByText := true, laidKinds := [.data], laidTests := true, laidLooks := .later }
def AllocListsCardSaid : Prop := Claim7.holds Tryd.pinned (.plain (OpenSpec.ofChange allocListsSpec)) allocListsCard

/-- THE TIED CARD OF 'remontoirelaw17.AllocBases'. -/
def allocBasesCard : Claim7 := { stood := { row := allocBasesRow, standIns := [], harness := (true, "6fcffd7f5bb6c1ee287a0cee9fe9d3df8e15c351e5d42834a2b19ea5f261b21d"), looks := false }, kinds := [], alts := [], laidByText := true, laidKinds := [.data], laidTests := true, laidLooks := .later }
def AllocBasesCardSaid : Prop := Claim7.holds Tryd.pinned (.plain (OpenSpec.ofChange allocBasesSpec)) allocBasesCard

/-- THE TIED CARD OF 'remontoirelaw17.AllocOrder'. -/
def allocOrderCard : Claim7 := { stood := { row := allocOrderRow, standIns := [], harness := (true, "6fcffd7f5bb6c1ee287a0cee9fe9d3df8e15c351e5d42834a2b19ea5f261b21d"), looks := false }, kinds := [], alts := [], laidByText := true, laidKinds := [.data], laidTests := true, laidLooks := .later }
def AllocOrderCardSaid : Prop := Claim7.holds Tryd.pinned (.plain (OpenSpec.ofChange allocOrderSpec)) allocOrderCard

/-- THE TIED CARD OF 'remontoirelaw17.AllocFew'. -/
def allocFewCard : Claim7 := { stood := { row := allocFewRow, standIns := [], harness := (true, "6fcffd7f5bb6c1ee287a0cee9fe9d3df8e15c351e5d42834a2b19ea5f261b21d"), looks := false }, kinds := [], alts := [], laidByText := true, laidKinds := [.data], laidTests := true, laidLooks := .later }
def AllocFewCardSaid : Prop := Claim7.holds Tryd.pinned (.plain (OpenSpec.ofChange allocFewSpec)) allocFewCard

/-- THE TIED CARD OF 'remontoirelaw16.VopApart'. -/
def vopApartCard : Claim7 := { stood := { row := vopApartRow, standIns := [], harness := (true, "6fcffd7f5bb6c1ee287a0cee9fe9d3df8e15c351e5d42834a2b19ea5f261b21d"), looks := false }, kinds := [], alts := [], laidByText := true, laidKinds := [.data], laidTests := true, laidLooks := .later }
def VopApartCardSaid : Prop := Claim7.holds Tryd.pinned (.plain (OpenSpec.ofChange vopApartSpec)) vopApartCard

/-- THE TIED CARD OF 'remontoirelaw16.VopRight'. -/
def vopRightCard : Claim7 := { stood := { row := vopRightRow, standIns := [], harness := (true, "6fcffd7f5bb6c1ee287a0cee9fe9d3df8e15c351e5d42834a2b19ea5f261b21d"), looks := false }, kinds := [], alts := [], laidByText := true, laidKinds := [.data], laidTests := true, laidLooks := .later }
def VopRightCardSaid : Prop := Claim7.holds Tryd.pinned (.plain (OpenSpec.ofChange vopRightSpec)) vopRightCard

/-- THE TIED CARD OF 'remontoirelaw16.VopLists'. -/
def vopListsCard : Claim7 := { stood := { row := vopListsRow, standIns := [], harness := (true, "6fcffd7f5bb6c1ee287a0cee9fe9d3df8e15c351e5d42834a2b19ea5f261b21d"), looks := false }, kinds := [], alts := [], laidByText := true, laidKinds := [.data], laidTests := true, laidLooks := .later }
def VopListsCardSaid : Prop := Claim7.holds Tryd.pinned (.plain (OpenSpec.ofChange vopListsSpec)) vopListsCard

/-- THE TIED CARD OF 'remontoirelaw17.AllocRuns'. -/
def allocRunsCard : Claim7 := { stood := { row := allocRunsRow, standIns := [], harness := (true, "6fcffd7f5bb6c1ee287a0cee9fe9d3df8e15c351e5d42834a2b19ea5f261b21d"), looks := false }, kinds := [], alts := [], laidByText := true, laidKinds := [.data], laidTests := true, laidLooks := .later }
def AllocRunsCardSaid : Prop := Claim7.holds Tryd.pinned (.plain (OpenSpec.ofChange allocRunsSpec)) allocRunsCard

/-- THE SECOND FORM's CARD OF 'remontoirelaw17.AllocLists'. -/
def allocListsUptoCard : Claim7 := { stood := { row := allocListsUptoRow, standIns := [], harness := (true, "6fcffd7f5bb6c1ee287a0cee9fe9d3df8e15c351e5d42834a2b19ea5f261b21d"), looks := false }, kinds := [], alts := [], laidByText := true, laidKinds := [.data], laidTests := true, laidLooks := .later }
def AllocListsUptoCardSaid : Prop := Claim7.holds Tryd.pinned (.plain (OpenSpec.upto allocListsSpec)) allocListsUptoCard

/-- THE SECOND FORM's CARD OF 'remontoirelaw17.AllocBases'. -/
def allocBasesUptoCard : Claim7 := { stood := { row := allocBasesUptoRow, standIns := [], harness := (true, "6fcffd7f5bb6c1ee287a0cee9fe9d3df8e15c351e5d42834a2b19ea5f261b21d"), looks := false }, kinds := [], alts := [], laidByText := true, laidKinds := [.data], laidTests := true, laidLooks := .later }
def AllocBasesUptoCardSaid : Prop := Claim7.holds Tryd.pinned (.plain (OpenSpec.upto allocBasesSpec)) allocBasesUptoCard

/-- THE SECOND FORM's CARD OF 'remontoirelaw17.AllocOrder'. -/
def allocOrderUptoCard : Claim7 := { stood := { row := allocOrderUptoRow, standIns := [], harness := (true, "6fcffd7f5bb6c1ee287a0cee9fe9d3df8e15c351e5d42834a2b19ea5f261b21d"), looks := false }, kinds := [], alts := [], laidByText := true, laidKinds := [.data], laidTests := true, laidLooks := .later }
def AllocOrderUptoCardSaid : Prop := Claim7.holds Tryd.pinned (.plain (OpenSpec.upto allocOrderSpec)) allocOrderUptoCard

/-- THE SECOND FORM's CARD OF 'remontoirelaw17.AllocFew'. -/
def allocFewUptoCard : Claim7 := { stood := { row := allocFewUptoRow, standIns := [], harness := (true, "6fcffd7f5bb6c1ee287a0cee9fe9d3df8e15c351e5d42834a2b19ea5f261b21d"), looks := false }, kinds := [], alts := [], laidByText := true, laidKinds := [.data], laidTests := true, laidLooks := .later }
def AllocFewUptoCardSaid : Prop := Claim7.holds Tryd.pinned (.plain (OpenSpec.upto allocFewSpec)) allocFewUptoCard

/-- THE SECOND FORM's CARD OF 'remontoirelaw16.VopApart'. -/
def vopApartUptoCard : Claim7 := { stood := { row := vopApartUptoRow, standIns := [], harness := (true, "6fcffd7f5bb6c1ee287a0cee9fe9d3df8e15c351e5d42834a2b19ea5f261b21d"), looks := false }, kinds := [], alts := [], laidByText := true, laidKinds := [.data], laidTests := true, laidLooks := .later }
def VopApartUptoCardSaid : Prop := Claim7.holds Tryd.pinned (.plain (OpenSpec.upto vopApartSpec)) vopApartUptoCard

/-- THE SECOND FORM's CARD OF 'remontoirelaw16.VopRight'. -/
def vopRightUptoCard : Claim7 := { stood := { row := vopRightUptoRow, standIns := [], harness := (true, "6fcffd7f5bb6c1ee287a0cee9fe9d3df8e15c351e5d42834a2b19ea5f261b21d"), looks := false }, kinds := [], alts := [], laidByText := true, laidKinds := [.data], laidTests := true, laidLooks := .later }
def VopRightUptoCardSaid : Prop := Claim7.holds Tryd.pinned (.plain (OpenSpec.upto vopRightSpec)) vopRightUptoCard

/-- THE SECOND FORM's CARD OF 'remontoirelaw16.VopLists'. -/
def vopListsUptoCard : Claim7 := { stood := { row := vopListsUptoRow, standIns := [], harness := (true, "6fcffd7f5bb6c1ee287a0cee9fe9d3df8e15c351e5d42834a2b19ea5f261b21d"), looks := false }, kinds := [], alts := [], laidByText := true, laidKinds := [.data], laidTests := true, laidLooks := .later }
def VopListsUptoCardSaid : Prop := Claim7.holds Tryd.pinned (.plain (OpenSpec.upto vopListsSpec)) vopListsUptoCard

/-- THE SECOND FORM's CARD OF 'remontoirelaw17.AllocRuns'. -/
def allocRunsUptoCard : Claim7 := { stood := { row := allocRunsUptoRow, standIns := [], harness := (true, "6fcffd7f5bb6c1ee287a0cee9fe9d3df8e15c351e5d42834a2b19ea5f261b21d"), looks := false }, kinds := [], alts := [], laidByText := true, laidKinds := [.data], laidTests := true, laidLooks := .later }
def AllocRunsUptoCardSaid : Prop := Claim7.holds Tryd.pinned (.plain (OpenSpec.upto allocRunsSpec)) allocRunsUptoCard
end Rows
end Go.Proofs.YtmkencdkglbpbaaDoor
