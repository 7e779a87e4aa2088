/-
  DERIVED. GIVEN WITH THE SEED: THE CARDS: each row of YtcolielkeomglaaDoorRows.lean that lists a variable, with what it lists TIED to the program's text (the seventh form; the later family's looks); each row that meets fmt, with fmt's text TOLD by the authors' own Lean function (tested against real Go, not proved from fmt's source: count such statements apart). THE CARD IS WHAT COUNTS. Prove the row's statement (the work); the ties are given (YtcolielkeomglaaDoorTie.lean); close each card by the builder's one call (the guide's Derived/Test/ToyasCard.lean, 'card_holds'). Laid BY PROGRAM, IN A SANDBOX (cutbox-door.mjs). By AI agents, Wed Nov 11 2026. No macro, syntax, notation, axiom, sorry.
-/
import Derived.Test.YtcolielkeomglaaDoorRows
import GoSem.ClaimSeven
namespace Go.Proofs.YtcolielkeomglaaDoor
namespace Rows

/-- THE TIED CARD OF 'remontoirelaw09.LexTokens'. -/
def lexTokensCard : Claim7 := { stood := { row := lexTokensRow, standIns := [], harness := (true, "1d39884cad3bdd4f2c4c739bfb7c7841a52cb578d9c2274571621689d4854bbd"), looks := false }, kinds := [], alts := [], laidByText := true, laidKinds := [.data], laidTests := true, laidLooks := .later }
def LexTokensCardSaid : Prop := Claim7.holds Tryd.pinned (.plain (OpenSpec.ofChange lexTokensSpec)) lexTokensCard

/-- THE TIED CARD OF 'remontoirelaw09.LexParts'. -/
def lexPartsCard : Claim7 := { stood := { row := lexPartsRow, standIns := [], harness := (true, "1d39884cad3bdd4f2c4c739bfb7c7841a52cb578d9c2274571621689d4854bbd"), looks := false }, kinds := [], alts := [], laidByText := true, laidKinds := [.data], laidTests := true, laidLooks := .later }
def LexPartsCardSaid : Prop := Claim7.holds Tryd.pinned (.plain (OpenSpec.ofChange lexPartsSpec)) lexPartsCard

/-- THE TIED CARD OF 'remontoirelaw09.LexBytes'. -/
def lexBytesCard : Claim7 := { stood := { row := lexBytesRow, standIns := [], harness := (true, "1d39884cad3bdd4f2c4c739bfb7c7841a52cb578d9c2274571621689d4854bbd"), looks := false }, kinds := [], alts := [], laidByText := true, laidKinds := [.data], laidTests := true, laidLooks := .later }
def LexBytesCardSaid : Prop := Claim7.holds Tryd.pinned (.plain (OpenSpec.ofChange lexBytesSpec)) lexBytesCard

/-- THE TIED CARD OF 'remontoirelaw09.LexJoins'. -/
def lexJoinsCard : Claim7 := { stood := { row := lexJoinsRow, standIns := [], harness := (true, "1d39884cad3bdd4f2c4c739bfb7c7841a52cb578d9c2274571621689d4854bbd"), looks := false }, kinds := [], alts := [], laidByText := true, laidKinds := [.data], laidTests := true, laidLooks := .later }
def LexJoinsCardSaid : Prop := Claim7.holds Tryd.pinned (.plain (OpenSpec.ofChange lexJoinsSpec)) lexJoinsCard

/-- THE TIED CARD OF 'remontoirelaw09.LexShows'. -/
def lexShowsCard : Claim7 := { stood := { row := lexShowsRow, standIns := [], harness := (true, "1d39884cad3bdd4f2c4c739bfb7c7841a52cb578d9c2274571621689d4854bbd"), looks := false }, kinds := [], alts := [], laidByText := true, laidKinds := [.data], laidTests := true, laidLooks := .later }
def LexShowsCardSaid : Prop := Claim7.holds Tryd.pinned (.plain (OpenSpec.ofChange lexShowsSpec)) lexShowsCard

/-- THE SECOND FORM's CARD OF 'remontoirelaw09.LexTokens'. -/
def lexTokensUptoCard : Claim7 := { stood := { row := lexTokensUptoRow, standIns := [], harness := (true, "1d39884cad3bdd4f2c4c739bfb7c7841a52cb578d9c2274571621689d4854bbd"), looks := false }, kinds := [], alts := [], laidByText := true, laidKinds := [.data], laidTests := true, laidLooks := .later }
def LexTokensUptoCardSaid : Prop := Claim7.holds Tryd.pinned (.plain (OpenSpec.upto lexTokensSpec)) lexTokensUptoCard

/-- THE SECOND FORM's CARD OF 'remontoirelaw09.LexParts'. -/
def lexPartsUptoCard : Claim7 := { stood := { row := lexPartsUptoRow, standIns := [], harness := (true, "1d39884cad3bdd4f2c4c739bfb7c7841a52cb578d9c2274571621689d4854bbd"), looks := false }, kinds := [], alts := [], laidByText := true, laidKinds := [.data], laidTests := true, laidLooks := .later }
def LexPartsUptoCardSaid : Prop := Claim7.holds Tryd.pinned (.plain (OpenSpec.upto lexPartsSpec)) lexPartsUptoCard

/-- THE SECOND FORM's CARD OF 'remontoirelaw09.LexBytes'. -/
def lexBytesUptoCard : Claim7 := { stood := { row := lexBytesUptoRow, standIns := [], harness := (true, "1d39884cad3bdd4f2c4c739bfb7c7841a52cb578d9c2274571621689d4854bbd"), looks := false }, kinds := [], alts := [], laidByText := true, laidKinds := [.data], laidTests := true, laidLooks := .later }
def LexBytesUptoCardSaid : Prop := Claim7.holds Tryd.pinned (.plain (OpenSpec.upto lexBytesSpec)) lexBytesUptoCard

/-- THE SECOND FORM's CARD OF 'remontoirelaw09.LexJoins'. -/
def lexJoinsUptoCard : Claim7 := { stood := { row := lexJoinsUptoRow, standIns := [], harness := (true, "1d39884cad3bdd4f2c4c739bfb7c7841a52cb578d9c2274571621689d4854bbd"), looks := false }, kinds := [], alts := [], laidByText := true, laidKinds := [.data], laidTests := true, laidLooks := .later }
def LexJoinsUptoCardSaid : Prop := Claim7.holds Tryd.pinned (.plain (OpenSpec.upto lexJoinsSpec)) lexJoinsUptoCard

/-- THE SECOND FORM's CARD OF 'remontoirelaw09.LexShows'. -/
def lexShowsUptoCard : Claim7 := { stood := { row := lexShowsUptoRow, standIns := [], harness := (true, "1d39884cad3bdd4f2c4c739bfb7c7841a52cb578d9c2274571621689d4854bbd"), looks := false }, kinds := [], alts := [], laidByText := true, laidKinds := [.data], laidTests := true, laidLooks := .later }
def LexShowsUptoCardSaid : Prop := Claim7.holds Tryd.pinned (.plain (OpenSpec.upto lexShowsSpec)) lexShowsUptoCard
end Rows
end Go.Proofs.YtcolielkeomglaaDoor
