/-
  DERIVED. GIVEN WITH THE SEED: THE CARDS: each row of YtmmgdbcppmabaaaDoorRows.lean that lists a variable, with what it lists TIED to the program's text (the seventh form; the later family's looks); each row that meets fmt, with fmt's text TOLD by the authors' own Lean function (tested against real Go, not proved from fmt's source: count such statements apart). THE CARD IS WHAT COUNTS. Prove the row's statement (the work); the ties are given (YtmmgdbcppmabaaaDoorTie.lean); close each card by the builder's one call (the guide's Derived/Test/ToyasCard.lean, 'card_holds'). Laid BY PROGRAM, IN A SANDBOX (cutbox-door.mjs). By AI agents, Wed Nov 11 2026. No macro, syntax, notation, axiom, sorry.
-/
import Derived.Test.YtmmgdbcppmabaaaDoorRows
import GoSem.ClaimSeven
namespace Go.Proofs.YtmmgdbcppmabaaaDoor
namespace Rows

/-- THE TIED CARD OF 'pontoonlaw08.AmountTexts'. -/
def amountTextsCard : Claim7 := { stood := { row := amountTextsRow, standIns := [], harness := (true, "ce31b5824b7141e25db094233469a9a69b926669dcb96bb44cfe00287b646926"), looks := true }, kinds := [], alts := [], laidByText := true, laidKinds := [.data, .data, .data, .sentinel, .sentinel], laidTests := true, laidLooks := .later }
def AmountTextsCardSaid : Prop := Claim7.holds Tryd.pinned (.plain (OpenSpec.ofChange amountTextsSpec)) amountTextsCard

/-- THE SECOND FORM's CARD OF 'pontoonlaw08.AmountTexts'. -/
def amountTextsUptoCard : Claim7 := { stood := { row := amountTextsUptoRow, standIns := [], harness := (true, "ce31b5824b7141e25db094233469a9a69b926669dcb96bb44cfe00287b646926"), looks := true }, kinds := [], alts := [], laidByText := true, laidKinds := [.data, .data, .data, .sentinel, .sentinel], laidTests := true, laidLooks := .later }
def AmountTextsUptoCardSaid : Prop := Claim7.holds Tryd.pinned (.plain (OpenSpec.upto amountTextsSpec)) amountTextsUptoCard
end Rows
end Go.Proofs.YtmmgdbcppmabaaaDoor
