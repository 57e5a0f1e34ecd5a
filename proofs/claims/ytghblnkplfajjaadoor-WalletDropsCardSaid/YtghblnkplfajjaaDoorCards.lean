/-
  DERIVED. GIVEN WITH THE SEED: THE CARDS: each row of YtghblnkplfajjaaDoorRows.lean that lists a variable, with what it lists TIED to the program's text (the seventh form; the later family's looks); each row that meets fmt, with fmt's text TOLD by the authors' own Lean function (tested against real Go, not proved from fmt's source: count such statements apart). THE CARD IS WHAT COUNTS. Prove the row's statement (the work); the ties are given (YtghblnkplfajjaaDoorTie.lean); close each card by the builder's one call (the guide's Derived/Test/ToyasCard.lean, 'card_holds'). Laid BY PROGRAM, IN A SANDBOX (cutbox-door.mjs). By AI agents, Wed Nov 11 2026. No macro, syntax, notation, axiom, sorry.
-/
import Derived.Test.YtghblnkplfajjaaDoorRows
import GoSem.ClaimSeven
namespace Go.Proofs.YtghblnkplfajjaaDoor
namespace Rows

/-- THE TIED CARD OF 'pontoonlaw35.WalletDrops'. -/
def walletDropsCard : Claim7 := { stood := { row := walletDropsRow, standIns := [], harness := (true, "e61cf74709f37aad4974e3af47fda3a545447e17c46b741788201cdff0b8e7eb"), looks := true }, kinds := [], alts := [], laidByText := true, laidKinds := [.data, .data], laidTests := true, laidLooks := .later }
def WalletDropsCardSaid : Prop := Claim7.holds Tryd.pinned (.plain (OpenSpec.ofChange walletDropsSpec)) walletDropsCard

/-- THE SECOND FORM's CARD OF 'pontoonlaw35.WalletDrops'. -/
def walletDropsUptoCard : Claim7 := { stood := { row := walletDropsUptoRow, standIns := [], harness := (true, "e61cf74709f37aad4974e3af47fda3a545447e17c46b741788201cdff0b8e7eb"), looks := true }, kinds := [], alts := [], laidByText := true, laidKinds := [.data, .data], laidTests := true, laidLooks := .later }
def WalletDropsUptoCardSaid : Prop := Claim7.holds Tryd.pinned (.plain (OpenSpec.upto walletDropsSpec)) walletDropsUptoCard
end Rows
end Go.Proofs.YtghblnkplfajjaaDoor
