/-
  DERIVED. GIVEN WITH THE SEED: THE CARDS: each row of YtmdfpifcghmpfaaGreatDoorRows.lean that lists a variable, with what it lists TIED to the program's text (the seventh form; the later family's looks); each row that meets fmt, with fmt's text TOLD by the authors' own Lean function (tested against real Go, not proved from fmt's source: count such statements apart). THE CARD IS WHAT COUNTS. Prove the row's statement (the work); the ties are given (YtmdfpifcghmpfaaGreatDoorTie.lean); close each card by the builder's one call (the guide's Derived/Test/ToyasCard.lean, 'card_holds'). Laid BY PROGRAM, IN A SANDBOX (cutbox-door.mjs). By AI agents, Wed Nov 11 2026. No macro, syntax, notation, axiom, sorry.
-/
import Derived.Test.YtmdfpifcghmpfaaGreatDoorRows
import GoSem.ClaimSeven
namespace Go.Proofs.YtmdfpifcghmpfaaGreatDoor
namespace Rows

/-- THE TIED CARD OF 'pontoonlaw18.RouterHandles'. -/
def routerHandlesCard : Claim7 := { stood := { row := routerHandlesRow, standIns := [], harness := (true, "b5d1802bbb2ad7b4995b815db847ce232e55318dd4b6c6f1fa3ba40547c120a4"), looks := true }, kinds := [], alts := [], laidByText := true, laidKinds := [.data, .pinned], laidTests := true, laidLooks := .later }
def RouterHandlesCardSaid : Prop := Claim7.holds Tryz.pinned (.plain (OpenSpec.ofChange routerHandlesSpec)) routerHandlesCard

/-- THE SECOND FORM's CARD OF 'pontoonlaw18.RouterHandles'. -/
def routerHandlesUptoCard : Claim7 := { stood := { row := routerHandlesUptoRow, standIns := [], harness := (true, "b5d1802bbb2ad7b4995b815db847ce232e55318dd4b6c6f1fa3ba40547c120a4"), looks := true }, kinds := [], alts := [], laidByText := true, laidKinds := [.data, .pinned], laidTests := true, laidLooks := .later }
def RouterHandlesUptoCardSaid : Prop := Claim7.holds Tryz.pinned (.plain (OpenSpec.upto routerHandlesSpec)) routerHandlesUptoCard
end Rows
end Go.Proofs.YtmdfpifcghmpfaaGreatDoor
