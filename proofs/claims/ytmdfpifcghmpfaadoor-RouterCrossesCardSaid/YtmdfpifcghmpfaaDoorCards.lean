/-
  DERIVED. GIVEN WITH THE SEED: THE CARDS: each row of YtmdfpifcghmpfaaDoorRows.lean that lists a variable, with what it lists TIED to the program's text (the seventh form; the later family's looks); each row that meets fmt, with fmt's text TOLD by the authors' own Lean function (tested against real Go, not proved from fmt's source: count such statements apart). THE CARD IS WHAT COUNTS. Prove the row's statement (the work); the ties are given (YtmdfpifcghmpfaaDoorTie.lean); close each card by the builder's one call (the guide's Derived/Test/ToyasCard.lean, 'card_holds'). Laid BY PROGRAM, IN A SANDBOX (cutbox-door.mjs). By AI agents, Wed Nov 11 2026. No macro, syntax, notation, axiom, sorry.
-/
import Derived.Test.YtmdfpifcghmpfaaDoorRows
import GoSem.ClaimSeven
namespace Go.Proofs.YtmdfpifcghmpfaaDoor
namespace Rows

/-- THE TIED CARD OF 'pontoonlaw13.LedgerGives'. -/
def ledgerGivesCard : Claim7 := { stood := { row := ledgerGivesRow, standIns := [], harness := (true, "ee516bfbe1b239f26172d98faddeba24ae8888020d81457a1fcf24b967dcf32d"), looks := true }, kinds := [], alts := [], laidByText := true, laidKinds := [.data, .pinned], laidTests := true, laidLooks := .later }
def LedgerGivesCardSaid : Prop := Claim7.holds Tryd.pinned (.plain (OpenSpec.ofChange ledgerGivesSpec)) ledgerGivesCard

/-- THE TIED CARD OF 'pontoonlaw13.LedgerPlays'. -/
def ledgerPlaysCard : Claim7 := { stood := { row := ledgerPlaysRow, standIns := [], harness := (true, "ee516bfbe1b239f26172d98faddeba24ae8888020d81457a1fcf24b967dcf32d"), looks := true }, kinds := [], alts := [], laidByText := true, laidKinds := [.data, .pinned], laidTests := true, laidLooks := .later }
def LedgerPlaysCardSaid : Prop := Claim7.holds Tryd.pinned (.plain (OpenSpec.ofChange ledgerPlaysSpec)) ledgerPlaysCard

/-- THE TIED CARD OF 'pontoonlaw13.LedgerKeeps'. -/
def ledgerKeepsCard : Claim7 := { stood := { row := ledgerKeepsRow, standIns := [], harness := (true, "ee516bfbe1b239f26172d98faddeba24ae8888020d81457a1fcf24b967dcf32d"), looks := true }, kinds := [], alts := [], laidByText := true, laidKinds := [.data, .pinned], laidTests := true, laidLooks := .later }
def LedgerKeepsCardSaid : Prop := Claim7.holds Tryd.pinned (.plain (OpenSpec.ofChange ledgerKeepsSpec)) ledgerKeepsCard

/-- THE TIED CARD OF 'pontoonlaw13.LedgerDoes'. -/
def ledgerDoesCard : Claim7 := { stood := { row := ledgerDoesRow, standIns := [], harness := (true, "ee516bfbe1b239f26172d98faddeba24ae8888020d81457a1fcf24b967dcf32d"), looks := true }, kinds := [], alts := [], laidByText := true, laidKinds := [.data, .pinned], laidTests := true, laidLooks := .later }
def LedgerDoesCardSaid : Prop := Claim7.holds Tryd.pinned (.plain (OpenSpec.ofChange ledgerDoesSpec)) ledgerDoesCard

/-- THE TIED CARD OF 'pontoonlaw14.PurseBack'. -/
def purseBackCard : Claim7 := { stood := { row := purseBackRow, standIns := [], harness := (true, "ee516bfbe1b239f26172d98faddeba24ae8888020d81457a1fcf24b967dcf32d"), looks := true }, kinds := [], alts := [], laidByText := true, laidKinds := [.data, .pinned], laidTests := true, laidLooks := .later }
def PurseBackCardSaid : Prop := Claim7.holds Tryd.pinned (.plain (OpenSpec.ofChange purseBackSpec)) purseBackCard

/-- THE TIED CARD OF 'pontoonlaw14.PursePlays'. -/
def pursePlaysCard : Claim7 := { stood := { row := pursePlaysRow, standIns := [], harness := (true, "ee516bfbe1b239f26172d98faddeba24ae8888020d81457a1fcf24b967dcf32d"), looks := true }, kinds := [], alts := [], laidByText := true, laidKinds := [.data, .pinned], laidTests := true, laidLooks := .later }
def PursePlaysCardSaid : Prop := Claim7.holds Tryd.pinned (.plain (OpenSpec.ofChange pursePlaysSpec)) pursePlaysCard

/-- THE TIED CARD OF 'pontoonlaw14.PurseSums'. -/
def purseSumsCard : Claim7 := { stood := { row := purseSumsRow, standIns := [], harness := (true, "ee516bfbe1b239f26172d98faddeba24ae8888020d81457a1fcf24b967dcf32d"), looks := true }, kinds := [], alts := [], laidByText := true, laidKinds := [.data, .pinned], laidTests := true, laidLooks := .later }
def PurseSumsCardSaid : Prop := Claim7.holds Tryd.pinned (.plain (OpenSpec.ofChange purseSumsSpec)) purseSumsCard

/-- THE TIED CARD OF 'pontoonlaw18.RouterCrosses'. -/
def routerCrossesCard : Claim7 := { stood := { row := routerCrossesRow, standIns := [], harness := (true, "ee516bfbe1b239f26172d98faddeba24ae8888020d81457a1fcf24b967dcf32d"), looks := true }, kinds := [], alts := [], laidByText := true, laidKinds := [.data, .pinned], laidTests := true, laidLooks := .later }
def RouterCrossesCardSaid : Prop := Claim7.holds Tryd.pinned (.plain (OpenSpec.ofChange routerCrossesSpec)) routerCrossesCard

/-- THE TIED CARD OF 'pontoonlaw18.RouterSums'. -/
def routerSumsCard : Claim7 := { stood := { row := routerSumsRow, standIns := [], harness := (true, "ee516bfbe1b239f26172d98faddeba24ae8888020d81457a1fcf24b967dcf32d"), looks := true }, kinds := [], alts := [], laidByText := true, laidKinds := [.data, .pinned], laidTests := true, laidLooks := .later }
def RouterSumsCardSaid : Prop := Claim7.holds Tryd.pinned (.plain (OpenSpec.ofChange routerSumsSpec)) routerSumsCard

/-- THE SECOND FORM's CARD OF 'pontoonlaw13.LedgerGives'. -/
def ledgerGivesUptoCard : Claim7 := { stood := { row := ledgerGivesUptoRow, standIns := [], harness := (true, "ee516bfbe1b239f26172d98faddeba24ae8888020d81457a1fcf24b967dcf32d"), looks := true }, kinds := [], alts := [], laidByText := true, laidKinds := [.data, .pinned], laidTests := true, laidLooks := .later }
def LedgerGivesUptoCardSaid : Prop := Claim7.holds Tryd.pinned (.plain (OpenSpec.upto ledgerGivesSpec)) ledgerGivesUptoCard

/-- THE SECOND FORM's CARD OF 'pontoonlaw13.LedgerPlays'. -/
def ledgerPlaysUptoCard : Claim7 := { stood := { row := ledgerPlaysUptoRow, standIns := [], harness := (true, "ee516bfbe1b239f26172d98faddeba24ae8888020d81457a1fcf24b967dcf32d"), looks := true }, kinds := [], alts := [], laidByText := true, laidKinds := [.data, .pinned], laidTests := true, laidLooks := .later }
def LedgerPlaysUptoCardSaid : Prop := Claim7.holds Tryd.pinned (.plain (OpenSpec.upto ledgerPlaysSpec)) ledgerPlaysUptoCard

/-- THE SECOND FORM's CARD OF 'pontoonlaw13.LedgerKeeps'. -/
def ledgerKeepsUptoCard : Claim7 := { stood := { row := ledgerKeepsUptoRow, standIns := [], harness := (true, "ee516bfbe1b239f26172d98faddeba24ae8888020d81457a1fcf24b967dcf32d"), looks := true }, kinds := [], alts := [], laidByText := true, laidKinds := [.data, .pinned], laidTests := true, laidLooks := .later }
def LedgerKeepsUptoCardSaid : Prop := Claim7.holds Tryd.pinned (.plain (OpenSpec.upto ledgerKeepsSpec)) ledgerKeepsUptoCard

/-- THE SECOND FORM's CARD OF 'pontoonlaw13.LedgerDoes'. -/
def ledgerDoesUptoCard : Claim7 := { stood := { row := ledgerDoesUptoRow, standIns := [], harness := (true, "ee516bfbe1b239f26172d98faddeba24ae8888020d81457a1fcf24b967dcf32d"), looks := true }, kinds := [], alts := [], laidByText := true, laidKinds := [.data, .pinned], laidTests := true, laidLooks := .later }
def LedgerDoesUptoCardSaid : Prop := Claim7.holds Tryd.pinned (.plain (OpenSpec.upto ledgerDoesSpec)) ledgerDoesUptoCard

/-- THE SECOND FORM's CARD OF 'pontoonlaw14.PurseBack'. -/
def purseBackUptoCard : Claim7 := { stood := { row := purseBackUptoRow, standIns := [], harness := (true, "ee516bfbe1b239f26172d98faddeba24ae8888020d81457a1fcf24b967dcf32d"), looks := true }, kinds := [], alts := [], laidByText := true, laidKinds := [.data, .pinned], laidTests := true, laidLooks := .later }
def PurseBackUptoCardSaid : Prop := Claim7.holds Tryd.pinned (.plain (OpenSpec.upto purseBackSpec)) purseBackUptoCard

/-- THE SECOND FORM's CARD OF 'pontoonlaw14.PursePlays'. -/
def pursePlaysUptoCard : Claim7 := { stood := { row := pursePlaysUptoRow, standIns := [], harness := (true, "ee516bfbe1b239f26172d98faddeba24ae8888020d81457a1fcf24b967dcf32d"), looks := true }, kinds := [], alts := [], laidByText := true, laidKinds := [.data, .pinned], laidTests := true, laidLooks := .later }
def PursePlaysUptoCardSaid : Prop := Claim7.holds Tryd.pinned (.plain (OpenSpec.upto pursePlaysSpec)) pursePlaysUptoCard

/-- THE SECOND FORM's CARD OF 'pontoonlaw14.PurseSums'. -/
def purseSumsUptoCard : Claim7 := { stood := { row := purseSumsUptoRow, standIns := [], harness := (true, "ee516bfbe1b239f26172d98faddeba24ae8888020d81457a1fcf24b967dcf32d"), looks := true }, kinds := [], alts := [], laidByText := true, laidKinds := [.data, .pinned], laidTests := true, laidLooks := .later }
def PurseSumsUptoCardSaid : Prop := Claim7.holds Tryd.pinned (.plain (OpenSpec.upto purseSumsSpec)) purseSumsUptoCard

/-- THE SECOND FORM's CARD OF 'pontoonlaw18.RouterCrosses'. -/
def routerCrossesUptoCard : Claim7 := { stood := { row := routerCrossesUptoRow, standIns := [], harness := (true, "ee516bfbe1b239f26172d98faddeba24ae8888020d81457a1fcf24b967dcf32d"), looks := true }, kinds := [], alts := [], laidByText := true, laidKinds := [.data, .pinned], laidTests := true, laidLooks := .later }
def RouterCrossesUptoCardSaid : Prop := Claim7.holds Tryd.pinned (.plain (OpenSpec.upto routerCrossesSpec)) routerCrossesUptoCard

/-- THE SECOND FORM's CARD OF 'pontoonlaw18.RouterSums'. -/
def routerSumsUptoCard : Claim7 := { stood := { row := routerSumsUptoRow, standIns := [], harness := (true, "ee516bfbe1b239f26172d98faddeba24ae8888020d81457a1fcf24b967dcf32d"), looks := true }, kinds := [], alts := [], laidByText := true, laidKinds := [.data, .pinned], laidTests := true, laidLooks := .later }
def RouterSumsUptoCardSaid : Prop := Claim7.holds Tryd.pinned (.plain (OpenSpec.upto routerSumsSpec)) routerSumsUptoCard
end Rows
end Go.Proofs.YtmdfpifcghmpfaaDoor
