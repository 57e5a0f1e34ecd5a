/-
  DERIVED. GIVEN WITH THE SEED: THE CARDS: each row of YtefcpmnhhmpmnaaDoorRows.lean that lists a variable, with what it lists TIED to the program's text (the seventh form; the later family's looks); each row that meets fmt, with fmt's text TOLD by the authors' own Lean function (tested against real Go, not proved from fmt's source: count such statements apart). THE CARD IS WHAT COUNTS. Prove the row's statement (the work); the ties are given (YtefcpmnhhmpmnaaDoorTie.lean); close each card by the builder's one call (the guide's Derived/Test/ToyasCard.lean, 'card_holds'). Laid BY PROGRAM, IN A SANDBOX (cutbox-door.mjs). By AI agents, Wed Nov 11 2026. No macro, syntax, notation, axiom, sorry.
-/
import Derived.Test.YtefcpmnhhmpmnaaDoorRows
import GoSem.ClaimSeven
namespace Go.Proofs.YtefcpmnhhmpmnaaDoor
namespace Rows

/-- THE TIED CARD OF 'pontoonlaw02.NameTells'. -/
def nameTellsCard : Claim7 := { stood := { row := nameTellsRow, standIns := [], harness := (true, "b6a09f0a25cc043f73ede42529ef610c8d3a55632529a8719fec5e03b468f70c"), looks := true }, kinds := [], alts := [], laidByText := true, laidKinds := [.data, .data, .data, .data, .pinned], laidTests := true, laidLooks := .later }
def NameTellsCardSaid : Prop := Claim7.holds Tryd.pinned (.plain (OpenSpec.ofChange nameTellsSpec)) nameTellsCard

/-- THE TIED CARD OF 'pontoonlaw02.NameOrders'. -/
def nameOrdersCard : Claim7 := { stood := { row := nameOrdersRow, standIns := [], harness := (true, "b6a09f0a25cc043f73ede42529ef610c8d3a55632529a8719fec5e03b468f70c"), looks := true }, kinds := [], alts := [], laidByText := true, laidKinds := [.data, .data, .data, .data, .pinned], laidTests := true, laidLooks := .later }
def NameOrdersCardSaid : Prop := Claim7.holds Tryd.pinned (.plain (OpenSpec.ofChange nameOrdersSpec)) nameOrdersCard

/-- THE TIED CARD OF 'pontoonlaw02.NameKeeps'. -/
def nameKeepsCard : Claim7 := { stood := { row := nameKeepsRow, standIns := [], harness := (true, "b6a09f0a25cc043f73ede42529ef610c8d3a55632529a8719fec5e03b468f70c"), looks := true }, kinds := [], alts := [], laidByText := true, laidKinds := [.data, .data, .data, .data, .pinned], laidTests := true, laidLooks := .later }
def NameKeepsCardSaid : Prop := Claim7.holds Tryd.pinned (.plain (OpenSpec.ofChange nameKeepsSpec)) nameKeepsCard

/-- THE TIED CARD OF 'pontoonlaw02.NameFolds'. -/
def nameFoldsCard : Claim7 := { stood := { row := nameFoldsRow, standIns := [], harness := (true, "b6a09f0a25cc043f73ede42529ef610c8d3a55632529a8719fec5e03b468f70c"), looks := true }, kinds := [], alts := [], laidByText := true, laidKinds := [.data, .data, .data, .data, .pinned], laidTests := true, laidLooks := .later }
def NameFoldsCardSaid : Prop := Claim7.holds Tryd.pinned (.plain (OpenSpec.ofChange nameFoldsSpec)) nameFoldsCard

/-- THE TIED CARD OF 'pontoonlaw02.NameQuotes'. -/
def nameQuotesCard : Claim7 := { stood := { row := nameQuotesRow, standIns := [], harness := (true, "b6a09f0a25cc043f73ede42529ef610c8d3a55632529a8719fec5e03b468f70c"), looks := true }, kinds := [], alts := [], laidByText := true, laidKinds := [.data, .data, .data, .data, .sentinel, .sentinel, .pinned], laidTests := true, laidLooks := .later }
def NameQuotesCardSaid : Prop := Claim7.holds Tryd.pinned (.plain (OpenSpec.ofChange nameQuotesSpec)) nameQuotesCard

/-- THE TIED CARD OF 'pontoonlaw02.NameBack'. -/
def nameBackCard : Claim7 := { stood := { row := nameBackRow, standIns := [], harness := (true, "b6a09f0a25cc043f73ede42529ef610c8d3a55632529a8719fec5e03b468f70c"), looks := true }, kinds := [], alts := [], laidByText := true, laidKinds := [.data, .data, .data, .data, .sentinel, .sentinel, .pinned], laidTests := true, laidLooks := .later }
def NameBackCardSaid : Prop := Claim7.holds Tryd.pinned (.plain (OpenSpec.ofChange nameBackSpec)) nameBackCard

/-- THE SECOND FORM's CARD OF 'pontoonlaw02.NameTells'. -/
def nameTellsUptoCard : Claim7 := { stood := { row := nameTellsUptoRow, standIns := [], harness := (true, "b6a09f0a25cc043f73ede42529ef610c8d3a55632529a8719fec5e03b468f70c"), looks := true }, kinds := [], alts := [], laidByText := true, laidKinds := [.data, .data, .data, .data, .pinned], laidTests := true, laidLooks := .later }
def NameTellsUptoCardSaid : Prop := Claim7.holds Tryd.pinned (.plain (OpenSpec.upto nameTellsSpec)) nameTellsUptoCard

/-- THE SECOND FORM's CARD OF 'pontoonlaw02.NameOrders'. -/
def nameOrdersUptoCard : Claim7 := { stood := { row := nameOrdersUptoRow, standIns := [], harness := (true, "b6a09f0a25cc043f73ede42529ef610c8d3a55632529a8719fec5e03b468f70c"), looks := true }, kinds := [], alts := [], laidByText := true, laidKinds := [.data, .data, .data, .data, .pinned], laidTests := true, laidLooks := .later }
def NameOrdersUptoCardSaid : Prop := Claim7.holds Tryd.pinned (.plain (OpenSpec.upto nameOrdersSpec)) nameOrdersUptoCard

/-- THE SECOND FORM's CARD OF 'pontoonlaw02.NameKeeps'. -/
def nameKeepsUptoCard : Claim7 := { stood := { row := nameKeepsUptoRow, standIns := [], harness := (true, "b6a09f0a25cc043f73ede42529ef610c8d3a55632529a8719fec5e03b468f70c"), looks := true }, kinds := [], alts := [], laidByText := true, laidKinds := [.data, .data, .data, .data, .pinned], laidTests := true, laidLooks := .later }
def NameKeepsUptoCardSaid : Prop := Claim7.holds Tryd.pinned (.plain (OpenSpec.upto nameKeepsSpec)) nameKeepsUptoCard

/-- THE SECOND FORM's CARD OF 'pontoonlaw02.NameFolds'. -/
def nameFoldsUptoCard : Claim7 := { stood := { row := nameFoldsUptoRow, standIns := [], harness := (true, "b6a09f0a25cc043f73ede42529ef610c8d3a55632529a8719fec5e03b468f70c"), looks := true }, kinds := [], alts := [], laidByText := true, laidKinds := [.data, .data, .data, .data, .pinned], laidTests := true, laidLooks := .later }
def NameFoldsUptoCardSaid : Prop := Claim7.holds Tryd.pinned (.plain (OpenSpec.upto nameFoldsSpec)) nameFoldsUptoCard

/-- THE SECOND FORM's CARD OF 'pontoonlaw02.NameQuotes'. -/
def nameQuotesUptoCard : Claim7 := { stood := { row := nameQuotesUptoRow, standIns := [], harness := (true, "b6a09f0a25cc043f73ede42529ef610c8d3a55632529a8719fec5e03b468f70c"), looks := true }, kinds := [], alts := [], laidByText := true, laidKinds := [.data, .data, .data, .data, .sentinel, .sentinel, .pinned], laidTests := true, laidLooks := .later }
def NameQuotesUptoCardSaid : Prop := Claim7.holds Tryd.pinned (.plain (OpenSpec.upto nameQuotesSpec)) nameQuotesUptoCard

/-- THE SECOND FORM's CARD OF 'pontoonlaw02.NameBack'. -/
def nameBackUptoCard : Claim7 := { stood := { row := nameBackUptoRow, standIns := [], harness := (true, "b6a09f0a25cc043f73ede42529ef610c8d3a55632529a8719fec5e03b468f70c"), looks := true }, kinds := [], alts := [], laidByText := true, laidKinds := [.data, .data, .data, .data, .sentinel, .sentinel, .pinned], laidTests := true, laidLooks := .later }
def NameBackUptoCardSaid : Prop := Claim7.holds Tryd.pinned (.plain (OpenSpec.upto nameBackSpec)) nameBackUptoCard
end Rows
end Go.Proofs.YtefcpmnhhmpmnaaDoor
