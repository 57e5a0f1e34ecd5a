/-
  DERIVED. GIVEN WITH THE SEED: THE CARDS: each row of YtboohfijacjhjaaDoorRows.lean that lists a variable, with what it lists TIED to the program's text (the seventh form; the later family's looks); each row that meets fmt, with fmt's text TOLD by the authors' own Lean function (tested against real Go, not proved from fmt's source: count such statements apart). THE CARD IS WHAT COUNTS. Prove the row's statement (the work); the ties are given (YtboohfijacjhjaaDoorTie.lean); close each card by the builder's one call (the guide's Derived/Test/ToyasCard.lean, 'card_holds'). Laid BY PROGRAM, IN A SANDBOX (cutbox-door.mjs). By AI agents, Wed Nov 11 2026. No macro, syntax, notation, axiom, sorry.
-/
import Derived.Test.YtboohfijacjhjaaDoorRows
import GoSem.ClaimSeven
namespace Go.Proofs.YtboohfijacjhjaaDoor
namespace Rows

/-- THE TIED CARD OF 'pontoonlaw11.PayloadKinds'. -/
def payloadKindsCard : Claim7 := { stood := { row := payloadKindsRow, standIns := [], harness := (true, "c2a5d5f18da7a8a8a6195cf172820a62de09268043964f8fd22f6c8bdb11e26d"), looks := true }, kinds := [], alts := [], laidByText := true, laidKinds := [.data, .pinned], laidTests := true, laidLooks := .later }
def PayloadKindsCardSaid : Prop := Claim7.holds Tryd.pinned (.plain (OpenSpec.ofChange payloadKindsSpec)) payloadKindsCard

/-- THE TIED CARD OF 'pontoonlaw12.CallSame'. -/
def callSameCard : Claim7 := { stood := { row := callSameRow, standIns := [], harness := (true, "c2a5d5f18da7a8a8a6195cf172820a62de09268043964f8fd22f6c8bdb11e26d"), looks := true }, kinds := [], alts := [], laidByText := true, laidKinds := [.data], laidTests := true, laidLooks := .later }
def CallSameCardSaid : Prop := Claim7.holds Tryd.pinned (.plain (OpenSpec.ofChange callSameSpec)) callSameCard

/-- THE TIED CARD OF 'pontoonlaw11.PayloadBytes'. -/
def payloadBytesCard : Claim7 := { stood := { row := payloadBytesRow, standIns := [], harness := (true, "c2a5d5f18da7a8a8a6195cf172820a62de09268043964f8fd22f6c8bdb11e26d"), looks := true }, kinds := [], alts := [], laidByText := true, laidKinds := [.data, .pinned], laidTests := true, laidLooks := .later }
def PayloadBytesCardSaid : Prop := Claim7.holds Tryd.pinned (.plain (OpenSpec.ofChange payloadBytesSpec)) payloadBytesCard

/-- THE TIED CARD OF 'pontoonlaw11.PayloadBack'. -/
def payloadBackCard : Claim7 := { stood := { row := payloadBackRow, standIns := [], harness := (true, "c2a5d5f18da7a8a8a6195cf172820a62de09268043964f8fd22f6c8bdb11e26d"), looks := true }, kinds := [], alts := [], laidByText := true, laidKinds := [.data, .pinned], laidTests := true, laidLooks := .later }
def PayloadBackCardSaid : Prop := Claim7.holds Tryd.pinned (.plain (OpenSpec.ofChange payloadBackSpec)) payloadBackCard

/-- THE TIED CARD OF 'pontoonlaw12.CallBytes'. -/
def callBytesCard : Claim7 := { stood := { row := callBytesRow, standIns := [], harness := (true, "c2a5d5f18da7a8a8a6195cf172820a62de09268043964f8fd22f6c8bdb11e26d"), looks := true }, kinds := [], alts := [], laidByText := true, laidKinds := [.data, .data], laidTests := true, laidLooks := .later }
def CallBytesCardSaid : Prop := Claim7.holds Tryd.pinned (.plain (OpenSpec.ofChange callBytesSpec)) callBytesCard

/-- THE TIED CARD OF 'pontoonlaw12.CallBack'. -/
def callBackCard : Claim7 := { stood := { row := callBackRow, standIns := [], harness := (true, "c2a5d5f18da7a8a8a6195cf172820a62de09268043964f8fd22f6c8bdb11e26d"), looks := true }, kinds := [], alts := [], laidByText := true, laidKinds := [.data], laidTests := true, laidLooks := .later }
def CallBackCardSaid : Prop := Claim7.holds Tryd.pinned (.plain (OpenSpec.ofChange callBackSpec)) callBackCard

/-- THE TIED CARD OF 'pontoonlaw12.CallSigns'. -/
def callSignsCard : Claim7 := { stood := { row := callSignsRow, standIns := [], harness := (true, "c2a5d5f18da7a8a8a6195cf172820a62de09268043964f8fd22f6c8bdb11e26d"), looks := true }, kinds := [], alts := [], laidByText := true, laidKinds := [.data, .data, .data], laidTests := true, laidLooks := .later }
def CallSignsCardSaid : Prop := Claim7.holds Tryd.pinned (.plain (OpenSpec.ofChange callSignsSpec)) callSignsCard

/-- THE TIED CARD OF 'pontoonlaw12.CallBinds'. -/
def callBindsCard : Claim7 := { stood := { row := callBindsRow, standIns := [], harness := (true, "c2a5d5f18da7a8a8a6195cf172820a62de09268043964f8fd22f6c8bdb11e26d"), looks := true }, kinds := [], alts := [], laidByText := true, laidKinds := [.data, .data, .data], laidTests := true, laidLooks := .later }
def CallBindsCardSaid : Prop := Claim7.holds Tryd.pinned (.plain (OpenSpec.ofChange callBindsSpec)) callBindsCard

/-- THE SECOND FORM's CARD OF 'pontoonlaw11.PayloadKinds'. -/
def payloadKindsUptoCard : Claim7 := { stood := { row := payloadKindsUptoRow, standIns := [], harness := (true, "c2a5d5f18da7a8a8a6195cf172820a62de09268043964f8fd22f6c8bdb11e26d"), looks := true }, kinds := [], alts := [], laidByText := true, laidKinds := [.data, .pinned], laidTests := true, laidLooks := .later }
def PayloadKindsUptoCardSaid : Prop := Claim7.holds Tryd.pinned (.plain (OpenSpec.upto payloadKindsSpec)) payloadKindsUptoCard

/-- THE SECOND FORM's CARD OF 'pontoonlaw12.CallSame'. -/
def callSameUptoCard : Claim7 := { stood := { row := callSameUptoRow, standIns := [], harness := (true, "c2a5d5f18da7a8a8a6195cf172820a62de09268043964f8fd22f6c8bdb11e26d"), looks := true }, kinds := [], alts := [], laidByText := true, laidKinds := [.data], laidTests := true, laidLooks := .later }
def CallSameUptoCardSaid : Prop := Claim7.holds Tryd.pinned (.plain (OpenSpec.upto callSameSpec)) callSameUptoCard

/-- THE SECOND FORM's CARD OF 'pontoonlaw11.PayloadBytes'. -/
def payloadBytesUptoCard : Claim7 := { stood := { row := payloadBytesUptoRow, standIns := [], harness := (true, "c2a5d5f18da7a8a8a6195cf172820a62de09268043964f8fd22f6c8bdb11e26d"), looks := true }, kinds := [], alts := [], laidByText := true, laidKinds := [.data, .pinned], laidTests := true, laidLooks := .later }
def PayloadBytesUptoCardSaid : Prop := Claim7.holds Tryd.pinned (.plain (OpenSpec.upto payloadBytesSpec)) payloadBytesUptoCard

/-- THE SECOND FORM's CARD OF 'pontoonlaw11.PayloadBack'. -/
def payloadBackUptoCard : Claim7 := { stood := { row := payloadBackUptoRow, standIns := [], harness := (true, "c2a5d5f18da7a8a8a6195cf172820a62de09268043964f8fd22f6c8bdb11e26d"), looks := true }, kinds := [], alts := [], laidByText := true, laidKinds := [.data, .pinned], laidTests := true, laidLooks := .later }
def PayloadBackUptoCardSaid : Prop := Claim7.holds Tryd.pinned (.plain (OpenSpec.upto payloadBackSpec)) payloadBackUptoCard

/-- THE SECOND FORM's CARD OF 'pontoonlaw12.CallBytes'. -/
def callBytesUptoCard : Claim7 := { stood := { row := callBytesUptoRow, standIns := [], harness := (true, "c2a5d5f18da7a8a8a6195cf172820a62de09268043964f8fd22f6c8bdb11e26d"), looks := true }, kinds := [], alts := [], laidByText := true, laidKinds := [.data, .data], laidTests := true, laidLooks := .later }
def CallBytesUptoCardSaid : Prop := Claim7.holds Tryd.pinned (.plain (OpenSpec.upto callBytesSpec)) callBytesUptoCard

/-- THE SECOND FORM's CARD OF 'pontoonlaw12.CallBack'. -/
def callBackUptoCard : Claim7 := { stood := { row := callBackUptoRow, standIns := [], harness := (true, "c2a5d5f18da7a8a8a6195cf172820a62de09268043964f8fd22f6c8bdb11e26d"), looks := true }, kinds := [], alts := [], laidByText := true, laidKinds := [.data], laidTests := true, laidLooks := .later }
def CallBackUptoCardSaid : Prop := Claim7.holds Tryd.pinned (.plain (OpenSpec.upto callBackSpec)) callBackUptoCard

/-- THE SECOND FORM's CARD OF 'pontoonlaw12.CallSigns'. -/
def callSignsUptoCard : Claim7 := { stood := { row := callSignsUptoRow, standIns := [], harness := (true, "c2a5d5f18da7a8a8a6195cf172820a62de09268043964f8fd22f6c8bdb11e26d"), looks := true }, kinds := [], alts := [], laidByText := true, laidKinds := [.data, .data, .data], laidTests := true, laidLooks := .later }
def CallSignsUptoCardSaid : Prop := Claim7.holds Tryd.pinned (.plain (OpenSpec.upto callSignsSpec)) callSignsUptoCard

/-- THE SECOND FORM's CARD OF 'pontoonlaw12.CallBinds'. -/
def callBindsUptoCard : Claim7 := { stood := { row := callBindsUptoRow, standIns := [], harness := (true, "c2a5d5f18da7a8a8a6195cf172820a62de09268043964f8fd22f6c8bdb11e26d"), looks := true }, kinds := [], alts := [], laidByText := true, laidKinds := [.data, .data, .data], laidTests := true, laidLooks := .later }
def CallBindsUptoCardSaid : Prop := Claim7.holds Tryd.pinned (.plain (OpenSpec.upto callBindsSpec)) callBindsUptoCard
end Rows
end Go.Proofs.YtboohfijacjhjaaDoor
