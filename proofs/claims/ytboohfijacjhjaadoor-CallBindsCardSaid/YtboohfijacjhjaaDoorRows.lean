/-
  NARROWER THAN 'FOR EVERY INPUT', by the rows' own cells (each row's printed sentence says how): PayloadKinds: laid · CallSame: laid · PayloadBytes: laid · PayloadBack: laid · CallBytes: laid · CallBack: laid · CallSigns: laid · CallBinds: laid.
  DERIVED. THE GIVEN ROWS OF THIS SEAT. 8 by the template 'for every input the law returns true; each argument reads behind the call as it read before'; 0 by the template 'total and deterministic' (their statements: YtboohfijacjhjaaDoorTotals.lean).
  GIVEN WITH THE SEED: the statements are not yours to turn. If you find one false, say at which input.
  Laid BY PROGRAM, IN A SANDBOX (cutbox-rows.mjs): the forced cells as the released guide's own fill.sh prints them over the translation 97ab81d29a4f0e6d… (all of the seat's roots in one cut). By AI agents, Wed Nov 11 2026. No macro, syntax, notation, axiom, sorry.
-/
import Derived.Test.YtboohfijacjhjaaDoorChecked
import GoSem.PinnedTables
import GoSem.Claim
import GoSem.ClaimJoined
import GoSem.ClaimMapViews
import Derived.JoinedTies
import Derived.KernelRfl
namespace Go.Proofs.YtboohfijacjhjaaDoor
/- THE CELL 'sum', in the pinned program and in every row, IS THE sha256 OF THE DUMP (.gsa) THAT YtboohfijacjhjaaDoorProg.lean LOADS. Nothing in Lean hashes anything: it is a label: what it is worth is what the hold of that sum in a sandbox is worth. -/
noncomputable def Tryd.pinned : Pinned := { name := "ytboohfijacjhjaadoor", sum := "97ab81d29a4f0e6d4afc4187d09cd9acf5f04975f0c2ecec815da394183d545c", checked := Tryd.checked }
namespace Rows
def none {H : Type} : Left H := { results := [], args := [] }

/- WHAT THE LISTED PACKAGE-LEVEL VARIABLES READ AS WHEN THE CALL BEGINS. Each datum BY PROGRAM (the guide's laid-datum.mjs) off the statement by which the dump's own 'gosem.cut.vars' lays the variable. In a bare row this is a premise. The card (YtboohfijacjhjaaDoorCards.lean) ties it to the program's text. -/
def laid_unicode_utf8_acceptRanges {H : Type} : DataW H := .agg [.agg [.lit (.int .u8 128), .lit (.int .u8 191)], .agg [.lit (.int .u8 160), .lit (.int .u8 191)], .agg [.lit (.int .u8 128), .lit (.int .u8 159)], .agg [.lit (.int .u8 144), .lit (.int .u8 191)], .agg [.lit (.int .u8 128), .lit (.int .u8 143)], .agg [.lit (.int .u8 0), .lit (.int .u8 0)], .agg [.lit (.int .u8 0), .lit (.int .u8 0)], .agg [.lit (.int .u8 0), .lit (.int .u8 0)], .agg [.lit (.int .u8 0), .lit (.int .u8 0)], .agg [.lit (.int .u8 0), .lit (.int .u8 0)], .agg [.lit (.int .u8 0), .lit (.int .u8 0)], .agg [.lit (.int .u8 0), .lit (.int .u8 0)], .agg [.lit (.int .u8 0), .lit (.int .u8 0)], .agg [.lit (.int .u8 0), .lit (.int .u8 0)], .agg [.lit (.int .u8 0), .lit (.int .u8 0)], .agg [.lit (.int .u8 0), .lit (.int .u8 0)]]
/-- One of Go's own tables, pinned by name: the form's constant. -/
def laid_unicode_utf8_first : DataW Unit := Go.Pinned.utf8First
def laid_pontoon_call_weights {H : Type} : DataW H := .agg [.lit (.int .u64 0), .lit (.int .u64 1), .lit (.int .u64 3), .lit (.int .u64 2), .lit (.int .u64 2), .lit (.int .u64 4), .lit (.int .u64 6), .lit (.int .u64 8), .lit (.int .u64 4), .lit (.int .u64 8), .lit (.int .u64 4), .lit (.int .u64 4), .lit (.int .u64 5)]
def laid_pontoon_call_words {H : Type} : DataW H := .agg [.lit (.string []), .lit (.string [112, 97, 121]), .lit (.string [115, 101, 110, 100]), .lit (.string [115, 97, 121]), .lit (.string [116, 101, 108, 108]), .lit (.string [115, 117, 98, 109, 105, 116]), .lit (.string [105, 109, 112, 114, 111, 112, 101, 114]), .lit (.string [100, 111, 117, 98, 108, 101]), .lit (.string [97, 99, 99, 101, 112, 116]), .lit (.string [100, 111, 117, 98, 108, 101, 100]), .lit (.string [104, 97, 108, 116]), .lit (.string [112, 114, 111, 118, 101]), .lit (.string [112, 114, 111, 99, 101, 115, 115])]
def laid_pontoon_sha_first {H : Type} : DataW H := .agg [.lit (.int .u32 1779033703), .lit (.int .u32 3144134277), .lit (.int .u32 1013904242), .lit (.int .u32 2773480762), .lit (.int .u32 1359893119), .lit (.int .u32 2600822924), .lit (.int .u32 528734635), .lit (.int .u32 1541459225)]
def laid_pontoon_sha_constants {H : Type} : DataW H := .agg [.lit (.int .u32 1116352408), .lit (.int .u32 1899447441), .lit (.int .u32 3049323471), .lit (.int .u32 3921009573), .lit (.int .u32 961987163), .lit (.int .u32 1508970993), .lit (.int .u32 2453635748), .lit (.int .u32 2870763221), .lit (.int .u32 3624381080), .lit (.int .u32 310598401), .lit (.int .u32 607225278), .lit (.int .u32 1426881987), .lit (.int .u32 1925078388), .lit (.int .u32 2162078206), .lit (.int .u32 2614888103), .lit (.int .u32 3248222580), .lit (.int .u32 3835390401), .lit (.int .u32 4022224774), .lit (.int .u32 264347078), .lit (.int .u32 604807628), .lit (.int .u32 770255983), .lit (.int .u32 1249150122), .lit (.int .u32 1555081692), .lit (.int .u32 1996064986), .lit (.int .u32 2554220882), .lit (.int .u32 2821834349), .lit (.int .u32 2952996808), .lit (.int .u32 3210313671), .lit (.int .u32 3336571891), .lit (.int .u32 3584528711), .lit (.int .u32 113926993), .lit (.int .u32 338241895), .lit (.int .u32 666307205), .lit (.int .u32 773529912), .lit (.int .u32 1294757372), .lit (.int .u32 1396182291), .lit (.int .u32 1695183700), .lit (.int .u32 1986661051), .lit (.int .u32 2177026350), .lit (.int .u32 2456956037), .lit (.int .u32 2730485921), .lit (.int .u32 2820302411), .lit (.int .u32 3259730800), .lit (.int .u32 3345764771), .lit (.int .u32 3516065817), .lit (.int .u32 3600352804), .lit (.int .u32 4094571909), .lit (.int .u32 275423344), .lit (.int .u32 430227734), .lit (.int .u32 506948616), .lit (.int .u32 659060556), .lit (.int .u32 883997877), .lit (.int .u32 958139571), .lit (.int .u32 1322822218), .lit (.int .u32 1537002063), .lit (.int .u32 1747873779), .lit (.int .u32 1955562222), .lit (.int .u32 2024104815), .lit (.int .u32 2227730452), .lit (.int .u32 2361852424), .lit (.int .u32 2428436474), .lit (.int .u32 2756734187), .lit (.int .u32 3204031479), .lit (.int .u32 3329325298)]

/-- 'pontoonlaw11.PayloadKinds': WHATEVER THE INPUT: true; the input reads as it did. -/
def payloadKindsSpec : ChangeSpec := { name := "payloadKinds", fn := fun _ => fun
  | [d1, d2] => { results := [.lit (.bool true)], args := [d1, d2] }
  | _ => none }
def payloadKindsRow : OpenClaim := { program := "ytboohfijacjhjaadoor", sum := "97ab81d29a4f0e6d4afc4187d09cd9acf5f04975f0c2ecec815da394183d545c", func := "pontoon/pontoonlaw11.PayloadKinds", spec := "payloadKinds", unfollowed := true, recurses := true, named := ["unicode/utf8.first", "unicode/utf8.acceptRanges"], plainKeys := false, apart := false, laid := [("unicode/utf8.acceptRanges", laid_unicode_utf8_acceptRanges), ("unicode/utf8.first", laid_unicode_utf8_first)] }
def PayloadKindsSaid : Prop := payloadKindsRow.holds Tryd.pinned (OpenSpec.ofChange payloadKindsSpec)

/-- ITS FALSE NEIGHBOUR: 'it returns false'. Refute it at one input. -/
def payloadKindsWrong : ChangeSpec := { name := "payloadKinds", fn := fun _ => fun
  | [d1, d2] => { results := [.lit (.bool false)], args := [d1, d2] }
  | _ => none }
def PayloadKindsWrongFalsely : Prop := payloadKindsRow.holds Tryd.pinned (OpenSpec.ofChange payloadKindsWrong)

/-- 'pontoonlaw12.CallSame': WHATEVER THE INPUT: true; the input reads as it did. -/
def callSameSpec : ChangeSpec := { name := "callSame", fn := fun _ => fun
  | [d1, d2] => { results := [.lit (.bool true)], args := [d1, d2] }
  | _ => none }
def callSameRow : OpenClaim := { program := "ytboohfijacjhjaadoor", sum := "97ab81d29a4f0e6d4afc4187d09cd9acf5f04975f0c2ecec815da394183d545c", func := "pontoon/pontoonlaw12.CallSame", spec := "callSame", inPlace := ["internal/abi.NoEscape"], named := ["pontoon/call.weights"], plainKeys := false, apart := false, laid := [("pontoon/call.weights", laid_pontoon_call_weights)] }
def CallSameSaid : Prop := callSameRow.holds Tryd.pinned (OpenSpec.ofChange callSameSpec)

/-- ITS FALSE NEIGHBOUR: 'it returns false'. Refute it at one input. -/
def callSameWrong : ChangeSpec := { name := "callSame", fn := fun _ => fun
  | [d1, d2] => { results := [.lit (.bool false)], args := [d1, d2] }
  | _ => none }
def CallSameWrongFalsely : Prop := callSameRow.holds Tryd.pinned (OpenSpec.ofChange callSameWrong)

/-- 'pontoonlaw11.PayloadBytes': WHATEVER THE INPUT: true; the input reads as it did. -/
def payloadBytesSpec : ChangeSpec := { name := "payloadBytes", fn := fun _ => fun
  | [d1, d2] => { results := [.lit (.bool true)], args := [d1, d2] }
  | _ => none }
def payloadBytesRow : OpenClaim := { program := "ytboohfijacjhjaadoor", sum := "97ab81d29a4f0e6d4afc4187d09cd9acf5f04975f0c2ecec815da394183d545c", func := "pontoon/pontoonlaw11.PayloadBytes", spec := "payloadBytes", unfollowed := true, recurses := true, named := ["unicode/utf8.first", "unicode/utf8.acceptRanges"], plainKeys := false, apart := false, laid := [("unicode/utf8.acceptRanges", laid_unicode_utf8_acceptRanges), ("unicode/utf8.first", laid_unicode_utf8_first)] }
def PayloadBytesSaid : Prop := payloadBytesRow.holds Tryd.pinned (OpenSpec.ofChange payloadBytesSpec)

/-- ITS FALSE NEIGHBOUR: 'it returns false'. Refute it at one input. -/
def payloadBytesWrong : ChangeSpec := { name := "payloadBytes", fn := fun _ => fun
  | [d1, d2] => { results := [.lit (.bool false)], args := [d1, d2] }
  | _ => none }
def PayloadBytesWrongFalsely : Prop := payloadBytesRow.holds Tryd.pinned (OpenSpec.ofChange payloadBytesWrong)

/-- 'pontoonlaw11.PayloadBack': WHATEVER THE INPUT: true; the input reads as it did. -/
def payloadBackSpec : ChangeSpec := { name := "payloadBack", fn := fun _ => fun
  | [d1, d2] => { results := [.lit (.bool true)], args := [d1, d2] }
  | _ => none }
def payloadBackRow : OpenClaim := { program := "ytboohfijacjhjaadoor", sum := "97ab81d29a4f0e6d4afc4187d09cd9acf5f04975f0c2ecec815da394183d545c", func := "pontoon/pontoonlaw11.PayloadBack", spec := "payloadBack", unfollowed := true, recurses := true, named := ["unicode/utf8.first", "unicode/utf8.acceptRanges"], plainKeys := false, apart := false, laid := [("unicode/utf8.acceptRanges", laid_unicode_utf8_acceptRanges), ("unicode/utf8.first", laid_unicode_utf8_first)] }
def PayloadBackSaid : Prop := payloadBackRow.holds Tryd.pinned (OpenSpec.ofChange payloadBackSpec)

/-- ITS FALSE NEIGHBOUR: 'it returns false'. Refute it at one input. -/
def payloadBackWrong : ChangeSpec := { name := "payloadBack", fn := fun _ => fun
  | [d1, d2] => { results := [.lit (.bool false)], args := [d1, d2] }
  | _ => none }
def PayloadBackWrongFalsely : Prop := payloadBackRow.holds Tryd.pinned (OpenSpec.ofChange payloadBackWrong)

/-- 'pontoonlaw12.CallBytes': WHATEVER THE INPUT: true; the input reads as it did. -/
def callBytesSpec : ChangeSpec := { name := "callBytes", fn := fun _ => fun
  | [d1, d2, d3] => { results := [.lit (.bool true)], args := [d1, d2, d3] }
  | _ => none }
def callBytesRow : OpenClaim := { program := "ytboohfijacjhjaadoor", sum := "97ab81d29a4f0e6d4afc4187d09cd9acf5f04975f0c2ecec815da394183d545c", func := "pontoon/pontoonlaw12.CallBytes", spec := "callBytes", inPlace := ["internal/abi.NoEscape"], named := ["pontoon/call.weights", "pontoon/call.words"], plainKeys := false, apart := false, laid := [("pontoon/call.words", laid_pontoon_call_words), ("pontoon/call.weights", laid_pontoon_call_weights)] }
def CallBytesSaid : Prop := callBytesRow.holds Tryd.pinned (OpenSpec.ofChange callBytesSpec)

/-- ITS FALSE NEIGHBOUR: 'it returns false'. Refute it at one input. -/
def callBytesWrong : ChangeSpec := { name := "callBytes", fn := fun _ => fun
  | [d1, d2, d3] => { results := [.lit (.bool false)], args := [d1, d2, d3] }
  | _ => none }
def CallBytesWrongFalsely : Prop := callBytesRow.holds Tryd.pinned (OpenSpec.ofChange callBytesWrong)

/-- 'pontoonlaw12.CallBack': WHATEVER THE INPUT: true; the input reads as it did. -/
def callBackSpec : ChangeSpec := { name := "callBack", fn := fun _ => fun
  | [d1, d2] => { results := [.lit (.bool true)], args := [d1, d2] }
  | _ => none }
def callBackRow : OpenClaim := { program := "ytboohfijacjhjaadoor", sum := "97ab81d29a4f0e6d4afc4187d09cd9acf5f04975f0c2ecec815da394183d545c", func := "pontoon/pontoonlaw12.CallBack", spec := "callBack", inPlace := ["internal/abi.NoEscape"], named := ["pontoon/call.weights"], plainKeys := false, apart := false, laid := [("pontoon/call.weights", laid_pontoon_call_weights)] }
def CallBackSaid : Prop := callBackRow.holds Tryd.pinned (OpenSpec.ofChange callBackSpec)

/-- ITS FALSE NEIGHBOUR: 'it returns false'. Refute it at one input. -/
def callBackWrong : ChangeSpec := { name := "callBack", fn := fun _ => fun
  | [d1, d2] => { results := [.lit (.bool false)], args := [d1, d2] }
  | _ => none }
def CallBackWrongFalsely : Prop := callBackRow.holds Tryd.pinned (OpenSpec.ofChange callBackWrong)

/-- 'pontoonlaw12.CallSigns': WHATEVER THE INPUT: true; the input reads as it did. -/
def callSignsSpec : ChangeSpec := { name := "callSigns", fn := fun _ => fun
  | [d1, d2, d3] => { results := [.lit (.bool true)], args := [d1, d2, d3] }
  | _ => none }
def callSignsRow : OpenClaim := { program := "ytboohfijacjhjaadoor", sum := "97ab81d29a4f0e6d4afc4187d09cd9acf5f04975f0c2ecec815da394183d545c", func := "pontoon/pontoonlaw12.CallSigns", spec := "callSigns", inPlace := ["internal/abi.NoEscape", "internal/bytealg.MakeNoZero"], named := ["pontoon/call.weights", "pontoon/sha.first", "pontoon/sha.constants"], plainKeys := false, apart := false, laid := [("pontoon/sha.first", laid_pontoon_sha_first), ("pontoon/sha.constants", laid_pontoon_sha_constants), ("pontoon/call.weights", laid_pontoon_call_weights)] }
def CallSignsSaid : Prop := callSignsRow.holds Tryd.pinned (OpenSpec.ofChange callSignsSpec)

/-- ITS FALSE NEIGHBOUR: 'it returns false'. Refute it at one input. -/
def callSignsWrong : ChangeSpec := { name := "callSigns", fn := fun _ => fun
  | [d1, d2, d3] => { results := [.lit (.bool false)], args := [d1, d2, d3] }
  | _ => none }
def CallSignsWrongFalsely : Prop := callSignsRow.holds Tryd.pinned (OpenSpec.ofChange callSignsWrong)

/-- 'pontoonlaw12.CallBinds': WHATEVER THE INPUT: true; the input reads as it did. -/
def callBindsSpec : ChangeSpec := { name := "callBinds", fn := fun _ => fun
  | [d1, d2, d3, d4] => { results := [.lit (.bool true)], args := [d1, d2, d3, d4] }
  | _ => none }
def callBindsRow : OpenClaim := { program := "ytboohfijacjhjaadoor", sum := "97ab81d29a4f0e6d4afc4187d09cd9acf5f04975f0c2ecec815da394183d545c", func := "pontoon/pontoonlaw12.CallBinds", spec := "callBinds", inPlace := ["internal/abi.NoEscape", "internal/bytealg.MakeNoZero"], named := ["pontoon/call.weights", "pontoon/sha.first", "pontoon/sha.constants"], plainKeys := false, apart := false, laid := [("pontoon/sha.first", laid_pontoon_sha_first), ("pontoon/sha.constants", laid_pontoon_sha_constants), ("pontoon/call.weights", laid_pontoon_call_weights)] }
def CallBindsSaid : Prop := callBindsRow.holds Tryd.pinned (OpenSpec.ofChange callBindsSpec)

/-- ITS FALSE NEIGHBOUR: 'it returns false'. Refute it at one input. -/
def callBindsWrong : ChangeSpec := { name := "callBinds", fn := fun _ => fun
  | [d1, d2, d3, d4] => { results := [.lit (.bool false)], args := [d1, d2, d3, d4] }
  | _ => none }
def CallBindsWrongFalsely : Prop := callBindsRow.holds Tryd.pinned (OpenSpec.ofChange callBindsWrong)

/- THE SECOND FORM. 'bulk': how many values and letters a reading holds, each counted each time it is reached (what is shared counts as often as it is met; a slice's spare places count too). A statement '..UptoSaid' is the law's where the arguments, and the package variables that the reading takes, are together of bulk at most 1048576: NARROWER than '..Said'. Prove '..Said' where nothing that the law and all that it calls make is longer than what came in: it says more and counts as full. Else prove '..UptoSaid'. A law counts once. -/
mutual
def uptoBulk {H : Type} : DataW H → Nat
  | .lit (.string bytes) => bytes.length + 1
  | .lit _ => 1
  | .nil => 1
  | .ptr d => uptoBulk d + 1
  | .slice elems spare => uptoBulkAll elems + uptoBulkAll spare + 1
  | .agg parts => uptoBulkAll parts + 1
  | .iface _ d => uptoBulk d + 1
  | .map entries => uptoBulkEntries entries + 1
  | .held _ => 1
def uptoBulkAll {H : Type} : List (DataW H) → Nat
  | [] => 0
  | d :: r => uptoBulk d + uptoBulkAll r
def uptoBulkEntries {H : Type} : List (Lit × DataW H) → Nat
  | [] => 0
  | x :: r => uptoBulkEntry x + uptoBulkEntries r
def uptoBulkEntry {H : Type} : Lit × DataW H → Nat
  | (.string bytes, d) => bytes.length + uptoBulk d + 1
  | (_, d) => uptoBulk d + 1
 end
def uptoSmall : (H : Type) → List (DataW H) → Bool := fun _ ds => decide (uptoBulkAll ds ≤ 1048576)
def OpenSpec.upto (s : _root_.Go.ChangeSpec) : _root_.Go.OpenSpec := { _root_.Go.OpenSpec.ofChange s with cond := some uptoSmall }

/-- 'pontoonlaw11.PayloadKinds', WHERE WHAT IT READS IS OF BULK AT MOST 1048576: true; the input reads as it did. -/
def payloadKindsUptoRow : OpenClaim := { program := "ytboohfijacjhjaadoor", sum := "97ab81d29a4f0e6d4afc4187d09cd9acf5f04975f0c2ecec815da394183d545c", func := "pontoon/pontoonlaw11.PayloadKinds", spec := "payloadKinds", unfollowed := true, recurses := true, named := ["unicode/utf8.first", "unicode/utf8.acceptRanges"], plainKeys := false, apart := false, laid := [("unicode/utf8.acceptRanges", laid_unicode_utf8_acceptRanges), ("unicode/utf8.first", laid_unicode_utf8_first)], narrowed := true }
def PayloadKindsUptoSaid : Prop := payloadKindsUptoRow.holds Tryd.pinned (OpenSpec.upto payloadKindsSpec)

/-- 'pontoonlaw12.CallSame', WHERE WHAT IT READS IS OF BULK AT MOST 1048576: true; the input reads as it did. -/
def callSameUptoRow : OpenClaim := { program := "ytboohfijacjhjaadoor", sum := "97ab81d29a4f0e6d4afc4187d09cd9acf5f04975f0c2ecec815da394183d545c", func := "pontoon/pontoonlaw12.CallSame", spec := "callSame", inPlace := ["internal/abi.NoEscape"], named := ["pontoon/call.weights"], plainKeys := false, apart := false, laid := [("pontoon/call.weights", laid_pontoon_call_weights)], narrowed := true }
def CallSameUptoSaid : Prop := callSameUptoRow.holds Tryd.pinned (OpenSpec.upto callSameSpec)

/-- 'pontoonlaw11.PayloadBytes', WHERE WHAT IT READS IS OF BULK AT MOST 1048576: true; the input reads as it did. -/
def payloadBytesUptoRow : OpenClaim := { program := "ytboohfijacjhjaadoor", sum := "97ab81d29a4f0e6d4afc4187d09cd9acf5f04975f0c2ecec815da394183d545c", func := "pontoon/pontoonlaw11.PayloadBytes", spec := "payloadBytes", unfollowed := true, recurses := true, named := ["unicode/utf8.first", "unicode/utf8.acceptRanges"], plainKeys := false, apart := false, laid := [("unicode/utf8.acceptRanges", laid_unicode_utf8_acceptRanges), ("unicode/utf8.first", laid_unicode_utf8_first)], narrowed := true }
def PayloadBytesUptoSaid : Prop := payloadBytesUptoRow.holds Tryd.pinned (OpenSpec.upto payloadBytesSpec)

/-- 'pontoonlaw11.PayloadBack', WHERE WHAT IT READS IS OF BULK AT MOST 1048576: true; the input reads as it did. -/
def payloadBackUptoRow : OpenClaim := { program := "ytboohfijacjhjaadoor", sum := "97ab81d29a4f0e6d4afc4187d09cd9acf5f04975f0c2ecec815da394183d545c", func := "pontoon/pontoonlaw11.PayloadBack", spec := "payloadBack", unfollowed := true, recurses := true, named := ["unicode/utf8.first", "unicode/utf8.acceptRanges"], plainKeys := false, apart := false, laid := [("unicode/utf8.acceptRanges", laid_unicode_utf8_acceptRanges), ("unicode/utf8.first", laid_unicode_utf8_first)], narrowed := true }
def PayloadBackUptoSaid : Prop := payloadBackUptoRow.holds Tryd.pinned (OpenSpec.upto payloadBackSpec)

/-- 'pontoonlaw12.CallBytes', WHERE WHAT IT READS IS OF BULK AT MOST 1048576: true; the input reads as it did. -/
def callBytesUptoRow : OpenClaim := { program := "ytboohfijacjhjaadoor", sum := "97ab81d29a4f0e6d4afc4187d09cd9acf5f04975f0c2ecec815da394183d545c", func := "pontoon/pontoonlaw12.CallBytes", spec := "callBytes", inPlace := ["internal/abi.NoEscape"], named := ["pontoon/call.weights", "pontoon/call.words"], plainKeys := false, apart := false, laid := [("pontoon/call.words", laid_pontoon_call_words), ("pontoon/call.weights", laid_pontoon_call_weights)], narrowed := true }
def CallBytesUptoSaid : Prop := callBytesUptoRow.holds Tryd.pinned (OpenSpec.upto callBytesSpec)

/-- 'pontoonlaw12.CallBack', WHERE WHAT IT READS IS OF BULK AT MOST 1048576: true; the input reads as it did. -/
def callBackUptoRow : OpenClaim := { program := "ytboohfijacjhjaadoor", sum := "97ab81d29a4f0e6d4afc4187d09cd9acf5f04975f0c2ecec815da394183d545c", func := "pontoon/pontoonlaw12.CallBack", spec := "callBack", inPlace := ["internal/abi.NoEscape"], named := ["pontoon/call.weights"], plainKeys := false, apart := false, laid := [("pontoon/call.weights", laid_pontoon_call_weights)], narrowed := true }
def CallBackUptoSaid : Prop := callBackUptoRow.holds Tryd.pinned (OpenSpec.upto callBackSpec)

/-- 'pontoonlaw12.CallSigns', WHERE WHAT IT READS IS OF BULK AT MOST 1048576: true; the input reads as it did. -/
def callSignsUptoRow : OpenClaim := { program := "ytboohfijacjhjaadoor", sum := "97ab81d29a4f0e6d4afc4187d09cd9acf5f04975f0c2ecec815da394183d545c", func := "pontoon/pontoonlaw12.CallSigns", spec := "callSigns", inPlace := ["internal/abi.NoEscape", "internal/bytealg.MakeNoZero"], named := ["pontoon/call.weights", "pontoon/sha.first", "pontoon/sha.constants"], plainKeys := false, apart := false, laid := [("pontoon/sha.first", laid_pontoon_sha_first), ("pontoon/sha.constants", laid_pontoon_sha_constants), ("pontoon/call.weights", laid_pontoon_call_weights)], narrowed := true }
def CallSignsUptoSaid : Prop := callSignsUptoRow.holds Tryd.pinned (OpenSpec.upto callSignsSpec)

/-- 'pontoonlaw12.CallBinds', WHERE WHAT IT READS IS OF BULK AT MOST 1048576: true; the input reads as it did. -/
def callBindsUptoRow : OpenClaim := { program := "ytboohfijacjhjaadoor", sum := "97ab81d29a4f0e6d4afc4187d09cd9acf5f04975f0c2ecec815da394183d545c", func := "pontoon/pontoonlaw12.CallBinds", spec := "callBinds", inPlace := ["internal/abi.NoEscape", "internal/bytealg.MakeNoZero"], named := ["pontoon/call.weights", "pontoon/sha.first", "pontoon/sha.constants"], plainKeys := false, apart := false, laid := [("pontoon/sha.first", laid_pontoon_sha_first), ("pontoon/sha.constants", laid_pontoon_sha_constants), ("pontoon/call.weights", laid_pontoon_call_weights)], narrowed := true }
def CallBindsUptoSaid : Prop := callBindsUptoRow.holds Tryd.pinned (OpenSpec.upto callBindsSpec)

end Rows
end Go.Proofs.YtboohfijacjhjaaDoor
