/-
  NARROWER THAN 'FOR EVERY INPUT', by the rows' own cells (each row's printed sentence says how): LedgerGives: laid · LedgerPlays: laid · LedgerKeeps: laid · LedgerDoes: laid · PurseBack: laid · PursePlays: laid · PurseSums: laid · RouterCrosses: laid · RouterSums: laid.
  DERIVED. THE GIVEN ROWS OF THIS SEAT. 9 by the template 'for every input the law returns true; each argument reads behind the call as it read before'; 0 by the template 'total and deterministic' (their statements: YtmdfpifcghmpfaaDoorTotals.lean).
  GIVEN WITH THE SEED: the statements are not yours to turn. If you find one false, say at which input.
  Laid BY PROGRAM, IN A SANDBOX (cutbox-rows.mjs): the forced cells as the released guide's own fill.sh prints them over the translation b4310e3661acf12d… (all of the seat's roots in one cut). By AI agents, Wed Nov 11 2026. No macro, syntax, notation, axiom, sorry.
-/
import Derived.Test.YtmdfpifcghmpfaaDoorChecked
import GoSem.PinnedTables
import GoSem.Claim
import GoSem.ClaimJoined
import GoSem.ClaimMapViews
import Derived.JoinedTies
import Derived.KernelRfl
namespace Go.Proofs.YtmdfpifcghmpfaaDoor
/- THE CELL 'sum', in the pinned program and in every row, IS THE sha256 OF THE DUMP (.gsa) THAT YtmdfpifcghmpfaaDoorProg.lean LOADS. Nothing in Lean hashes anything: it is a label: what it is worth is what the hold of that sum in a sandbox is worth. -/
noncomputable def Tryd.pinned : Pinned := { name := "ytmdfpifcghmpfaadoor", sum := "b4310e3661acf12d66fb9dfe069dfb8690811de3921415177193e95d979bafd8", checked := Tryd.checked }
namespace Rows
def none {H : Type} : Left H := { results := [], args := [] }

/- WHAT THE LISTED PACKAGE-LEVEL VARIABLES READ AS WHEN THE CALL BEGINS. Each datum BY PROGRAM (the guide's laid-datum.mjs) off the statement by which the dump's own 'gosem.cut.vars' lays the variable. In a bare row this is a premise. The card (YtmdfpifcghmpfaaDoorCards.lean) ties it to the program's text. -/
def laid_unicode_utf8_acceptRanges {H : Type} : DataW H := .agg [.agg [.lit (.int .u8 128), .lit (.int .u8 191)], .agg [.lit (.int .u8 160), .lit (.int .u8 191)], .agg [.lit (.int .u8 128), .lit (.int .u8 159)], .agg [.lit (.int .u8 144), .lit (.int .u8 191)], .agg [.lit (.int .u8 128), .lit (.int .u8 143)], .agg [.lit (.int .u8 0), .lit (.int .u8 0)], .agg [.lit (.int .u8 0), .lit (.int .u8 0)], .agg [.lit (.int .u8 0), .lit (.int .u8 0)], .agg [.lit (.int .u8 0), .lit (.int .u8 0)], .agg [.lit (.int .u8 0), .lit (.int .u8 0)], .agg [.lit (.int .u8 0), .lit (.int .u8 0)], .agg [.lit (.int .u8 0), .lit (.int .u8 0)], .agg [.lit (.int .u8 0), .lit (.int .u8 0)], .agg [.lit (.int .u8 0), .lit (.int .u8 0)], .agg [.lit (.int .u8 0), .lit (.int .u8 0)], .agg [.lit (.int .u8 0), .lit (.int .u8 0)]]
/-- One of Go's own tables, pinned by name: the form's constant. -/
def laid_unicode_utf8_first : DataW Unit := Go.Pinned.utf8First

/-- 'pontoonlaw13.LedgerGives': WHATEVER THE INPUT: true; the input reads as it did. -/
def ledgerGivesSpec : ChangeSpec := { name := "ledgerGives", fn := fun _ => fun
  | [d1, d2, d3] => { results := [.lit (.bool true)], args := [d1, d2, d3] }
  | _ => none }
def ledgerGivesRow : OpenClaim := { program := "ytmdfpifcghmpfaadoor", sum := "b4310e3661acf12d66fb9dfe069dfb8690811de3921415177193e95d979bafd8", func := "pontoon/pontoonlaw13.LedgerGives", spec := "ledgerGives", inPlace := ["slices.overlaps[pontoon/api.Account]", "math/bits.Add64"], unfollowed := true, recurses := true, named := ["unicode/utf8.first", "unicode/utf8.acceptRanges"], apart := false, laid := [("unicode/utf8.acceptRanges", laid_unicode_utf8_acceptRanges), ("unicode/utf8.first", laid_unicode_utf8_first)] }
def LedgerGivesSaid : Prop := ledgerGivesRow.holds Tryd.pinned (OpenSpec.ofChange ledgerGivesSpec)

/-- ITS FALSE NEIGHBOUR: 'it returns false'. Refute it at one input. -/
def ledgerGivesWrong : ChangeSpec := { name := "ledgerGives", fn := fun _ => fun
  | [d1, d2, d3] => { results := [.lit (.bool false)], args := [d1, d2, d3] }
  | _ => none }
def LedgerGivesWrongFalsely : Prop := ledgerGivesRow.holds Tryd.pinned (OpenSpec.ofChange ledgerGivesWrong)

/-- 'pontoonlaw13.LedgerPlays': WHATEVER THE INPUT: true; the input reads as it did. -/
def ledgerPlaysSpec : ChangeSpec := { name := "ledgerPlays", fn := fun _ => fun
  | [d] => { results := [.lit (.bool true)], args := [d] }
  | _ => none }
def ledgerPlaysRow : OpenClaim := { program := "ytmdfpifcghmpfaadoor", sum := "b4310e3661acf12d66fb9dfe069dfb8690811de3921415177193e95d979bafd8", func := "pontoon/pontoonlaw13.LedgerPlays", spec := "ledgerPlays", inPlace := ["slices.overlaps[pontoon/api.Account]", "math/bits.Add64"], unfollowed := true, recurses := true, named := ["unicode/utf8.first", "unicode/utf8.acceptRanges"], apart := false, laid := [("unicode/utf8.acceptRanges", laid_unicode_utf8_acceptRanges), ("unicode/utf8.first", laid_unicode_utf8_first)] }
def LedgerPlaysSaid : Prop := ledgerPlaysRow.holds Tryd.pinned (OpenSpec.ofChange ledgerPlaysSpec)

/-- ITS FALSE NEIGHBOUR: 'it returns false'. Refute it at one input. -/
def ledgerPlaysWrong : ChangeSpec := { name := "ledgerPlays", fn := fun _ => fun
  | [d] => { results := [.lit (.bool false)], args := [d] }
  | _ => none }
def LedgerPlaysWrongFalsely : Prop := ledgerPlaysRow.holds Tryd.pinned (OpenSpec.ofChange ledgerPlaysWrong)

/-- 'pontoonlaw13.LedgerKeeps': WHATEVER THE INPUT: true; the input reads as it did. -/
def ledgerKeepsSpec : ChangeSpec := { name := "ledgerKeeps", fn := fun _ => fun
  | [d1, d2] => { results := [.lit (.bool true)], args := [d1, d2] }
  | _ => none }
def ledgerKeepsRow : OpenClaim := { program := "ytmdfpifcghmpfaadoor", sum := "b4310e3661acf12d66fb9dfe069dfb8690811de3921415177193e95d979bafd8", func := "pontoon/pontoonlaw13.LedgerKeeps", spec := "ledgerKeeps", inPlace := ["slices.overlaps[pontoon/api.Account]", "math/bits.Add64"], unfollowed := true, recurses := true, named := ["unicode/utf8.first", "unicode/utf8.acceptRanges"], apart := false, laid := [("unicode/utf8.acceptRanges", laid_unicode_utf8_acceptRanges), ("unicode/utf8.first", laid_unicode_utf8_first)] }
def LedgerKeepsSaid : Prop := ledgerKeepsRow.holds Tryd.pinned (OpenSpec.ofChange ledgerKeepsSpec)

/-- ITS FALSE NEIGHBOUR: 'it returns false'. Refute it at one input. -/
def ledgerKeepsWrong : ChangeSpec := { name := "ledgerKeeps", fn := fun _ => fun
  | [d1, d2] => { results := [.lit (.bool false)], args := [d1, d2] }
  | _ => none }
def LedgerKeepsWrongFalsely : Prop := ledgerKeepsRow.holds Tryd.pinned (OpenSpec.ofChange ledgerKeepsWrong)

/-- 'pontoonlaw13.LedgerDoes': WHATEVER THE INPUT: true; the input reads as it did. -/
def ledgerDoesSpec : ChangeSpec := { name := "ledgerDoes", fn := fun _ => fun
  | [d1, d2] => { results := [.lit (.bool true)], args := [d1, d2] }
  | _ => none }
def ledgerDoesRow : OpenClaim := { program := "ytmdfpifcghmpfaadoor", sum := "b4310e3661acf12d66fb9dfe069dfb8690811de3921415177193e95d979bafd8", func := "pontoon/pontoonlaw13.LedgerDoes", spec := "ledgerDoes", inPlace := ["slices.overlaps[pontoon/api.Account]", "math/bits.Add64"], unfollowed := true, recurses := true, named := ["unicode/utf8.first", "unicode/utf8.acceptRanges"], apart := false, laid := [("unicode/utf8.acceptRanges", laid_unicode_utf8_acceptRanges), ("unicode/utf8.first", laid_unicode_utf8_first)] }
def LedgerDoesSaid : Prop := ledgerDoesRow.holds Tryd.pinned (OpenSpec.ofChange ledgerDoesSpec)

/-- ITS FALSE NEIGHBOUR: 'it returns false'. Refute it at one input. -/
def ledgerDoesWrong : ChangeSpec := { name := "ledgerDoes", fn := fun _ => fun
  | [d1, d2] => { results := [.lit (.bool false)], args := [d1, d2] }
  | _ => none }
def LedgerDoesWrongFalsely : Prop := ledgerDoesRow.holds Tryd.pinned (OpenSpec.ofChange ledgerDoesWrong)

/-- 'pontoonlaw14.PurseBack': WHATEVER THE INPUT: true; the input reads as it did. -/
def purseBackSpec : ChangeSpec := { name := "purseBack", fn := fun _ => fun
  | [d1, d2] => { results := [.lit (.bool true)], args := [d1, d2] }
  | _ => none }
def purseBackRow : OpenClaim := { program := "ytmdfpifcghmpfaadoor", sum := "b4310e3661acf12d66fb9dfe069dfb8690811de3921415177193e95d979bafd8", func := "pontoon/pontoonlaw14.PurseBack", spec := "purseBack", inPlace := ["slices.overlaps[pontoon/api.Token]", "math/bits.Add64", "slices.overlaps[pontoon/api.Holding]"], unfollowed := true, recurses := true, named := ["unicode/utf8.first", "unicode/utf8.acceptRanges"], apart := false, laid := [("unicode/utf8.acceptRanges", laid_unicode_utf8_acceptRanges), ("unicode/utf8.first", laid_unicode_utf8_first)] }
def PurseBackSaid : Prop := purseBackRow.holds Tryd.pinned (OpenSpec.ofChange purseBackSpec)

/-- ITS FALSE NEIGHBOUR: 'it returns false'. Refute it at one input. -/
def purseBackWrong : ChangeSpec := { name := "purseBack", fn := fun _ => fun
  | [d1, d2] => { results := [.lit (.bool false)], args := [d1, d2] }
  | _ => none }
def PurseBackWrongFalsely : Prop := purseBackRow.holds Tryd.pinned (OpenSpec.ofChange purseBackWrong)

/-- 'pontoonlaw14.PursePlays': WHATEVER THE INPUT: true; the input reads as it did. -/
def pursePlaysSpec : ChangeSpec := { name := "pursePlays", fn := fun _ => fun
  | [d] => { results := [.lit (.bool true)], args := [d] }
  | _ => none }
def pursePlaysRow : OpenClaim := { program := "ytmdfpifcghmpfaadoor", sum := "b4310e3661acf12d66fb9dfe069dfb8690811de3921415177193e95d979bafd8", func := "pontoon/pontoonlaw14.PursePlays", spec := "pursePlays", inPlace := ["slices.overlaps[pontoon/api.Token]", "math/bits.Add64", "slices.overlaps[pontoon/api.Holding]"], unfollowed := true, recurses := true, named := ["unicode/utf8.first", "unicode/utf8.acceptRanges"], apart := false, laid := [("unicode/utf8.acceptRanges", laid_unicode_utf8_acceptRanges), ("unicode/utf8.first", laid_unicode_utf8_first)] }
def PursePlaysSaid : Prop := pursePlaysRow.holds Tryd.pinned (OpenSpec.ofChange pursePlaysSpec)

/-- ITS FALSE NEIGHBOUR: 'it returns false'. Refute it at one input. -/
def pursePlaysWrong : ChangeSpec := { name := "pursePlays", fn := fun _ => fun
  | [d] => { results := [.lit (.bool false)], args := [d] }
  | _ => none }
def PursePlaysWrongFalsely : Prop := pursePlaysRow.holds Tryd.pinned (OpenSpec.ofChange pursePlaysWrong)

/-- 'pontoonlaw14.PurseSums': WHATEVER THE INPUT: true; the input reads as it did. -/
def purseSumsSpec : ChangeSpec := { name := "purseSums", fn := fun _ => fun
  | [d1, d2, d3, d4] => { results := [.lit (.bool true)], args := [d1, d2, d3, d4] }
  | _ => none }
def purseSumsRow : OpenClaim := { program := "ytmdfpifcghmpfaadoor", sum := "b4310e3661acf12d66fb9dfe069dfb8690811de3921415177193e95d979bafd8", func := "pontoon/pontoonlaw14.PurseSums", spec := "purseSums", inPlace := ["slices.overlaps[pontoon/api.Token]", "math/bits.Add64", "slices.overlaps[pontoon/api.Holding]"], unfollowed := true, recurses := true, named := ["unicode/utf8.first", "unicode/utf8.acceptRanges"], apart := false, laid := [("unicode/utf8.acceptRanges", laid_unicode_utf8_acceptRanges), ("unicode/utf8.first", laid_unicode_utf8_first)] }
def PurseSumsSaid : Prop := purseSumsRow.holds Tryd.pinned (OpenSpec.ofChange purseSumsSpec)

/-- ITS FALSE NEIGHBOUR: 'it returns false'. Refute it at one input. -/
def purseSumsWrong : ChangeSpec := { name := "purseSums", fn := fun _ => fun
  | [d1, d2, d3, d4] => { results := [.lit (.bool false)], args := [d1, d2, d3, d4] }
  | _ => none }
def PurseSumsWrongFalsely : Prop := purseSumsRow.holds Tryd.pinned (OpenSpec.ofChange purseSumsWrong)

/-- 'pontoonlaw18.RouterCrosses': WHATEVER THE INPUT: true; the input reads as it did. -/
def routerCrossesSpec : ChangeSpec := { name := "routerCrosses", fn := fun _ => fun
  | [d1, d2, d3] => { results := [.lit (.bool true)], args := [d1, d2, d3] }
  | _ => none }
def routerCrossesRow : OpenClaim := { program := "ytmdfpifcghmpfaadoor", sum := "b4310e3661acf12d66fb9dfe069dfb8690811de3921415177193e95d979bafd8", func := "pontoon/pontoonlaw18.RouterCrosses", spec := "routerCrosses", inPlace := ["math/bits.Add64", "slices.overlaps[pontoon/api.Holding]", "slices.overlaps[pontoon/api.Token]"], unfollowed := true, recurses := true, named := ["unicode/utf8.first", "unicode/utf8.acceptRanges"], apart := false, laid := [("unicode/utf8.acceptRanges", laid_unicode_utf8_acceptRanges), ("unicode/utf8.first", laid_unicode_utf8_first)] }
def RouterCrossesSaid : Prop := routerCrossesRow.holds Tryd.pinned (OpenSpec.ofChange routerCrossesSpec)

/-- ITS FALSE NEIGHBOUR: 'it returns false'. Refute it at one input. -/
def routerCrossesWrong : ChangeSpec := { name := "routerCrosses", fn := fun _ => fun
  | [d1, d2, d3] => { results := [.lit (.bool false)], args := [d1, d2, d3] }
  | _ => none }
def RouterCrossesWrongFalsely : Prop := routerCrossesRow.holds Tryd.pinned (OpenSpec.ofChange routerCrossesWrong)

/-- 'pontoonlaw18.RouterSums': WHATEVER THE INPUT: true; the input reads as it did. -/
def routerSumsSpec : ChangeSpec := { name := "routerSums", fn := fun _ => fun
  | [d1, d2, d3, d4, d5] => { results := [.lit (.bool true)], args := [d1, d2, d3, d4, d5] }
  | _ => none }
def routerSumsRow : OpenClaim := { program := "ytmdfpifcghmpfaadoor", sum := "b4310e3661acf12d66fb9dfe069dfb8690811de3921415177193e95d979bafd8", func := "pontoon/pontoonlaw18.RouterSums", spec := "routerSums", inPlace := ["math/bits.Add64", "slices.overlaps[pontoon/api.Holding]", "slices.overlaps[pontoon/api.Token]"], unfollowed := true, recurses := true, named := ["unicode/utf8.first", "unicode/utf8.acceptRanges"], apart := false, laid := [("unicode/utf8.acceptRanges", laid_unicode_utf8_acceptRanges), ("unicode/utf8.first", laid_unicode_utf8_first)] }
def RouterSumsSaid : Prop := routerSumsRow.holds Tryd.pinned (OpenSpec.ofChange routerSumsSpec)

/-- ITS FALSE NEIGHBOUR: 'it returns false'. Refute it at one input. -/
def routerSumsWrong : ChangeSpec := { name := "routerSums", fn := fun _ => fun
  | [d1, d2, d3, d4, d5] => { results := [.lit (.bool false)], args := [d1, d2, d3, d4, d5] }
  | _ => none }
def RouterSumsWrongFalsely : Prop := routerSumsRow.holds Tryd.pinned (OpenSpec.ofChange routerSumsWrong)

/- THE SECOND FORM. 'bulk': how many values and letters a reading holds, each counted each time it is reached (what is shared counts as often as it is met; a slice's spare places count too). A statement '..UptoSaid' is the law's where the arguments, and the package variables that the reading takes, are together of bulk at most 1048576: NARROWER than '..Said'. Prove '..Said' where nothing that the law and all that it calls make is longer than what came in: it says more and counts as full. Else prove '..UptoSaid'. A law counts once. -/
mutual
def uptoBulk {H : Type} : DataW H → Nat
  | .lit (.string bytes) => bytes.length + 1
  | .lit _ => 1
  | .nil => 1
  | .ptr d => uptoBulk d + 1
  | .slice elems spare => uptoBulkAll elems + uptoBulkAll spare + 1
  | .agg parts => uptoBulkAll parts + 1
  | .iface _ d => uptoBulk d + 1
  | .map entries => uptoBulkEntries entries + 1
  | .held _ => 1
def uptoBulkAll {H : Type} : List (DataW H) → Nat
  | [] => 0
  | d :: r => uptoBulk d + uptoBulkAll r
def uptoBulkEntries {H : Type} : List (Lit × DataW H) → Nat
  | [] => 0
  | x :: r => uptoBulkEntry x + uptoBulkEntries r
def uptoBulkEntry {H : Type} : Lit × DataW H → Nat
  | (.string bytes, d) => bytes.length + uptoBulk d + 1
  | (_, d) => uptoBulk d + 1
 end
def uptoSmall : (H : Type) → List (DataW H) → Bool := fun _ ds => decide (uptoBulkAll ds ≤ 1048576)
def OpenSpec.upto (s : _root_.Go.ChangeSpec) : _root_.Go.OpenSpec := { _root_.Go.OpenSpec.ofChange s with cond := some uptoSmall }

/-- 'pontoonlaw13.LedgerGives', WHERE WHAT IT READS IS OF BULK AT MOST 1048576: true; the input reads as it did. -/
def ledgerGivesUptoRow : OpenClaim := { program := "ytmdfpifcghmpfaadoor", sum := "b4310e3661acf12d66fb9dfe069dfb8690811de3921415177193e95d979bafd8", func := "pontoon/pontoonlaw13.LedgerGives", spec := "ledgerGives", inPlace := ["slices.overlaps[pontoon/api.Account]", "math/bits.Add64"], unfollowed := true, recurses := true, named := ["unicode/utf8.first", "unicode/utf8.acceptRanges"], apart := false, laid := [("unicode/utf8.acceptRanges", laid_unicode_utf8_acceptRanges), ("unicode/utf8.first", laid_unicode_utf8_first)], narrowed := true }
def LedgerGivesUptoSaid : Prop := ledgerGivesUptoRow.holds Tryd.pinned (OpenSpec.upto ledgerGivesSpec)

/-- 'pontoonlaw13.LedgerPlays', WHERE WHAT IT READS IS OF BULK AT MOST 1048576: true; the input reads as it did. -/
def ledgerPlaysUptoRow : OpenClaim := { program := "ytmdfpifcghmpfaadoor", sum := "b4310e3661acf12d66fb9dfe069dfb8690811de3921415177193e95d979bafd8", func := "pontoon/pontoonlaw13.LedgerPlays", spec := "ledgerPlays", inPlace := ["slices.overlaps[pontoon/api.Account]", "math/bits.Add64"], unfollowed := true, recurses := true, named := ["unicode/utf8.first", "unicode/utf8.acceptRanges"], apart := false, laid := [("unicode/utf8.acceptRanges", laid_unicode_utf8_acceptRanges), ("unicode/utf8.first", laid_unicode_utf8_first)], narrowed := true }
def LedgerPlaysUptoSaid : Prop := ledgerPlaysUptoRow.holds Tryd.pinned (OpenSpec.upto ledgerPlaysSpec)

/-- 'pontoonlaw13.LedgerKeeps', WHERE WHAT IT READS IS OF BULK AT MOST 1048576: true; the input reads as it did. -/
def ledgerKeepsUptoRow : OpenClaim := { program := "ytmdfpifcghmpfaadoor", sum := "b4310e3661acf12d66fb9dfe069dfb8690811de3921415177193e95d979bafd8", func := "pontoon/pontoonlaw13.LedgerKeeps", spec := "ledgerKeeps", inPlace := ["slices.overlaps[pontoon/api.Account]", "math/bits.Add64"], unfollowed := true, recurses := true, named := ["unicode/utf8.first", "unicode/utf8.acceptRanges"], apart := false, laid := [("unicode/utf8.acceptRanges", laid_unicode_utf8_acceptRanges), ("unicode/utf8.first", laid_unicode_utf8_first)], narrowed := true }
def LedgerKeepsUptoSaid : Prop := ledgerKeepsUptoRow.holds Tryd.pinned (OpenSpec.upto ledgerKeepsSpec)

/-- 'pontoonlaw13.LedgerDoes', WHERE WHAT IT READS IS OF BULK AT MOST 1048576: true; the input reads as it did. -/
def ledgerDoesUptoRow : OpenClaim := { program := "ytmdfpifcghmpfaadoor", sum := "b4310e3661acf12d66fb9dfe069dfb8690811de3921415177193e95d979bafd8", func := "pontoon/pontoonlaw13.LedgerDoes", spec := "ledgerDoes", inPlace := ["slices.overlaps[pontoon/api.Account]", "math/bits.Add64"], unfollowed := true, recurses := true, named := ["unicode/utf8.first", "unicode/utf8.acceptRanges"], apart := false, laid := [("unicode/utf8.acceptRanges", laid_unicode_utf8_acceptRanges), ("unicode/utf8.first", laid_unicode_utf8_first)], narrowed := true }
def LedgerDoesUptoSaid : Prop := ledgerDoesUptoRow.holds Tryd.pinned (OpenSpec.upto ledgerDoesSpec)

/-- 'pontoonlaw14.PurseBack', WHERE WHAT IT READS IS OF BULK AT MOST 1048576: true; the input reads as it did. -/
def purseBackUptoRow : OpenClaim := { program := "ytmdfpifcghmpfaadoor", sum := "b4310e3661acf12d66fb9dfe069dfb8690811de3921415177193e95d979bafd8", func := "pontoon/pontoonlaw14.PurseBack", spec := "purseBack", inPlace := ["slices.overlaps[pontoon/api.Token]", "math/bits.Add64", "slices.overlaps[pontoon/api.Holding]"], unfollowed := true, recurses := true, named := ["unicode/utf8.first", "unicode/utf8.acceptRanges"], apart := false, laid := [("unicode/utf8.acceptRanges", laid_unicode_utf8_acceptRanges), ("unicode/utf8.first", laid_unicode_utf8_first)], narrowed := true }
def PurseBackUptoSaid : Prop := purseBackUptoRow.holds Tryd.pinned (OpenSpec.upto purseBackSpec)

/-- 'pontoonlaw14.PursePlays', WHERE WHAT IT READS IS OF BULK AT MOST 1048576: true; the input reads as it did. -/
def pursePlaysUptoRow : OpenClaim := { program := "ytmdfpifcghmpfaadoor", sum := "b4310e3661acf12d66fb9dfe069dfb8690811de3921415177193e95d979bafd8", func := "pontoon/pontoonlaw14.PursePlays", spec := "pursePlays", inPlace := ["slices.overlaps[pontoon/api.Token]", "math/bits.Add64", "slices.overlaps[pontoon/api.Holding]"], unfollowed := true, recurses := true, named := ["unicode/utf8.first", "unicode/utf8.acceptRanges"], apart := false, laid := [("unicode/utf8.acceptRanges", laid_unicode_utf8_acceptRanges), ("unicode/utf8.first", laid_unicode_utf8_first)], narrowed := true }
def PursePlaysUptoSaid : Prop := pursePlaysUptoRow.holds Tryd.pinned (OpenSpec.upto pursePlaysSpec)

/-- 'pontoonlaw14.PurseSums', WHERE WHAT IT READS IS OF BULK AT MOST 1048576: true; the input reads as it did. -/
def purseSumsUptoRow : OpenClaim := { program := "ytmdfpifcghmpfaadoor", sum := "b4310e3661acf12d66fb9dfe069dfb8690811de3921415177193e95d979bafd8", func := "pontoon/pontoonlaw14.PurseSums", spec := "purseSums", inPlace := ["slices.overlaps[pontoon/api.Token]", "math/bits.Add64", "slices.overlaps[pontoon/api.Holding]"], unfollowed := true, recurses := true, named := ["unicode/utf8.first", "unicode/utf8.acceptRanges"], apart := false, laid := [("unicode/utf8.acceptRanges", laid_unicode_utf8_acceptRanges), ("unicode/utf8.first", laid_unicode_utf8_first)], narrowed := true }
def PurseSumsUptoSaid : Prop := purseSumsUptoRow.holds Tryd.pinned (OpenSpec.upto purseSumsSpec)

/-- 'pontoonlaw18.RouterCrosses', WHERE WHAT IT READS IS OF BULK AT MOST 1048576: true; the input reads as it did. -/
def routerCrossesUptoRow : OpenClaim := { program := "ytmdfpifcghmpfaadoor", sum := "b4310e3661acf12d66fb9dfe069dfb8690811de3921415177193e95d979bafd8", func := "pontoon/pontoonlaw18.RouterCrosses", spec := "routerCrosses", inPlace := ["math/bits.Add64", "slices.overlaps[pontoon/api.Holding]", "slices.overlaps[pontoon/api.Token]"], unfollowed := true, recurses := true, named := ["unicode/utf8.first", "unicode/utf8.acceptRanges"], apart := false, laid := [("unicode/utf8.acceptRanges", laid_unicode_utf8_acceptRanges), ("unicode/utf8.first", laid_unicode_utf8_first)], narrowed := true }
def RouterCrossesUptoSaid : Prop := routerCrossesUptoRow.holds Tryd.pinned (OpenSpec.upto routerCrossesSpec)

/-- 'pontoonlaw18.RouterSums', WHERE WHAT IT READS IS OF BULK AT MOST 1048576: true; the input reads as it did. -/
def routerSumsUptoRow : OpenClaim := { program := "ytmdfpifcghmpfaadoor", sum := "b4310e3661acf12d66fb9dfe069dfb8690811de3921415177193e95d979bafd8", func := "pontoon/pontoonlaw18.RouterSums", spec := "routerSums", inPlace := ["math/bits.Add64", "slices.overlaps[pontoon/api.Holding]", "slices.overlaps[pontoon/api.Token]"], unfollowed := true, recurses := true, named := ["unicode/utf8.first", "unicode/utf8.acceptRanges"], apart := false, laid := [("unicode/utf8.acceptRanges", laid_unicode_utf8_acceptRanges), ("unicode/utf8.first", laid_unicode_utf8_first)], narrowed := true }
def RouterSumsUptoSaid : Prop := routerSumsUptoRow.holds Tryd.pinned (OpenSpec.upto routerSumsSpec)

end Rows
end Go.Proofs.YtmdfpifcghmpfaaDoor
