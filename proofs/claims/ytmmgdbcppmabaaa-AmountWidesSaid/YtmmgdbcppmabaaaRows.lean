/-
  No cell of these rows narrows 'for every input' (looked for: loops, veiled, ifaces, maps, wideKeys, modest, calm, conditions, laid).
  DERIVED. THE GIVEN ROWS OF THIS SEAT. 5 by the template 'for every input the law returns true; each argument reads behind the call as it read before'; 0 by the template 'total and deterministic' (their statements: YtmmgdbcppmabaaaTotals.lean).
  GIVEN WITH THE SEED: the statements are not yours to turn. If you find one false, say at which input.
  Laid BY PROGRAM, IN A SANDBOX (cutbox-rows.mjs): the forced cells as the released guide's own fill.sh prints them over the translation b9a78aefd3bc431e… (all of the seat's roots in one cut). By AI agents, Wed Nov 11 2026. No macro, syntax, notation, axiom, sorry.
-/
import Derived.Test.YtmmgdbcppmabaaaChecked
import GoSem.Claim
import GoSem.ClaimJoined
import GoSem.ClaimMapViews
import Derived.JoinedTies
import Derived.KernelRfl
namespace Go.Proofs.Ytmmgdbcppmabaaa
/- THE CELL 'sum', in the pinned program and in every row, IS THE sha256 OF THE DUMP (.gsa) THAT YtmmgdbcppmabaaaProg.lean LOADS. Nothing in Lean hashes anything: it is a label: what it is worth is what the hold of that sum in a sandbox is worth. -/
noncomputable def Try.pinned : Pinned := { name := "ytmmgdbcppmabaaa", sum := "b9a78aefd3bc431e39de1b0bc6c4aeb1427ccd1ebd6b3bea277cec1ceacff35b", checked := Try.checked }
namespace Rows
def none {H : Type} : Left H := { results := [], args := [] }

/-- 'pontoonlaw08.AmountSplits': WHATEVER THE INPUT: true; the input reads as it did. -/
def amountSplitsSpec : ChangeSpec := { name := "amountSplits", fn := fun _ => fun
  | [d1, d2, d3] => { results := [.lit (.bool true)], args := [d1, d2, d3] }
  | _ => none }
def amountSplitsRow : OpenClaim := { program := "ytmmgdbcppmabaaa", sum := "b9a78aefd3bc431e39de1b0bc6c4aeb1427ccd1ebd6b3bea277cec1ceacff35b", func := "pontoon/pontoonlaw08.AmountSplits", spec := "amountSplits", inPlace := ["math/bits.Add64"], named := ["math/bits.divideError", "math/bits.overflowError"], apart := false }
def AmountSplitsSaid : Prop := amountSplitsRow.holds Try.pinned (OpenSpec.ofChange amountSplitsSpec)

/-- ITS FALSE NEIGHBOUR: 'it returns false'. Refute it at one input. -/
def amountSplitsWrong : ChangeSpec := { name := "amountSplits", fn := fun _ => fun
  | [d1, d2, d3] => { results := [.lit (.bool false)], args := [d1, d2, d3] }
  | _ => none }
def AmountSplitsWrongFalsely : Prop := amountSplitsRow.holds Try.pinned (OpenSpec.ofChange amountSplitsWrong)

/-- 'pontoonlaw08.AmountSums': WHATEVER THE INPUT: true; the input reads as it did. -/
def amountSumsSpec : ChangeSpec := { name := "amountSums", fn := fun _ => fun
  | [d1, d2] => { results := [.lit (.bool true)], args := [d1, d2] }
  | _ => none }
def amountSumsRow : OpenClaim := { program := "ytmmgdbcppmabaaa", sum := "b9a78aefd3bc431e39de1b0bc6c4aeb1427ccd1ebd6b3bea277cec1ceacff35b", func := "pontoon/pontoonlaw08.AmountSums", spec := "amountSums", inPlace := ["math/bits.Add64"], named := ["math/bits.divideError", "math/bits.overflowError"], apart := false }
def AmountSumsSaid : Prop := amountSumsRow.holds Try.pinned (OpenSpec.ofChange amountSumsSpec)

/-- ITS FALSE NEIGHBOUR: 'it returns false'. Refute it at one input. -/
def amountSumsWrong : ChangeSpec := { name := "amountSums", fn := fun _ => fun
  | [d1, d2] => { results := [.lit (.bool false)], args := [d1, d2] }
  | _ => none }
def AmountSumsWrongFalsely : Prop := amountSumsRow.holds Try.pinned (OpenSpec.ofChange amountSumsWrong)

/-- 'pontoonlaw08.AmountBack': WHATEVER THE INPUT: true; the input reads as it did. -/
def amountBackSpec : ChangeSpec := { name := "amountBack", fn := fun _ => fun
  | [d1, d2, d3, d4] => { results := [.lit (.bool true)], args := [d1, d2, d3, d4] }
  | _ => none }
def amountBackRow : OpenClaim := { program := "ytmmgdbcppmabaaa", sum := "b9a78aefd3bc431e39de1b0bc6c4aeb1427ccd1ebd6b3bea277cec1ceacff35b", func := "pontoon/pontoonlaw08.AmountBack", spec := "amountBack", inPlace := ["math/bits.Add64"], named := ["math/bits.divideError", "math/bits.overflowError"], apart := false }
def AmountBackSaid : Prop := amountBackRow.holds Try.pinned (OpenSpec.ofChange amountBackSpec)

/-- ITS FALSE NEIGHBOUR: 'it returns false'. Refute it at one input. -/
def amountBackWrong : ChangeSpec := { name := "amountBack", fn := fun _ => fun
  | [d1, d2, d3, d4] => { results := [.lit (.bool false)], args := [d1, d2, d3, d4] }
  | _ => none }
def AmountBackWrongFalsely : Prop := amountBackRow.holds Try.pinned (OpenSpec.ofChange amountBackWrong)

/-- 'pontoonlaw08.AmountOrder': WHATEVER THE INPUT: true; the input reads as it did. -/
def amountOrderSpec : ChangeSpec := { name := "amountOrder", fn := fun _ => fun
  | [d1, d2, d3] => { results := [.lit (.bool true)], args := [d1, d2, d3] }
  | _ => none }
def amountOrderRow : OpenClaim := { program := "ytmmgdbcppmabaaa", sum := "b9a78aefd3bc431e39de1b0bc6c4aeb1427ccd1ebd6b3bea277cec1ceacff35b", func := "pontoon/pontoonlaw08.AmountOrder", spec := "amountOrder", inPlace := ["math/bits.Add64"], named := ["math/bits.divideError", "math/bits.overflowError"], apart := false }
def AmountOrderSaid : Prop := amountOrderRow.holds Try.pinned (OpenSpec.ofChange amountOrderSpec)

/-- ITS FALSE NEIGHBOUR: 'it returns false'. Refute it at one input. -/
def amountOrderWrong : ChangeSpec := { name := "amountOrder", fn := fun _ => fun
  | [d1, d2, d3] => { results := [.lit (.bool false)], args := [d1, d2, d3] }
  | _ => none }
def AmountOrderWrongFalsely : Prop := amountOrderRow.holds Try.pinned (OpenSpec.ofChange amountOrderWrong)

/-- 'pontoonlaw08.AmountWides': WHATEVER THE INPUT: true; the input reads as it did. -/
def amountWidesSpec : ChangeSpec := { name := "amountWides", fn := fun _ => fun
  | [d1, d2, d3] => { results := [.lit (.bool true)], args := [d1, d2, d3] }
  | _ => none }
def amountWidesRow : OpenClaim := { program := "ytmmgdbcppmabaaa", sum := "b9a78aefd3bc431e39de1b0bc6c4aeb1427ccd1ebd6b3bea277cec1ceacff35b", func := "pontoon/pontoonlaw08.AmountWides", spec := "amountWides", inPlace := ["math/bits.Add64", "math/bits.Sub64"], named := ["math/bits.divideError", "math/bits.overflowError"], apart := false }
def AmountWidesSaid : Prop := amountWidesRow.holds Try.pinned (OpenSpec.ofChange amountWidesSpec)

/-- ITS FALSE NEIGHBOUR: 'it returns false'. Refute it at one input. -/
def amountWidesWrong : ChangeSpec := { name := "amountWides", fn := fun _ => fun
  | [d1, d2, d3] => { results := [.lit (.bool false)], args := [d1, d2, d3] }
  | _ => none }
def AmountWidesWrongFalsely : Prop := amountWidesRow.holds Try.pinned (OpenSpec.ofChange amountWidesWrong)

/- THE SECOND FORM. 'bulk': how many values and letters a reading holds, each counted each time it is reached (what is shared counts as often as it is met; a slice's spare places count too). A statement '..UptoSaid' is the law's where the arguments, and the package variables that the reading takes, are together of bulk at most 1048576: NARROWER than '..Said'. Prove '..Said' where nothing that the law and all that it calls make is longer than what came in: it says more and counts as full. Else prove '..UptoSaid'. A law counts once. -/
mutual
def uptoBulk {H : Type} : DataW H → Nat
  | .lit (.string bytes) => bytes.length + 1
  | .lit _ => 1
  | .nil => 1
  | .ptr d => uptoBulk d + 1
  | .slice elems spare => uptoBulkAll elems + uptoBulkAll spare + 1
  | .agg parts => uptoBulkAll parts + 1
  | .iface _ d => uptoBulk d + 1
  | .map entries => uptoBulkEntries entries + 1
  | .held _ => 1
def uptoBulkAll {H : Type} : List (DataW H) → Nat
  | [] => 0
  | d :: r => uptoBulk d + uptoBulkAll r
def uptoBulkEntries {H : Type} : List (Lit × DataW H) → Nat
  | [] => 0
  | x :: r => uptoBulkEntry x + uptoBulkEntries r
def uptoBulkEntry {H : Type} : Lit × DataW H → Nat
  | (.string bytes, d) => bytes.length + uptoBulk d + 1
  | (_, d) => uptoBulk d + 1
 end
def uptoSmall : (H : Type) → List (DataW H) → Bool := fun _ ds => decide (uptoBulkAll ds ≤ 1048576)
def OpenSpec.upto (s : _root_.Go.ChangeSpec) : _root_.Go.OpenSpec := { _root_.Go.OpenSpec.ofChange s with cond := some uptoSmall }

/-- 'pontoonlaw08.AmountSplits', WHERE WHAT IT READS IS OF BULK AT MOST 1048576: true; the input reads as it did. -/
def amountSplitsUptoRow : OpenClaim := { program := "ytmmgdbcppmabaaa", sum := "b9a78aefd3bc431e39de1b0bc6c4aeb1427ccd1ebd6b3bea277cec1ceacff35b", func := "pontoon/pontoonlaw08.AmountSplits", spec := "amountSplits", inPlace := ["math/bits.Add64"], named := ["math/bits.divideError", "math/bits.overflowError"], apart := false, narrowed := true }
def AmountSplitsUptoSaid : Prop := amountSplitsUptoRow.holds Try.pinned (OpenSpec.upto amountSplitsSpec)

/-- 'pontoonlaw08.AmountSums', WHERE WHAT IT READS IS OF BULK AT MOST 1048576: true; the input reads as it did. -/
def amountSumsUptoRow : OpenClaim := { program := "ytmmgdbcppmabaaa", sum := "b9a78aefd3bc431e39de1b0bc6c4aeb1427ccd1ebd6b3bea277cec1ceacff35b", func := "pontoon/pontoonlaw08.AmountSums", spec := "amountSums", inPlace := ["math/bits.Add64"], named := ["math/bits.divideError", "math/bits.overflowError"], apart := false, narrowed := true }
def AmountSumsUptoSaid : Prop := amountSumsUptoRow.holds Try.pinned (OpenSpec.upto amountSumsSpec)

/-- 'pontoonlaw08.AmountBack', WHERE WHAT IT READS IS OF BULK AT MOST 1048576: true; the input reads as it did. -/
def amountBackUptoRow : OpenClaim := { program := "ytmmgdbcppmabaaa", sum := "b9a78aefd3bc431e39de1b0bc6c4aeb1427ccd1ebd6b3bea277cec1ceacff35b", func := "pontoon/pontoonlaw08.AmountBack", spec := "amountBack", inPlace := ["math/bits.Add64"], named := ["math/bits.divideError", "math/bits.overflowError"], apart := false, narrowed := true }
def AmountBackUptoSaid : Prop := amountBackUptoRow.holds Try.pinned (OpenSpec.upto amountBackSpec)

/-- 'pontoonlaw08.AmountOrder', WHERE WHAT IT READS IS OF BULK AT MOST 1048576: true; the input reads as it did. -/
def amountOrderUptoRow : OpenClaim := { program := "ytmmgdbcppmabaaa", sum := "b9a78aefd3bc431e39de1b0bc6c4aeb1427ccd1ebd6b3bea277cec1ceacff35b", func := "pontoon/pontoonlaw08.AmountOrder", spec := "amountOrder", inPlace := ["math/bits.Add64"], named := ["math/bits.divideError", "math/bits.overflowError"], apart := false, narrowed := true }
def AmountOrderUptoSaid : Prop := amountOrderUptoRow.holds Try.pinned (OpenSpec.upto amountOrderSpec)

/-- 'pontoonlaw08.AmountWides', WHERE WHAT IT READS IS OF BULK AT MOST 1048576: true; the input reads as it did. -/
def amountWidesUptoRow : OpenClaim := { program := "ytmmgdbcppmabaaa", sum := "b9a78aefd3bc431e39de1b0bc6c4aeb1427ccd1ebd6b3bea277cec1ceacff35b", func := "pontoon/pontoonlaw08.AmountWides", spec := "amountWides", inPlace := ["math/bits.Add64", "math/bits.Sub64"], named := ["math/bits.divideError", "math/bits.overflowError"], apart := false, narrowed := true }
def AmountWidesUptoSaid : Prop := amountWidesUptoRow.holds Try.pinned (OpenSpec.upto amountWidesSpec)

end Rows
end Go.Proofs.Ytmmgdbcppmabaaa
