/-
  No cell of these rows narrows 'for every input' (looked for: loops, veiled, ifaces, maps, wideKeys, modest, calm, conditions, laid).
  DERIVED. THE GIVEN ROWS OF THIS SEAT. 3 by the template 'for every input the law returns true; each argument reads behind the call as it read before'; 0 by the template 'total and deterministic' (their statements: YtboohfijacjhjaaTotals.lean).
  GIVEN WITH THE SEED: the statements are not yours to turn. If you find one false, say at which input.
  Laid BY PROGRAM, IN A SANDBOX (cutbox-rows.mjs): the forced cells as the released guide's own fill.sh prints them over the translation ada18cb790330348… (all of the seat's roots in one cut). By AI agents, Wed Nov 11 2026. No macro, syntax, notation, axiom, sorry.
-/
import Derived.Test.YtboohfijacjhjaaChecked
import GoSem.Claim
import GoSem.ClaimJoined
import GoSem.ClaimMapViews
import Derived.JoinedTies
import Derived.KernelRfl
namespace Go.Proofs.Ytboohfijacjhjaa
/- THE CELL 'sum', in the pinned program and in every row, IS THE sha256 OF THE DUMP (.gsa) THAT YtboohfijacjhjaaProg.lean LOADS. Nothing in Lean hashes anything: it is a label: what it is worth is what the hold of that sum in a sandbox is worth. -/
noncomputable def Try.pinned : Pinned := { name := "ytboohfijacjhjaa", sum := "ada18cb79033034883a1bfc37460ec42549e032ffed8f4868a1ed71a9c5f2671", checked := Try.checked }
namespace Rows
def none {H : Type} : Left H := { results := [], args := [] }

/-- 'pontoonlaw20.PostDoes': WHATEVER THE INPUT: true; the input reads as it did. -/
def postDoesSpec : ChangeSpec := { name := "postDoes", fn := fun _ => fun
  | [d1, d2, d3, d4, d5] => { results := [.lit (.bool true)], args := [d1, d2, d3, d4, d5] }
  | _ => none }
def postDoesRow : OpenClaim := { program := "ytboohfijacjhjaa", sum := "ada18cb79033034883a1bfc37460ec42549e032ffed8f4868a1ed71a9c5f2671", func := "pontoon/pontoonlaw20.PostDoes", spec := "postDoes", inPlace := ["slices.overlaps[pontoon/post.Item]", "internal/abi.NoEscape"], apart := false }
def PostDoesSaid : Prop := postDoesRow.holds Try.pinned (OpenSpec.ofChange postDoesSpec)

/-- ITS FALSE NEIGHBOUR: 'it returns false'. Refute it at one input. -/
def postDoesWrong : ChangeSpec := { name := "postDoes", fn := fun _ => fun
  | [d1, d2, d3, d4, d5] => { results := [.lit (.bool false)], args := [d1, d2, d3, d4, d5] }
  | _ => none }
def PostDoesWrongFalsely : Prop := postDoesRow.holds Try.pinned (OpenSpec.ofChange postDoesWrong)

/-- 'pontoonlaw20.PostOpens': WHATEVER THE INPUT: true; the input reads as it did. -/
def postOpensSpec : ChangeSpec := { name := "postOpens", fn := fun _ => fun
  | [d] => { results := [.lit (.bool true)], args := [d] }
  | _ => none }
def postOpensRow : OpenClaim := { program := "ytboohfijacjhjaa", sum := "ada18cb79033034883a1bfc37460ec42549e032ffed8f4868a1ed71a9c5f2671", func := "pontoon/pontoonlaw20.PostOpens", spec := "postOpens", inPlace := ["slices.overlaps[pontoon/post.Item]", "internal/abi.NoEscape"], apart := false }
def PostOpensSaid : Prop := postOpensRow.holds Try.pinned (OpenSpec.ofChange postOpensSpec)

/-- ITS FALSE NEIGHBOUR: 'it returns false'. Refute it at one input. -/
def postOpensWrong : ChangeSpec := { name := "postOpens", fn := fun _ => fun
  | [d] => { results := [.lit (.bool false)], args := [d] }
  | _ => none }
def PostOpensWrongFalsely : Prop := postOpensRow.holds Try.pinned (OpenSpec.ofChange postOpensWrong)

/-- 'pontoonlaw20.PostBack': WHATEVER THE INPUT: true; the input reads as it did. -/
def postBackSpec : ChangeSpec := { name := "postBack", fn := fun _ => fun
  | [d1, d2, d3] => { results := [.lit (.bool true)], args := [d1, d2, d3] }
  | _ => none }
def postBackRow : OpenClaim := { program := "ytboohfijacjhjaa", sum := "ada18cb79033034883a1bfc37460ec42549e032ffed8f4868a1ed71a9c5f2671", func := "pontoon/pontoonlaw20.PostBack", spec := "postBack", inPlace := ["slices.overlaps[pontoon/post.Item]", "internal/abi.NoEscape"], apart := false }
def PostBackSaid : Prop := postBackRow.holds Try.pinned (OpenSpec.ofChange postBackSpec)

/-- ITS FALSE NEIGHBOUR: 'it returns false'. Refute it at one input. -/
def postBackWrong : ChangeSpec := { name := "postBack", fn := fun _ => fun
  | [d1, d2, d3] => { results := [.lit (.bool false)], args := [d1, d2, d3] }
  | _ => none }
def PostBackWrongFalsely : Prop := postBackRow.holds Try.pinned (OpenSpec.ofChange postBackWrong)

/- THE SECOND FORM. 'bulk': how many values and letters a reading holds, each counted each time it is reached (what is shared counts as often as it is met; a slice's spare places count too). A statement '..UptoSaid' is the law's where the arguments, and the package variables that the reading takes, are together of bulk at most 1048576: NARROWER than '..Said'. Prove '..Said' where nothing that the law and all that it calls make is longer than what came in: it says more and counts as full. Else prove '..UptoSaid'. A law counts once. -/
mutual
def uptoBulk {H : Type} : DataW H → Nat
  | .lit (.string bytes) => bytes.length + 1
  | .lit _ => 1
  | .nil => 1
  | .ptr d => uptoBulk d + 1
  | .slice elems spare => uptoBulkAll elems + uptoBulkAll spare + 1
  | .agg parts => uptoBulkAll parts + 1
  | .iface _ d => uptoBulk d + 1
  | .map entries => uptoBulkEntries entries + 1
  | .held _ => 1
def uptoBulkAll {H : Type} : List (DataW H) → Nat
  | [] => 0
  | d :: r => uptoBulk d + uptoBulkAll r
def uptoBulkEntries {H : Type} : List (Lit × DataW H) → Nat
  | [] => 0
  | x :: r => uptoBulkEntry x + uptoBulkEntries r
def uptoBulkEntry {H : Type} : Lit × DataW H → Nat
  | (.string bytes, d) => bytes.length + uptoBulk d + 1
  | (_, d) => uptoBulk d + 1
 end
def uptoSmall : (H : Type) → List (DataW H) → Bool := fun _ ds => decide (uptoBulkAll ds ≤ 1048576)
def OpenSpec.upto (s : _root_.Go.ChangeSpec) : _root_.Go.OpenSpec := { _root_.Go.OpenSpec.ofChange s with cond := some uptoSmall }

/-- 'pontoonlaw20.PostDoes', WHERE WHAT IT READS IS OF BULK AT MOST 1048576: true; the input reads as it did. -/
def postDoesUptoRow : OpenClaim := { program := "ytboohfijacjhjaa", sum := "ada18cb79033034883a1bfc37460ec42549e032ffed8f4868a1ed71a9c5f2671", func := "pontoon/pontoonlaw20.PostDoes", spec := "postDoes", inPlace := ["slices.overlaps[pontoon/post.Item]", "internal/abi.NoEscape"], apart := false, narrowed := true }
def PostDoesUptoSaid : Prop := postDoesUptoRow.holds Try.pinned (OpenSpec.upto postDoesSpec)

/-- 'pontoonlaw20.PostOpens', WHERE WHAT IT READS IS OF BULK AT MOST 1048576: true; the input reads as it did. -/
def postOpensUptoRow : OpenClaim := { program := "ytboohfijacjhjaa", sum := "ada18cb79033034883a1bfc37460ec42549e032ffed8f4868a1ed71a9c5f2671", func := "pontoon/pontoonlaw20.PostOpens", spec := "postOpens", inPlace := ["slices.overlaps[pontoon/post.Item]", "internal/abi.NoEscape"], apart := false, narrowed := true }
def PostOpensUptoSaid : Prop := postOpensUptoRow.holds Try.pinned (OpenSpec.upto postOpensSpec)

/-- 'pontoonlaw20.PostBack', WHERE WHAT IT READS IS OF BULK AT MOST 1048576: true; the input reads as it did. -/
def postBackUptoRow : OpenClaim := { program := "ytboohfijacjhjaa", sum := "ada18cb79033034883a1bfc37460ec42549e032ffed8f4868a1ed71a9c5f2671", func := "pontoon/pontoonlaw20.PostBack", spec := "postBack", inPlace := ["slices.overlaps[pontoon/post.Item]", "internal/abi.NoEscape"], apart := false, narrowed := true }
def PostBackUptoSaid : Prop := postBackUptoRow.holds Try.pinned (OpenSpec.upto postBackSpec)

end Rows
end Go.Proofs.Ytboohfijacjhjaa
