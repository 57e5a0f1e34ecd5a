/- The statement 'Rows.PostDoesSaid': whatever its arguments, the law 'PostDoes' returns true and leaves all memory as it was. No condition. -/
import Derived.Test.YtboohfijacjhjaaPJ
import Derived.Test.YtboohfijacjhjaaAbZ
import Derived.Test.YtboohfijacjhjaaRows
import Derived.WalkKit
import Derived.ProofKit
import Derived.OpenShut
namespace Go.Proofs.Ytboohfijacjhjaa.postDoes
open Go.ChangeShapes Go.WideShapes Go.ChangeAt Go.RowKit Go.Ab
set_option linter.unusedVariables false

theorem own : ownKnob Try.prog.godebug = none := by kernel_rfl

set_option maxRecDepth 100000 in
theorem lifted (os : Os) (started : os.Started) (H : Type) (enc : TypeId × Value → H) :
    ReturnsInHanded {} Try.checked os 3 .any (Rows.postDoesSpec.pre6 enc Try.prog Try.f3 Rows.postDoesRow.domain false) (Rows.postDoesSpec.post enc Try.prog Try.f3 false true false false) := by
  refine returnsInHanded_of_change (C := Try.checked) own started (by kernel_rfl) Try.func3
    (ChangeSpec.witness6 (enc := enc) (C := Try.checked) false ⟨#[], #[.agg #[.slice none 0 0], .int .u32 0, .agg (#[.int .i64 0, .string ⟨#[]⟩, .string ⟨#[]⟩, .string ⟨#[]⟩, .int .u32 0, .int .u64 0, .int .u64 0, .int .i64 0, .slice none 0 0, .slice none 0 0, .slice none 0 0] ++ (#[.int .u32 0] ++ Array.replicate 32 (.int .u8 0) ++ Array.replicate 32 (.int .u8 0) ++ #[.int .i64 0, .slice none 0 0, .slice none 0 0, .slice none 0 0]) ++ (#[.int .u32 0] ++ Array.replicate 32 (.int .u8 0) ++ Array.replicate 32 (.int .u8 0) ++ #[.int .i64 0, .slice none 0 0, .slice none 0 0, .slice none 0 0]) ++ (#[.int .u32 0] ++ Array.replicate 32 (.int .u8 0) ++ #[.int .i64 0, .int .i64 0, .slice none 0 0, .slice none 0 0, .slice none 0 0]) ++ Array.replicate 32 (.int .u8 0) ++ #[.int .u32 0, .slice none 0 0, .int .u32 0, .int .u32 0, .int .u32 0, .string ⟨#[]⟩, .string ⟨#[]⟩, .string ⟨#[]⟩]), .int .i64 0, .int .i64 0], []⟩ 8 (by kernel_rfl) (by kernel_rfl) (by kernel_rfl) (by kernel_rfl)) ?_
  intro W base args ds gs before hval hW hcnd _
  have hW' := hW
  obtain ⟨p, q, hA, hV, rfl, hfz, hnd⟩ := hW
  obtain ⟨rfl, rfl⟩ := trodVars_none hV
  obtain ⟨ys, hy, hv⟩ := Ty.args (c := cx) cx_ok (l := [tyPo, .int .u32, tyAn, .int .i64, .int .i64]) (ts := Try.f3.params.toList) (by kernel_rfl) (fun j t v h1 h2 => hval j t v (by simpa using h1) (by simpa using h2)) hA
  have hn : ds.length = 5 := (trodAll_length hA).trans (by kernel_rfl)
  refine (law_calls (c := cx) (vs := args.toList) Try.func3 (by kernel_rfl) (by kernel_rfl) (fun _ _ h => by cases h) (postDoes_c ys hy) hv).mono fun e W' ⟨he, hg⟩ => ?_
  refine ⟨_, he, law_post (tb := 4) hW' hg laid (by kernel_rfl) rfl (by kernel_rfl) Try.underlying4 ?_⟩
  match ds, hn with
  | [d0, d1, d2, d3, d4], _ => rfl

theorem over : Rows.postDoesRow.holds Try.pinned (OpenSpec.ofChange Rows.postDoesSpec) :=
  OpenClaim.holds_of_wide 3 Try.f3 rfl rfl rfl rfl rfl rfl rfl ⟨rfl, rfl, rfl, rfl, rfl⟩ rfl rfl rfl rfl rfl (by kernel_rfl) Try.func3 (by kernel_rfl)
    (of_decide_eq_true (by kernel_rfl)) (by unfold Func.isWrapper; first | (rw [if_pos (by decide +kernel)]; kernel_rfl) | (rw [if_neg (by decide +kernel)]; exact ⟨rfl, rfl⟩))
    (fun os started H enc _ => lifted os started H enc)

theorem proved : Rows.PostDoesSaid :=
  over
#print axioms proved
end Go.Proofs.Ytboohfijacjhjaa.postDoes
