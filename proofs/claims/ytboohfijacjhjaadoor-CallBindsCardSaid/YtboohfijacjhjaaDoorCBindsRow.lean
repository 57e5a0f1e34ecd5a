/- The statement 'Rows.CallBindsCardSaid': whatever its arguments, the law 'CallBinds' returns true and leaves all memory as it was; the package variables that the row lists hold what the program's text lays. No condition beside. -/
import Derived.Test.YtboohfijacjhjaaDoorLD
import Derived.Test.YtboohfijacjhjaaDoorAbZ
import Derived.Test.YtboohfijacjhjaaDoorCards
import Derived.Test.YtboohfijacjhjaaDoorTie
import Derived.WalkKit
import Derived.ProofKit
import Derived.OpenShut
import Derived.Deep.DeepHandedRow
import Derived.Lib.LaidU8T
import Derived.Test.YtboohfijacjhjaaDoorLdH
namespace Go.Proofs.YtboohfijacjhjaaDoor.callBinds
open Go.ChangeShapes Go.WideShapes Go.ChangeAt Go.RowKit Go.Ab
set_option linter.unusedVariables false

theorem own : ownKnob Tryd.prog.godebug = none := by kernel_rfl

mutual
/-- The cells of data that hold no place. -/
def cellsOf : DataW Unit → List Value
  | .lit (.int k n) => [.int k n]
  | .lit (.bool b) => [.bool b]
  | .lit (.string l) => [.string ⟨(l.map fun n => UInt8.ofNat n.toNat).toArray⟩]
  | .agg l => cellsOfs l
  | _ => []
def cellsOfs : List (DataW Unit) → List Value
  | [] => []
  | x :: l => cellsOf x ++ cellsOfs l
end

def witV : Array Value := #[.agg (#[.int .i64 0, .string ⟨#[]⟩, .string ⟨#[]⟩, .string ⟨#[]⟩, .int .u32 0, .int .u64 0, .int .u64 0, .int .i64 0, .slice none 0 0, .slice none 0 0, .slice none 0 0] ++ (#[.int .u32 0] ++ Array.replicate 32 (.int .u8 0) ++ Array.replicate 32 (.int .u8 0) ++ #[.int .i64 0, .slice none 0 0, .slice none 0 0, .slice none 0 0]) ++ (#[.int .u32 0] ++ Array.replicate 32 (.int .u8 0) ++ Array.replicate 32 (.int .u8 0) ++ #[.int .i64 0, .slice none 0 0, .slice none 0 0, .slice none 0 0]) ++ (#[.int .u32 0] ++ Array.replicate 32 (.int .u8 0) ++ #[.int .i64 0, .int .i64 0, .slice none 0 0, .slice none 0 0, .slice none 0 0]) ++ Array.replicate 32 (.int .u8 0) ++ #[.int .u32 0, .slice none 0 0, .int .u32 0, .int .u32 0, .int .u32 0, .string ⟨#[]⟩, .string ⟨#[]⟩, .string ⟨#[]⟩]), .agg (#[.int .i64 0, .string ⟨#[]⟩, .string ⟨#[]⟩, .string ⟨#[]⟩, .int .u32 0, .int .u64 0, .int .u64 0, .int .i64 0, .slice none 0 0, .slice none 0 0, .slice none 0 0] ++ (#[.int .u32 0] ++ Array.replicate 32 (.int .u8 0) ++ Array.replicate 32 (.int .u8 0) ++ #[.int .i64 0, .slice none 0 0, .slice none 0 0, .slice none 0 0]) ++ (#[.int .u32 0] ++ Array.replicate 32 (.int .u8 0) ++ Array.replicate 32 (.int .u8 0) ++ #[.int .i64 0, .slice none 0 0, .slice none 0 0, .slice none 0 0]) ++ (#[.int .u32 0] ++ Array.replicate 32 (.int .u8 0) ++ #[.int .i64 0, .int .i64 0, .slice none 0 0, .slice none 0 0, .slice none 0 0]) ++ Array.replicate 32 (.int .u8 0) ++ #[.int .u32 0, .slice none 0 0, .int .u32 0, .int .u32 0, .int .u32 0, .string ⟨#[]⟩, .string ⟨#[]⟩, .string ⟨#[]⟩]), .int .u32 0, .int .u32 0]
def witD (H : Type) : List (DataW H) := [.agg [.lit (.int .i64 0), .lit (.string []), .lit (.string []), .lit (.string []), .lit (.int .u32 0), .lit (.int .u64 0), .lit (.int .u64 0), .agg [.lit (.int .i64 0), .nil, .nil, .nil], .agg [.lit (.int .u32 0), .agg (List.replicate 32 (.lit (.int .u8 0))), .agg (List.replicate 32 (.lit (.int .u8 0))), .agg [.lit (.int .i64 0), .nil, .nil, .nil]], .agg [.lit (.int .u32 0), .agg (List.replicate 32 (.lit (.int .u8 0))), .agg (List.replicate 32 (.lit (.int .u8 0))), .agg [.lit (.int .i64 0), .nil, .nil, .nil]], .agg [.lit (.int .u32 0), .agg (List.replicate 32 (.lit (.int .u8 0))), .lit (.int .i64 0), .agg [.lit (.int .i64 0), .nil, .nil, .nil]], .agg (List.replicate 32 (.lit (.int .u8 0))), .lit (.int .u32 0), .nil, .agg [.lit (.int .u32 0), .lit (.int .u32 0), .lit (.int .u32 0), .lit (.string []), .lit (.string []), .lit (.string [])]], .agg [.lit (.int .i64 0), .lit (.string []), .lit (.string []), .lit (.string []), .lit (.int .u32 0), .lit (.int .u64 0), .lit (.int .u64 0), .agg [.lit (.int .i64 0), .nil, .nil, .nil], .agg [.lit (.int .u32 0), .agg (List.replicate 32 (.lit (.int .u8 0))), .agg (List.replicate 32 (.lit (.int .u8 0))), .agg [.lit (.int .i64 0), .nil, .nil, .nil]], .agg [.lit (.int .u32 0), .agg (List.replicate 32 (.lit (.int .u8 0))), .agg (List.replicate 32 (.lit (.int .u8 0))), .agg [.lit (.int .i64 0), .nil, .nil, .nil]], .agg [.lit (.int .u32 0), .agg (List.replicate 32 (.lit (.int .u8 0))), .lit (.int .i64 0), .agg [.lit (.int .i64 0), .nil, .nil, .nil]], .agg (List.replicate 32 (.lit (.int .u8 0))), .lit (.int .u32 0), .nil, .agg [.lit (.int .u32 0), .lit (.int .u32 0), .lit (.int .u32 0), .lit (.string []), .lit (.string []), .lit (.string [])]], .lit (.int .u32 0), .lit (.int .u32 0)]
/-- A world in which each listed variable holds what its text lays. -/
noncomputable def laidWorld (os : Os) : World :=
  Rows.callBindsRow.laid.foldl (fun w x => match Tryd.prog.globalNamed x.1 with
    | some g => { w with heap := w.heap.modify g fun
        | .cells _ t frozen => .cells (cellsOf x.2).toArray t frozen
        | o => o }
    | none => w) (World.holding Tryd.prog os ⟨#[], #[], []⟩)

theorem laid_met (os : Os) : laidMet Tryd.prog Rows.callBindsRow.laid ((laidWorld os).forCall (fun _ _ => 0) ⟨#[], witV, []⟩).memory :=
  laidMet_of_run' 8 (by kernel_rfl) (by kernel_rfl)
theorem reads (os : Os) {H : Type} (enc : TypeId × Value → H) : ∃ places, DataW.whole enc Tryd.prog ((laidWorld os).forCall (fun _ _ => 0) ⟨#[], witV, []⟩).memory Tryd.f10.params.toList Rows.callBindsSpec.vars false witV.toList 8 = some (witD H, [], places) :=
  ⟨[], by kernel_rfl⟩

set_option maxRecDepth 100000 in
theorem contract (H : Type) (enc : TypeId × Value → H) (W : World) (base : Nat) (args : Array Value) (ds gs : List (DataW H)) (before : List MemPlace) (hT : ∀ j v, (wgL.map fun z => Value.int .u64 z)[j]? = some v → W.cell? ⟨0, j, none⟩ = some v) (hT2 : ∀ j v, (fiL.map fun z => Value.int .u32 z)[j]? = some v → W.cell? ⟨2, j, none⟩ = some v) (hT3 : ∀ j v, (coL.map fun z => Value.int .u32 z)[j]? = some v → W.cell? ⟨5, j, none⟩ = some v)
    (hval : ∀ (j : Nat) t v, Tryd.f10.params[j]? = some t → args[j]? = some v → Value.okWide Tryd.prog W .any base t v)
    (hW : DataW.Whole enc Tryd.prog Tryd.f10.params.toList Rows.callBindsSpec.vars false W args.toList ds gs before) :
    Calls Tryd.prog 10 args W fun e W' => ∃ v, e = .returned v ∧ Rows.callBindsSpec.post enc Tryd.prog Tryd.f10 false true false false W args v W' := by
  have hW' := hW
  obtain ⟨p, q, hA, hV, rfl, hfz, hnd⟩ := hW
  obtain ⟨rfl, rfl⟩ := trodVars_none hV
  obtain ⟨ys, hy, hv⟩ := Ty.args (c := cx) cx_ok (l := [tyAn, tyAn, .int .u32, .int .u32]) (ts := Tryd.f10.params.toList) (by kernel_rfl) (fun j t v h1 h2 => hval j t v (by simpa using h1) (by simpa using h2)) hA
  have hn : ds.length = 4 := (trodAll_length hA).trans (by kernel_rfl)
  refine (law_calls (c := cx) (vs := args.toList) Tryd.func10 (by kernel_rfl) (by kernel_rfl) (glw_reads hT hT2 hT3) (callBinds_c ys hy) hv).mono fun e W' ⟨he, hg⟩ => ?_
  refine ⟨_, he, law_post (tb := 4) hW' hg laid (by kernel_rfl) rfl (by kernel_rfl) Tryd.underlying4 ?_⟩
  match ds, hn with
  | [d0, d1, d2, d3], _ => rfl

set_option maxRecDepth 100000 in
theorem lifted (os : Os) (started : os.Started) (H : Type) (enc : TypeId × Value → H) (F : Stop.Interp) :
    ReturnsInHanded {} Tryd.checked os 10 .any ((OpenSpec.ofChange Rows.callBindsSpec).preRow enc Tryd.prog Tryd.f10 Rows.callBindsRow.domain false Rows.callBindsRow.laid) (((OpenSpec.ofChange Rows.callBindsSpec).at F).post enc Tryd.prog Tryd.f10 false true false false) := by
  obtain ⟨places, hx⟩ := reads os enc
  refine returnsInHanded_of_row (C := Tryd.checked) (s := OpenSpec.ofChange Rows.callBindsSpec) own started (by kernel_rfl) Tryd.func10
    (witness_row_at (enc := enc) (C := Tryd.checked) false (laidWorld os) witV rfl (by kernel_rfl) (by kernel_rfl) (by kernel_rfl)
      (OpenSpec.preRow_of_cond 8 hx (by kernel_rfl) (fun k hk => by cases hk) (by kernel_rfl) (laid_met os))) ?_
  intro W base args ds gs before hval hW _ _ _ hL _ _
  have hT := w_reads (Lib.laidMet.reads hL (.tail _ (.tail _ (.head _))))
  have hT2 := f_reads (Lib.laidMet.reads hL (.head _))
  have hT3 := c_reads (Lib.laidMet.reads hL (.tail _ (.head _)))
  exact contract H enc W base args ds gs before hT hT2 hT3 hval hW

theorem said : Rows.CallBindsSaid :=
  OpenClaim.holds_of_cond 10 Tryd.f10 rfl rfl rfl rfl rfl rfl rfl ⟨rfl, rfl, rfl, rfl, rfl⟩ rfl rfl rfl rfl rfl (by kernel_rfl) Tryd.func10 (by kernel_rfl)
    (of_decide_eq_true (by kernel_rfl)) (by unfold Func.isWrapper; first | (rw [if_pos (by decide +kernel)]; kernel_rfl) | (rw [if_neg (by decide +kernel)]; exact ⟨rfl, rfl⟩))
    (fun os started H enc _ F => by rw [OpenClaim.pre_eq_preRow]; exact lifted os started H enc F)

theorem plain (f : FuncId) (fn : Func) (hf : Tryd.pinned.checked.prog.funcNamed "pontoon/pontoonlaw12.CallBinds" = some f) (hfn : Tryd.pinned.checked.prog.funcs[f]? = some fn) :
    true = Tryd.pinned.checked.prog.looks [] ∧ ∀ (j : Nat) t, fn.params[j]? = some t → Tryd.pinned.checked.prog.wantsStandIn t = false := by
  obtain rfl : f = 10 := Option.some.inj ((show Tryd.prog.funcNamed "pontoon/pontoonlaw12.CallBinds" = some 10 by kernel_rfl).symm.trans hf) |>.symm
  obtain rfl : fn = Tryd.f10 := (Option.some.inj (Tryd.func10.symm.trans hfn)).symm
  refine ⟨by kernel_rfl, fun j t ht => ?_⟩
  have h : (Tryd.f10.params.toList.all fun t => !Tryd.prog.wantsStandIn t) = true := by kernel_rfl
  have := List.all_eq_true.1 h t (by simpa using Array.mem_of_getElem? ht)
  exact (by simpa using this : Tryd.prog.wantsStandIn t = false)

/-- The card. -/
theorem proved : Rows.CallBindsCardSaid :=
  Claim7.holds_tied_plain_at .later [] _ _ _ _ said (fun _ h => by cases h) (by kernel_rfl) (fun _ h => by cases h) callBinds_row_tie rfl ⟨rfl, rfl⟩ (by kernel_rfl) rfl plain (by kernel_rfl)
#print axioms proved
end Go.Proofs.YtboohfijacjhjaaDoor.callBinds

