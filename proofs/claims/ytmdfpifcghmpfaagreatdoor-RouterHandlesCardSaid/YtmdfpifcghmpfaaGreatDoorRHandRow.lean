/- The statement 'Rows.RouterHandlesCardSaid': whatever its arguments, the law 'RouterHandles' returns true and leaves all memory as it was; the package variables that the row lists hold what the program's text lays. No condition beside. -/
import Derived.Test.YtmdfpifcghmpfaaGreatDoorH3
import Derived.Test.YtmdfpifcghmpfaaGreatDoorAbZ
import Derived.Test.YtmdfpifcghmpfaaGreatDoorCards
import Derived.Test.YtmdfpifcghmpfaaGreatDoorTie
import Derived.WalkKit
import Derived.ProofKit
import Derived.OpenShut
import Derived.Deep.DeepHandedRow
import Derived.Lib.LaidU8T

namespace Go.Proofs.YtmdfpifcghmpfaaGreatDoor.routerHandles
open Go.ChangeShapes Go.WideShapes Go.ChangeAt Go.RowKit Go.Ab
set_option linter.unusedVariables false

theorem own : ownKnob Tryz.prog.godebug = none := by kernel_rfl

mutual
/-- The cells of data that hold no place. -/
def cellsOf : DataW Unit → List Value
  | .lit (.int k n) => [.int k n]
  | .lit (.bool b) => [.bool b]
  | .lit (.string l) => [.string ⟨(l.map fun n => UInt8.ofNat n.toNat).toArray⟩]
  | .agg l => cellsOfs l
  | _ => []
def cellsOfs : List (DataW Unit) → List Value
  | [] => []
  | x :: l => cellsOf x ++ cellsOfs l
end

def witV : Array Value := #[.agg #[.slice none 0 0, .slice none 0 0], .int .u32 0, .string ⟨#[]⟩, .agg #[.int .u32 0, .int .u32 0, .int .u32 0, .string ⟨#[]⟩, .string ⟨#[]⟩, .string ⟨#[]⟩]]
def witD (H : Type) : List (DataW H) := [.agg [.nil, .nil], .lit (.int .u32 0), .lit (.string []), .agg [.lit (.int .u32 0), .lit (.int .u32 0), .lit (.int .u32 0), .lit (.string []), .lit (.string []), .lit (.string [])]]
/-- A world in which each listed variable holds what its text lays. -/
noncomputable def laidWorld (os : Os) : World :=
  Rows.routerHandlesRow.laid.foldl (fun w x => match Tryz.prog.globalNamed x.1 with
    | some g => { w with heap := w.heap.modify g fun
        | .cells _ t frozen => .cells (cellsOf x.2).toArray t frozen
        | o => o }
    | none => w) (World.holding Tryz.prog os ⟨#[], #[], []⟩)

theorem laid_met (os : Os) : laidMet Tryz.prog Rows.routerHandlesRow.laid ((laidWorld os).forCall (fun _ _ => 0) ⟨#[], witV, []⟩).memory :=
  laidMet_of_run' 8 (by kernel_rfl) (by kernel_rfl)
theorem reads (os : Os) {H : Type} (enc : TypeId × Value → H) : ∃ places, DataW.whole enc Tryz.prog ((laidWorld os).forCall (fun _ _ => 0) ⟨#[], witV, []⟩).memory Tryz.f3.params.toList Rows.routerHandlesSpec.vars false witV.toList 8 = some (witD H, [], places) :=
  ⟨[], by kernel_rfl⟩

set_option maxRecDepth 100000 in
theorem contract (H : Type) (enc : TypeId × Value → H) (W : World) (base : Nat) (args : Array Value) (ds gs : List (DataW H)) (before : List MemPlace) (hT : Lib.Utf8Tabs 0 1 W)
    (hval : ∀ (j : Nat) t v, Tryz.f3.params[j]? = some t → args[j]? = some v → Value.okWide Tryz.prog W .any base t v)
    (hW : DataW.Whole enc Tryz.prog Tryz.f3.params.toList Rows.routerHandlesSpec.vars false W args.toList ds gs before) :
    Calls Tryz.prog 3 args W fun e W' => ∃ v, e = .returned v ∧ Rows.routerHandlesSpec.post enc Tryz.prog Tryz.f3 false true false false W args v W' := by
  have hW' := hW
  obtain ⟨p, q, hA, hV, rfl, hfz, hnd⟩ := hW
  obtain ⟨rfl, rfl⟩ := trodVars_none hV
  obtain ⟨ys, hy, hv⟩ := Ty.args (c := cx) cx_ok (l := [tyPu, .int .u32, .str, tyLt]) (ts := Tryz.f3.params.toList) (by kernel_rfl) (fun j t v h1 h2 => hval j t v (by simpa using h1) (by simpa using h2)) hA
  have hn : ds.length = 4 := (trodAll_length hA).trans (by kernel_rfl)
  refine (law_calls (c := cx) (vs := args.toList) Tryz.func3 (by kernel_rfl) (by kernel_rfl) (gl_reads hT (fun h => by cases h)) (routerHandles_c ys hy) hv).mono fun e W' ⟨he, hg⟩ => ?_
  refine ⟨_, he, law_post (tb := 4) hW' hg laid (by kernel_rfl) rfl (by kernel_rfl) Tryz.underlying4 ?_⟩
  match ds, hn with
  | [d0, d1, d2, d3], _ => rfl

set_option maxRecDepth 100000 in
theorem lifted (os : Os) (started : os.Started) (H : Type) (enc : TypeId × Value → H) (F : Stop.Interp) :
    ReturnsInHanded {} Tryz.checked os 3 .any ((OpenSpec.ofChange Rows.routerHandlesSpec).preRow enc Tryz.prog Tryz.f3 Rows.routerHandlesRow.domain false Rows.routerHandlesRow.laid) (((OpenSpec.ofChange Rows.routerHandlesSpec).at F).post enc Tryz.prog Tryz.f3 false true false false) := by
  obtain ⟨places, hx⟩ := reads os enc
  refine returnsInHanded_of_row (C := Tryz.checked) (s := OpenSpec.ofChange Rows.routerHandlesSpec) own started (by kernel_rfl) Tryz.func3
    (witness_row_at (enc := enc) (C := Tryz.checked) false (laidWorld os) witV rfl (by kernel_rfl) (by kernel_rfl) (by kernel_rfl)
      (OpenSpec.preRow_of_cond 8 hx (by kernel_rfl) (fun k hk => by cases hk) (by kernel_rfl) (laid_met os))) ?_
  intro W base args ds gs before hval hW _ _ _ hL _ _
  have hT : Lib.Utf8Tabs 0 1 W := utf8Tabs_of_readsT (ρ := Tryz.lays197_ren) (U8Types.of260 { Tryz.lays197 with }) ⟨by kernel_rfl, by kernel_rfl, by kernel_rfl, by kernel_rfl, by kernel_rfl, by kernel_rfl, by kernel_rfl⟩ (Lib.laidMet.reads hL (.tail _ (.head _))) (Lib.laidMet.reads hL (.head _))
  exact contract H enc W base args ds gs before hT hval hW

theorem said : Rows.RouterHandlesSaid :=
  OpenClaim.holds_of_cond 3 Tryz.f3 rfl rfl rfl rfl rfl rfl rfl ⟨rfl, rfl, rfl, rfl, rfl⟩ rfl rfl rfl rfl rfl (by kernel_rfl) Tryz.func3 (by kernel_rfl)
    (of_decide_eq_true (by kernel_rfl)) (by unfold Func.isWrapper; first | (rw [if_pos (by decide +kernel)]; kernel_rfl) | (rw [if_neg (by decide +kernel)]; exact ⟨rfl, rfl⟩))
    (fun os started H enc _ F => by rw [OpenClaim.pre_eq_preRow]; exact lifted os started H enc F)

theorem plain (f : FuncId) (fn : Func) (hf : Tryz.pinned.checked.prog.funcNamed "pontoon/pontoonlaw18.RouterHandles" = some f) (hfn : Tryz.pinned.checked.prog.funcs[f]? = some fn) :
    true = Tryz.pinned.checked.prog.looks [] ∧ ∀ (j : Nat) t, fn.params[j]? = some t → Tryz.pinned.checked.prog.wantsStandIn t = false := by
  obtain rfl : f = 3 := Option.some.inj ((show Tryz.prog.funcNamed "pontoon/pontoonlaw18.RouterHandles" = some 3 by kernel_rfl).symm.trans hf) |>.symm
  obtain rfl : fn = Tryz.f3 := (Option.some.inj (Tryz.func3.symm.trans hfn)).symm
  refine ⟨by kernel_rfl, fun j t ht => ?_⟩
  have h : (Tryz.f3.params.toList.all fun t => !Tryz.prog.wantsStandIn t) = true := by kernel_rfl
  have := List.all_eq_true.1 h t (by simpa using Array.mem_of_getElem? ht)
  exact (by simpa using this : Tryz.prog.wantsStandIn t = false)

/-- The card. -/
theorem proved : Rows.RouterHandlesCardSaid :=
  Claim7.holds_tied_plain_at .later [] _ _ _ _ said (fun _ h => by cases h) (by kernel_rfl) (fun _ h => by cases h) routerHandles_row_tie rfl ⟨rfl, rfl⟩ (by kernel_rfl) rfl plain (by kernel_rfl)
#print axioms proved
end Go.Proofs.YtmdfpifcghmpfaaGreatDoor.routerHandles
