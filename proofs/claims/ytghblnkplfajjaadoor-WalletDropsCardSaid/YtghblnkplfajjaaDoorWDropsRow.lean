/- The statement 'Rows.WalletDropsCardSaid': whatever its arguments, the law 'WalletDrops' returns true and leaves all memory as it was; the package variables that the row lists hold what the program's text lays. No condition beside. -/
import Derived.Test.YtghblnkplfajjaaDoorWN
import Derived.Test.YtghblnkplfajjaaDoorAbZ
import Derived.Test.YtghblnkplfajjaaDoorCards
import Derived.Test.YtghblnkplfajjaaDoorTie
import Derived.WalkKit
import Derived.ProofKit
import Derived.OpenShut
import Derived.Deep.DeepHandedRow
import Derived.Lib.LaidU8T
import Derived.Test.YtghblnkplfajjaaDoorLdW


namespace Go.Proofs.YtghblnkplfajjaaDoor.walletDrops
open Go.ChangeShapes Go.WideShapes Go.ChangeAt Go.RowKit Go.Ab
set_option linter.unusedVariables false

theorem own : ownKnob Tryd.prog.godebug = none := by kernel_rfl

mutual
/-- The cells of data that hold no place. -/
def cellsOf : DataW Unit → List Value
  | .lit (.int k n) => [.int k n]
  | .lit (.bool b) => [.bool b]
  | .lit (.string l) => [.string ⟨(l.map fun n => UInt8.ofNat n.toNat).toArray⟩]
  | .agg l => cellsOfs l
  | _ => []
def cellsOfs : List (DataW Unit) → List Value
  | [] => []
  | x :: l => cellsOf x ++ cellsOfs l
end

def witV : Array Value := #[.agg (Array.replicate 32 (.int .u8 0)), .int .u64 0, .int .u64 0]
def witD (H : Type) : List (DataW H) := [.agg (List.replicate 32 (.lit (.int .u8 0))), .lit (.int .u64 0), .lit (.int .u64 0)]
/-- A world in which each listed variable holds what its text lays. -/
noncomputable def laidWorld (os : Os) : World :=
  Rows.walletDropsRow.laid.foldl (fun w x => match Tryd.prog.globalNamed x.1 with
    | some g => { w with heap := w.heap.modify g fun
        | .cells _ t frozen => .cells (cellsOf x.2).toArray t frozen
        | o => o }
    | none => w) (World.holding Tryd.prog os ⟨#[], #[], []⟩)

theorem laid_met (os : Os) : laidMet Tryd.prog Rows.walletDropsRow.laid ((laidWorld os).forCall (fun _ _ => 0) ⟨#[], witV, []⟩).memory :=
  laidMet_of_run' 8 (by kernel_rfl) (by kernel_rfl)
theorem reads (os : Os) {H : Type} (enc : TypeId × Value → H) : ∃ places, DataW.whole enc Tryd.prog ((laidWorld os).forCall (fun _ _ => 0) ⟨#[], witV, []⟩).memory Tryd.f3.params.toList Rows.walletDropsSpec.vars false witV.toList 8 = some (witD H, [], places) :=
  ⟨[], by kernel_rfl⟩

set_option maxRecDepth 100000 in
theorem contract (H : Type) (enc : TypeId × Value → H) (W : World) (base : Nat) (args : Array Value) (ds gs : List (DataW H)) (before : List MemPlace) (hT2 : ∀ j v, (fiL.map fun z => Value.int .u32 z)[j]? = some v → W.cell? ⟨0, j, none⟩ = some v) (hT3 : ∀ j v, (coL.map fun z => Value.int .u32 z)[j]? = some v → W.cell? ⟨1, j, none⟩ = some v)
    (hval : ∀ (j : Nat) t v, Tryd.f3.params[j]? = some t → args[j]? = some v → Value.okWide Tryd.prog W .any base t v)
    (hW : DataW.Whole enc Tryd.prog Tryd.f3.params.toList Rows.walletDropsSpec.vars false W args.toList ds gs before) :
    Calls Tryd.prog 3 args W fun e W' => ∃ v, e = .returned v ∧ Rows.walletDropsSpec.post enc Tryd.prog Tryd.f3 false true false false W args v W' := by
  have hW' := hW
  obtain ⟨p, q, hA, hV, rfl, hfz, hnd⟩ := hW
  obtain ⟨rfl, rfl⟩ := trodVars_none hV
  obtain ⟨ys, hy, hv⟩ := Ty.args (c := cx) cx_ok (l := [tyDg, .int .u64, .int .u64]) (ts := Tryd.f3.params.toList) (by kernel_rfl) (fun j t v h1 h2 => hval j t v (by simpa using h1) (by simpa using h2)) hA
  have hn : ds.length = 3 := (trodAll_length hA).trans (by kernel_rfl)
  refine (law_calls (c := cx) (vs := args.toList) Tryd.func3 (by kernel_rfl) (by kernel_rfl) (glw_reads hT2 hT3) (walletDrops_c ys hy) hv).mono fun e W' ⟨he, hg⟩ => ?_
  refine ⟨_, he, law_post (tb := 4) hW' hg laid (by kernel_rfl) rfl (by kernel_rfl) Tryd.underlying4 ?_⟩
  match ds, hn with
  | [d0, d1, d2], _ => rfl

set_option maxRecDepth 100000 in
theorem lifted (os : Os) (started : os.Started) (H : Type) (enc : TypeId × Value → H) (F : Stop.Interp) :
    ReturnsInHanded {} Tryd.checked os 3 .any ((OpenSpec.ofChange Rows.walletDropsSpec).preRow enc Tryd.prog Tryd.f3 Rows.walletDropsRow.domain false Rows.walletDropsRow.laid) (((OpenSpec.ofChange Rows.walletDropsSpec).at F).post enc Tryd.prog Tryd.f3 false true false false) := by
  obtain ⟨places, hx⟩ := reads os enc
  refine returnsInHanded_of_row (C := Tryd.checked) (s := OpenSpec.ofChange Rows.walletDropsSpec) own started (by kernel_rfl) Tryd.func3
    (witness_row_at (enc := enc) (C := Tryd.checked) false (laidWorld os) witV rfl (by kernel_rfl) (by kernel_rfl) (by kernel_rfl)
      (OpenSpec.preRow_of_cond 8 hx (by kernel_rfl) (fun k hk => by cases hk) (by kernel_rfl) (laid_met os))) ?_
  intro W base args ds gs before hval hW _ _ _ hL _ _
  have hT2 := f_reads (Lib.laidMet.reads hL (.head _))
  have hT3 := c_reads (Lib.laidMet.reads hL (.tail _ (.head _)))
  exact contract H enc W base args ds gs before hT2 hT3 hval hW

theorem said : Rows.WalletDropsSaid :=
  OpenClaim.holds_of_cond 3 Tryd.f3 rfl rfl rfl rfl rfl rfl rfl ⟨rfl, rfl, rfl, rfl, rfl⟩ rfl rfl rfl rfl rfl (by kernel_rfl) Tryd.func3 (by kernel_rfl)
    (of_decide_eq_true (by kernel_rfl)) (by unfold Func.isWrapper; first | (rw [if_pos (by decide +kernel)]; kernel_rfl) | (rw [if_neg (by decide +kernel)]; exact ⟨rfl, rfl⟩))
    (fun os started H enc _ F => by rw [OpenClaim.pre_eq_preRow]; exact lifted os started H enc F)

theorem plain (f : FuncId) (fn : Func) (hf : Tryd.pinned.checked.prog.funcNamed "pontoon/pontoonlaw35.WalletDrops" = some f) (hfn : Tryd.pinned.checked.prog.funcs[f]? = some fn) :
    true = Tryd.pinned.checked.prog.looks [] ∧ ∀ (j : Nat) t, fn.params[j]? = some t → Tryd.pinned.checked.prog.wantsStandIn t = false := by
  obtain rfl : f = 3 := Option.some.inj ((show Tryd.prog.funcNamed "pontoon/pontoonlaw35.WalletDrops" = some 3 by kernel_rfl).symm.trans hf) |>.symm
  obtain rfl : fn = Tryd.f3 := (Option.some.inj (Tryd.func3.symm.trans hfn)).symm
  refine ⟨by kernel_rfl, fun j t ht => ?_⟩
  have h : (Tryd.f3.params.toList.all fun t => !Tryd.prog.wantsStandIn t) = true := by kernel_rfl
  have := List.all_eq_true.1 h t (by simpa using Array.mem_of_getElem? ht)
  exact (by simpa using this : Tryd.prog.wantsStandIn t = false)

/-- The card. -/
theorem proved : Rows.WalletDropsCardSaid :=
  Claim7.holds_tied_plain_at .later [] _ _ _ _ said (fun _ h => by cases h) (by kernel_rfl) (fun _ h => by cases h) walletDrops_row_tie rfl ⟨rfl, rfl⟩ (by kernel_rfl) rfl plain (by kernel_rfl)
#print axioms proved
end Go.Proofs.YtghblnkplfajjaaDoor.walletDrops

