/- The statement 'Rows.NameBackCardSaid': whatever its arguments, the law 'NameBack' returns true and leaves all memory as it was; the package variables that the row lists hold what the program's text lays. No condition beside. -/
import Derived.Test.YtefcpmnhhmpmnaaDoorED
import Derived.Test.YtefcpmnhhmpmnaaDoorAbZ
import Derived.Test.YtefcpmnhhmpmnaaDoorCards
import Derived.Test.YtefcpmnhhmpmnaaDoorTie
import Derived.WalkKit
import Derived.ProofKit
import Derived.OpenShut
import Derived.Deep.DeepHandedRow
import Derived.Lib.LaidU8T
import Derived.Test.YtefcpmnhhmpmnaaDoorLdQ
namespace Go.Proofs.YtefcpmnhhmpmnaaDoor.nameBack
open Go.ChangeShapes Go.WideShapes Go.ChangeAt Go.RowKit Go.Ab
set_option linter.unusedVariables false

theorem own : ownKnob Tryd.prog.godebug = none := by kernel_rfl

mutual
/-- The cells of data that hold no place. -/
def cellsOf : DataW Unit → List Value
  | .lit (.int k n) => [.int k n]
  | .lit (.bool b) => [.bool b]
  | .lit (.string l) => [.string ⟨(l.map fun n => UInt8.ofNat n.toNat).toArray⟩]
  | .agg l => cellsOfs l
  | _ => []
def cellsOfs : List (DataW Unit) → List Value
  | [] => []
  | x :: l => cellsOf x ++ cellsOfs l
end

/-- A world in which each listed table holds what its text lays .. -/
noncomputable def tabWorld (os : Os) : World :=
  Rows.nameBackRow.laid.foldl (fun w x => match Tryd.prog.globalNamed x.1 with
    | some g => { w with heap := w.heap.modify g fun
        | .cells _ t frozen => .cells (cellsOf x.2).toArray t frozen
        | o => o }
    | none => w) (World.holding Tryd.prog os ⟨#[], #[], []⟩)
/-- .. and the two errors are there, each in a block of its own. -/
noncomputable def laidWorld (os : Os) : World :=
  { tabWorld os with heap := (((tabWorld os).heap.modify 4 fun
        | .cells _ t frozen => .cells #[.iface 98 (.pointer (some ⟨(tabWorld os).heap.size, 0, none⟩))] t frozen
        | o => o).modify 5 fun
        | .cells _ t frozen => .cells #[.iface 98 (.pointer (some ⟨(tabWorld os).heap.size + 1, 0, none⟩))] t frozen
        | o => o) ++ #[.cells #[.string ⟨#[105, 110, 118, 97, 108, 105, 100, 32, 115, 121, 110, 116, 97, 120]⟩] 100 (0, 0), .cells #[.string ⟨#[118, 97, 108, 117, 101, 32, 111, 117, 116, 32, 111, 102, 32, 114, 97, 110, 103, 101]⟩] 100 (0, 0)] }

theorem laid_met (os : Os) : laidMet Tryd.prog Rows.nameBackRow.laid ((laidWorld os).forCall (fun _ _ => 0) ⟨#[], #[.string ⟨#[]⟩, .string ⟨#[]⟩], []⟩).memory :=
  laidMet_of_run' 8 (by kernel_rfl) (by kernel_rfl)
theorem reads (os : Os) {H : Type} (enc : TypeId × Value → H) : ∃ places, DataW.whole enc Tryd.prog ((laidWorld os).forCall (fun _ _ => 0) ⟨#[], #[.string ⟨#[]⟩, .string ⟨#[]⟩], []⟩).memory Tryd.f8.params.toList Rows.nameBackSpec.vars false #[.string ⟨#[]⟩, .string ⟨#[]⟩].toList 8 = some ([.lit (.string []), .lit (.string [])], [], places) :=
  ⟨[], by kernel_rfl⟩

set_option maxRecDepth 100000 in
theorem contract (H : Type) (enc : TypeId × Value → H) (W : World) (base : Nat) (args : Array Value) (ds gs : List (DataW H)) (before : List MemPlace) [E : Errs] (hT : Lib.Utf8Tabs 0 1 W) (hz : ∀ j, j < 64 → W.cell? ⟨7, j, none⟩ = some (.int .u8 (tzF j))) (hT2 : VD W (Old W) (.cptr E.s) (.pointer (some ⟨4, 0, none⟩))) (hT3 : VD W (Old W) (.cptr E.r) (.pointer (some ⟨5, 0, none⟩)))
    (hval : ∀ (j : Nat) t v, Tryd.f8.params[j]? = some t → args[j]? = some v → Value.okWide Tryd.prog W .any base t v)
    (hW : DataW.Whole enc Tryd.prog Tryd.f8.params.toList Rows.nameBackSpec.vars false W args.toList ds gs before) :
    Calls Tryd.prog 8 args W fun e W' => ∃ v, e = .returned v ∧ Rows.nameBackSpec.post enc Tryd.prog Tryd.f8 false true false false W args v W' := by
  have hW' := hW
  obtain ⟨p, q, hA, hV, rfl, hfz, hnd⟩ := hW
  obtain ⟨rfl, rfl⟩ := trodVars_none hV
  obtain ⟨ys, hy, hv⟩ := Ty.args (c := cxE) cxE_ok (l := [.str, .str]) (ts := Tryd.f8.params.toList) (by kernel_rfl) (fun j t v h1 h2 => hval j t v (by simpa using h1) (by simpa using h2)) hA
  have hn : ds.length = 2 := (trodAll_length hA).trans (by kernel_rfl)
  refine (law_calls (c := cxE) (vs := args.toList) Tryd.func8 (by kernel_rfl) (by kernel_rfl) (glE_reads hT hz hT2 hT3) (nameBack_c ys hy) hv).mono fun e W' ⟨he, hg⟩ => ?_
  refine ⟨_, he, law_post (tb := 4) hW' hg laid (by kernel_rfl) rfl (by kernel_rfl) Tryd.underlying4 ?_⟩
  match ds, hn with
  | [d0, d1], _ => rfl

set_option maxRecDepth 100000 in
theorem lifted (os : Os) (started : os.Started) (H : Type) (enc : TypeId × Value → H) (F : Stop.Interp) :
    ReturnsInHanded {} Tryd.checked os 8 .any ((OpenSpec.ofChange Rows.nameBackSpec).preRow enc Tryd.prog Tryd.f8 Rows.nameBackRow.domain false Rows.nameBackRow.laid) (((OpenSpec.ofChange Rows.nameBackSpec).at F).post enc Tryd.prog Tryd.f8 false true false false) := by
  obtain ⟨places, hx⟩ := reads os enc
  refine returnsInHanded_of_row (C := Tryd.checked) (s := OpenSpec.ofChange Rows.nameBackSpec) own started (by kernel_rfl) Tryd.func8
    (witness_row_at (enc := enc) (C := Tryd.checked) false (laidWorld os) #[.string ⟨#[]⟩, .string ⟨#[]⟩] rfl (by kernel_rfl) (by kernel_rfl) (by kernel_rfl)
      (OpenSpec.preRow_of_cond 8 hx (by kernel_rfl) (fun k hk => by cases hk) (by kernel_rfl) (laid_met os))) ?_
  intro W base args ds gs before hval hW _ _ _ hL _ _
  have hT : Lib.Utf8Tabs 0 1 W := utf8Tabs_of_readsT (ρ := Tryd.lays197_ren) (U8Types.of260 { Tryd.lays197 with }) ⟨by kernel_rfl, by kernel_rfl, by kernel_rfl, by kernel_rfl, by kernel_rfl, by kernel_rfl, by kernel_rfl⟩ (Lib.laidMet.reads hL (.tail _ (.tail _ (.tail _ (.tail _ (.tail _ (.tail _ (.head _)))))))) (Lib.laidMet.reads hL (.tail _ (.tail _ (.tail _ (.head _)))))
  have hz := tz_reads (Lib.laidMet.reads hL (.tail _ (.head _)))
  obtain ⟨er, hr, h3⟩ := err_reads (g0 := 5) (by kernel_rfl) (by kernel_rfl) (Lib.laidMet.reads hL (.tail _ (.tail _ (.tail _ (.tail _ (.head _))))))
  obtain ⟨es, hs, h2⟩ := err_reads (g0 := 4) (by kernel_rfl) (by kernel_rfl) (Lib.laidMet.reads hL (.tail _ (.tail _ (.tail _ (.tail _ (.tail _ (.head _)))))))
  exact @contract H enc W base args ds gs before ⟨es, er, hs, hr⟩ hT hz h2 h3 hval hW

theorem said : Rows.NameBackSaid :=
  OpenClaim.holds_of_cond 8 Tryd.f8 rfl rfl rfl rfl rfl rfl rfl ⟨rfl, rfl, rfl, rfl, rfl⟩ rfl rfl rfl rfl rfl (by kernel_rfl) Tryd.func8 (by kernel_rfl)
    (of_decide_eq_true (by kernel_rfl)) (by unfold Func.isWrapper; first | (rw [if_pos (by decide +kernel)]; kernel_rfl) | (rw [if_neg (by decide +kernel)]; exact ⟨rfl, rfl⟩))
    (fun os started H enc _ F => by rw [OpenClaim.pre_eq_preRow]; exact lifted os started H enc F)

theorem plain (f : FuncId) (fn : Func) (hf : Tryd.pinned.checked.prog.funcNamed "pontoon/pontoonlaw02.NameBack" = some f) (hfn : Tryd.pinned.checked.prog.funcs[f]? = some fn) :
    true = Tryd.pinned.checked.prog.looks [] ∧ ∀ (j : Nat) t, fn.params[j]? = some t → Tryd.pinned.checked.prog.wantsStandIn t = false := by
  obtain rfl : f = 8 := Option.some.inj ((show Tryd.prog.funcNamed "pontoon/pontoonlaw02.NameBack" = some 8 by kernel_rfl).symm.trans hf) |>.symm
  obtain rfl : fn = Tryd.f8 := (Option.some.inj (Tryd.func8.symm.trans hfn)).symm
  refine ⟨by kernel_rfl, fun j t ht => ?_⟩
  have h : (Tryd.f8.params.toList.all fun t => !Tryd.prog.wantsStandIn t) = true := by kernel_rfl
  have := List.all_eq_true.1 h t (by simpa using Array.mem_of_getElem? ht)
  exact (by simpa using this : Tryd.prog.wantsStandIn t = false)

/-- The card. -/
theorem proved : Rows.NameBackCardSaid :=
  Claim7.holds_tied_plain_at .later [] _ _ _ _ said (fun _ h => by cases h) (by kernel_rfl) (fun _ h => by cases h) nameBack_row_tie rfl ⟨rfl, rfl⟩ (by kernel_rfl) rfl plain (by kernel_rfl)
#print axioms proved
end Go.Proofs.YtefcpmnhhmpmnaaDoor.nameBack
