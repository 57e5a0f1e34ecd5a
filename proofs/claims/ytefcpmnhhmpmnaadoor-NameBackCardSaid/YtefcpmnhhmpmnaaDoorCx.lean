/- The program's context in the own logic: types, utf8's tables; a builder's bytes are a row of its own. -/
import Derived.Test.YtefcpmnhhmpmnaaDoorTy
import Derived.Test.YtefcpmnhhmpmnaaDoorAbZ
namespace Go.Proofs.YtefcpmnhhmpmnaaDoor
open Go.Ab
/-- What math/bits.deBruijn64tab holds. -/
def tzL : List Int := [0, 1, 56, 2, 57, 49, 28, 3, 61, 58, 42, 50, 38, 29, 17, 4, 62, 47, 59, 36, 45, 43, 51, 22, 53, 39, 33, 30, 24, 18, 12, 5, 63, 55, 48, 27, 60, 41, 37, 16, 46, 35, 44, 21, 52, 32, 23, 11, 54, 26, 40, 15, 34, 20, 31, 10, 25, 14, 19, 9, 13, 8, 7, 6]
def tzF (j : Nat) : Int := tzL.getD j 0
def gl (g : Nat) : Option D := match Nat.beq g 0 with
  | true => some (tabD 256 firstF)
  | false => match Nat.beq g 1 with
    | true => some (tabD 32 accF)
    | false => match Nat.beq g 7 && true with
      | true => some (tabD 64 tzF)
      | false => none
def rwsOf (t : Nat) : Option (List (Option TypeId)) := match Nat.beq t 44 with
  | true => some [none, some 5]
  | false => none
def rowfOf (f : Nat) : Bool := match Nat.beq f 52 with | true => true | false => match Nat.beq f 43 with | true => true | false => false
def mksOf (_ : Nat) : Bool := false
noncomputable def cx : Ctx := { P := Tryd.prog, tt := ty.look, glob := gl, rws := rwsOf, rowf := rowfOf, mks := mksOf }
theorem cx_ok : cx.ok := tab_ok ty_fits
theorem laid : laidOutB Tryd.prog = true := by kernel_rfl
abbrev u64 (n : Int) : AV := .d (.int .u64 n)
abbrev i64 (n : Int) : AV := .d (.int .i64 n)
abbrev i32 (n : Int) : AV := .d (.int .i32 n)
abbrev u8 (n : Int) : AV := .d (.int .u8 n)
abbrev bo (b : Bool) : AV := .d (.bool b)
abbrev st (s : ByteArray) : AV := .d (.str s)

/-- A contract out of a run of a function that has a body. -/
theorem callR_raw {c : Ctx} {f : FuncId} {fn : Func} {args : List AV} {S : List Blk} {Post : AV → List Blk → Prop} (hf : c.P.funcs[f]? = some fn) (hname : (fn.name == "runtime.NumGoroutine") = false) (hb : fn.body.isSome = true)
    (h : ∀ (μ : Nat → Value) (G : Nat → Nat → Prop) (w : World) (vals : List Value), St (base c S μ G w) S μ G w → VS μ S.length w G args vals →
      Calls c.P f vals.toArray w fun e w' => ∃ v r S' μ' G', e = .returned v ∧ Post r S' ∧ St (base c S μ G w) S' μ' G' w' ∧ RA μ' S'.length w' G' r v) : CallR c f args S Post := by
  intro μ G w vals st hv
  left
  constructor
  · cases hbb : fn.body with
    | none => rw [hbb] at hb; cases hb
    | some code =>
      simp only [callFunc, Sem.run_bind, run_program, Result.andThen_ok, hf, hname, hbb]
      rfl
  · exact h μ G w vals st hv
end Go.Proofs.YtefcpmnhhmpmnaaDoor
