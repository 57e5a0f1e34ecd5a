/- The program's context in the own logic: types, and the powers of ten; where strconv's two errors lie. -/
import Derived.Test.YtmmgdbcppmabaaaDoorTy
import Derived.Test.YtmmgdbcppmabaaaDoorAbZ
namespace Go.Proofs.YtmmgdbcppmabaaaDoor
open Go.Ab
/-- What internal/strconv.uint64pow10 holds. -/
def pwL : List Int := [1, 10, 100, 1000, 10000, 100000, 1000000, 10000000, 100000000, 1000000000, 10000000000, 100000000000, 1000000000000, 10000000000000, 100000000000000, 1000000000000000, 10000000000000000, 100000000000000000, 1000000000000000000, 10000000000000000000]
def intsD (k : IntKind) (l : List Int) : D := .arr l.length 1 (l.map fun z => .int k z)
/-- What strconv's two errors are: some error, whatever lies behind it. -/
class Errs where
  s : D
  r : D
  hs : ∃ t x, s = .iface t x
  hr : ∃ t x, r = .iface t x
variable [Errs]
def gl (g : Nat) : Option D := match Nat.beq g 4 with
  | true => some (intsD .u64 pwL)
  | false => match Nat.beq g 2 with
    | true => some Errs.s
    | false => match Nat.beq g 3 with
      | true => some Errs.r
      | false => none
def rwsOf (_ : Nat) : Option (List (Option TypeId)) := none
def rowfOf (_ : Nat) : Bool := false
def mksOf (_ : Nat) : Bool := false
noncomputable def cx : Ctx := { P := Tryd.prog, tt := ty.look, glob := gl, rws := rwsOf, rowf := rowfOf, mks := mksOf }
theorem cx_ok : cx.ok := tab_ok ty_fits
omit [Errs] in
theorem laid : laidOutB Tryd.prog = true := by kernel_rfl
abbrev u64 (n : Int) : AV := .d (.int .u64 n)
abbrev i64 (n : Int) : AV := .d (.int .i64 n)
abbrev u8 (n : Int) : AV := .d (.int .u8 n)
abbrev bo (b : Bool) : AV := .d (.bool b)
abbrev st (s : ByteArray) : AV := .d (.str s)

omit [Errs] in
/-- A contract out of a run of a function that has a body. -/
theorem callR_raw {c : Ctx} {f : FuncId} {fn : Func} {args : List AV} {S : List Blk} {Post : AV → List Blk → Prop} (hf : c.P.funcs[f]? = some fn) (hname : (fn.name == "runtime.NumGoroutine") = false) (hb : fn.body.isSome = true)
    (h : ∀ (μ : Nat → Value) (G : Nat → Nat → Prop) (w : World) (vals : List Value), St (base c S μ G w) S μ G w → VS μ S.length w G args vals →
      Calls c.P f vals.toArray w fun e w' => ∃ v r S' μ' G', e = .returned v ∧ Post r S' ∧ St (base c S μ G w) S' μ' G' w' ∧ RA μ' S'.length w' G' r v) : CallR c f args S Post := by
  intro μ G w vals st hv
  left
  constructor
  · cases hbb : fn.body with
    | none => rw [hbb] at hb; cases hb
    | some code =>
      simp only [callFunc, Sem.run_bind, run_program, Result.andThen_ok, hf, hname, hbb]
      rfl
  · exact h μ G w vals st hv

omit [Errs] in
/-- What a variable's cells hold. -/
theorem glob_cells {B : Base} {S μ G w} (st : St B S μ G w) {g : Nat} {x : D} (h : B.c.glob g = some x) : ∃ c, CL w G [x] c ∧ ∀ j v, c[j]? = some v → w.cell? ⟨g, j, none⟩ = some v := by
  obtain ⟨b, off, c, e, h1, h2⟩ := (st.glob g x h).cptr_inv
  cases e
  exact ⟨c, h1, fun j v hj => by have := (h2 j v hj).1; rw [Nat.zero_add] at this; exact this⟩

omit [Errs] in
theorem CL.intsK_inv {w G} {k : IntKind} : ∀ {l : List Int} {c : List Value}, CL w G (l.map fun z => D.int k z) c → c = l.map fun z => Value.int k z
  | [], _, h => by cases h; rfl
  | z :: l, _, h => by
    cases h with
    | int h => rw [CL.intsK_inv h]; rfl

omit [Errs] in
theorem glob_ints {B : Base} {S μ G w} (st : St B S μ G w) {g : Nat} {k : IntKind} {l : List Int} (h : B.c.glob g = some (intsD k l)) : ∀ j z, l[j]? = some z → w.cell? ⟨g, j, none⟩ = some (.int k z) := by
  intro j z hj
  obtain ⟨c, h1, h2⟩ := glob_cells st h
  cases h1 with
  | arr h3 _ _ h4 =>
    cases h4
    rw [List.append_nil] at h2
    have := CL.intsK_inv h3
    subst this
    exact h2 j _ (by rw [List.getElem?_map, hj]; rfl)

omit [Errs] in
theorem glob_err {B : Base} {S μ G w} (st : St B S μ G w) {g : Nat} {e : D} (he : ∃ t x, e = .iface t x) (h : B.c.glob g = some e) : ∃ te pe, w.cell? ⟨g, 0, none⟩ = some (.iface te pe) := by
  obtain ⟨t, x, rfl⟩ := he
  obtain ⟨c, h1, h2⟩ := glob_cells st h
  cases h1 with
  | iface _ _ _ => exact ⟨_, _, h2 0 _ rfl⟩

omit [Errs] in
/-- The store is as it was where new blocks came alone. -/
theorem St.below {B : Base} {S μ G w} (st : St B S μ G w) {w' : World} (hb : RowKit.Below w.heap.size w w') : St B S μ G w' :=
  st.quiet ⟨hb.os, hb.tape, hb.output, hb.size, fun k hk _ => hb.block k hk⟩
end Go.Proofs.YtmmgdbcppmabaaaDoor
