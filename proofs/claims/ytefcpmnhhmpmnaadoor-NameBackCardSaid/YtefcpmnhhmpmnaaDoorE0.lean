/- The wider context of the quotes: strconv's two errors beside utf8's tables; contracts of the narrow one hold in it. -/
import Derived.Test.YtefcpmnhhmpmnaaDoorND
set_option linter.unusedVariables false
namespace Go.Proofs.YtefcpmnhhmpmnaaDoor
open Go.Ab Go.RowKit

/-- A context that knows more package variables. -/
theorem CallR.widen {c c' : Ctx} (hP : c'.P = c.P) (hg : ∀ g x, c.glob g = some x → c'.glob g = some x) {f : FuncId} {args : List AV} {S : List Blk} {Post : AV → List Blk → Prop} (h : CallR c f args S Post) : CallR c' f args S Post := by
  intro μ G w vals s hv
  rw [hP]
  refine (h μ G w vals ⟨s.blks, s.apart, s.free, s.gv, s.k0, s.keep, s.g0, s.gn, s.new, s.os, s.tape, s.output, s.size, s.fr, s.lv, fun g x hx => s.glob g x (hg g x hx), s.gw⟩ hv).mono ?_
  rintro e w' ⟨v, r, S', μ', G', h1, h2, h3, h4⟩
  exact ⟨v, r, S', μ', G', h1, h2, ⟨h3.blks, h3.apart, h3.free, h3.gv, h3.k0, h3.keep, h3.g0, h3.gn, h3.new, h3.os, h3.tape, h3.output, h3.size, h3.fr, h3.lv, fun g x hx => (s.glob g x hx).mono h3.g0 h3.gw, h3.gw⟩, h4⟩

/-- What strconv's two errors are: some error, whatever lies behind it. -/
class Errs where
  s : D
  r : D
  hs : ∃ t x, s = .iface t x
  hr : ∃ t x, r = .iface t x
variable [Errs]
def glE (g : Nat) : Option D := match gl g with
  | some x => some x
  | none => match Nat.beq g 4 with
    | true => some Errs.s
    | false => match Nat.beq g 5 with
      | true => some Errs.r
      | false => none
noncomputable def cxE : Ctx := { P := Tryd.prog, tt := ty.look, glob := glE, rws := rwsOf, rowf := rowfOf, mks := mksOf }
theorem cxE_ok : cxE.ok := tab_ok ty_fits
theorem lift {f : FuncId} {args : List AV} {S : List Blk} {Post : AV → List Blk → Prop} (h : CallR cx f args S Post) : CallR cxE f args S Post :=
  CallR.widen (c := cx) (c' := cxE) rfl (fun g x h => by show glE g = some x; unfold glE; rw [show gl g = some x from h]) h

omit [Errs] in
theorem glob_cells {B : Base} {S μ G w} (st : St B S μ G w) {g : Nat} {x : D} (h : B.c.glob g = some x) : ∃ c, CL w G [x] c ∧ ∀ j v, c[j]? = some v → w.cell? ⟨g, j, none⟩ = some v := by
  obtain ⟨b, off, c, e, h1, h2⟩ := (st.glob g x h).cptr_inv
  cases e
  exact ⟨c, h1, fun j v hj => by have := (h2 j v hj).1; rw [Nat.zero_add] at this; exact this⟩

omit [Errs] in
/-- The store is as it was where new blocks came alone. -/
theorem St.below {B : Base} {S μ G w} (st : St B S μ G w) {w' : World} (hb : RowKit.Below w.heap.size w w') : St B S μ G w' :=
  st.quiet ⟨hb.os, hb.tape, hb.output, hb.size, fun k hk _ => hb.block k hk⟩

omit [Errs] in
/-- A new block's cells are promised as data. -/
theorem St.promise {B : Base} {S μ G w} (st : St B S μ G w) {w' : World} (hb : RowKit.Below w.heap.size w w') {N : Nat} (hN : w.heap.size ≤ N) (hN' : N < w'.heap.size) :
    ∃ G' : Nat → Nat → Prop, (∀ b o, G b o → G' b o) ∧ (∀ o, G' N o) ∧ St B S μ G' w' := by
  have s := St.below st hb
  refine ⟨fun b o => G b o ∨ b = N, fun _ _ h => .inl h, fun _ => .inr rfl, ?_⟩
  have hG : ∀ b o, G b o → (G b o ∨ b = N) := fun _ _ h => .inl h
  exact {
    blks := fun i b h => (s.blks i b h).mono (Nat.le_refl _) (fun _ _ _ => rfl) hG (fun _ _ _ _ h => h) (fun _ _ _ => rfl)
    apart := s.apart
    free := fun i b n h1 h2 h3 o h4 h5 => by
      rcases h5 with h5 | rfl
      · exact s.free i b n h1 h2 h3 o h4 h5
      · have := (st.blks i b h1).bid_lt h2 _ h3
        omega
    gv := fun b o h => by
      rcases h with h | rfl
      · exact s.gv b o h
      · exact hN'
    k0 := s.k0
    keep := s.keep
    g0 := fun b o h => .inl (s.g0 b o h)
    gn := fun b o h => by
      rcases h with h | rfl
      · exact s.gn b o h
      · exact .inr (.inl (Nat.le_trans st.size hN))
    new := s.new
    os := s.os
    tape := s.tape
    output := s.output
    size := s.size
    fr := s.fr
    lv := s.lv
    glob := fun g x h => (s.glob g x h).mono hG (fun _ _ _ _ h => h)
    gw := s.gw }
end Go.Proofs.YtefcpmnhhmpmnaaDoor
