/- What one statement needs of the texts, by slice.py. -/
import Derived.Test.YtboohfijacjhjaaTy
import Derived.Test.YtboohfijacjhjaaAbZ
import Derived.Shelf.SlicesE.Clone
import Derived.Shelf.Spec.SlicesInsertGrow
import Derived.Shelf.SlicesE.Delete
import Derived.Shelf.RegionOpenPlain
import Derived.Lib.Walk
import Derived.Lib.Builder
import Derived.Lib.AppendStr
import Derived.Lib.UnsafeStr
import Derived.WalkKit
import Derived.Laws.Externs
import Derived.Shelf.Unicode.DecodeAny
import Derived.Test.YtboohfijacjhjaaProg
import Derived.Lib.DecodeN

/- The program's context in the own logic: types. -/
namespace Go.Proofs.Ytboohfijacjhjaa
open Go.Ab
def gl (_ : Nat) : Option D := none
def rwsOf (t : Nat) : Option (List (Option TypeId)) := match Nat.beq t 186 with
  | true => some [none, some 5]
  | false => none
def rowfOf (f : Nat) : Bool := match Nat.beq f 35 with | true => true | false => match Nat.beq f 34 with | true => true | false => false
def mksOf (f : Nat) : Bool := match Nat.beq f 35 with | true => true | false => match Nat.beq f 34 with | true => true | false => match Nat.beq f 31 with | true => true | false => false
noncomputable def cx : Ctx := { P := Try.prog, tt := ty.look, glob := gl, rws := rwsOf, rowf := rowfOf, mks := mksOf }
theorem cx_ok : cx.ok := tab_ok ty_fits
theorem laid : laidOutB Try.prog = true := by kernel_rfl
abbrev u64 (n : Int) : AV := .d (.int .u64 n)
abbrev i64 (n : Int) : AV := .d (.int .i64 n)
abbrev i32 (n : Int) : AV := .d (.int .i32 n)
abbrev u8 (n : Int) : AV := .d (.int .u8 n)
abbrev bo (b : Bool) : AV := .d (.bool b)
abbrev st (s : ByteArray) : AV := .d (.str s)

/-- A contract out of a run of a function that has a body. -/
theorem callR_raw {c : Ctx} {f : FuncId} {fn : Func} {args : List AV} {S : List Blk} {Post : AV → List Blk → Prop} (hf : c.P.funcs[f]? = some fn) (hname : (fn.name == "runtime.NumGoroutine") = false) (hb : fn.body.isSome = true)
    (h : ∀ (μ : Nat → Value) (G : Nat → Nat → Prop) (w : World) (vals : List Value), St (base c S μ G w) S μ G w → VS μ S.length w G args vals →
      Calls c.P f vals.toArray w fun e w' => ∃ v r S' μ' G', e = .returned v ∧ Post r S' ∧ St (base c S μ G w) S' μ' G' w' ∧ RA μ' S'.length w' G' r v) : CallR c f args S Post := by
  intro μ G w vals st hv
  left
  constructor
  · cases hbb : fn.body with
    | none => rw [hbb] at hb; cases hb
    | some code =>
      simp only [callFunc, Sem.run_bind, run_program, Result.andThen_ok, hf, hname, hbb]
      rfl
  · exact h μ G w vals st hv
end Go.Proofs.Ytboohfijacjhjaa

/- slices.Clone of a slice of whatever elements, in the own logic: a slice of one's own. -/
namespace Go.Proofs.Ytboohfijacjhjaa
open Go.Shelf Go.RowKit Go.Lib Go.Ab

section
variable {P : Program} {ρ : Ren}

set_option maxHeartbeats 2000000 in
set_option maxRecDepth 100000 in
/-- Of nothing, whatever its address. -/
theorem clone_zero (L : SlLaysE0.n41 P ρ) (i0 : TypeInfo) (z : Value) (size bytes : Nat) (hi : P.info? (ρ.t 23) = some i0) (hz0 : i0.zero = some z) (hz1 : i0.size = size) (hz2 : i0.bytes = bytes) (hzs : z.cells.size = size) (hsz : 0 < size)
    (z23 : ∀ w, (Go.sizeOf (ρ.t 23)).run P w = .ok size w) (a : Addr) (c : Nat) (w : World) :
    Calls P (ρ.f 41) #[.slice (some a) 0 c] w fun e w' => ∃ v', e = .returned v' ∧ w'.ownsRow w.heap.size (ρ.t 23) size v' 0 [] ∧ Below w.heap.size w w' := by
  have mixed := L.mixed; have t4 := L.t4; have a4 := L.a4; have z4 := L.z4; have v4 := L.v4; have t22 := L.t22; have a22 := L.a22; have z22 := L.z22; have v22 := L.v22
  have q22 : ∀ (w : World) (a : Option Addr) (n c n' c' : Nat), (binOp .eql (ρ.t 22) (.slice a n c) (.slice none n' c')).run P w = .ok (.bool a.isNone) w := fun w a n c n' c' => Lib.run_eql_slice_nil w _ _ a n c n' c' L.t22
  have u22 : ∀ w, Sem.run P (underlying (ρ.t 22)) w = .ok (TypeDesc.slice (ρ.t 23)) w := run_underlying t22
  obtain ⟨_, _, FG⟩ := L.f41
  go_enter FG, SlBodyN.n41_ntmps ρ
  go_wp2_with (at_builtin; refine wpList_append_own _ rfl _ _ (ρ.t 22) rfl w.heap.size (ρ.t 23) i0 z size bytes t22 hi hz0 hz1 hz2 hzs hsz _ _ _ rfl (World.ownsRow_made w #[] 0 (Nat.le_refl _) (Nat.zero_le _) (by simp)) a 0 c [] rfl (by simp) (by intro j u hj; simp at hj) (by intro u hu; cases hu) (by unfold maxLen; omega) (by omega) (by simp) ?_)
  intro v' w1 hown hgrow hnil
  go_wp2
  go_ret
  refine ⟨v', rfl, by simpa using hown, ?_⟩
  exact ((Below.refl _ w).alloc (Nat.le_refl _) _).grown hgrow (by simp) (by intro k hk; simp [Value.ownBlock] at hk; omega)
end

theorem ownsRow_base {w : World} {b e sz v n xs} (h : w.ownsRow b e sz v n xs) : w.ownsRow 0 e sz v n xs := by
  obtain ⟨h1, h2⟩ := h
  refine ⟨h1, ?_⟩
  rcases h2 with h2 | ⟨g, cap, cur, hv, _, r⟩
  · exact .inl h2
  · exact .inr ⟨g, cap, cur, hv, Nat.zero_le _, r⟩

/-- A slice of one's own in new memory. -/
theorem pushOwn {B : Base} {S μ G w} (st : St B S μ G w) {w' : World} {v : Value} {e sz : Nat} {xs : List D} {cs : List Value} (hb : Below w.heap.size w w') (ho : w'.ownsRow w.heap.size e sz v xs.length cs) (hc : CL w G xs cs) (hs : ∀ x ∈ xs, x.size = sz) :
    St B (S ++ [.own e sz xs]) (upd μ S.length v) G w' := by
  have hn : Go.Ab.Next w w' none := ⟨hb.os, hb.tape, hb.output, hb.size, fun k hk _ => hb.block k hk⟩
  have hbid : ∀ n, bid v = some n → w.heap.size ≤ n := by
    intro n hn
    rcases ho.2 with ⟨q, _⟩ | ⟨g, cap, cur, q, hg, _⟩
    · rw [q] at hn; cases hn
    · rw [q] at hn; cases hn; exact hg
  refine st.push hn (fun _ _ h => h) (fun _ _ h => .inl h) (fun _ => hbid) (fun _ n hm o _ hg => ?_) ⟨cs, ownsRow_base ho, hc.mono (fun _ _ h => h) (hn.cells st.gv (fun k hk => by cases hk)), hs⟩
  have := st.gv n o hg
  have := hbid n hm
  omega

theorem clone_c {ρ : Ren} (L : SlLaysE0.n41 Try.prog ρ) {fn : Func} {fi : TI} {z : D} {xs : List D} {e sz : Nat} (he : ρ.t 23 = e) (hf : Try.prog.funcs[ρ.f 41]? = some fn) (hname : (fn.name == "runtime.NumGoroutine") = false) (hb : fn.body.isSome = true)
    (hfi : cx.tt e = some fi) (hz : fi.zero = some z) (hzs : z.size = sz) (hsz : fi.size = sz) (h0 : 0 < sz) (z23 : ∀ w, (Go.sizeOf e).run Try.prog w = .ok sz w) (hl : xs.length ≤ maxLen) (hbig : xs.length * fi.bytes ≤ 140737488355328) :
    CallR cx (ρ.f 41) [.d (.sl sz xs)] [] fun r S => r = .row 0 ∧ S = [.own e sz xs] := by
  subst he
  refine callR_raw (c := cx) hf hname hb fun μ G w vals st hv => ?_
  obtain ⟨v, rfl, h1⟩ := VS.one hv
  obtain ⟨_, info, f1, f2, f3, f4⟩ := cx_ok (ρ.t 23) fi hfi
  obtain ⟨zv, f5, f6⟩ := f4 z hz
  have fin : ∀ (v' : Value) (w' : World) (cs : List Value), w'.ownsRow w.heap.size (ρ.t 23) sz v' xs.length cs → Below w.heap.size w w' → CL w G xs cs → (∀ x ∈ xs, x.size = sz) →
      ∃ v r S' μ' G', Ending.returned v' = Ending.returned v ∧ (r = AV.row 0 ∧ S' = [Blk.own (ρ.t 23) sz xs]) ∧ St (base cx [] μ G w) S' μ' G' w' ∧ RA μ' S'.length w' G' r v := by
    intro v' w' cs ho hbl hc hs
    refine ⟨v', .row 0, [.own (ρ.t 23) sz xs], upd μ 0 v', G, rfl, ⟨rfl, rfl⟩, pushOwn st hbl ho hc hs, ?_⟩
    have hsl : ∃ a l c, v' = .slice a l c := by
      rcases ho.2 with ⟨q, _⟩ | ⟨_, _, _, q, _⟩
      · exact ⟨_, _, _, q⟩
      · exact ⟨_, _, _, q⟩
    obtain ⟨a, l, c, rfl⟩ := hsl
    exact VA.ra (VA.of_single (.row (by show 0 < 1; omega) (by simp [upd]) .nil) rfl) (fun l e => by cases e)
  have hvd := VA.d_iff.1 h1
  have hzc : zv.cells.size = sz := by rw [(f6 w G).cells_size, hzs]
  rcases hvd.sl_inv with ⟨rfl, rfl⟩ | ⟨a, cap, cs, rfl, c1, c2, c3, c4, c5, c6⟩
  · refine (AnyE.slices_Clone_nil L 0 0 w).mono ?_
    rintro e w' ⟨rfl, rfl⟩
    exact fin _ _ [] ⟨by simp, .inl ⟨rfl, rfl⟩⟩ (Below.refl _ _) .nil (by simp)
  · cases xs with
    | nil =>
      refine (clone_zero L info zv sz fi.bytes f1 f5 (by rw [f2, hsz]) f3 hzc h0 z23 a cap w).mono ?_
      rintro e w' ⟨v', rfl, ho, hbl⟩
      exact fin _ _ [] ho hbl .nil (by simp)
    | cons x xs =>
      have hsp : a.spot = none := c4.resolve_left (by simp)
      obtain ⟨b1, b2, b3⟩ := a
      simp only at hsp c3
      subst hsp
      have hcl := D.eqLen c1 c2
      refine (AnyE.slices_Clone L info zv sz fi.bytes f1 f5 (by rw [f2, hsz]) f3 hzc h0 z23 b1 b2 (x :: xs).length cap cs w hcl hl hbig (fun j u hj => (c3 j u hj).1) c1.oneCell).mono ?_
      rintro e w' ⟨v', rfl, ho, _, hbl⟩
      exact fin _ _ cs ho hbl c1 c2
end Go.Proofs.Ytboohfijacjhjaa

/- slices.Insert of one value into a slice of one's own, of whatever elements: the runs (after the kit's text for strings, turned to elements of more cells). -/
set_option linter.unusedVariables false
set_option linter.unusedSimpArgs false
namespace Go.Proofs.Ytboohfijacjhjaa
open Go.Shelf Go.RowKit Go.Lib

section
variable {P : Program} {ρ : Ren}

/-- What a program has where slices.Insert lies in it. -/
structure InsL (P : Program) (ρ : Ren) (size bytes : Nat) (z : Value) : Prop where
  mixed : P.follows .mixedOrders = true
  f22 : ∃ nm, P.funcs[ρ.f 22]? = some { Body2.n22 ρ with name := nm }
  ov : ∀ args w v w', (Extern.SlicesOverlaps.overlaps #[ρ.t 24, ρ.t 24] #[ρ.t 4] args).run P w = .ok v w' → (callFunc (ρ.f 29) args).run P w = .ok (.value v) w'
  t3 : P.underlying (ρ.t 3) = some (TypeDesc.int IntKind.i64)
  a3 : ∀ w, (isAgg (ρ.t 3)).run P w = .ok false w
  z3 : ∀ w, (Go.sizeOf (ρ.t 3)).run P w = .ok 1 w
  v3 : ∀ w, (zeroValue (ρ.t 3)).run P w = .ok (Value.int IntKind.i64 0) w
  t4 : P.underlying (ρ.t 4) = some (TypeDesc.bool)
  a4 : ∀ w, (isAgg (ρ.t 4)).run P w = .ok false w
  z4 : ∀ w, (Go.sizeOf (ρ.t 4)).run P w = .ok 1 w
  v4 : ∀ w, (zeroValue (ρ.t 4)).run P w = .ok (Value.bool false) w
  t24 : P.underlying (ρ.t 24) = some (TypeDesc.slice (ρ.t 9))
  a24 : ∀ w, (isAgg (ρ.t 24)).run P w = .ok false w
  z24 : ∀ w, (Go.sizeOf (ρ.t 24)).run P w = .ok 1 w
  v24 : ∀ w, (zeroValue (ρ.t 24)).run P w = .ok (Value.slice none 0 0) w
  z9 : ∀ w, (Go.sizeOf (ρ.t 9)).run P w = .ok size w
  i9 : ∃ i0, P.info? (ρ.t 9) = some i0 ∧ i0.zero = some z ∧ i0.size = size ∧ i0.bytes = bytes
  zs : z.cells.size = size
  s0 : 0 < size

/-- Of elements of more cells. -/
theorem run_copy_cellsK (w : World) (dT sT ty elem : TypeId) (size b o dLen dCap : Nat) (a : Addr) (sLen sCap : Nat) (cs : List Value)
    (hu : P.underlying dT = some (.slice elem)) (hs : (P.info? elem).map (·.size) = some size) (hn : cs.length = Nat.min sLen dLen * size)
    (hsrc : ∀ j v, cs[j]? = some v → w.cell? (a.add j) = some v) (hc : ∀ j, j < cs.length → (w.cell? ⟨b, o + j, none⟩).isSome = true) (hf : ∀ j, j < cs.length → w.frozen? ⟨b, o + j, none⟩ = false) (h1 : ∀ v ∈ cs, v.oneCell' = true) :
    (Builtin.copy_ #[dT, sT] ty #[.slice (some ⟨b, o, none⟩) dLen dCap, .slice (some a) sLen sCap]).run P w = .ok (goInt (Nat.min sLen dLen : Nat)) (w.setCells b o cs) := by
  have hl := run_loadCells_list (P := P) w a cs hsrc
  have hst := run_storeCells_cells (P := P) b o cs 0 w (by simpa using hc) (by simpa using hf) h1
  cases hq : P.info? elem with
  | none => simp [hq] at hs
  | some i =>
    have hi : i.size = size := by simpa [hq] using hs
    simp [Builtin.copy_, run_underlying hu, Builtin.lenOf, Builtin.firstCells, sizeOf, typeInfo, hq, hi, ← hn, hl, hst]

/-- Two slices in two blocks, the second of which is a row of one's own: whatever the first's block is. -/
theorem run_overlaps_own (w : World) (tS tR e : TypeId) (ht : P.underlying tS = some (.slice e)) (size : Nat) (hz : ∀ w, (Go.sizeOf e).run P w = .ok size w)
    (a b : Addr) (la ca lb cb : Nat) (hne : a.block ≠ b.block) (tA tB : TypeId) (kA kB : Nat)
    (hsa : w.shape? a.block = some (tA, kA)) (hsb : w.shape? b.block = some (tB, kB)) (hkA : kA ≠ 0)
    (hfa : w.frozen? b = false) (hfe : w.frozen? { block := b.block, off := kB } = false) :
    (Extern.SlicesOverlaps.overlaps #[tS, tS] #[tR] #[.slice (some a) la ca, .slice (some b) lb cb]).run P w = .ok (.bool false) w := by
  have hnb : (a.block != b.block) = true := by simpa using hne
  have hnb' : (a.block == b.block) = false := by simpa using hne
  change Sem.run P (α := Value) (do
    let some t := (#[tS, tS] : Array TypeId)[0]? | stuck "slices.overlaps: no parameter types"
    let .slice elem ← underlying t | stuck "slices.overlaps: slice type expected"
    let size ← sizeOf elem
    match (some a : Option Addr), (some b : Option Addr) with
    | some a, some b =>
      if la = 0 ∨ lb = 0 ∨ size = 0 then pure (Value.bool false)
      else if a.block != b.block && (← frozen a) && (← frozen b) then unsupported .addressObserved
      else do
        if a.block != b.block then do
          noView a; noView b
          if ← mayBeOne a b then return Value.bool ((← choose (.extern "sameAddr.stringBytes" 2)) == 1)
        pure (Value.bool (a.block == b.block && a.off < b.off + lb * size && b.off < a.off + la * size))
    | _, _ => pure (Value.bool false)) w = _
  by_cases h0 : la = 0 ∨ lb = 0 ∨ size = 0
  · simp [run_underlying ht, hz, h0]
  · cases kA with
    | zero => exact absurd rfl hkA
    | succ kA =>
      cases hqa : w.frozen? a <;> cases hqe : w.frozen? { block := a.block, off := kA + 1 } <;> simp [run_underlying ht, hz, h0, hnb, hnb', frozen, noView, viewAt, mayBeOne, stringish, shape, Sem.run, hsa, hsb, hfa, hfe, hqa, hqe]

set_option maxHeartbeats 4000000 in
set_option maxRecDepth 100000 in
/-- There is room, ahead of an element: in place. -/
theorem insert_shift {size bytes : Nat} {z : Value} (L : InsL P ρ size bytes z) (b n c i vb voff m vc : Nat) (cs vs : List Value) (w : World) (hi : i < n) (hm : 0 < m) (hroom : n + m ≤ c) (hc63 : c ≤ 9223372036854775807) (hvb : vb ≠ b)
    (hcl : cs.length = n * size) (hvl : vs.length = m * size)
    (hcs : ∀ j v, cs[j]? = some v → w.cell? ⟨b, j, none⟩ = some v) (hsp : ∀ j, j < (n + m) * size → (w.cell? ⟨b, j, none⟩).isSome = true) (hfz : ∀ j, w.frozen? ⟨b, j, none⟩ = false)
    (hvs : ∀ j v, vs[j]? = some v → w.cell? ⟨vb, voff + j, none⟩ = some v) (h1c : ∀ v ∈ cs, v.oneCell' = true) (h1v : ∀ v ∈ vs, v.oneCell' = true)
    (tA tB : TypeId) (kA kB : Nat) (hsa : w.shape? vb = some (tA, kA)) (hsb : w.shape? b = some (tB, kB)) (hkA : kA ≠ 0) :
    Calls P (ρ.f 22) #[.slice (some ⟨b, 0, none⟩) n c, .int .i64 i, .slice (some ⟨vb, voff, none⟩) m vc] w fun e w' =>
      e = .returned (.slice (some ⟨b, 0, none⟩) (n + m) c) ∧ w' = (w.drew.setCells b ((i + m) * size) (cs.drop (i * size))).setCells b (i * size) vs := by
  have t3 := L.t3; have a3 := L.a3; have z3 := L.z3; have v3 := L.v3; have t4 := L.t4; have a4 := L.a4; have z4 := L.z4; have v4 := L.v4; have z9 := L.z9; have t24 := L.t24; have a24 := L.a24; have z24 := L.z24; have v24 := L.v24
  have u3 := run_underlying L.t3; have u4 := run_underlying L.t4; have u24 := run_underlying L.t24
  obtain ⟨nm, FG⟩ := L.f22
  have hz1 : ¬ ((m : Int) = 0) := by omega
  have hz2 : ¬ ((i : Int) = (n : Int)) := by omega
  have hsz : (P.info? (ρ.t 9)).map (·.size) = some size := by
    obtain ⟨i0, hi0, h0, h1, h2⟩ := L.i9
    rw [hi0]; simp [h1]
  have hov : ∀ lb cb, (callFunc (ρ.f 29) #[.slice (some ⟨vb, voff, none⟩) m vc, .slice (some ⟨b, (i + m) * size, none⟩) lb cb]).run P w = .ok (.value (.bool false)) w := fun lb cb =>
    L.ov _ _ _ _ (run_overlaps_own w (ρ.t 24) (ρ.t 4) (ρ.t 9) L.t24 size L.z9 ⟨vb, voff, none⟩ ⟨b, (i + m) * size, none⟩ m vc lb cb hvb tA tB kA kB hsa hsb hkA (hfz _) (hfz _))
  have hdl : (cs.drop (i * size)).length = (n - i) * size := by rw [List.length_drop, hcl, Nat.sub_mul]
  have mixed := L.mixed
  have hw1 : IntKind.i64.wrap ((i : Int) + (m : Int)) = (i : Int) + (m : Int) := by rw [IntKind.wrap_i64]; omega
  have hb1 : (0 : Int) ≤ (i : Int) + (m : Int) := by omega
  have hin : i ≤ n := by omega
  have htn : ((i : Int) + (m : Int)).toNat = i + m := by omega
  have hb2 : ¬ (c = i + m) := by omega
  have hb3 : (i : Int) ≤ (n : Int) + (m : Int) := by omega
  have hb4 : ¬ (c = i) := by omega
  have hmin1 : Nat.min (n + m - i) (n + m - (i + m)) = n - i := by simp only [Nat.min_def]; split <;> omega
  have hmin2 : Nat.min m (n + m - i) = m := by simp only [Nat.min_def]; split <;> omega
  have hcut : (i + m) * size + (n - i) * size = (n + m) * size := by rw [← Nat.add_mul]; congr 1; omega
  have hcut2 : i * size + m * size ≤ (n + m) * size := by rw [← Nat.add_mul]; exact Nat.mul_le_mul_right _ (by omega)
  have hcp1 : ∀ ty dc sc, (Builtin.copy_ #[(ρ.t 24), (ρ.t 24)] ty #[.slice (some ⟨b, (i + m) * size, none⟩) (n + m - (i + m)) dc, .slice (some ⟨b, i * size, none⟩) (n + m - i) sc]).run P w.drew = .ok (goInt (n - i : Nat)) (w.drew.setCells b ((i + m) * size) (cs.drop (i * size))) := fun ty dc sc => by
    have h := run_copy_cellsK (P := P) w.drew (ρ.t 24) (ρ.t 24) ty (ρ.t 9) size b ((i + m) * size) (n + m - (i + m)) dc ⟨b, i * size, none⟩ (n + m - i) sc (cs.drop (i * size)) L.t24 hsz (by rw [hdl, hmin1])
      (fun j v hj => by rw [Addr.add_lit]; exact hcs (i * size + j) v (by rwa [List.getElem?_drop] at hj))
      (fun j hj => hsp _ (by omega)) (fun j hj => hfz _) (fun v hv => h1c v (List.mem_of_mem_drop hv))
    rw [hmin1] at h
    exact h
  obtain ⟨W1, hW1⟩ : ∃ W1, W1 = w.drew.setCells b ((i + m) * size) (cs.drop (i * size)) := ⟨_, rfl⟩
  have hsp1 : ∀ k, k < (n + m) * size → (W1.cell? ⟨b, k, none⟩).isSome = true := fun k hk => by
    rw [hW1]
    exact isSome_setCells b (cs.drop (i * size)) ((i + m) * size) w.drew (fun j hj => hsp _ (by rw [hdl] at hj; omega)) _ (hsp k hk)
  have hcp2 : ∀ (W : World), (∀ x, W.cell? x = W1.cell? x) → (∀ x, W.frozen? x = W1.frozen? x) → ∀ ty dc, (Builtin.copy_ #[(ρ.t 24), (ρ.t 24)] ty #[.slice (some ⟨b, i * size, none⟩) (n + m - i) dc, .slice (some ⟨vb, voff, none⟩) m vc]).run P W = .ok (goInt m) (W.setCells b (i * size) vs) := fun W hWc hWf ty dc => by
    have h := run_copy_cellsK (P := P) W (ρ.t 24) (ρ.t 24) ty (ρ.t 9) size b (i * size) (n + m - i) dc ⟨vb, voff, none⟩ m vc vs L.t24 hsz (by rw [hvl, hmin2])
      (fun j v hj => by
        rw [Addr.add_lit, hWc, hW1, World.cell?_setCells_out b _ _ _ _ (fun h _ => absurd h hvb)]
        exact hvs j v hj)
      (fun j hj => by rw [hWc]; exact hsp1 _ (by omega)) (fun j hj => by rw [hWf, hW1, World.frozen?_setCells]; exact hfz _) h1v
    rw [hmin2] at h
    exact h
  rw [← hW1] at hcp1
  clear hmin1 hmin2 hcut hcut2
  go_enter FG, Body2.n22_ntmps ρ
  go_wp2_with (simp only [hov])
  go_region_law_o (refine step_copy_runI rfl _ _ (ρ.t 24) (ρ.t 24) rfl _ _ (by simp [Act.eval, Act.put]) (by simp [Act.eval, Act.put]) (hcp1 _ _ _) ?_)
  go_wp2_with (at_builtin; refine wpList_copy_runI _ rfl _ _ (ρ.t 24) (ρ.t 24) rfl _ _ rfl rfl (hcp2 _ (fun _ => rfl) (fun _ => rfl) _ _) ?_)
  go_ret
  first | exact ⟨rfl, rfl⟩ | exact ⟨rfl, by rw [hW1]⟩

set_option maxHeartbeats 4000000 in
set_option maxRecDepth 100000 in
/-- At the end: what append gives. -/
theorem insert_end {size bytes : Nat} {z : Value} (L : InsL P ρ size bytes z) (a : Option Addr) (n c vb voff m vc : Nat) (w : World) (hm : 0 < m) (hnc : n ≤ c) (v' : Value) (w' : World)
    (hr : ∀ ty, (Builtin.append_ #[ρ.t 24, ρ.t 24] ty #[.slice a n c, .slice (some ⟨vb, voff, none⟩) m vc]).run P w = .ok v' w') :
    Calls P (ρ.f 22) #[.slice a n c, .int .i64 n, .slice (some ⟨vb, voff, none⟩) m vc] w fun e w1 => e = .returned v' ∧ w1 = w' := by
  have t3 := L.t3; have a3 := L.a3; have z3 := L.z3; have v3 := L.v3; have t4 := L.t4; have a4 := L.a4; have z4 := L.z4; have v4 := L.v4; have z9 := L.z9; have t24 := L.t24; have a24 := L.a24; have z24 := L.z24; have v24 := L.v24
  have u3 := run_underlying L.t3; have u4 := run_underlying L.t4; have u24 := run_underlying L.t24
  obtain ⟨nm, FG⟩ := L.f22
  have hz1 : ¬ ((m : Int) = 0) := by omega
  have mixed := L.mixed
  go_enter FG, Body2.n22_ntmps ρ
  go_wp2_with (at_builtin; refine Lib.wpList_append_run _ rfl _ _ _ _ rfl _ _ rfl rfl _ _ (hr _) ?_)
  all_goals
    go_ret
    exact ⟨rfl, rfl⟩

set_option maxHeartbeats 4000000 in
set_option maxRecDepth 100000 in
/-- No room, ahead of an element: a new row. -/
theorem insert_grow {size bytes : Nat} {z : Value} (L : InsL P ρ size bytes z) (b n c i vb voff m vc : Nat) (cs vs : List Value) (w : World) (hi : i < n) (hm : 0 < m) (hnc : n ≤ c) (hroom : c < n + m) (hbig : (n + m) * bytes ≤ 140737488355328) (h63 : n + m ≤ maxLen)
    (hcl : cs.length = n * size) (hvl : vs.length = m * size) (hbw : b < w.heap.size) (hvw : vb < w.heap.size)
    (hcs : ∀ j v, cs[j]? = some v → w.cell? ⟨b, j, none⟩ = some v)
    (hvs : ∀ j v, vs[j]? = some v → w.cell? ⟨vb, voff + j, none⟩ = some v) (h1c : ∀ v ∈ cs, v.oneCell' = true) (h1v : ∀ v ∈ vs, v.oneCell' = true) :
    Calls P (ρ.f 22) #[.slice (some ⟨b, 0, none⟩) n c, .int .i64 i, .slice (some ⟨vb, voff, none⟩) m vc] w fun e w' =>
      e = .returned (.slice (some ⟨w.heap.size, 0, none⟩) (n + m) (grownCap w (n + m) c (ρ.t 9))) ∧
      w' = (((w.alloc (.cells ((cs.take (i * size)).toArray ++ Builtin.zeroCells z.cells (n + m - i) ++ Builtin.zeroCells z.cells (grownCap w (n + m) c (ρ.t 9) - (n + m))) (ρ.t 9))).drew.setCells w.heap.size (i * size) vs).drew).setCells w.heap.size ((i + m) * size) (cs.drop (i * size)) := by
  have t3 := L.t3; have a3 := L.a3; have z3 := L.z3; have v3 := L.v3; have t4 := L.t4; have a4 := L.a4; have z4 := L.z4; have v4 := L.v4; have z9 := L.z9; have t24 := L.t24; have a24 := L.a24; have z24 := L.z24; have v24 := L.v24
  have u3 := run_underlying L.t3; have u4 := run_underlying L.t4; have u24 := run_underlying L.t24
  obtain ⟨nm, FG⟩ := L.f22
  obtain ⟨i0, hi0, hz0, hzs, hzb⟩ := L.i9
  have hz1 : ¬ ((m : Int) = 0) := by omega
  have hz2 : ¬ ((i : Int) = (n : Int)) := by omega
  have hz3 : (c : Int) < (n : Int) + (m : Int) := by omega
  have hm63 : maxLen ≤ 9223372036854775807 := by unfold maxLen; omega
  have hsz : (P.info? (ρ.t 9)).map (·.size) = some size := by rw [hi0]; simp [hzs]
  have mixed := L.mixed
  have hkk : (n : Int) + (m : Int) - (i : Int) = ((n + m - i : Nat) : Int) := by omega
  have hik : i + (n + m - i) = n + m := by omega
  have hik2 : i * size + (n + m - i) * size = (n + m) * size := by rw [← Nat.add_mul, hik]
  have hin2 : i * size ≤ n * size := Nat.mul_le_mul_right _ (by omega)
  have htl : (cs.take (i * size)).length = i * size := by rw [List.length_take]; omega
  have hold : (Builtin.firstCells i0.size i (.slice (some ⟨b, 0, none⟩) i c)).run P w.drew = .ok (cs.take (i * size)).toArray w.drew := by
    rw [hzs]
    exact run_firstCells_some w.drew size i ⟨b, 0, none⟩ i c (cs.take (i * size)) htl (fun j v hj => by
      rw [Addr.add_lit, Nat.zero_add]
      rw [List.getElem?_take] at hj
      split at hj
      · exact hcs j v hj
      · cases hj)
  have hle1 : (n + m - i) * bytes ≤ (n + m) * bytes := Nat.mul_le_mul_right _ (by omega)
  have hrz : ∀ ty, (Builtin.append_ #[(ρ.t 24), (ρ.t 3)] ty #[.slice (some ⟨b, 0, none⟩) i c, .int .i64 ((n : Int) + (m : Int) - (i : Int))]).run P w =
      .ok (.slice (some ⟨w.heap.size, 0, none⟩) (n + m) (grownCap w (n + m) c (ρ.t 9))) (w.drew.alloc (.cells ((cs.take (i * size)).toArray ++ Builtin.zeroCells z.cells (n + m - i) ++ Builtin.zeroCells z.cells (grownCap w (n + m) c (ρ.t 9) - (n + m))) (ρ.t 9))) := fun ty => by
    have h := Lib.run_append_grow_zeros w (ρ.t 24) (ρ.t 3) ty (ρ.t 9) i0 z .i64 .i64 L.t24 L.t3 hi0 hz0 (some ⟨b, 0, none⟩) i c (cs.take (i * size)) hold (n + m - i) (by omega) (by rw [hzs]; exact L.s0) (by omega) (by omega) (by rw [hzb]; omega) (by rw [hzb, hik]; exact growslice_fits hroom hbig)
    rw [hik] at h
    rw [hkk]
    exact h
  obtain ⟨G, hG⟩ : ∃ G, G = grownCap w (n + m) c (ρ.t 9) := ⟨_, rfl⟩
  obtain ⟨ROW, hROW⟩ : ∃ ROW : Array Value, ROW = (cs.take (i * size)).toArray ++ Builtin.zeroCells z.cells (n + m - i) ++ Builtin.zeroCells z.cells (G - (n + m)) := ⟨_, rfl⟩
  rw [← hG] at hrz ⊢
  rw [← hROW] at hrz ⊢
  have hRl : (n + m) * size ≤ ROW.size := by
    rw [hROW]
    simp only [Builtin.zeroCells, Array.size_append, List.size_toArray, Array.size_map, Array.size_range, htl, L.zs]
    omega
  obtain ⟨W1, hW1⟩ : ∃ W1, W1 = w.drew.alloc (.cells ROW (ρ.t 9)) := ⟨_, rfl⟩
  rw [← hW1] at hrz
  have hN : ∀ j, j < (n + m) * size → (W1.cell? ⟨w.heap.size, j, none⟩).isSome = true := fun j hj => by
    rw [hW1, World.cell?_alloc_at (w := w.drew) ROW _ w.heap.size j rfl, Array.getElem?_eq_getElem (by omega)]; rfl
  have hNf : ∀ j, W1.frozen? ⟨w.heap.size, j, none⟩ = false := fun j => by rw [hW1]; exact World.frozen?_alloc_at (w := w.drew) ROW _ w.heap.size j rfl
  have hOb : ∀ j v, w.cell? ⟨b, j, none⟩ = some v → W1.cell? ⟨b, j, none⟩ = some v := fun j v h => by rw [hW1, World.cell?_alloc_past (w := w.drew) _ b j hbw]; exact h
  have hOv : ∀ j v, w.cell? ⟨vb, j, none⟩ = some v → W1.cell? ⟨vb, j, none⟩ = some v := fun j v h => by rw [hW1, World.cell?_alloc_past (w := w.drew) _ vb j hvw]; exact h
  have hmin1 : Nat.min m (n + m - i) = m := by simp only [Nat.min_def]; split <;> omega
  have hmin2 : Nat.min (n - i) (n + m - (i + m)) = n - i := by simp only [Nat.min_def]; split <;> omega
  have hcut : (i + m) * size + (n - i) * size = (n + m) * size := by rw [← Nat.add_mul]; congr 1; omega
  have hcut2 : i * size + m * size ≤ (n + m) * size := by rw [← Nat.add_mul]; exact Nat.mul_le_mul_right _ (by omega)
  have hcpA : ∀ (W : World), (∀ x, W.cell? x = W1.cell? x) → (∀ x, W.frozen? x = W1.frozen? x) → ∀ ty dc, (Builtin.copy_ #[(ρ.t 24), (ρ.t 24)] ty #[.slice (some ⟨w.heap.size, i * size, none⟩) (n + m - i) dc, .slice (some ⟨vb, voff, none⟩) m vc]).run P W = .ok (goInt m) (W.setCells w.heap.size (i * size) vs) := fun W hWc hWf ty dc => by
    have h := run_copy_cellsK (P := P) W (ρ.t 24) (ρ.t 24) ty (ρ.t 9) size w.heap.size (i * size) (n + m - i) dc ⟨vb, voff, none⟩ m vc vs L.t24 hsz (by rw [hvl, hmin1])
      (fun j v hj => by rw [Addr.add_lit, hWc]; exact hOv _ v (hvs j v hj))
      (fun j hj => by rw [hWc]; exact hN _ (by omega)) (fun j hj => by rw [hWf]; exact hNf _) h1v
    rw [hmin1] at h
    exact h
  have hGn : n + m ≤ G := by rw [hG]; exact grownCap_ge w _ _ _
  have hG63 : G ≤ 9223372036854775807 := by
    have := grownCap_le_maxLen w (n + m) c (ρ.t 9) h63
    rw [← hG] at this
    omega
  have hGi : ¬ (G = i) := by omega
  have hGim : ¬ (G = i + m) := by omega
  have hci : ¬ (c = i) := by omega
  have hbN : b ≠ w.heap.size := by omega
  have hdl : (cs.drop (i * size)).length = (n - i) * size := by rw [List.length_drop, hcl, Nat.sub_mul]
  have hcpB : ∀ (W : World), (∀ x, W.cell? x = (W1.setCells w.heap.size (i * size) vs).cell? x) → (∀ x, W.frozen? x = (W1.setCells w.heap.size (i * size) vs).frozen? x) → ∀ ty dc sc, (Builtin.copy_ #[(ρ.t 24), (ρ.t 24)] ty #[.slice (some ⟨w.heap.size, (i + m) * size, none⟩) (n + m - (i + m)) dc, .slice (some ⟨b, i * size, none⟩) (n - i) sc]).run P W = .ok (goInt (n - i : Nat)) (W.setCells w.heap.size ((i + m) * size) (cs.drop (i * size))) := fun W hWc hWf ty dc sc => by
    have h := run_copy_cellsK (P := P) W (ρ.t 24) (ρ.t 24) ty (ρ.t 9) size w.heap.size ((i + m) * size) (n + m - (i + m)) dc ⟨b, i * size, none⟩ (n - i) sc (cs.drop (i * size)) L.t24 hsz (by rw [hdl, hmin2])
      (fun j v hj => by
        rw [Addr.add_lit, hWc, World.cell?_setCells_out _ _ _ _ _ (fun h _ => absurd h hbN)]
        exact hOb _ v (hcs (i * size + j) v (by rwa [List.getElem?_drop] at hj)))
      (fun j hj => by rw [hWc]; exact isSome_setCells w.heap.size vs (i * size) W1 (fun t ht => hN _ (by omega)) _ (hN _ (by omega)))
      (fun j hj => by rw [hWf, World.frozen?_setCells]; exact hNf _) (fun v hv => h1c v (List.mem_of_mem_drop hv))
    rw [hmin2] at h
    exact h
  subst hW1
  have hE1 : ∀ x, ((w.alloc (.cells ROW (ρ.t 9))).drew).cell? x = (w.drew.alloc (.cells ROW (ρ.t 9))).cell? x := fun x => rfl
  have hE2 : ∀ x, ((w.alloc (.cells ROW (ρ.t 9))).drew).frozen? x = (w.drew.alloc (.cells ROW (ρ.t 9))).frozen? x := fun x => rfl
  have hF1 : ∀ x, (((w.alloc (.cells ROW (ρ.t 9))).drew.setCells w.heap.size (i * size) vs).drew).cell? x = ((w.drew.alloc (.cells ROW (ρ.t 9))).setCells w.heap.size (i * size) vs).cell? x := fun x => rfl
  have hF2 : ∀ x, (((w.alloc (.cells ROW (ρ.t 9))).drew.setCells w.heap.size (i * size) vs).drew).frozen? x = ((w.drew.alloc (.cells ROW (ρ.t 9))).setCells w.heap.size (i * size) vs).frozen? x := fun x => rfl
  have hw1 : IntKind.i64.wrap ((i : Int) + (m : Int)) = (i : Int) + (m : Int) := by rw [IntKind.wrap_i64]; omega
  have hb1 : (0 : Int) ≤ (i : Int) + (m : Int) := by omega
  have hin : i ≤ n := by omega
  have htn : ((i : Int) + (m : Int)).toNat = i + m := by omega
  have hb3 : (i : Int) ≤ (n : Int) := by omega
  clear hkk hik hold hROW hG hRl hik2 hin2 htl hle1 hmin1 hmin2 hcut hcut2
  go_enter FG, Body2.n22_ntmps ρ
  go_wp2_with (first
    | (at_builtin; refine Lib.wpList_append_run _ rfl _ _ _ _ rfl _ _ rfl rfl _ _ (hrz _) ?_)
    | (at_builtin; refine wpList_copy_runI _ rfl _ _ (ρ.t 24) (ρ.t 24) rfl _ _ rfl rfl (hcpA _ hE1 hE2 _ _) ?_)
    | (at_builtin; refine wpList_copy_runI _ rfl _ _ (ρ.t 24) (ρ.t 24) rfl _ _ rfl rfl (hcpB _ (fun _ => rfl) (fun _ => rfl) _ _ _) ?_))
  go_region_law_o (refine step_copy_runI rfl _ _ (ρ.t 24) (ρ.t 24) rfl (.slice (some ⟨w.heap.size, (i + m) * size, none⟩) (n + m - (i + m)) (G - (i + m))) (.slice (some ⟨b, i * size, none⟩) (n - i) (c - i)) (by simp [Act.eval, Act.put]) (by simp [Act.eval, Act.put]) (hcpB _ hF1 hF2 (ρ.t 3) (G - (i + m)) (c - i)) ?_)
  go_wp2
  go_ret
  exact ⟨rfl, rfl⟩
end
end Go.Proofs.Ytboohfijacjhjaa

/- slices.Insert of one value into a slice of one's own, in the own logic. -/
namespace Go.Proofs.Ytboohfijacjhjaa
open Go.Shelf Go.RowKit Go.Lib Go.Ab

theorem setCells_row : ∀ (vs : List Value) (o : Nat) (w : World) (b : Nat) (cur : Array Value) (T : TypeId), w.heap[b]? = some (.cells cur T (0, 0)) → o + vs.length ≤ cur.size →
    (w.setCells b o vs).heap[b]? = some (.cells (cur.toList.take o ++ vs ++ cur.toList.drop (o + vs.length)).toArray T (0, 0)) ∧ (w.setCells b o vs).os = w.os ∧ (w.setCells b o vs).tape = w.tape ∧ (w.setCells b o vs).output = w.output ∧
      (w.setCells b o vs).heap.size = w.heap.size ∧ ∀ k, k ≠ b → (w.setCells b o vs).heap[k]? = w.heap[k]?
  | [], o, w, b, cur, T, h, hl => by
    refine ⟨?_, rfl, rfl, rfl, rfl, fun _ _ => rfl⟩
    simp only [World.setCells, List.append_nil, List.length_nil, Nat.add_zero, List.take_append_drop]
    rw [h]
  | v :: r, o, w, b, cur, T, h, hl => by
    have h1 : (w.setCell ⟨b, o, none⟩ v).heap[b]? = some (.cells (cur.setIfInBounds o v) T (0, 0)) := by
      simp only [World.setCell, Array.getElem?_modify, if_pos, h]
      rfl
    simp only [List.length_cons] at hl
    obtain ⟨g1, g2, g3, g4, g5, g6⟩ := setCells_row r (o + 1) (w.setCell ⟨b, o, none⟩ v) b _ T h1 (by simp; omega)
    refine ⟨?_, g2, g3, g4, by rw [World.setCells, g5]; simp [World.setCell], fun k hk => ?_⟩
    · rw [World.setCells, g1]
      congr 3
      have e := list_seg_step cur.toList o v r (by simp; omega)
      simpa [Array.toList_setIfInBounds, Nat.add_assoc] using e
    · rw [World.setCells, g6 k hk]
      simp [World.setCell, Array.getElem?_modify, Ne.symm hk]

/-- A slice of one's own in the place of another one, in its memory or in new memory. -/
theorem ownFor {c : Ctx} {μ : Nat → Value} {G : Nat → Nat → Prop} {w w' : World} {e e' : TypeId} {sz sz' : Nat} {xs ys : List D} {v' : Value} (st : St (base c [.own e sz xs] μ G w) [.own e sz xs] μ G w)
    (ho : w'.os = w.os) (ht : w'.tape = w.tape) (hp : w'.output = w.output) (hs : w.heap.size ≤ w'.heap.size) (hh : ∀ k, k < w.heap.size → bid (μ 0) ≠ some k → w'.heap[k]? = w.heap[k]?)
    (hv : ∀ n, bid v' = some n → w.heap.size ≤ n ∨ bid (μ 0) = some n) (hb : BlkOk (upd μ 1 v') 2 w' G v' (.own e' sz' ys)) :
    St (base c [.own e sz xs] μ G w) [.dead, .own e' sz' ys] (upd μ 1 v') G w' := by
  have hX : ∀ n, bid (μ 0) = some n → (base c [.own e sz xs] μ G w).X n := fun n hn => ⟨0, by simp [base], ⟨_, rfl, rfl⟩, hn⟩
  have hfree : ∀ n, bid (μ 0) = some n → ∀ o, ¬ G n o := fun n hn o => st.free 0 _ n rfl rfl hn o (Nat.zero_le _)
  have hcell : ∀ b o v, G b o → w.cell? ⟨b, o, none⟩ = some v → w'.cell? ⟨b, o, none⟩ = some v := fun b o v hg hc => by
    rw [cell?_heap (hh b (st.gv b o hg) (fun e => hfree b e o hg))]; exact hc
  have two : ∀ (i : Nat) (d : Blk), ([Blk.dead, .own e' sz' ys] : List Blk)[i]? = some d → d.live = true → i = 1 ∧ d = .own e' sz' ys := by
    intro i d hd hl
    match i, hd with
    | 0, hd => cases hd; cases hl
    | 1, hd => cases hd; exact ⟨rfl, rfl⟩
  have hu : upd μ 1 v' 1 = v' := by simp [upd]
  exact {
    blks := by
      intro i d hd
      match i, hd with
      | 0, hd => cases hd; trivial
      | 1, hd => cases hd; rw [hu]; exact hb
    apart := by
      intro i j b d hb hd hl hl' hij
      exact absurd ((two i b hb hl).1.trans (two j d hd hl').1.symm) hij
    free := by
      intro i d n hd hl hn o _ hg
      obtain ⟨rfl, rfl⟩ := two i d hd hl
      rw [hu] at hn
      rcases hv n hn with h | h
      · have := st.gv n o hg; omega
      · exact hfree n h o hg
    gv := fun b o hg => Nat.lt_of_lt_of_le (st.gv b o hg) hs
    k0 := by simp [base]
    keep := fun i hi => by simp [base] at hi; subst hi; simp [upd, base]
    g0 := fun _ _ h => h
    gn := fun _ _ h => .inl h
    new := by
      intro i d n hi hd hl hn
      obtain ⟨rfl, rfl⟩ := two i d hd hl
      rw [hu] at hn
      rcases hv n hn with h | h
      · exact .inl h
      · exact .inr (hX n h)
    os := ho
    tape := ht
    output := hp
    size := hs
    fr := fun k hk hx => hh k hk (fun e => hx (hX k e))
    lv := by
      intro i d hi hd hl
      obtain ⟨rfl, rfl⟩ := two i d hd hl
      simp [base] at hi
    glob := fun g x hg => (st.glob g x hg).mono (fun _ _ h => h) hcell
    gw := fun b o v h1 h2 => hcell b o v h1 h2 }

theorem shift_list (L cs vs : List Value) (A s N : Nat) (hA : A ≤ N) (hcs : cs.length = N) (hvs : vs.length = s) (hL : N + s ≤ L.length) (hpre : L.take A = cs.take A) :
    ((L.take (A + s) ++ cs.drop A ++ L.drop (A + s + (cs.drop A).length)).take A ++ vs ++ (L.take (A + s) ++ cs.drop A ++ L.drop (A + s + (cs.drop A).length)).drop (A + vs.length)).take (N + s) = cs.take A ++ (vs ++ cs.drop A) := by
  have hl : (L.take (A + s)).length = A + s := by rw [List.length_take]; omega
  have e1 : (L.take (A + s) ++ cs.drop A ++ L.drop (A + s + (cs.drop A).length)).take A = cs.take A := by
    rw [List.append_assoc, List.take_append_of_le_length (by omega), List.take_take, Nat.min_eq_left (by omega), hpre]
  have e2 : (L.take (A + s) ++ cs.drop A ++ L.drop (A + s + (cs.drop A).length)).drop (A + vs.length) = cs.drop A ++ L.drop (A + s + (cs.drop A).length) := by
    rw [List.append_assoc, List.drop_left' (by omega)]
  rw [e1, e2]
  have h3 : (cs.take A ++ vs ++ cs.drop A).length = N + s := by simp; omega
  rw [← List.append_assoc, List.take_left' h3, List.append_assoc]

theorem grow_list (R cs vs : List Value) (A s N : Nat) (hA : A ≤ N) (hcs : cs.length = N) (hvs : vs.length = s) (hpre : R.take A = cs.take A) :
    ((R.take A ++ vs ++ R.drop (A + vs.length)).take (A + s) ++ cs.drop A ++ (R.take A ++ vs ++ R.drop (A + vs.length)).drop (A + s + (cs.drop A).length)).take (N + s) = cs.take A ++ (vs ++ cs.drop A) := by
  have hl : (cs.take A ++ vs).length = A + s := by simp; omega
  have e1 : (R.take A ++ vs ++ R.drop (A + vs.length)).take (A + s) = cs.take A ++ vs := by
    rw [hpre, List.take_left' hl]
  rw [e1]
  have h3 : (cs.take A ++ vs ++ cs.drop A).length = N + s := by simp; omega
  rw [List.take_left' h3, List.append_assoc]

theorem VS.three {μ k w G x y z vals} (h : VS μ k w G [x, y, z] vals) : ∃ u v t, vals = [u, v, t] ∧ VA μ k w G x u ∧ VA μ k w G y v ∧ VA μ k w G z t := by
  cases h with
  | cons h1 h =>
  cases h with
  | cons h2 h =>
  cases h with
  | cons h3 h =>
  cases h
  exact ⟨_, _, _, rfl, h1, h2, h3⟩

theorem insert_c {ρ : Ren} {sz bytes : Nat} {z : Value} (L : InsL Try.prog ρ sz bytes z) {fn : Func} {xs : List D} {x : D} {e i : Nat} (he : ρ.t 9 = e) (hf : Try.prog.funcs[ρ.f 22]? = some fn) (hname : (fn.name == "runtime.NumGoroutine") = false) (hbd : fn.body.isSome = true)
    (hi : i ≤ xs.length) (hl : xs.length + 1 ≤ maxLen) (hbig : (xs.length + 1) * (bytes + 1) ≤ 140737488355328) :
    CallR cx (ρ.f 22) [.row 0, .d (.int .i64 i), .d (.sl sz [x])] [.own e sz xs] fun r S => r = .row 1 ∧ S = [.dead, .own e sz (xs.take i ++ x :: xs.drop i)] := by
  subst he
  refine callR_raw (c := cx) hf hname hbd fun μ G w vals st hv => ?_
  obtain ⟨v0, v1, v2, rfl, a0, a1, a2⟩ := VS.three hv
  obtain ⟨_, rfl⟩ := ca_row_inv a0
  obtain rfl := (VA.d_iff.1 a1).int_inv
  obtain ⟨cs, ho, hc, hs⟩ := st.blks 0 _ rfl
  have h1c := hc.oneCell
  have hcl : cs.length = xs.length * sz := D.eqLen hc hs
  have s0 := L.s0
  have hbig1 : (xs.length + 1) * bytes ≤ 140737488355328 := Nat.le_trans (Nat.mul_le_mul_left _ (by omega)) hbig
  rcases (VA.d_iff.1 a2).sl_inv with ⟨_, h⟩ | ⟨⟨vb, voff, sp⟩, vc, vs, rfl, g1, g2, g3, g4, g5, g6⟩
  · cases h
  obtain rfl : sp = none := g4.resolve_left (by simp)
  have hvl : vs.length = 1 * sz := D.eqLen g1 g2
  have h1v := g1.oneCell
  have hvs : ∀ j v, vs[j]? = some v → w.cell? ⟨vb, voff + j, none⟩ = some v := fun j v hj => (g3 j v hj).1
  have hG0 : G vb (voff + 0) := (g3 0 _ (List.getElem?_eq_getElem (by omega))).2
  have hvw : vb < w.heap.size := st.gv _ _ hG0
  have hvn : ∀ n, bid (μ 0) = some n → vb ≠ n := fun n hn e => by subst e; exact st.free 0 _ vb rfl rfl hn _ (Nat.zero_le _) hG0
  -- from the run to the store
  have fin : ∀ (v' : Value) (w' : World) (cs' : List Value), w'.os = w.os → w'.tape = w.tape → w'.output = w.output → w.heap.size ≤ w'.heap.size → (∀ k, k < w.heap.size → bid (μ 0) ≠ some k → w'.heap[k]? = w.heap[k]?) →
      (∀ n, bid v' = some n → w.heap.size ≤ n ∨ bid (μ 0) = some n) → w'.ownsRow 0 (ρ.t 9) sz v' (xs.length + 1) cs' → cs' = cs.take (i * sz) ++ (vs ++ cs.drop (i * sz)) →
      ∃ v r S' μ' G', Ending.returned v' = Ending.returned v ∧ (r = AV.row 1 ∧ S' = [Blk.dead, Blk.own (ρ.t 9) sz (xs.take i ++ x :: xs.drop i)]) ∧ St (base cx [.own (ρ.t 9) sz xs] μ G w) S' μ' G' w' ∧ RA μ' S'.length w' G' r v := by
    intro v' w' cs' k1 k2 k3 k4 k5 k6 k7 k8
    have hcell : ∀ b o v, G b o → w.cell? ⟨b, o, none⟩ = some v → w'.cell? ⟨b, o, none⟩ = some v := fun b o v hg hc => by
      rw [cell?_heap (k5 b (st.gv b o hg) (fun e => st.free 0 _ b rfl rfl e o (Nat.zero_le _) hg))]; exact hc
    have hsplit : xs = xs.take i ++ xs.drop i := (List.take_append_drop i xs).symm
    have hCL : CL w G (xs.take i ++ x :: xs.drop i) cs' := by
      rw [hsplit] at hc
      obtain ⟨p, q, hpq, c1, c2⟩ := CL.append_inv hc
      have hp : p.length = i * sz := by
        have := D.eqLen c1 (fun y hy => hs y (List.mem_of_mem_take hy))
        rw [this, List.length_take, Nat.min_eq_left hi]
      have e1 : cs.take (i * sz) = p := by rw [hpq, List.take_left' hp]
      have e2 : cs.drop (i * sz) = q := by rw [hpq, List.drop_left' hp]
      rw [k8, e1, e2]
      exact c1.append (CL.append (l := [x]) g1 c2)
    have hsz : ∀ y ∈ xs.take i ++ x :: xs.drop i, y.size = sz := by
      intro y hy
      rcases List.mem_append.1 hy with h | h
      · exact hs y (List.mem_of_mem_take h)
      · rcases List.mem_cons.1 h with rfl | h
        · exact g2 y (by simp)
        · exact hs y (List.mem_of_mem_drop h)
    have hlen : (xs.take i ++ x :: xs.drop i).length = xs.length + 1 := by simp; omega
    refine ⟨v', .row 1, _, upd μ 1 v', G, rfl, ⟨rfl, rfl⟩, ownFor st k1 k2 k3 k4 k5 k6 ⟨cs', by rw [hlen]; exact k7, hCL.mono (fun _ _ h => h) hcell, hsz⟩, ?_⟩
    have hsl : ∃ a l c, v' = .slice a l c := by
      rcases k7.2 with ⟨q, _⟩ | ⟨_, _, _, q, _⟩
      · exact ⟨_, _, _, q⟩
      · exact ⟨_, _, _, q⟩
    obtain ⟨a, l, c, rfl⟩ := hsl
    exact VA.ra (VA.of_single (.row (by show 1 < 2; omega) (by simp [upd]) .nil) rfl) (fun l e => by cases e)
  by_cases hin : i = xs.length
  · subst hin
    obtain ⟨i0, hi0, hz0, hzs, hzb⟩ := L.i9
    obtain ⟨v', w', hr, q1, q2, _⟩ := run_append_own (P := Try.prog) w 0 (ρ.t 24) (ρ.t 24) (ρ.t 9) i0 z sz bytes L.t24 hi0 hz0 hzs hzb L.zs s0 (μ 0) xs.length cs ho ⟨vb, voff, none⟩ 1 vc vs hvl (fun j u hj => by rw [Addr.add_lit]; exact hvs j u hj) h1v hl hbig1 (Nat.zero_le _)
    obtain ⟨v2, w2, hr2, _, _, _, k, q3, q4, _⟩ := run_append_row (P := Try.prog) (w := w) (ty := ρ.t 24) L.t24 hi0 hz0 hzs hzb L.zs (World.ownsRowF_of ho) (a := ⟨vb, voff, none⟩) (m := 1) (c := vc) hvl (fun j u hj => by rw [Addr.add_lit]; exact hvs j u hj) h1v (by omega) hbig
    rw [hr] at hr2
    injection hr2 with e1 e2
    subst e1; subst e2
    obtain ⟨a, c, hsl, hnc⟩ : ∃ a c, μ 0 = .slice a xs.length c ∧ xs.length ≤ c := by
      rcases ho.2 with ⟨q, q2⟩ | ⟨g, cap, cur, q, _, _, q3, _⟩
      · exact ⟨_, _, by rw [q, q2], by omega⟩
      · exact ⟨_, _, q, q3⟩
    have hbo : (μ 0).ownBlock = bid (μ 0) := by rw [hsl]; cases a <;> rfl
    rw [hsl] at hr
    have hcalls := insert_end L a xs.length c vb voff 1 vc w (by omega) hnc v' w' (fun ty => hr)
    rw [← hsl] at hcalls
    refine hcalls.mono ?_
    rintro e w1 ⟨rfl, rfl⟩
    refine fin v' w1 _ q2.os q2.tape q2.output q2.size (fun k hk hne => q2.block k hk (fun e => hne (by rw [← hbo]; exact e.symm))) (fun n hn => ?_) q1 (by rw [← hcl, List.take_length, List.drop_length, List.append_nil])
    rw [q3] at hn
    cases hn
    rcases q4 with q4 | q4
    · exact .inr q4
    · exact .inl q4
  · have hlt : i < xs.length := by omega
    have hislt : i * sz ≤ xs.length * sz := Nat.mul_le_mul_right _ (by omega)
    have hi1 : (i + 1) * sz = i * sz + sz := by rw [Nat.add_mul, Nat.one_mul]
    have hn1 : (xs.length + 1) * sz = xs.length * sz + sz := by rw [Nat.add_mul, Nat.one_mul]
    have hi2 : (i + 1) * sz ≤ xs.length * sz := Nat.mul_le_mul_right _ (by omega)
    rcases ho.2 with ⟨_, q⟩ | ⟨g, cap, cur, q1, _, q2, q3, q4, q5, q6⟩
    · omega
    have hbid : bid (μ 0) = some g := by rw [q1]; rfl
    have hgw : g < w.heap.size := (Array.getElem?_eq_some_iff.1 q2).1
    have hmx : maxLen ≤ 9223372036854775807 := by unfold maxLen; omega
    have hcur : ∀ j, w.cell? ⟨g, j, none⟩ = cur[j]? := fun j => by simp [World.cell?, q2]
    have hcs : ∀ j v, cs[j]? = some v → w.cell? ⟨g, j, none⟩ = some v := fun j v hj => by
      rw [hcur, ← Array.getElem?_toList]
      rw [← q6, List.getElem?_take] at hj
      split at hj
      · exact hj
      · cases hj
    have hdl : (cs.drop (i * sz)).length = xs.length * sz - i * sz := by rw [List.length_drop, hcl]
    have htk : cur.toList.take (i * sz) = cs.take (i * sz) := by rw [← q6, List.take_take, Nat.min_eq_left hislt]
    by_cases hroom : xs.length + 1 ≤ cap
    · have hcap : (xs.length + 1) * sz ≤ cur.size := by rw [q5]; exact Nat.mul_le_mul_right _ hroom
      rw [q1]
      have hsa : ∃ tA kA, w.shape? vb = some (tA, kA) ∧ kA ≠ 0 := by
        have h0 := hvs 0 _ (List.getElem?_eq_getElem (by omega))
        simp only [World.cell?] at h0
        split at h0
        · rename_i c1 e1 f1 hq
          refine ⟨e1, c1.size, by simp [World.shape?, hq], fun e => ?_⟩
          rw [Option.isSome_none, if_neg (by simp)] at h0
          have := (Array.getElem?_eq_some_iff.1 h0).1
          omega
        · cases h0
      obtain ⟨tA, kA, hsa, hkA⟩ := hsa
      refine (insert_shift L g xs.length cap i vb voff 1 vc cs vs w hlt (by omega) hroom (by omega) (hvn g hbid) hcl hvl hcs (fun j hj => by rw [hcur, Array.getElem?_eq_getElem (by omega)]; rfl) (fun j => by simp [World.frozen?, q2]) hvs h1c h1v tA (ρ.t 9) kA cur.size hsa (by simp [World.shape?, q2]) hkA).mono ?_
      rintro e w1 ⟨rfl, rfl⟩
      have hdr : w.drew.heap[g]? = some (.cells cur (ρ.t 9) (0, 0)) := q2
      obtain ⟨r1, r2, r3, r4, r5, r6⟩ := setCells_row (cs.drop (i * sz)) ((i + 1) * sz) w.drew g cur (ρ.t 9) hdr (by rw [hdl]; omega)
      obtain ⟨p1, p2, p3, p4, p5, p6⟩ := setCells_row vs (i * sz) _ g _ (ρ.t 9) r1 (by simp; omega)
      refine fin _ _ (cs.take (i * sz) ++ (vs ++ cs.drop (i * sz))) (by rw [p2, r2]; rfl) (by rw [p3, r3]; rfl) (by rw [p4, r4]; rfl) (by rw [p5, r5]; exact Nat.le_refl _) (fun k hk hne => ?_) (fun n hn => ?_) ⟨?_, .inr ⟨g, cap, _, rfl, Nat.zero_le _, p1, hroom, q4, ?_, ?_⟩⟩ rfl
      · rw [hbid] at hne
        have hkg : k ≠ g := fun e => hne (by rw [e])
        rw [p6 k hkg, r6 k hkg]
        rfl
      · exact .inr (by rw [hbid]; exact hn)
      · simp; omega
      · simp; omega
      · have := shift_list cur.toList cs vs (i * sz) sz (xs.length * sz) hislt hcl (by omega) (by simp; omega) htk
        rw [hn1, hi1, List.toList_toArray, List.toList_toArray]
        exact this
    · have hmx2 : (xs.length + 1) ≤ maxLen := hl
      rw [q1]
      refine (insert_grow L g xs.length cap i vb voff 1 vc cs vs w hlt (by omega) q3 (by omega) hbig1 hl hcl hvl hgw hvw hcs hvs h1c h1v).mono ?_
      rintro e w1 ⟨rfl, rfl⟩
      have hGn : xs.length + 1 ≤ grownCap w (xs.length + 1) cap (ρ.t 9) := grownCap_ge w _ _ _
      have hG63 : grownCap w (xs.length + 1) cap (ρ.t 9) ≤ maxLen := grownCap_le_maxLen w (xs.length + 1) cap (ρ.t 9) hl
      obtain ⟨Gc, hGc⟩ : ∃ Gc, Gc = grownCap w (xs.length + 1) cap (ρ.t 9) := ⟨_, rfl⟩
      rw [← hGc] at hGn hG63 ⊢
      obtain ⟨ROW, hROW⟩ : ∃ ROW : Array Value, ROW = (cs.take (i * sz)).toArray ++ Builtin.zeroCells z.cells (xs.length + 1 - i) ++ Builtin.zeroCells z.cells (Gc - (xs.length + 1)) := ⟨_, rfl⟩
      rw [← hROW]
      have htl : (cs.take (i * sz)).length = i * sz := by rw [List.length_take]; omega
      have hRs : ROW.size = Gc * sz := by
        rw [hROW]
        simp only [Builtin.zeroCells, Array.size_append, List.size_toArray, Array.size_map, Array.size_range, htl, L.zs]
        have e5 : i + (xs.length + 1 - i) + (Gc - (xs.length + 1)) = Gc := by omega
        rw [← Nat.add_mul, ← Nat.add_mul, e5]
      have hRt : ROW.toList.take (i * sz) = cs.take (i * sz) := by
        rw [hROW]
        simp only [Array.toList_append, List.append_assoc]
        rw [List.take_left' htl]
      have hRl : (xs.length + 1) * sz ≤ ROW.size := by rw [hRs]; exact Nat.mul_le_mul_right _ hGn
      have hal : (w.alloc (.cells ROW (ρ.t 9))).drew.heap[w.heap.size]? = some (.cells ROW (ρ.t 9) (0, 0)) := by
        show (w.heap.push _)[w.heap.size]? = _
        simp
      have hpast : ∀ k, k < w.heap.size → (w.alloc (.cells ROW (ρ.t 9))).drew.heap[k]? = w.heap[k]? := fun k hk => by
        show (w.heap.push _)[k]? = _
        rw [Array.getElem?_push, if_neg (by omega)]
      obtain ⟨r1, r2, r3, r4, r5, r6⟩ := setCells_row vs (i * sz) (w.alloc (.cells ROW (ρ.t 9))).drew w.heap.size ROW (ρ.t 9) hal (by omega)
      have r1' : (((w.alloc (.cells ROW (ρ.t 9))).drew.setCells w.heap.size (i * sz) vs).drew).heap[w.heap.size]? = _ := r1
      obtain ⟨p1, p2, p3, p4, p5, p6⟩ := setCells_row (cs.drop (i * sz)) ((i + 1) * sz) _ w.heap.size _ (ρ.t 9) r1' (by simp; omega)
      refine fin _ _ (cs.take (i * sz) ++ (vs ++ cs.drop (i * sz))) (by rw [p2]; exact r2) (by rw [p3]; exact r3) (by rw [p4]; exact r4) ?_ (fun k hk hne => ?_) (fun n hn => ?_) ⟨?_, .inr ⟨w.heap.size, Gc, _, rfl, Nat.zero_le _, p1, hGn, hG63, ?_, ?_⟩⟩ rfl
      · rw [p5]
        show w.heap.size ≤ ((w.alloc (.cells ROW (ρ.t 9))).drew.setCells w.heap.size (i * sz) vs).heap.size
        rw [r5]
        show w.heap.size ≤ (w.heap.push _).size
        simp
      · rw [p6 k (by omega)]
        show ((w.alloc (.cells ROW (ρ.t 9))).drew.setCells w.heap.size (i * sz) vs).heap[k]? = _
        rw [r6 k (by omega), hpast k hk]
      · cases hn; exact .inl (Nat.le_refl _)
      · simp; omega
      · simp; omega
      · have := grow_list ROW.toList cs vs (i * sz) sz (xs.length * sz) hislt hcl (by omega) hRt
        rw [hn1, hi1, List.toList_toArray, List.toList_toArray]
        exact this
end Go.Proofs.Ytboohfijacjhjaa

/- slices.Delete of some elements of a slice of one's own, of whatever elements: the run (after the kit's text for elements of one cell). -/
set_option linter.unusedVariables false
set_option linter.unusedSimpArgs false
namespace Go.Proofs.Ytboohfijacjhjaa
open Go.Shelf Go.RowKit Go.Lib

section
variable {P : Program} {ρ : Ren}

/-- What a program has where slices.Delete lies in it. -/
structure DelL (P : Program) (ρ : Ren) (size bytes : Nat) (z : Value) : Prop where
  mixed : P.follows .mixedOrders = true
  f45 : Bears P (ρ.f 45) (SlBodyN.n45 ρ)
  t3 : P.underlying (ρ.t 3) = some (TypeDesc.int IntKind.i64)
  a3 : ∀ w, (isAgg (ρ.t 3)).run P w = .ok false w
  z3 : ∀ w, (Go.sizeOf (ρ.t 3)).run P w = .ok 1 w
  v3 : ∀ w, (zeroValue (ρ.t 3)).run P w = .ok (Value.int IntKind.i64 0) w
  t4 : P.underlying (ρ.t 4) = some (TypeDesc.bool)
  a4 : ∀ w, (isAgg (ρ.t 4)).run P w = .ok false w
  z4 : ∀ w, (Go.sizeOf (ρ.t 4)).run P w = .ok 1 w
  v4 : ∀ w, (zeroValue (ρ.t 4)).run P w = .ok (Value.bool false) w
  t22 : P.underlying (ρ.t 22) = some (TypeDesc.slice (ρ.t 23))
  a22 : ∀ w, (isAgg (ρ.t 22)).run P w = .ok false w
  z22 : ∀ w, (Go.sizeOf (ρ.t 22)).run P w = .ok 1 w
  v22 : ∀ w, (zeroValue (ρ.t 22)).run P w = .ok (Value.slice none 0 0) w
  z23 : ∀ w, (Go.sizeOf (ρ.t 23)).run P w = .ok size w
  v23 : ∀ w, (zeroValue (ρ.t 23)).run P w = .ok z w
  i23 : ∃ i0, P.info? (ρ.t 23) = some i0 ∧ i0.zero = some z ∧ i0.size = size ∧ i0.bytes = bytes
  zs : z.cells.size = size
  zo : ∀ v ∈ z.cells.toList, v.oneCell' = true
  s0 : 0 < size

theorem zeroCells_one {cs : Array Value} {n : Nat} (h1 : ∀ v ∈ cs.toList, v.oneCell' = true) : ∀ v ∈ (Builtin.zeroCells cs n).toList, v.oneCell' = true := by
  intro v hv
  simp only [Builtin.zeroCells, Array.toList_map, Array.toList_range, List.mem_map, List.mem_range] at hv
  obtain ⟨i, hi, rfl⟩ := hv
  by_cases h0 : cs.size = 0
  · simp [h0] at hi
  · have : i % cs.size < cs.size := Nat.mod_lt _ (by omega)
    refine h1 _ ?_
    rw [getElem!_pos cs _ this]
    exact Array.getElem_mem_toList this

theorem run_clear_cells (w : World) (t e ty : TypeId) (z : Value) (ht : P.underlying t = some (.slice e)) (hv : ∀ w, (zeroValue e).run P w = .ok z w) (h1 : ∀ v ∈ z.cells.toList, v.oneCell' = true) (b o n c : Nat) (hn : 0 < n)
    (hc : ∀ j, j < n * z.cells.size → (w.cell? ⟨b, o + j, none⟩).isSome = true) (hf : ∀ j, j < n * z.cells.size → w.frozen? ⟨b, o + j, none⟩ = false) :
    (Builtin.clear_ #[t] ty #[.slice (some ⟨b, o, none⟩) n c]).run P w = .ok (.tuple #[]) (w.setCells b o (Builtin.zeroCells z.cells n).toList) := by
  have hl : (Builtin.zeroCells z.cells n).toList.length = n * z.cells.size := by simp [Builtin.zeroCells]
  have hst := run_storeCells_cells (P := P) b o (Builtin.zeroCells z.cells n).toList 0 w (by rw [hl]; simpa using hc) (by rw [hl]; simpa using hf) (zeroCells_one h1)
  simp only [Nat.add_zero] at hst
  obtain ⟨m, rfl⟩ : ∃ m, n = m + 1 := ⟨n - 1, by omega⟩
  simp [Builtin.clear_, run_underlying ht, hv, hst]

set_option maxHeartbeats 4000000 in
set_option maxRecDepth 1000000 in
theorem delete_run {size bytes : Nat} {z : Value} (L : DelL P ρ size bytes z) (blk n cap i j : Nat) (cs : List Value) (w : World) (hlt : i < j) (hj : j ≤ n) (hcap : n ≤ cap) (hm : cap ≤ 9223372036854775807) (hcl : cs.length = n * size)
    (hcs : ∀ j v, cs[j]? = some v → w.cell? ⟨blk, j, none⟩ = some v) (hfz : ∀ j, w.frozen? ⟨blk, j, none⟩ = false) (h1c : ∀ v ∈ cs, v.oneCell' = true) :
    Calls P (ρ.f 45) #[.slice (some ⟨blk, 0, none⟩) n cap, .int .i64 i, .int .i64 j] w fun e w' => e = .returned (.slice (some ⟨blk, 0, none⟩) (i + (n - j)) cap) ∧
      w' = (w.drew.setCells blk (0 + i * size) (cs.drop (j * size))).setCells blk (0 + (i + (n - j)) * size) (Builtin.zeroCells z.cells (n - (i + (n - j)))).toList := by
  have mixed := L.mixed; have t3 := L.t3; have a3 := L.a3; have z3 := L.z3; have v3 := L.v3; have t4 := L.t4; have a4 := L.a4; have z4 := L.z4; have v4 := L.v4; have t22 := L.t22; have a22 := L.a22; have z22 := L.z22; have v22 := L.v22; have z23 := L.z23
  obtain ⟨i0, hi0, _, hz1, _⟩ := L.i23
  obtain ⟨news, hnews⟩ : ∃ news, news = cs.drop (j * size) := ⟨_, rfl⟩
  have hjs : j * size ≤ n * size := Nat.mul_le_mul_right _ hj
  have his : i * size ≤ j * size := Nat.mul_le_mul_right _ (by omega)
  have hlen : news.length = (n - j) * size := by rw [hnews, List.length_drop, hcl, Nat.sub_mul]
  have hlen2 : (n - j) * size = n * size - j * size := Nat.sub_mul _ _ _
  have hget : ∀ t u, news[t]? = some u → w.cell? ⟨blk, j * size + t, none⟩ = some u := by
    intro t u hu
    rw [hnews, List.getElem?_drop] at hu
    exact hcs _ u hu
  have hsome : ∀ t, t < n * size → (w.cell? ⟨blk, t, none⟩).isSome = true := fun t ht => by rw [hcs t _ (List.getElem?_eq_getElem (by omega))]; rfl
  obtain ⟨A, hA, hsrc⟩ : ∃ A : Addr, (if cap = j then some (⟨blk, 0, none⟩ : Addr) else some ⟨blk, j * size, none⟩) = some A ∧ Hid (∀ t u, news[t]? = some u → w.drew.cell? (A.add t) = some u) := by
    by_cases h : cap = j
    · refine ⟨⟨blk, 0, none⟩, by simp [h], fun t u hu => ?_⟩
      have h0 : n - j = 0 := by omega
      rw [h0, Nat.zero_mul] at hlen
      rw [List.length_eq_zero_iff.1 hlen] at hu
      simp at hu
    · refine ⟨⟨blk, j * size, none⟩, by simp [h], fun t u hu => ?_⟩
      rw [Addr.add_lit]
      exact hget t u hu
  have s1 : Hid (news.length = (n - j) * size) := hlen
  have s2 : Hid (∀ u ∈ news, u.oneCell' = true) := by
    intro u hu
    rw [hnews] at hu
    exact h1c u (List.mem_of_mem_drop hu)
  have s3 : Hid (∀ t, t < news.length → (w.drew.cell? ⟨blk, 0 + i * size + t, none⟩).isSome = true ∧ w.drew.frozen? ⟨blk, 0 + i * size + t, none⟩ = false) := by
    intro t ht
    rw [hlen] at ht
    exact ⟨hsome _ (by omega), hfz _⟩
  obtain ⟨W1, hW1⟩ : ∃ W1, W1 = w.drew.setCells blk (0 + i * size) news := ⟨_, rfl⟩
  have hsome1 : ∀ t, t < n * size → (W1.cell? ⟨blk, t, none⟩).isSome = true := fun t ht => by
    rw [hW1]
    exact isSome_setCells blk news (0 + i * size) w.drew (fun q hq => hsome _ (by omega)) t (hsome t ht)
  have hcut : (i + (n - j)) * size + (n - (i + (n - j))) * size = n * size := by rw [← Nat.add_mul]; congr 1; omega
  have hcl2 : ∀ ty, (Builtin.clear_ #[ρ.t 22] ty #[.slice (some ⟨blk, (i + (n - j)) * size, none⟩) (n - (i + (n - j))) (cap - (i + (n - j)))]).run P W1 = .ok (.tuple #[]) (W1.setCells blk ((i + (n - j)) * size) (Builtin.zeroCells z.cells (n - (i + (n - j)))).toList) :=
    fun ty => run_clear_cells W1 _ _ ty z t22 L.v23 L.zo blk ((i + (n - j)) * size) _ _ (by omega) (fun t ht => by rw [L.zs] at ht; exact hsome1 _ (by omega)) (fun t ht => by rw [hW1, World.frozen?_setCells]; exact hfz _)
  have hW : Hid (W1 = w.drew.setCells blk (0 + i * size) news) := hW1
  have hic : i ≤ cap := by omega
  have hjc : j ≤ cap := by omega
  have h45 := L.f45
  rw [← hnews]
  clear hW1 hget hnews hlen hsome hsome1 hcut hlen2 hjs his hcs hfz
  obtain ⟨_, _, FG⟩ := h45
  go_enter FG, SlBodyN.n45_ntmps ρ
  go_wp2_with fail
  go_region_law_o (refine step_append_room rfl (.tmp 22) (.tmp 25) (ρ.t 22) rfl (ρ.t 23) i0 size t22 hi0 hz1 blk 0 i cap (by simp [Act.eval, Act.put]) A (n - j) (cap - j) news (by simp [Act.eval, Act.put]) s1.out hsrc.out s2.out (by omega) s3.out ?_; rw [← hW.out])
  go_wp2
  all_goals
    go_ret
    refine ⟨rfl, ?_⟩
    rw [Nat.zero_add, Nat.zero_add, hW.out, Nat.zero_add]
    first
      | rfl
      | (rename_i hx
         have hz : z.cells = #[z] := by
           cases z <;> first | rfl | exact (hx _ rfl).elim
         rw [hz])
end

open Go.Ab

theorem del_list (L cs Z : List Value) (A D N : Nat) (hA : A ≤ D) (hD : D ≤ N) (hcs : cs.length = N) (hL : N ≤ L.length) (hpre : L.take A = cs.take A) :
    ((L.take A ++ cs.drop D ++ L.drop (A + (cs.drop D).length)).take (A + (N - D)) ++ Z ++ (L.take A ++ cs.drop D ++ L.drop (A + (cs.drop D).length)).drop (A + (N - D) + Z.length)).take (A + (N - D)) = cs.take A ++ cs.drop D := by
  have hl : (cs.take A ++ cs.drop D).length = A + (N - D) := by simp; omega
  have e1 : (L.take A ++ cs.drop D ++ L.drop (A + (cs.drop D).length)).take (A + (N - D)) = cs.take A ++ cs.drop D := by
    rw [hpre, List.take_left' hl]
  rw [e1, List.append_assoc, List.take_left' hl]

theorem delete_c {ρ : Ren} {sz bytes : Nat} {z : Value} (L : DelL Try.prog ρ sz bytes z) {fn : Func} {xs : List D} {e i : Nat} (he : ρ.t 23 = e) (hf : Try.prog.funcs[ρ.f 45]? = some fn) (hname : (fn.name == "runtime.NumGoroutine") = false) (hbd : fn.body.isSome = true)
    (hi : i < xs.length) :
    CallR cx (ρ.f 45) [.row 0, .d (.int .i64 (i : Int)), .d (.int .i64 ((i + 1 : Nat) : Int))] [.own e sz xs] fun r S => r = .row 1 ∧ S = [.dead, .own e sz (xs.take i ++ xs.drop (i + 1))] := by
  subst he
  refine callR_raw (c := cx) hf hname hbd fun μ G w vals st hv => ?_
  obtain ⟨v0, v1, v2, rfl, a0, a1, a2⟩ := VS.three hv
  obtain ⟨_, rfl⟩ := ca_row_inv a0
  obtain rfl := (VA.d_iff.1 a1).int_inv
  obtain rfl := (VA.d_iff.1 a2).int_inv
  obtain ⟨cs, ho, hc, hs⟩ := st.blks 0 _ rfl
  have h1c := hc.oneCell
  have hcl : cs.length = xs.length * sz := D.eqLen hc hs
  have s0 := L.s0
  rcases ho.2 with ⟨_, q⟩ | ⟨g, cap, cur, q1, _, q2, q3, q4, q5, q6⟩
  · omega
  have hbid : bid (μ 0) = some g := by rw [q1]; rfl
  have hmx : maxLen ≤ 9223372036854775807 := by unfold maxLen; omega
  have hcur : ∀ j, w.cell? ⟨g, j, none⟩ = cur[j]? := fun j => by simp [World.cell?, q2]
  have hcs : ∀ j v, cs[j]? = some v → w.cell? ⟨g, j, none⟩ = some v := fun j v hj => by
    rw [hcur, ← Array.getElem?_toList]
    rw [← q6, List.getElem?_take] at hj
    split at hj
    · exact hj
    · cases hj
  have hA : i * sz ≤ (i + 1) * sz := Nat.mul_le_mul_right _ (by omega)
  have hD : (i + 1) * sz ≤ xs.length * sz := Nat.mul_le_mul_right _ (by omega)
  have hcap : xs.length * sz ≤ cap * sz := Nat.mul_le_mul_right _ q3
  have hdl : (cs.drop ((i + 1) * sz)).length = xs.length * sz - (i + 1) * sz := by rw [List.length_drop, hcl]
  have htk : cur.toList.take (i * sz) = cs.take (i * sz) := by rw [← q6, List.take_take, Nat.min_eq_left (by omega)]
  have en : i + (xs.length - (i + 1)) = xs.length - 1 := by omega
  have ez : xs.length - (xs.length - 1) = 1 := by omega
  have hB : (xs.length - 1) * sz = i * sz + (xs.length * sz - (i + 1) * sz) := by
    rw [← en, Nat.add_mul, Nat.sub_mul]
  have hZ : (Builtin.zeroCells z.cells 1).toList.length = sz := by simp [Builtin.zeroCells, L.zs]
  have hi1 : (i + 1) * sz = i * sz + sz := by rw [Nat.add_mul, Nat.one_mul]
  have run := delete_run L g xs.length cap i (i + 1) cs w (by omega) (by omega) q3 (by omega) hcl hcs (fun j => by simp [World.frozen?, q2]) h1c
  rw [en, ez] at run
  rw [q1]
  refine run.mono ?_
  rintro e w1 ⟨rfl, rfl⟩
  rw [Nat.zero_add, Nat.zero_add]
  have hdr : w.drew.heap[g]? = some (.cells cur (ρ.t 23) (0, 0)) := q2
  obtain ⟨r1, r2, r3, r4, r5, r6⟩ := setCells_row (cs.drop ((i + 1) * sz)) (i * sz) w.drew g cur (ρ.t 23) hdr (by rw [hdl]; omega)
  obtain ⟨p1, p2, p3, p4, p5, p6⟩ := setCells_row (Builtin.zeroCells z.cells 1).toList ((xs.length - 1) * sz) _ g _ (ρ.t 23) r1 (by simp only [List.size_toArray, List.length_append, List.length_take, List.length_drop, hZ, Array.length_toList]; omega)
  have hlen : (xs.take i ++ xs.drop (i + 1)).length = xs.length - 1 := by simp; omega
  have hheap : ∀ k, k < w.heap.size → bid (μ 0) ≠ some k → ((w.drew.setCells g (i * sz) (cs.drop ((i + 1) * sz))).setCells g ((xs.length - 1) * sz) (Builtin.zeroCells z.cells 1).toList).heap[k]? = w.heap[k]? := by
    intro k hk hne
    rw [hbid] at hne
    have hkg : k ≠ g := fun e => hne (by rw [e])
    rw [p6 k hkg, r6 k hkg]
    rfl
  have hcell : ∀ b o v, G b o → w.cell? ⟨b, o, none⟩ = some v → ((w.drew.setCells g (i * sz) (cs.drop ((i + 1) * sz))).setCells g ((xs.length - 1) * sz) (Builtin.zeroCells z.cells 1).toList).cell? ⟨b, o, none⟩ = some v := fun b o v hg hc => by
    rw [cell?_heap (hheap b (st.gv b o hg) (fun e => st.free 0 _ b rfl rfl e o (Nat.zero_le _) hg))]; exact hc
  have hCL : CL w G (xs.take i ++ xs.drop (i + 1)) (cs.take (i * sz) ++ cs.drop ((i + 1) * sz)) := by
    have h1 : xs = xs.take i ++ xs.drop i := (List.take_append_drop i xs).symm
    have h2 : xs = xs.take (i + 1) ++ xs.drop (i + 1) := (List.take_append_drop (i + 1) xs).symm
    have c1 : CL w G (xs.take i) (cs.take (i * sz)) := by
      rw [h1] at hc
      obtain ⟨p, q, hpq, c1, c2⟩ := CL.append_inv hc
      have hp : p.length = i * sz := by
        have := D.eqLen c1 (fun y hy => hs y (List.mem_of_mem_take hy))
        rw [this, List.length_take, Nat.min_eq_left (by omega)]
      rw [hpq, List.take_left' hp]
      exact c1
    have c2 : CL w G (xs.drop (i + 1)) (cs.drop ((i + 1) * sz)) := by
      rw [h2] at hc
      obtain ⟨p, q, hpq, c1, c2⟩ := CL.append_inv hc
      have hp : p.length = (i + 1) * sz := by
        have := D.eqLen c1 (fun y hy => hs y (List.mem_of_mem_take hy))
        rw [this, List.length_take, Nat.min_eq_left (by omega)]
      rw [hpq, List.drop_left' hp]
      exact c2
    exact c1.append c2
  have hsz : ∀ y ∈ xs.take i ++ xs.drop (i + 1), y.size = sz := by
    intro y hy
    rcases List.mem_append.1 hy with h | h
    · exact hs y (List.mem_of_mem_take h)
    · exact hs y (List.mem_of_mem_drop h)
  refine ⟨.slice (some ⟨g, 0, none⟩) (xs.length - 1) cap, .row 1, _, upd μ 1 (.slice (some ⟨g, 0, none⟩) (xs.length - 1) cap), G, rfl, ⟨rfl, rfl⟩, ownFor (v' := .slice (some ⟨g, 0, none⟩) (xs.length - 1) cap) st (by rw [p2, r2]; rfl) (by rw [p3, r3]; rfl) (by rw [p4, r4]; rfl) (by rw [p5, r5]; exact Nat.le_refl _) hheap (fun n hn => .inr (by rw [hbid]; exact hn))
    ⟨cs.take (i * sz) ++ cs.drop ((i + 1) * sz), ⟨?_, .inr ⟨g, cap, _, by rw [hlen], Nat.zero_le _, p1, by rw [hlen]; omega, q4, ?_, ?_⟩⟩, hCL.mono (fun _ _ h => h) hcell, hsz⟩, ?_⟩
  · rw [hlen, hB]; simp only [List.length_append, List.length_take, List.length_drop, hcl]; omega
  · simp only [List.size_toArray, List.length_append, List.length_take, List.length_drop, hZ, Array.length_toList]; omega
  · have := del_list cur.toList cs (Builtin.zeroCells z.cells 1).toList (i * sz) ((i + 1) * sz) (xs.length * sz) hA hD hcl (by simp; omega) htk
    rw [hlen, hB, List.toList_toArray, List.toList_toArray]
    exact this
  · exact VA.ra (VA.of_single (.row (by show 1 < 2; omega) (by simp [upd]) .nil) rfl) (fun l e => by cases e)
end Go.Proofs.Ytboohfijacjhjaa

/- strings.Builder: copyCheck, WriteString, WriteByte, Write, String, in the own logic: a builder is a variable that holds its own place and a row of bytes. -/
namespace Go.Ab
open Go.RowKit

/-- A live block's own memory turns, but not its cells. -/
theorem St.turn {B S μ G w} (st : St B S μ G w) {w' : World} {n g : Nat} {b : Blk} (hn : S[n]? = some b) (hl : b.live = true) (hg : bid (μ n) = some g) (h : Next w w' (some g))
    (hcell : ∀ o, w'.cell? ⟨g, o, none⟩ = w.cell? ⟨g, o, none⟩) (hb : BlkOk μ S.length w' G (μ n) b) : St B S μ G w' := by
  have hc := h.cells st.gv (G := G) (fun k hk o v _ hv => by cases hk; rw [hcell]; exact hv)
  exact {
    blks := by
      intro i d hd
      by_cases e : i = n
      · subst e; rw [hn] at hd; cases hd; exact hb
      · refine (st.blks i d hd).mono (Nat.le_refl _) (fun _ _ _ => rfl) (fun _ _ h => h) hc (fun hl1 m hm => h.heap m ((st.blks i d hd).bid_lt hl1 m hm) ?_)
        intro e'
        cases e'
        exact st.apart n i b d hn hd hl hl1 (Ne.symm e) g hg hm
    apart := st.apart
    free := st.free
    gv := fun b o hG => Nat.lt_of_lt_of_le (st.gv b o hG) h.size
    k0 := st.k0
    keep := st.keep
    g0 := st.g0
    gn := st.gn
    new := st.new
    os := h.os.trans st.os
    tape := h.tape.trans st.tape
    output := h.output.trans st.output
    size := Nat.le_trans st.size h.size
    fr := by
      intro k hk hx
      refine (h.heap k (Nat.lt_of_lt_of_le hk st.size) ?_).trans (st.fr k hk hx)
      intro e
      cases e
      by_cases hi : n < B.k0
      · exact hx (st.xx hi hn hl hg)
      · rcases st.new n b g (by omega) hn hl hg with h | h
        · omega
        · exact hx h
    lv := st.lv
    glob := fun g x hg => (st.glob g x hg).mono (fun _ _ h => h) hc
    gw := fun b o v h1 h2 => hc b o v (st.g0 b o h1) (st.gw b o v h1 h2) }

theorem VS.ptr0 {μ k w G vals} (h : VS μ k w G [.ptr 0 []] vals) : ∃ b, vals = [.pointer (some ⟨b, 0, none⟩)] ∧ μ 0 = .pointer (some ⟨b, 0, none⟩) := by
  obtain ⟨v, rfl, h1⟩ := VS.one h
  obtain ⟨b, _, h3, _, e⟩ := h1.ptr_inv
  exact ⟨b, by rw [e]; rfl, h3.nil⟩

theorem bytes_append (s t : ByteArray) : D.bytes (s ++ t) = D.bytes s ++ D.bytes t := by
  unfold D.bytes
  rw [ByteArray.data_append, Array.toList_append, List.map_append]

theorem freeze_next (w : World) (g n : Nat) : Next w (w.freeze ⟨g, 0, none⟩ n) (some g) := by
  unfold World.freeze
  split
  · exact ⟨rfl, rfl, rfl, Nat.le_refl _, fun _ _ _ => rfl⟩
  · refine ⟨rfl, rfl, rfl, by simp, fun k hk hne => ?_⟩
    simp only [Array.getElem?_modify]
    rw [if_neg (fun e => hne (by rw [e]))]

theorem freeze_heap {w : World} {g n : Nat} {cur : Array Value} {t : TypeId} {fz : Nat × Nat} (h : w.heap[g]? = some (.cells cur t fz)) :
    ∃ fz' : Nat × Nat, (w.freeze ⟨g, 0, none⟩ n).heap[g]? = some (.cells cur t fz') ∧ (fz.2 ≤ n → fz'.2 ≤ n) := by
  unfold World.freeze
  split
  · exact ⟨fz, h, fun h => h⟩
  · obtain ⟨lo, hi⟩ := fz
    refine ⟨if lo == hi then (0, 0 + n) else (min lo 0, max hi (0 + n)), ?_, ?_⟩
    · simp [Array.getElem?_modify, h]
    · intro hle
      simp only at hle
      split
      · simp
      · simp only [Nat.zero_add]; omega
end Go.Ab
namespace Go.Proofs.Ytboohfijacjhjaa
open Go.Ab Go.RowKit

/-- A builder and its bytes. -/
abbrev bd (p : AV) (s : ByteArray) : List Blk := [.tvar 186 (.agg [p, .row 1]), .row 5 1 (D.bytes s)]

set_option maxHeartbeats 1000000 in
set_option maxRecDepth 100000 in
theorem raw_copy_used (b : Nat) (w : World) (h0 : w.cell? ⟨b, 0, none⟩ = some (.pointer (some ⟨b, 0, none⟩))) :
    Calls Try.prog 109 #[.pointer (some ⟨b, 0, none⟩)] w fun e w' => e = .returned (.tuple #[]) ∧ w' = w := by
  obtain ⟨j, hj, _⟩ := Option.map_eq_some_iff.1 (show (Try.prog.info? 186).map (·.size) = some 2 by kernel_rfl)
  have mixed : Try.prog.follows .mixedOrders = true := by kernel_rfl
  have t72 := Try.underlying186; have a72 := Try.isAgg186; have z72 := Try.sizeOf186; have v72 := Try.zeroValue186; have u72 := run_underlying t72
  have t70 := Try.underlying184; have a70 := Try.isAgg184; have z70 := Try.sizeOf184; have v70 := Try.zeroValue184; have u70 := run_underlying t70
  have t9 := Try.underlying9; have a9 := Try.isAgg9; have z9 := Try.sizeOf9; have v9 := Try.zeroValue9; have u9 := run_underlying t9
  have t4 := Try.underlying4; have a4 := Try.isAgg4; have z4 := Try.sizeOf4; have v4 := Try.zeroValue4; have u4 := run_underlying t4
  have t164 := Try.underlying208; have a164 := Try.isAgg208; have z164 := Try.sizeOf208; have v164 := Try.zeroValue208; have u164 := run_underlying t164
  go_enter Try.func109, Try.ntmps109
  go_wp2
  rw [Lib.run_neq_ptr_same w _ t70 hj]
  go_wp2
  go_end0
  exact ⟨rfl, rfl⟩

set_option maxHeartbeats 1000000 in
set_option maxRecDepth 100000 in
theorem raw_copy_fresh (b : Nat) (w : World) (h0 : w.cell? ⟨b, 0, none⟩ = some (.pointer none)) (hsh : w.shape? b = some (186, 2)) (hfz : w.frozen? ⟨b, 0, none⟩ = false) :
    Calls Try.prog 109 #[.pointer (some ⟨b, 0, none⟩)] w fun e w' => e = .returned (.tuple #[]) ∧ w' = w.setCell ⟨b, 0, none⟩ (.pointer (some ⟨b, 0, none⟩)) := by
  obtain ⟨j, hj, hjs⟩ := Option.map_eq_some_iff.1 (show (Try.prog.info? 186).map (·.size) = some 2 by kernel_rfl)
  have hlies : liesAt Try.prog Try.prog.depth 186 (2 / Try.prog.cellsOf 186) 0 186 1 = true := by kernel_rfl
  have mixed : Try.prog.follows .mixedOrders = true := by kernel_rfl
  have t72 := Try.underlying186; have a72 := Try.isAgg186; have z72 := Try.sizeOf186; have v72 := Try.zeroValue186; have u72 := run_underlying t72
  have t70 := Try.underlying184; have a70 := Try.isAgg184; have z70 := Try.sizeOf184; have v70 := Try.zeroValue184; have u70 := run_underlying t70
  have t9 := Try.underlying9; have a9 := Try.isAgg9; have z9 := Try.sizeOf9; have v9 := Try.zeroValue9; have u9 := run_underlying t9
  have t4 := Try.underlying4; have a4 := Try.isAgg4; have z4 := Try.sizeOf4; have v4 := Try.zeroValue4; have u4 := run_underlying t4
  have t164 := Try.underlying208; have a164 := Try.isAgg208; have z164 := Try.sizeOf208; have v164 := Try.zeroValue208; have u164 := run_underlying t164
  go_enter Try.func109, Try.ntmps109
  go_wp2
  rw [Lib.run_to_unsafe w ⟨b, 0, none⟩ t70 t164 hj (by rw [hjs]; decide) hsh (Nat.zero_lt_succ 1)]
  simp only [Result.andThen]
  rw [Oper.upon_value]
  go_wp2
  rw [run_callFunc_extern Try.func114 (by kernel_rfl) (by kernel_rfl) (by kernel_rfl) (e := Extern.AbiNoEscape.same) (by kernel_rfl)]
  rw [Lib.run_noEscape]
  simp only [Result.andThen]
  rw [Oper.upon_value]
  go_wp2
  rw [Lib.run_from_unsafe w ⟨b, 0, none⟩ t164 t70 hj hsh hlies]
  simp only [Result.andThen]
  rw [Oper.upon_value]
  go_wp2
  go_end0
  exact ⟨rfl, rfl⟩
end Go.Proofs.Ytboohfijacjhjaa

/- strings.Builder: String, in the own logic. -/
namespace Go.Ab
open Go.RowKit
theorem Next.ofDrew {w w' : World} {n : Option Nat} (h : Next w.drew w' n) : Next w w' n := ⟨h.os, h.tape, h.output, h.size, h.heap⟩
theorem Next.toDrew {w w' : World} {n : Option Nat} (h : Next w w' n) : Next w w'.drew n := ⟨h.os, h.tape, h.output, h.size, h.heap⟩
theorem next_alloc1 (w : World) (o : Obj) (q : Option Nat) : Next w (w.alloc o) q :=
  ⟨rfl, rfl, rfl, by show w.heap.size ≤ (w.heap.push _).size; simp, fun k hk _ => by
    show (w.heap.push _)[k]? = _
    rw [Array.getElem?_push, if_neg (by omega)]⟩
end Go.Ab
namespace Go.Proofs.Ytboohfijacjhjaa
open Go.Ab Go.RowKit

set_option maxHeartbeats 2000000 in
set_option maxRecDepth 100000 in
theorem raw_string_some (b g cap : Nat) (p : Value) (cur : Array Value) (fz : Nat × Nat) (l : List UInt8) (w : World) (h0 : l ≠ []) (hbk : w.heap[b]? = some (.cells #[p, .slice (some ⟨g, 0, none⟩) l.length cap] 186 (0, 0)))
    (hg : w.heap[g]? = some (.cells cur 5 fz)) (hnc : l.length ≤ cap) (hcm : cap ≤ maxLen) (hcs : cur.size = cap) (hcells : ∀ j x, l[j]? = some x → w.cell? ((⟨g, 0, none⟩ : Addr).add j) = some (.int .u8 x.toNat)) :
    Calls Try.prog 96 #[.pointer (some ⟨b, 0, none⟩)] w fun e w' => e = .returned (.string ⟨l.toArray⟩) ∧ w' = w.drew.freeze ⟨g, 0, none⟩ l.length := by
  have hl0 : l.length ≠ 0 := by simpa using h0
  have c1 : w.drew.cell? ⟨b, 1, none⟩ = some (.slice (some ⟨g, 0, none⟩) l.length cap) := by
    have : w.drew.heap[b]? = some (.cells #[p, .slice (some ⟨g, 0, none⟩) l.length cap] 186 (0, 0)) := hbk
    rw [Lib.cell_of_heap this]; rfl
  have hSD : (Builtin.unsafeSliceData_ #[183] 204 #[.slice (some ⟨g, 0, none⟩) l.length cap]).run Try.prog w.drew = .ok (.pointer (some ⟨g, 0, none⟩)) w.drew :=
    Lib.run_unsafeSliceData_row _ _ _ _ _ _ (by omega)
  have hUS : (Builtin.unsafeString_ #[204, 3] 9 #[.pointer (some ⟨g, 0, none⟩), .int .i64 l.length]).run Try.prog w.drew = .ok (.string ⟨l.toArray⟩) (w.drew.freeze ⟨g, 0, none⟩ l.length) := by
    refine Lib.run_unsafeString_row w.drew 204 3 9 5 Try.underlying204 (by kernel_rfl) g cur.size (by have hg' : w.drew.heap[g]? = some (.cells cur 5 fz) := hg; simp [World.shape?, hg']) l h0 (by omega) (by unfold maxLen at hcm; omega) ?_
    intro j x hx
    exact hcells j x hx
  have mixed : Try.prog.follows .mixedOrders = true := by kernel_rfl
  have t72 := Try.underlying186; have a72 := Try.isAgg186; have z72 := Try.sizeOf186; have v72 := Try.zeroValue186; have u72 := run_underlying t72
  have t70 := Try.underlying184; have a70 := Try.isAgg184; have z70 := Try.sizeOf184; have v70 := Try.zeroValue184; have u70 := run_underlying t70
  have t37 := Try.underlying183; have a37 := Try.isAgg183; have z37 := Try.sizeOf183; have v37 := Try.zeroValue183; have u37 := run_underlying t37
  have t127 := Try.underlying204; have a127 := Try.isAgg204; have z127 := Try.sizeOf204; have v127 := Try.zeroValue204; have u127 := run_underlying t127
  have t3 := Try.underlying3; have a3 := Try.isAgg3; have z3 := Try.sizeOf3; have v3 := Try.zeroValue3; have u3 := run_underlying t3
  have t9 := Try.underlying9; have a9 := Try.isAgg9; have z9 := Try.sizeOf9; have v9 := Try.zeroValue9; have u9 := run_underlying t9
  have t5 := Try.underlying5; have a5 := Try.isAgg5; have z5 := Try.sizeOf5; have v5 := Try.zeroValue5; have u5 := run_underlying t5
  go_enter Try.func96, Try.ntmps96
  go_wp2
  go_region_o
  all_goals (go_wp2; go_ret; exact ⟨rfl, rfl⟩)

set_option maxHeartbeats 2000000 in
set_option maxRecDepth 100000 in
theorem raw_string_nil (b : Nat) (p : Value) (w : World) (hbk : w.heap[b]? = some (.cells #[p, .slice none 0 0] 186 (0, 0))) :
    Calls Try.prog 96 #[.pointer (some ⟨b, 0, none⟩)] w fun e w' => e = .returned (.string ⟨#[]⟩) ∧ w' = w.drew := by
  have hUS : ∀ (W : World) (q : Option Addr), (Builtin.unsafeString_ #[204, 3] 9 #[.pointer q, .int .i64 0]).run Try.prog W = .ok (.string .empty) W := fun W q => Lib.run_unsafeString_none W _ _ _ q
  have c1 : w.drew.cell? ⟨b, 1, none⟩ = some (.slice none 0 0) := by
    have : w.drew.heap[b]? = some (.cells #[p, .slice none 0 0] 186 (0, 0)) := hbk
    rw [Lib.cell_of_heap this]; rfl
  have hSD : (Builtin.unsafeSliceData_ #[183] 204 #[.slice none 0 0]).run Try.prog w.drew = .ok (.pointer none) w.drew := rfl
  have mixed : Try.prog.follows .mixedOrders = true := by kernel_rfl
  have t72 := Try.underlying186; have a72 := Try.isAgg186; have z72 := Try.sizeOf186; have v72 := Try.zeroValue186; have u72 := run_underlying t72
  have t70 := Try.underlying184; have a70 := Try.isAgg184; have z70 := Try.sizeOf184; have v70 := Try.zeroValue184; have u70 := run_underlying t70
  have t37 := Try.underlying183; have a37 := Try.isAgg183; have z37 := Try.sizeOf183; have v37 := Try.zeroValue183; have u37 := run_underlying t37
  have t127 := Try.underlying204; have a127 := Try.isAgg204; have z127 := Try.sizeOf204; have v127 := Try.zeroValue204; have u127 := run_underlying t127
  have t3 := Try.underlying3; have a3 := Try.isAgg3; have z3 := Try.sizeOf3; have v3 := Try.zeroValue3; have u3 := run_underlying t3
  have t9 := Try.underlying9; have a9 := Try.isAgg9; have z9 := Try.sizeOf9; have v9 := Try.zeroValue9; have u9 := run_underlying t9
  have t5 := Try.underlying5; have a5 := Try.isAgg5; have z5 := Try.sizeOf5; have v5 := Try.zeroValue5; have u5 := run_underlying t5
  go_enter Try.func96, Try.ntmps96
  go_wp2
  go_region_o
  all_goals (go_wp2; go_ret; exact ⟨rfl, rfl⟩)

set_option maxHeartbeats 2000000 in
set_option maxRecDepth 100000 in
theorem raw_string_room (b g cap : Nat) (p : Value) (w : World) (hc0 : cap ≠ 0) (hbk : w.heap[b]? = some (.cells #[p, .slice (some ⟨g, 0, none⟩) 0 cap] 186 (0, 0))) :
    Calls Try.prog 96 #[.pointer (some ⟨b, 0, none⟩)] w fun e w' => e = .returned (.string ⟨#[]⟩) ∧ w' = w.drew := by
  have hUS : ∀ (W : World) (q : Option Addr), (Builtin.unsafeString_ #[204, 3] 9 #[.pointer q, .int .i64 0]).run Try.prog W = .ok (.string .empty) W := fun W q => Lib.run_unsafeString_none W _ _ _ q
  have c1 : w.drew.cell? ⟨b, 1, none⟩ = some (.slice (some ⟨g, 0, none⟩) 0 cap) := by
    have : w.drew.heap[b]? = some (.cells #[p, .slice (some ⟨g, 0, none⟩) 0 cap] 186 (0, 0)) := hbk
    rw [Lib.cell_of_heap this]; rfl
  have hSD : (Builtin.unsafeSliceData_ #[183] 204 #[.slice (some ⟨g, 0, none⟩) 0 cap]).run Try.prog w.drew = .ok (.pointer (some ⟨g, 0, none⟩)) w.drew :=
    Lib.run_unsafeSliceData_row _ _ _ _ _ _ hc0
  clear hc0
  have mixed : Try.prog.follows .mixedOrders = true := by kernel_rfl
  have t72 := Try.underlying186; have a72 := Try.isAgg186; have z72 := Try.sizeOf186; have v72 := Try.zeroValue186; have u72 := run_underlying t72
  have t70 := Try.underlying184; have a70 := Try.isAgg184; have z70 := Try.sizeOf184; have v70 := Try.zeroValue184; have u70 := run_underlying t70
  have t37 := Try.underlying183; have a37 := Try.isAgg183; have z37 := Try.sizeOf183; have v37 := Try.zeroValue183; have u37 := run_underlying t37
  have t127 := Try.underlying204; have a127 := Try.isAgg204; have z127 := Try.sizeOf204; have v127 := Try.zeroValue204; have u127 := run_underlying t127
  have t3 := Try.underlying3; have a3 := Try.isAgg3; have z3 := Try.sizeOf3; have v3 := Try.zeroValue3; have u3 := run_underlying t3
  have t9 := Try.underlying9; have a9 := Try.isAgg9; have z9 := Try.sizeOf9; have v9 := Try.zeroValue9; have u9 := run_underlying t9
  have t5 := Try.underlying5; have a5 := Try.isAgg5; have z5 := Try.sizeOf5; have v5 := Try.zeroValue5; have u5 := run_underlying t5
  go_enter Try.func96, Try.ntmps96
  go_wp2
  go_region_o
  all_goals (go_wp2; go_ret; exact ⟨rfl, rfl⟩)

set_option maxHeartbeats 2000000 in
set_option maxRecDepth 100000 in
theorem raw_string_noroom (b g : Nat) (p : Value) (cur : Array Value) (fz : Nat × Nat) (w : World) (hbk : w.heap[b]? = some (.cells #[p, .slice (some ⟨g, 0, none⟩) 0 0] 186 (0, 0))) (hg : w.heap[g]? = some (.cells cur 5 fz)) :
    Calls Try.prog 96 #[.pointer (some ⟨b, 0, none⟩)] w fun e w' => e = .returned (.string ⟨#[]⟩) ∧ Ab.Next w w' none := by
  have hUS : ∀ (W : World) (q : Option Addr), (Builtin.unsafeString_ #[204, 3] 9 #[.pointer q, .int .i64 0]).run Try.prog W = .ok (.string .empty) W := fun W q => Lib.run_unsafeString_none W _ _ _ q
  have hlt : b < w.heap.size := (Array.getElem?_eq_some_iff.1 hbk).1
  have c1 : w.drew.cell? ⟨b, 1, none⟩ = some (.slice (some ⟨g, 0, none⟩) 0 0) := by
    have : w.drew.heap[b]? = some (.cells #[p, .slice (some ⟨g, 0, none⟩) 0 0] 186 (0, 0)) := hbk
    rw [Lib.cell_of_heap this]; rfl
  have hSD : (Builtin.unsafeSliceData_ #[183] 204 #[.slice (some ⟨g, 0, none⟩) 0 0]).run Try.prog w.drew = .ok (.pointer (some ⟨w.drew.heap.size, 0, none⟩)) (w.drew.alloc (.view ⟨g, 0, none⟩ 5)) :=
    Lib.run_unsafeSliceData_zero w.drew _ _ 5 Try.underlying204 ⟨g, 0, none⟩ 0 (5, cur.size) (by have hg' : w.drew.heap[g]? = some (.cells cur 5 fz) := hg; simp [World.shape?, hg'])
  have c2 : (w.drew.alloc (.view ⟨g, 0, none⟩ 5)).cell? ⟨b, 1, none⟩ = some (.slice (some ⟨g, 0, none⟩) 0 0) := by
    have : (w.drew.alloc (.view ⟨g, 0, none⟩ 5)).heap[b]? = _ := (Lib.alloc_old w.drew _ b hlt).trans hbk
    rw [Lib.cell_of_heap this]; rfl
  have c3 : (w.alloc (.view ⟨g, 0, none⟩ 5)).drew.cell? ⟨b, 1, none⟩ = some (.slice (some ⟨g, 0, none⟩) 0 0) := c2
  have c0 : w.cell? ⟨b, 1, none⟩ = some (.slice (some ⟨g, 0, none⟩) 0 0) := c1
  have mixed : Try.prog.follows .mixedOrders = true := by kernel_rfl
  have t72 := Try.underlying186; have a72 := Try.isAgg186; have z72 := Try.sizeOf186; have v72 := Try.zeroValue186; have u72 := run_underlying t72
  have t70 := Try.underlying184; have a70 := Try.isAgg184; have z70 := Try.sizeOf184; have v70 := Try.zeroValue184; have u70 := run_underlying t70
  have t37 := Try.underlying183; have a37 := Try.isAgg183; have z37 := Try.sizeOf183; have v37 := Try.zeroValue183; have u37 := run_underlying t37
  have t127 := Try.underlying204; have a127 := Try.isAgg204; have z127 := Try.sizeOf204; have v127 := Try.zeroValue204; have u127 := run_underlying t127
  have t3 := Try.underlying3; have a3 := Try.isAgg3; have z3 := Try.sizeOf3; have v3 := Try.zeroValue3; have u3 := run_underlying t3
  have t9 := Try.underlying9; have a9 := Try.isAgg9; have z9 := Try.sizeOf9; have v9 := Try.zeroValue9; have u9 := run_underlying t9
  have t5 := Try.underlying5; have a5 := Try.isAgg5; have z5 := Try.sizeOf5; have v5 := Try.zeroValue5; have u5 := run_underlying t5
  go_enter Try.func96, Try.ntmps96
  go_wp2
  go_region_o
  all_goals (go_wp2; go_ret; first | exact ⟨rfl, next_alloc1 w _ none⟩ | exact ⟨rfl, (next_alloc1 w _ none).toDrew⟩ | exact ⟨rfl, (next_alloc1 w.drew _ none).ofDrew⟩)
end Go.Proofs.Ytboohfijacjhjaa

/- strings.Builder: the contracts. -/
namespace Go.Proofs.Ytboohfijacjhjaa
open Go.Ab Go.RowKit

/-- What a builder's store means. -/
theorem bd_inv {B : Base} {μ G w} {p : AV} {s : ByteArray} (st : St B (bd p s) μ G w) (hp : p = .d .nilP ∨ p = .ptr 0 []) :
    ∃ b pv, μ 0 = .pointer (some ⟨b, 0, none⟩) ∧ w.heap[b]? = some (.cells #[pv, μ 1] 186 (0, 0)) ∧ ((p = .d .nilP ∧ pv = .pointer none) ∨ (p = .ptr 0 [] ∧ pv = .pointer (some ⟨b, 0, none⟩))) ∧
      w.ownsRowF 0 5 1 (μ 1) s.size (Lib.strCells s) := by
  obtain ⟨b, cs, h1, h2, h3⟩ := st.blks 0 _ rfl
  obtain ⟨cs', g1, g2, _, _⟩ := st.blks 1 _ rfl
  have e := CL.bytes (l := s.data.toList) g2
  have e : cs' = Lib.strCells s := e
  subst e
  rw [bytes_length] at g1
  generalize hcs : cs.toList = l at h3
  cases h3 with
  | agg h4 h5 =>
    cases h5
    rw [List.append_nil] at hcs
    rcases hp with rfl | rfl
    · cases h4 with
      | d h6 h7 =>
        cases h6 with
        | nilP h8 =>
          cases h8
          cases h7 with
          | row q1 q2 q3 =>
            cases q3
            rw [← q2] at hcs
            refine ⟨b, _, h1, ?_, .inl ⟨rfl, rfl⟩, g1⟩
            rw [h2]
            congr 2
            exact Array.toList_inj.1 hcs
    · cases h4 with
      | ptr q0 q1 q2 q3 =>
        cases q3 with
        | row q4 q5 q6 =>
          cases q6
          rw [← q5] at hcs
          replace q1 := q1.nil
          rw [h1] at q1
          cases q1
          refine ⟨b, _, h1, ?_, .inr ⟨rfl, rfl⟩, g1⟩
          rw [h2]
          congr 2
          exact Array.toList_inj.1 hcs

theorem bd_row {B : Base} {μ G w} {p : AV} {s : ByteArray} (st : St B (bd p s) μ G w) {w' : World} (hc : ∀ b o v, G b o → w.cell? ⟨b, o, none⟩ = some v → w'.cell? ⟨b, o, none⟩ = some v) (h : w'.ownsRowF 0 5 1 (μ 1) s.size (Lib.strCells s)) :
    BlkOk μ (bd p s).length w' G (μ 1) (.row 5 1 (D.bytes s)) := by
  obtain ⟨cs', g1, g2, g3, g4⟩ := st.blks 1 _ rfl
  have e : cs' = Lib.strCells s := CL.bytes (l := s.data.toList) g2
  subst e
  exact ⟨_, by rw [bytes_length]; exact h, g2.mono (fun _ _ h => h) hc, g3, g4⟩

theorem copyCheck_c {p : AV} {s : ByteArray} (hp : p = .d .nilP ∨ p = .ptr 0 []) : CallR cx 109 [.ptr 0 []] (bd p s) fun r S => r = .tup [] ∧ S = bd (.ptr 0 []) s := by
  refine callR_raw (c := cx) Try.func109 (by kernel_rfl) (by kernel_rfl) fun μ G w vals st hv => ?_
  obtain ⟨b, rfl, hμ⟩ := VS.ptr0 hv
  obtain ⟨b', pv, h1, h2, h3, h4⟩ := bd_inv st hp
  rw [hμ] at h1
  cases h1
  have hra : ∀ (μ : Nat → Value) (k : Nat) (w : World) (G : Nat → Nat → Prop), RA μ k w G (.tup []) (.tuple #[]) := fun μ k w G => ⟨[], rfl, .nil⟩
  rcases h3 with ⟨rfl, rfl⟩ | ⟨rfl, rfl⟩
  · refine (raw_copy_fresh b w (by rw [Lib.cell_of_heap h2]; rfl) (by simp [World.shape?, h2]) (Lib.frozen_of_heap h2 0)).mono ?_
    rintro e w' ⟨rfl, rfl⟩
    have hset : w.setCell ⟨b, 0, none⟩ (.pointer (some ⟨b, 0, none⟩)) = w.setRow b #[.pointer (some ⟨b, 0, none⟩), μ 1] := by
      rw [setCell_eq_setRow w b 0 _ _ _ _ h2]; rfl
    refine ⟨_, _, bd (.ptr 0 []) s, μ, G, rfl, ⟨rfl, rfl⟩, ?_, hra _ _ _ _⟩
    rw [hset]
    have hrow : μ 1 = μ 1 := rfl
    refine st.write (n := 0) (g := b) (b' := .tvar 186 (.agg [.ptr 0 [], .row 1])) rfl rfl rfl rfl rfl (by rw [hμ]; rfl) (setRow_next w b _) ?_
    refine ⟨b, _, hμ, setRow_heap w b _ _ _ _ h2, ?_⟩
    have hsl : ∃ a l c, μ 1 = .slice a l c := by
      rcases h4.2 with ⟨q, _⟩ | ⟨_, _, _, _, q, _⟩
      · exact ⟨_, _, _, q⟩
      · exact ⟨_, _, _, q⟩
    obtain ⟨a, l, c, hs⟩ := hsl
    rw [hs]
    have : CA μ 2 (w.setRow b #[.pointer (some ⟨b, 0, none⟩), .slice a l c]) G [.ptr 0 [], .row 1] [.pointer (some ⟨b, 0, none⟩), .slice a l c] :=
      .ptr (p := []) (by omega) (.inl hμ) (fun s hs => by cases hs) (.row (by omega) hs .nil)
    simpa using CA.agg this .nil
  · refine (raw_copy_used b w (by rw [Lib.cell_of_heap h2]; rfl)).mono ?_
    rintro e w' ⟨rfl, rfl⟩
    exact ⟨_, _, _, μ, G, rfl, ⟨rfl, rfl⟩, st, hra _ _ _ _⟩

theorem string_c {p : AV} {s : ByteArray} (hp : p = .d .nilP ∨ p = .ptr 0 []) : CallR cx 96 [.ptr 0 []] (bd p s) fun r S => r = AV.d (.str s) ∧ S = bd p s := by
  refine callR_raw (c := cx) Try.func96 (by kernel_rfl) (by kernel_rfl) fun μ G w vals st hv => ?_
  obtain ⟨b, rfl, hμ⟩ := VS.ptr0 hv
  obtain ⟨b', pv, h1, h2, _, h4⟩ := bd_inv st hp
  rw [hμ] at h1
  cases h1
  have hra : ∀ (x : ByteArray), x = s → ∀ (μ : Nat → Value) (k : Nat) (w : World) (G : Nat → Nat → Prop), RA μ k w G (.d (.str s)) (.string x) := fun x e μ k w G => by subst e; exact VD.str.ra
  have quiet : ∀ w' : World, Ab.Next w w' none → St (base cx (bd p s) μ G w) (bd p s) μ G w' := fun w' h => st.quiet h
  have hem : s.size = 0 → (⟨#[]⟩ : ByteArray) = s := fun h => (size0 h).symm
  rcases h4.2 with ⟨q1, q2⟩ | ⟨g, cap, cur, fz, q1, _, q3, q4, q5, q6, q7, q8⟩
  · rw [q1] at h2
    refine (raw_string_nil b pv w h2).mono ?_
    rintro e w' ⟨rfl, rfl⟩
    exact ⟨_, _, _, μ, G, rfl, ⟨rfl, rfl⟩, quiet _ ⟨rfl, rfl, rfl, Nat.le_refl _, fun _ _ _ => rfl⟩, hra _ (hem q2) _ _ _ _⟩
  · rw [q1] at h2
    by_cases hz : s.size = 0
    · rw [hz] at h2
      by_cases hc : cap = 0
      · subst hc
        refine (raw_string_noroom b g pv cur fz w h2 q3).mono ?_
        rintro e w' ⟨rfl, hn⟩
        exact ⟨_, _, _, μ, G, rfl, ⟨rfl, rfl⟩, quiet _ hn, hra _ (hem hz) _ _ _ _⟩
      · refine (raw_string_room b g cap pv w hc h2).mono ?_
        rintro e w' ⟨rfl, rfl⟩
        exact ⟨_, _, _, μ, G, rfl, ⟨rfl, rfl⟩, quiet _ ⟨rfl, rfl, rfl, Nat.le_refl _, fun _ _ _ => rfl⟩, hra _ (hem hz) _ _ _ _⟩
    · have hlen : s.data.toList.length = s.size := Array.length_toList
      have hne : s.data.toList ≠ [] := by intro e; rw [e] at hlen; simp at hlen; omega
      rw [Nat.mul_one] at q7 q4
      refine (raw_string_some b g cap pv cur fz s.data.toList w hne (by rw [hlen]; exact h2) q3 (by omega) q6 q7 ?_).mono ?_
      · intro j x hx
        have := h4.cells (g := g) (by rw [q1]; rfl) j (.int .u8 x.toNat) (by unfold Lib.strCells; rw [List.getElem?_map, hx]; rfl)
        exact this
      · rintro e w' ⟨rfl, rfl⟩
        obtain ⟨fz', f1, f2⟩ := freeze_heap (n := s.data.toList.length) (show w.drew.heap[g]? = some (.cells cur 5 fz) from q3)
        have hn : Ab.Next w (w.drew.freeze ⟨g, 0, none⟩ s.data.toList.length) (some g) := (freeze_next w.drew g _).ofDrew
        have hcell : ∀ o, (w.drew.freeze ⟨g, 0, none⟩ s.data.toList.length).cell? ⟨g, o, none⟩ = w.cell? ⟨g, o, none⟩ := fun o => by
          rw [Lib.cell_of_heap f1, Lib.cell_of_heap q3]
        refine ⟨_, _, _, μ, G, rfl, ⟨rfl, rfl⟩, st.turn (n := 1) (g := g) rfl rfl (by rw [q1]; rfl) hn hcell ?_, hra _ (by cases s; rfl) _ _ _ _⟩
        refine bd_row st (hn.cells st.gv (fun k hk o v _ hv => by cases hk; rw [hcell]; exact hv)) ⟨h4.1, .inr ⟨g, cap, cur, fz', q1, Nat.zero_le _, f1, ?_, q5, q6, by rw [Nat.mul_one]; exact q7, q8⟩⟩
        rw [Nat.mul_one, ← hlen]
        exact f2 (by omega)

theorem writeString_c {p : AV} {s t : ByteArray} (hp : p = .d .nilP ∨ p = .ptr 0 []) (hb : s.size + t.size ≤ 140737488355328) : CallR cx 94 [.ptr 0 [], .d (.str t)] (bd p s) fun r S =>
    r = .tup [.d (.int .i64 t.size), .d .nilI] ∧ S = [.tvar 186 (.agg [.ptr 0 [], .row 2]), .sealed (.sl 1 (D.bytes s)), .row 5 1 (D.bytes (s ++ t))] := by
  have cc := copyCheck_c (p := p) (s := s) hp
  unfold bd at cc ⊢
  rw [bytes_append]
  have hl := bytes_length s
  generalize D.bytes s = xs at *
  have go : ∀ q : AV, CallR cx 109 [.ptr 0 []] [.tvar 186 (.agg [q, .row 1]), .row 5 1 xs] (fun r S => r = .tup [] ∧ S = [.tvar 186 (.agg [.ptr 0 [], .row 1]), .row 5 1 xs]) →
      (q = .d .nilP ∨ q = .ptr 0 []) → CallR cx 94 [.ptr 0 [], .d (.str t)] [.tvar 186 (.agg [q, .row 1]), .row 5 1 xs] fun r S =>
    r = .tup [.d (.int .i64 t.size), .d .nilI] ∧ S = [.tvar 186 (.agg [.ptr 0 [], .row 2]), .sealed (.sl 1 xs), .row 5 1 (xs ++ D.bytes t)] := by
    rintro q cc (rfl | rfl) <;>
    · refine callR_of (R := R1) cx_ok Try.func94 (by kernel_rfl) rfl ?_
      conv => whnf
      refine ⟨_, cc, ?_⟩
      rintro _ _ ⟨rfl, rfl⟩
      conv => whnf
      refine ⟨by rw [hl]; exact hb, ?_⟩
      conv => whnf
      exact ⟨rfl, rfl⟩
  exact go p cc hp
end Go.Proofs.Ytboohfijacjhjaa

/- The runes of a text by their numbers: plain laws, no program. -/
namespace Go.Proofs.Ytboohfijacjhjaa
open Go.Ab

theorem getD_get! (s : ByteArray) (k : Nat) : s.data.toList.getD k 0 = s.get! k := by
  cases s with
  | mk d =>
    show d.toList.getD k 0 = d[k]!
    rw [List.getD_eq_getElem?_getD, Array.getElem?_toList, getElem!_def]
    cases d[k]? <;> rfl

theorem byteAt_eq (s : ByteArray) (k : Nat) : byteAt s k = ((s.get! k).toNat : Int) := by
  unfold byteAt
  rw [getD_get!]

/-- The number of the rune at a place, and how many bytes it has; a stray's byte and 2000000, and 1. -/
def keyN (n b0 b1 b2 b3 : Nat) : Nat × Nat := if Lib.decodeN n b0 b1 b2 b3 = (65533, 1) then (b0 + 2000000, 1) else Lib.decodeN n b0 b1 b2 b3
def key (s : ByteArray) (i : Nat) : Nat × Nat := keyN (s.size - i) (s.get! i).toNat (s.get! (i + 1)).toNat (s.get! (i + 2)).toNat (s.get! (i + 3)).toNat

/-- A stray stands here. -/
def stray (s : ByteArray) (i : Nat) : Bool := decide (Utf8.decode s i = (65533, 1))

theorem key_stray {s : ByteArray} {i : Nat} (h : stray s i = true) : key s i = ((s.get! i).toNat + 2000000, 1) ∧ Utf8.decode s i = (65533, 1) := by
  have h := of_decide_eq_true h
  refine ⟨?_, h⟩
  rw [Lib.decode_at] at h
  unfold key keyN
  rw [if_pos h]

theorem key_plain {s : ByteArray} {i : Nat} (h : stray s i = false) : key s i = Utf8.decode s i := by
  have h := of_decide_eq_false h
  rw [Lib.decode_at] at h ⊢
  unfold key keyN
  rw [if_neg h]

theorem decodeN_range (n b0 b1 b2 b3 : Nat) (h0 : b0 < 256) : (Lib.decodeN n b0 b1 b2 b3).1 ≤ 1114111 ∧ 1 ≤ (Lib.decodeN n b0 b1 b2 b3).2 ∧ (Lib.decodeN n b0 b1 b2 b3).2 ≤ 4 := by
  unfold Lib.decodeN
  repeat' split
  all_goals simp only
  all_goals omega

theorem key_two {s : ByteArray} {i : Nat} : (key s i).2 = (Utf8.decode s i).2 := by
  cases h : stray s i with
  | true => obtain ⟨h1, h2⟩ := key_stray h; rw [h1, h2]
  | false => rw [key_plain h]

theorem decode_range (s : ByteArray) (i : Nat) : (Utf8.decode s i).1 ≤ 1114111 ∧ 1 ≤ (Utf8.decode s i).2 ∧ (Utf8.decode s i).2 ≤ 4 := by
  rw [Lib.decode_at]
  exact decodeN_range _ _ _ _ _ (s.get! i).toNat_lt

theorem key_pos (s : ByteArray) (i : Nat) : 1 ≤ (key s i).2 := by rw [key_two]; exact (decode_range s i).2.1
theorem key_four (s : ByteArray) (i : Nat) : (key s i).2 ≤ 4 := by rw [key_two]; exact (decode_range s i).2.2

/-- A text's runes from a place on. -/
def keysAt (s : ByteArray) (i : Nat) : List Nat := if i < s.size then (key s i).1 :: keysAt s (i + (key s i).2) else []
termination_by s.size - i
decreasing_by have := key_pos s i; omega

theorem keysAt_lt {s : ByteArray} {i : Nat} (h : i < s.size) : keysAt s i = (key s i).1 :: keysAt s (i + (key s i).2) := by
  rw [keysAt, if_pos h]
theorem keysAt_ge {s : ByteArray} {i : Nat} (h : ¬ i < s.size) : keysAt s i = [] := by
  rw [keysAt, if_neg h]

theorem keysAt_length (s : ByteArray) : ∀ i, (keysAt s i).length ≤ s.size - i := by
  intro i
  induction h : s.size - i using Nat.strongRecOn generalizing i with
  | _ n ih =>
    by_cases hi : i < s.size
    · rw [keysAt_lt hi]
      have := key_pos s i
      have := ih (s.size - (i + (key s i).2)) (by omega) _ rfl
      simp only [List.length_cons]
      omega
    · rw [keysAt_ge hi]; simp

/-- The slow table's conditions, by classes of the first byte. -/
def smallI (r : Int) : Prop := (97 ≤ r ∧ r ≤ 122) ∨ (945 ≤ r ∧ r ≤ 969)
instance (r : Int) : Decidable (smallI r) := by unfold smallI; infer_instance

/-- Is a rune right at its place? -/
def okR (first : Bool) (k : Int) : Bool := decide (smallI k) || (!first && (decide (48 ≤ k) && decide (k ≤ 57)))

def goR : List Nat → Nat → Bool
  | [], n => decide (1 ≤ n) && decide (n ≤ 12)
  | k :: l, n => okR (n == 0) (k : Int) && goR l (n + 1)

def rightT (s : ByteArray) : Bool := goR (keysAt s 0) 0
end Go.Proofs.Ytboohfijacjhjaa

/- The document's rune at a place: 'within'. -/
namespace Go.Proofs.Ytboohfijacjhjaa
open Go.Ab Go.RowKit

def win (s : ByteArray) (k : Nat) (lo hi : Int) : Bool := decide (k < s.size) && (decide (lo ≤ byteAt s k) && decide (byteAt s k ≤ hi))

theorem within_c {s : ByteArray} {x lo hi : Int} {k : Nat} (hx : x = (k : Int)) : CallR cx 117 [st s, i64 x, u8 lo, u8 hi] [] fun r S => r = bo (win s k lo hi) ∧ S = [] := by
  unfold win
  have e0 : x.toNat = k := by omega
  have e1 : decide (x < (s.size : Int)) = decide (k < s.size) := by
    have : (x < (s.size : Int)) = (k < s.size) := propext ⟨fun h => by omega, fun h => by omega⟩
    simp only [this]
  refine callR_of (R := R1) cx_ok Try.func117 (by kernel_rfl) rfl ?_
  conv => whnf
  refine brec (fun h1 => ?_) (fun h1 => ?_)
  · rw [e1] at h1
    rw [h1]
    conv => whnf
    have h2 := of_decide_eq_true h1
    refine ⟨⟨by omega, by show x < (s.size : Int); omega⟩, ?_⟩
    rw [e0]
    conv => whnf
    refine brec (fun h3 => ?_) (fun h3 => ?_)
    · have h3' := of_decide_eq_true h3
      rw [decide_eq_true (show lo ≤ byteAt s k from h3')]
      conv => whnf
      refine ⟨⟨by omega, by show x < (s.size : Int); omega⟩, ?_⟩
      rw [e0]
      conv => whnf
      exact ⟨rfl, rfl⟩
    · have h3' := of_decide_eq_false h3
      rw [decide_eq_false (show ¬ lo ≤ byteAt s k from h3')]
      conv => whnf
      exact ⟨rfl, rfl⟩
  · rw [e1] at h1
    rw [h1]
    conv => whnf
    exact ⟨rfl, rfl⟩
end Go.Proofs.Ytboohfijacjhjaa

/- The document's rune at a place: 'One', by the classes of the first byte. -/
namespace Go.Proofs.Ytboohfijacjhjaa
open Go.Ab Go.RowKit

theorem brT {A B : Prop} {b : Bool} (h : b = true) (x : A) : @Bool.rec (fun _ => Prop) B A b := by subst h; exact x
theorem brF {A B : Prop} {b : Bool} (h : b = false) (x : B) : @Bool.rec (fun _ => Prop) B A b := by subst h; exact x

theorem w64 {n : Int} (h : -9223372036854775808 ≤ n ∧ n < 9223372036854775808) : IntKind.i64.wrap n = n := by rw [IntKind.wrap_i64]; omega

theorem byteAt_range (s : ByteArray) (k : Nat) : 0 ≤ byteAt s k ∧ byteAt s k < 256 := by
  rw [byteAt_eq]; have := (s.get! k).toNat_lt; omega

def acc (s : ByteArray) (i : Nat) (n0 : Int) : Nat → Int
  | 0 => n0
  | j + 1 => acc s i n0 j * 64 + byteAt s (i + (j + 1)) % 64

theorem acc_range {s : ByteArray} {i : Nat} {n0 : Int} (h : 0 ≤ n0 ∧ n0 < 32) : ∀ j, j ≤ 3 → 0 ≤ acc s i n0 j ∧ acc s i n0 j < 8388608 ∧ (j < 3 → acc s i n0 j < 131072) := by
  have h0 : 0 ≤ acc s i n0 0 ∧ acc s i n0 0 < 32 := h
  have h1 : 0 ≤ acc s i n0 1 ∧ acc s i n0 1 < 2048 := by
    have := byteAt_range s (i + 1)
    show 0 ≤ acc s i n0 0 * 64 + byteAt s (i + (0 + 1)) % 64 ∧ acc s i n0 0 * 64 + byteAt s (i + (0 + 1)) % 64 < 2048
    omega
  have h2 : 0 ≤ acc s i n0 2 ∧ acc s i n0 2 < 131072 := by
    show 0 ≤ acc s i n0 1 * 64 + byteAt s (i + (1 + 1)) % 64 ∧ acc s i n0 1 * 64 + byteAt s (i + (1 + 1)) % 64 < 131072
    omega
  have h3 : 0 ≤ acc s i n0 3 ∧ acc s i n0 3 < 8388608 := by
    show 0 ≤ acc s i n0 2 * 64 + byteAt s (i + (2 + 1)) % 64 ∧ acc s i n0 2 * 64 + byteAt s (i + (2 + 1)) % 64 < 8388608
    omega
  intro j hj
  match j, hj with
  | 0, _ => omega
  | 1, _ => omega
  | 2, _ => omega
  | 3, _ => omega

theorem tupI {a b a' b' : Int} (h : a = a') (g : b = b') : AV.tup [i64 a, i64 b] = AV.tup [i64 a', i64 b'] := by rw [h, g]

theorem accStep {s : ByteArray} {i j : Nat} {n0 : Int} (h0 : 0 ≤ acc s i n0 j) (h1 : acc s i n0 j < 131072) :
    IntKind.i64.wrap (IntKind.i64.wrap (acc s i n0 j * 64) + (IntKind.i64.wrap (byteAt s ((i + (j + 1) : Nat) : Int).toNat)).tmod 64) = acc s i n0 (j + 1) := by
  have hb := byteAt_range s (i + (j + 1))
  rw [Int.toNat_natCast, w64 (n := acc s i n0 j * 64) (by omega), w64 (n := byteAt s (i + (j + 1))) (by omega), Int.tmod_eq_emod_of_nonneg hb.1, w64 (by omega)]
  rfl

theorem win_lt {s : ByteArray} {k : Nat} {lo hi : Int} (h : win s k lo hi = true) : k < s.size := by
  unfold win at h
  simp only [Bool.and_eq_true, decide_eq_true_eq] at h
  exact h.1

theorem win_iff {s : ByteArray} {k : Nat} {lo hi : Int} : win s k lo hi = true ↔ k < s.size ∧ lo ≤ ((s.get! k).toNat : Int) ∧ ((s.get! k).toNat : Int) ≤ hi := by
  unfold win
  rw [byteAt_eq]
  simp only [Bool.and_eq_true, decide_eq_true_eq]
end Go.Proofs.Ytboohfijacjhjaa
