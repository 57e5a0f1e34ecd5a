/-
  An own logic over the kit's 'Calls' (AbY): a function's contract from its code; types as a table; statements in any order.
-/
import Derived.Test.YtboohfijacjhjaaDoorAbN
namespace Go.Ab
open Go.RowKit

noncomputable def resVal (rw : Bool) (c : Ctx) (k0 : Nat) (env : Env) (S : List Blk) : ResultVar → Option (AV × List Blk)
  | .tmp t => match env t with
    | some v => finA rw k0 S v
    | none => none
  | .cell a t => match env a with
    | some (.ptr n p) => match c.tt t with
      | some i => match S[n]? with
        | some (.var X) => match AV.getP X p with
          | some y => match shapeB i y with
            | true => finA rw k0 S y
            | false => none
          | none => none
        | _ => none
      | none => none
    | _ => none

noncomputable def resVals (rw : Bool) (c : Ctx) (k0 : Nat) (env : Env) : List Blk → List ResultVar → Option (List AV × List Blk)
  | S, [] => some ([], S)
  | S, r :: l => match resVal rw c k0 env S r with
    | some (y, S') => match resVals rw c k0 env S' l with
      | some (ys, S'') => some (y :: ys, S'')
      | none => none
    | none => none

def pack : List AV → AV
  | [x] => x
  | l => .tup l

theorem resVal_sound {rw : Bool} {B : Base} {N : Nat} (hc : B.c.ok) {env : Env} {S0 μ G0 a w} (h0 : At1 B N env S0 μ G0 a w) {S S' : List Blk} {G : Nat → Nat → Prop} {r : ResultVar} {y : AV} (h : resVal rw B.c B.k0 env S r = some (y, S')) (st : St B S μ G w) (lt : Later S0 μ G0 w S μ G w) :
    ∃ u G', (match r with | .tmp t => pure (a.tmps.getD t undef) | .cell b t => do loadVar t (← asAddr (a.tmps.getD b undef)) : Sem Value).run B.c.P w = .ok u w ∧
      St B S' μ G' w ∧ Later S μ G w S' μ G' w ∧ VA μ S'.length w G' y u ∧ notTup y = true := by
  cases r with
  | tmp t =>
    simp only [resVal] at h
    split at h
    case h_2 => cases h
    rename_i v hv
    obtain ⟨u, h1, h2⟩ := h0.env t v hv
    have hu : a.tmps.getD t undef = u := by
      obtain ⟨e1, e2⟩ := Array.getElem?_eq_some_iff.1 h1
      simp [Array.getD, e1, e2]
    have hnt : ∀ l, v ≠ .tup l := fun l e => by subst e; simp [finA] at h
    obtain ⟨G', g1, g2, g3, g4⟩ := finA_sound h st ((lt.ra h2).va hnt)
    exact ⟨u, G', by simp [hu], g1, g2, g3, g4⟩
  | cell b t =>
    simp only [resVal] at h
    split at h
    case h_2 => cases h
    rename_i n p hb
    split at h
    case h_2 => cases h
    rename_i i hi
    split at h
    case h_2 => cases h
    rename_i X hX
    split at h
    case h_2 => cases h
    rename_i z hz
    split at h
    case h_2 => cases h
    rename_i hs
    obtain ⟨v, h1, h2⟩ := h0.env b _ hb
    have hu : a.tmps.getD b undef = v := by
      obtain ⟨e1, e2⟩ := Array.getElem?_eq_some_iff.1 h1
      simp [Array.getD, e1, e2]
    have hva := (lt.ra h2).va (fun l e => by cases e)
    obtain ⟨u, h3, h4⟩ := st.load hc hi hva hX hz hs
    obtain ⟨b', e1, e2, e3, e4⟩ := hva.ptr_inv
    obtain ⟨G', g1, g2, g3, g4⟩ := finA_sound h st h4
    refine ⟨u, G', ?_, g1, g2, g3, g4⟩
    rw [e4] at h3
    simp only [Instr.loadAt, Instr.sureAddr, Sem.run_bind, Sem.run_pure, Result.andThen_ok] at h3
    simp only [hu, e4, asAddr, Sem.run_bind, Sem.run_pure, Result.andThen_ok, h3]

theorem resVals_sound {rw : Bool} {B : Base} {N : Nat} (hc : B.c.ok) {env : Env} {S0 μ G0 a w} (h0 : At1 B N env S0 μ G0 a w) : ∀ (l : List ResultVar) (S S' : List Blk) (G : Nat → Nat → Prop) (ys : List AV), resVals rw B.c B.k0 env S l = some (ys, S') → St B S μ G w → Later S0 μ G0 w S μ G w →
    ∃ us G', (l.mapM (fun r => match r with | .tmp t => pure (a.tmps.getD t undef) | .cell b t => do loadVar t (← asAddr (a.tmps.getD b undef)) : ResultVar → Sem Value)).run B.c.P w = .ok us w ∧
      St B S' μ G' w ∧ Later S μ G w S' μ G' w ∧ VS μ S'.length w G' ys us ∧ ∀ y ∈ ys, notTup y = true
  | [], S, S', G, ys, h, st, _ => by simp only [resVals] at h; cases h; exact ⟨[], G, by simp, st, Later.refl _ _ _ _, .nil, by simp⟩
  | r :: l, S, S', G, ys, h, st, lt => by
    simp only [resVals] at h
    split at h
    case h_2 => cases h
    rename_i y S1 h1
    split at h
    case h_2 => cases h
    rename_i ys1 S2 h2
    cases h
    obtain ⟨u, G1, e1, g1, g2, g3, g4⟩ := resVal_sound hc h0 h1 st lt
    obtain ⟨us, G2, f1, f2, f3, f4, f5⟩ := resVals_sound hc h0 l S1 _ G1 _ h2 g1 (lt.trans g2)
    refine ⟨u :: us, G2, ?_, f2, g2.trans f3, .cons (g3.mono f3.k (fun i hi _ => f3.μ i hi) f3.g f3.cells) f4, fun z hz => ?_⟩
    · rw [List.mapM_cons, Sem.run_bind, e1, Result.andThen_ok, Sem.run_bind, f1]
      rfl
    · rcases List.mem_cons.1 hz with rfl | hz
      · exact g4
      · exact f5 z hz

theorem VS.length_eq {μ k w G l vs} (h : VS μ k w G l vs) : vs.length = l.length := by
  induction h with
  | nil => rfl
  | cons _ _ ih => simp [ih]

theorem results_sound {rw : Bool} {B : Base} {N : Nat} (hc : B.c.ok) {env : Env} {S μ G a w} (h0 : At1 B N env S μ G a w) {fn : Func} {ys S'} (h : resVals rw B.c B.k0 env S fn.results.toList = some (ys, S')) :
    ∃ v G', (results fn a.tmps).run B.c.P w = .ok v w ∧ St B S' μ G' w ∧ RA μ S'.length w G' (pack ys) v := by
  obtain ⟨us, G', e1, e2, e3, e4, e5⟩ := resVals_sound hc h0 fn.results.toList S S' G ys h h0.st (Later.refl _ _ _ _)
  have hrun : (results fn a.tmps).run B.c.P w = .ok (if h : us.toArray.size = 1 then us.toArray[0] else .tuple us.toArray) w := by
    unfold results
    rw [Sem.run_bind, Array.mapM_eq_mapM_toList, Sem.run_map]
    erw [e1]
    rfl
  have hlen := e4.length_eq
  refine ⟨_, G', hrun, e2, ?_⟩
  by_cases h1 : us.length = 1
  · rw [dif_pos (by simpa using h1)]
    cases e4 with
    | nil => simp at h1
    | cons hv hr =>
      rename_i x v l vs
      simp at h1
      have hl : vs = [] := by simpa using h1
      subst hl
      cases hr
      exact hv.ra (notTup_spec (e5 x (by simp)))
  · rw [dif_neg (by simpa using h1)]
    have hp : pack ys = .tup ys := by
      cases ys with
      | nil => rfl
      | cons x r => cases r with
        | nil => simp at hlen; exact absurd hlen h1
        | cons => rfl
    rw [hp]
    exact ⟨us, rfl, e4⟩

/-- What comes back, and the store: without the callee's own names where nothing tells of them. -/
def wRet (k0 : Nat) (r : AV) (S : List Blk) (Post : AV → List Blk → Prop) : Prop :=
  match allLt k0 (namesV r) && blksBelow k0 (S.take k0) with
  | true => Post r (S.take k0)
  | false => Post r S

def ofArgs (args : List AV) : Env := fun t => args[t]?

def WFunR (rw : Bool) (R : OpRule) (c : Ctx) (fn : Func) (args : List AV) (S : List Blk) (Post : AV → List Blk → Prop) : Prop :=
  match fn.body with
  | some code => match Nat.ble args.length fn.ntmps with
    | true => WP R c S.length fn.ntmps code (ofArgs args) S fun e env S' =>
      match e with
      | .normal => match resVals rw c S.length env S' fn.results.toList with
        | some (ys, S'') => wRet S.length (pack ys) S'' Post
        | none => False
      | .ret => match resVals rw c S.length env S' fn.results.toList with
        | some (ys, S'') => wRet S.length (pack ys) S'' Post
        | none => False
      | _ => False
    | false => False
  | none => False

abbrev WFun := WFunR false

theorem VS.get {μ k w G} : ∀ {l vs} {i : Nat} {x : AV}, VS μ k w G l vs → l[i]? = some x → ∃ v, vs[i]? = some v ∧ VA μ k w G x v := by
  intro l vs i x h
  induction h generalizing i with
  | nil => intro h; simp at h
  | cons h1 _ ih =>
    intro h
    cases i with
    | zero => simp at h; subst h; exact ⟨_, by simp, h1⟩
    | succ i => simpa using ih (by simpa using h)

/-- A function's contract, from its code. -/
theorem callR_ofR {rw : Bool} {R : OpRule} {c : Ctx} (hc : c.ok) {f : FuncId} {fn : Func} {args : List AV} {S : List Blk} {Post : AV → List Blk → Prop} (hf : c.P.funcs[f]? = some fn) (hname : (fn.name == "runtime.NumGoroutine") = false)
    (hnt : args.all notTup = true) (h : WFunR rw R c fn args S Post) : CallR c f args S Post := by
  intro μ G w vals st hv
  unfold WFunR at h
  cases hb : fn.body with
  | none => rw [hb] at h; exact h.elim
  | some code =>
    rw [hb] at h
    simp only at h
    cases hle : Nat.ble args.length fn.ntmps with
    | false => rw [hle] at h; exact h.elim
    | true =>
      rw [hle] at h
      simp only at h
      have hle' := Nat.le_of_ble_eq_true hle
      left
      constructor
      · simp only [callFunc, Sem.run_bind, run_program, Result.andThen_ok, hf, hname, hb]
        rfl
      · refine calls_of_wp hf hb ?_
        have hlen := hv.length_eq
        have h1 : At1 (base c S μ G w) fn.ntmps (ofArgs args) S μ G { tmps := vals.toArray ++ Array.replicate (fn.ntmps - vals.toArray.size) undef, defers := [] } w := by
          refine ⟨st, ?_, ?_, rfl⟩
          · intro t x hx
            obtain ⟨v, e1, e2⟩ := VS.get hv hx
            have hlt : t < vals.length := (List.getElem?_eq_some_iff.1 e1).1
            refine ⟨v, ?_, e2.ra (notTup_spec (List.all_eq_true.1 hnt x (List.mem_of_getElem? hx)))⟩
            rw [Array.getElem?_append_left (by simpa using hlt)]
            simpa using e1
          · simp; omega
        refine wp_mono (wp_sound (B := base c S μ G w) hc code _ _ S μ G _ w h h1) ?_
        rintro e a' w' ⟨env', S', hk, μ', G', st'⟩
        have fin : ∀ ys S'', resVals rw c S.length env' S' fn.results.toList = some (ys, S'') → wRet S.length (pack ys) S'' Post →
            a'.defers = [] ∧ ∃ v, (results fn a'.tmps).run c.P w' = .ok v w' ∧ ∃ v_1 r S_1 μ_1 G_1, Ending.returned v = .returned v_1 ∧ Post r S_1 ∧ St (base c S μ G w) S_1 μ_1 G_1 w' ∧ RA μ_1 S_1.length w' G_1 r v_1 := by
          intro ys S'' hr hp
          obtain ⟨v, G'', e1, e2, e3⟩ := results_sound (B := base c S μ G w) hc st' hr
          refine ⟨st'.d, v, e1, ?_⟩
          unfold wRet at hp
          split at hp
          · rename_i hbb
            simp only [Bool.and_eq_true] at hbb
            have hk0 : (S''.take S.length).length = S.length := by
              have : S.length ≤ S''.length := e2.k0
              simp [Nat.min_eq_left this]
            refine ⟨v, pack ys, S''.take S.length, μ', G'', rfl, hp, e2.trim (Nat.le_refl _) e2.k0 hbb.2, ?_⟩
            rw [hk0]
            exact e3.shrink (allLt_spec hbb.1)
          · exact ⟨v, pack ys, S'', μ', G'', rfl, hp, e2, e3⟩
        cases e with
        | normal =>
          simp only at hk
          split at hk
          case h_2 => exact hk.elim
          rename_i ys S'' hr
          exact fin ys S'' hr hk
        | ret =>
          simp only at hk
          split at hk
          case h_2 => exact hk.elim
          rename_i ys S'' hr
          exact fin ys S'' hr hk
        | _ => exact hk.elim

theorem callR_of {R : OpRule} {c : Ctx} (hc : c.ok) {f : FuncId} {fn : Func} {args : List AV} {S : List Blk} {Post : AV → List Blk → Prop} (hf : c.P.funcs[f]? = some fn) (hname : (fn.name == "runtime.NumGoroutine") = false)
    (hnt : args.all notTup = true) (h : WFun R c fn args S Post) : CallR c f args S Post := callR_ofR (rw := false) hc hf hname hnt h


end Go.Ab

namespace Go.Ab
open Go.RowKit

def fsB : List (Nat × Nat × Bool) → List (Nat × Nat × Bool) → Bool
  | [], [] => true
  | (a, b, c) :: l, (a', b', c') :: l' => Nat.beq a a' && Nat.beq b b' && (c == c') && fsB l l'
  | _, _ => false

theorem fsB_eq : ∀ {l m}, fsB l m = true → l = m
  | [], [], _ => rfl
  | (a, b, c) :: l, (a', b', c') :: l', h => by
    simp only [fsB, Bool.and_eq_true, beq_iff_eq] at h
    rw [beq_true h.1.1.1, beq_true h.1.1.2, h.1.2, fsB_eq h.2]
  | [], _ :: _, h => by cases h
  | _ :: _, [], h => by cases h

def tkB : TK → TK → Bool
  | .bool, .bool => true
  | .int k, .int k' => kindB k k'
  | .str, .str => true
  | .struct a, .struct b => fsB a b
  | .arr n e, .arr n' e' => Nat.beq n n' && Nat.beq e e'
  | .slice e, .slice e' => Nat.beq e e'
  | .ptr e, .ptr e' => Nat.beq e e'
  | .iface b, .iface b' => b == b'
  | .func, .func => true
  | .other, .other => true
  | _, _ => false

theorem tkB_eq {a b : TK} (h : tkB a b = true) : a = b := by
  cases a <;> cases b <;> simp only [tkB, Bool.false_eq_true] at h
  case bool.bool => rfl
  case int.int => rw [kindB_spec h]
  case str.str => rfl
  case struct.struct => rw [fsB_eq h]
  case arr.arr => simp only [Bool.and_eq_true] at h; rw [beq_true h.1, beq_true h.2]
  case slice.slice => rw [beq_true h]
  case ptr.ptr => rw [beq_true h]
  case iface.iface => rw [beq_iff_eq.1 h]
  case func.func => rfl
  case other.other => rfl

def valB : Value → Value → Bool
  | .bool a, .bool b => a == b
  | .int k a, .int k' b => kindB k k' && (a == b)
  | .string a, .string b => Nat.beq a.size 0 && Nat.beq b.size 0
  | .pointer none, .pointer none => true
  | .slice none 0 0, .slice none 0 0 => true
  | .nilIface, .nilIface => true
  | .nilFunc, .nilFunc => true
  | _, _ => false

theorem size0 {a : ByteArray} (h : a.size = 0) : a = .empty := by
  cases a with
  | mk d => 
    have : d = #[] := Array.eq_empty_of_size_eq_zero h
    rw [this]; rfl

theorem valB_eq {a b : Value} (h : valB a b = true) : a = b := by
  unfold valB at h
  split at h <;> first
    | rfl
    | (cases h; done)
    | (rw [beq_iff_eq.1 h]; done)
    | (simp only [Bool.and_eq_true, beq_iff_eq] at h; rw [kindB_spec h.1, h.2]; done)
    | (simp only [Bool.and_eq_true] at h; rw [size0 (beq_true h.1), size0 (beq_true h.2)]; done)

def valsB : List Value → List Value → Bool
  | [], [] => true
  | a :: l, b :: m => valB a b && valsB l m
  | _, _ => false

theorem valsB_eq : ∀ {l m : List Value}, valsB l m = true → l = m
  | [], [], _ => rfl
  | a :: l, b :: m, h => by
    simp only [valsB, Bool.and_eq_true] at h
    rw [valB_eq h.1, valsB_eq h.2]
  | [], _ :: _, h => by cases h
  | _ :: _, [], h => by cases h

def zeroB (z : Option D) (v : Option Value) : Bool :=
  match z with
  | none => true
  | some z => match v with
    | some v => match cells0 z with
      | some cs => valsB v.cells.toList cs && (vAgg v == z.isAgg)
      | none => false
    | none => false

def fitB (P : Program) (t : Nat) (i : TI) : Bool :=
  (match P.underlying t with | some d => tkB (tkOf d) i.k | none => false) &&
  ((match P.info? t with | some info => Nat.beq info.size i.size && Nat.beq info.bytes i.bytes && zeroB i.zero info.zero | none => false) &&
  ((match i.eq with | true => (!P.stoodInHeld t) && !P.eqGuardType P.depth t | false => true) &&
  (match i.cmp with | true => (match P.info? t with | some info => info.comparable | none => false) | false => true)))

theorem fitB_flags {P t i} (h : fitB P t i = true) : i.flags P t := by
  simp only [fitB, Bool.and_eq_true] at h
  obtain ⟨_, _, h1, h2⟩ := h
  refine ⟨fun e => ?_, fun e => ?_⟩
  · rw [e] at h1
    simp only [Bool.and_eq_true, Bool.not_eq_true'] at h1
    exact h1
  · rw [e] at h2
    simp only at h2
    split at h2
    case h_2 => cases h2
    rename_i info hi
    exact ⟨info, hi, h2⟩

theorem fitB_ok {P t i} (h : fitB P t i = true) : i.fits P t := by
  simp only [fitB, Bool.and_eq_true] at h
  obtain ⟨h1, h2, _⟩ := h
  split at h1
  case h_2 => cases h1
  rename_i d hd
  split at h2
  case h_2 => cases h2
  rename_i info hi
  simp only [Bool.and_eq_true] at h2
  refine ⟨⟨d, hd, tkB_eq h1⟩, info, hi, beq_true h2.1.1, beq_true h2.1.2, fun z hz => ?_⟩
  have h3 := h2.2
  rw [hz] at h3
  simp only [zeroB] at h3
  split at h3
  case h_2 => cases h3
  rename_i v hv
  split at h3
  case h_2 => cases h3
  rename_i cs hcs
  simp only [Bool.and_eq_true, beq_iff_eq] at h3
  refine ⟨v, hv, fun w G => ⟨?_, h3.2⟩⟩
  rw [valsB_eq h3.1]
  exact cells0_ok w G z cs hcs

/-- A table by halves. -/
inductive Tree where
  | leaf
  | node (k : Nat) (v : TI) (l r : Tree)

def Tree.look : Tree → Nat → Option TI
  | .leaf, _ => none
  | .node k v l r, t => match Nat.beq t k with
    | true => some v
    | false => match Nat.ble t k with
      | true => l.look t
      | false => r.look t

def Tree.fits (P : Program) : Tree → Bool
  | .leaf => true
  | .node k v l r => fitB P k v && (l.fits P && r.fits P)

theorem fitB_zero {P t i} (h : fitB P t i = true) : ∀ z, i.zero = some z → ∃ info v, P.info? t = some info ∧ info.zero = some v ∧ cells0 z = some v.cells.toList ∧ vAgg v = z.isAgg := by
  intro z hz
  simp only [fitB, Bool.and_eq_true] at h
  obtain ⟨_, h2, _⟩ := h
  split at h2
  case h_2 => cases h2
  rename_i info hi
  simp only [Bool.and_eq_true] at h2
  have h3 := h2.2
  rw [hz] at h3
  simp only [zeroB] at h3
  split at h3
  case h_2 => cases h3
  rename_i v hv
  split at h3
  case h_2 => cases h3
  rename_i cs hcs
  simp only [Bool.and_eq_true, beq_iff_eq] at h3
  exact ⟨info, v, hi, hv, by rw [hcs, valsB_eq h3.1], h3.2⟩

theorem Tree.look_ok {P : Program} : ∀ {T : Tree}, T.fits P = true → ∀ (t : Nat) (i : TI), T.look t = some i → fitB P t i = true
  | .leaf, _, t, i, h => by cases h
  | .node k v l r, hb, t, i, h => by
    simp only [Tree.fits, Bool.and_eq_true] at hb
    simp only [Tree.look] at h
    split at h
    · rename_i e; cases h; rw [beq_true e]; exact hb.1
    · split at h
      · exact look_ok hb.2.1 t i h
      · exact look_ok hb.2.2 t i h

theorem tab_ok {P : Program} {T : Tree} {g : Nat → Option D} {rws : Nat → Option (List (Option TypeId))} {rowf mks : Nat → Bool} (h : T.fits P = true) : Ctx.ok { P, tt := T.look, glob := g, rws, rowf, mks } :=
  ⟨fun t i hi => fitB_ok (Tree.look_ok h t i hi), fun t i z hi hz => fitB_zero (Tree.look_ok h t i hi) z hz, fun t i hi => fitB_flags (Tree.look_ok h t i hi)⟩

end Go.Ab

namespace Go.Ab
open Go.RowKit

/-- Places for blocks to come. -/
theorem St.reserve {B S μ G w} (st : St B S μ G w) (n : Nat) :
    ∃ μ', St B (S ++ List.replicate n .dead) μ' G w ∧ (∀ i, S.length ≤ i → i < S.length + n → μ' i = .nilFunc) ∧ Later S μ G w (S ++ List.replicate n .dead) μ' G w := by
  induction n with
  | zero => exact ⟨μ, by simpa using st, fun i h1 h2 => by omega, by simpa using Later.refl S μ G w⟩
  | succ n ih =>
    obtain ⟨μ1, h1, h2, h3⟩ := ih
    have hl : (S ++ List.replicate n Blk.dead).length = S.length + n := by simp
    have h4 := h1.push (w' := w) (G' := G) (v := .nilFunc) (b := .dead) ⟨rfl, rfl, rfl, Nat.le_refl _, fun _ _ _ => rfl⟩ (fun _ _ h => h) (fun _ _ h => .inl h)
      (fun h => by cases h) (fun h => by cases h) trivial
    rw [List.append_assoc, ← List.replicate_succ'] at h4
    refine ⟨_, h4, fun i hi hi' => ?_, ?_⟩
    · rw [hl]
      by_cases e : i = S.length + n
      · subst e; simp [upd]
      · simp only [upd, if_neg e]; exact h2 i hi (by omega)
    · refine ⟨by simp, fun i hi => ?_, h3.g, h3.cells⟩
      rw [hl]
      simp only [upd, if_neg (by omega : ¬ i = S.length + n)]
      exact h3.μ i hi

/-- As 'Later', but for places that were kept. -/
structure LaterD (S : List Blk) (μ : Nat → Value) (G : Nat → Nat → Prop) (w : World) (S' : List Blk) (μ' : Nat → Value) (G' : Nat → Nat → Prop) (w' : World) : Prop where
  k : S.length ≤ S'.length
  μ : ∀ i, i < S.length → solid (μ i) → μ' i = μ i
  g : ∀ b o, G b o → G' b o
  cells : ∀ b o v, G b o → w.cell? ⟨b, o, none⟩ = some v → w'.cell? ⟨b, o, none⟩ = some v

theorem Later.d {S μ G w S' μ' G' w'} (h : Later S μ G w S' μ' G' w') : LaterD S μ G w S' μ' G' w' := ⟨h.k, fun i hi _ => h.μ i hi, h.g, h.cells⟩

theorem LaterD.ra {S μ G w S' μ' G' w' x v} (h : LaterD S μ G w S' μ' G' w') (g : RA μ S.length w G x v) : RA μ' S'.length w' G' x v := g.mono h.k h.μ h.g h.cells

/-- A block for a place that was kept for it. -/
theorem St.allocAt {B S μ G w} (st : St B S μ G w) {t : TypeId} {x : AV} {v : Value} {n : Nat} (hx : VA μ S.length w G x v) (hn : S[n]? = some .dead) (hμn : μ n = .nilFunc) (hk : B.k0 ≤ n) :
    ∃ μ', (Go.newVar t v).run B.c.P w = .ok ⟨w.heap.size, 0, none⟩ (w.alloc (.cells v.cells t)) ∧ St B (S.set n (Blk.var x)) μ' G (w.alloc (.cells v.cells t)) ∧
      LaterD S μ G w (S.set n (Blk.var x)) μ' G (w.alloc (.cells v.cells t)) ∧ (∀ i, i ≠ n → μ' i = μ i) ∧
      VA μ' (S.set n (Blk.var x)).length (w.alloc (.cells v.cells t)) G (.ptr n []) (.pointer (some ⟨w.heap.size, 0, none⟩)) := by
  have hlt : n < S.length := (List.getElem?_eq_some_iff.1 hn).1
  have hnx : Next w (w.alloc (.cells v.cells t)) none := ⟨rfl, rfl, rfl, by show w.heap.size ≤ (w.heap.push _).size; simp, fun k hk _ => by
    show (w.heap.push _)[k]? = _
    rw [Array.getElem?_push, if_neg (by omega)]⟩
  have hc := hnx.cells st.gv (G := G) (fun k hk => by cases hk)
  have hnew : (w.alloc (.cells v.cells t)).heap[w.heap.size]? = some (.cells v.cells t (0, 0)) := by
    show (w.heap.push _)[w.heap.size]? = _
    simp
  have hother : ∀ i, i ≠ n → upd μ n (.pointer (some ⟨w.heap.size, 0, none⟩)) i = μ i := fun i hi => by simp [upd, hi]
  have hself : upd μ n (.pointer (some ⟨w.heap.size, 0, none⟩)) n = .pointer (some ⟨w.heap.size, 0, none⟩) := by simp [upd]
  have hμ : ∀ i, i < S.length → solid (μ i) → upd μ n (.pointer (some ⟨w.heap.size, 0, none⟩)) i = μ i := fun i _ hs => hother i (fun e => by subst e; rw [hμn] at hs; exact hs)
  have old : ∀ i d, (S.set n (Blk.var x))[i]? = some d → (i ≠ n ∧ S[i]? = some d) ∨ (i = n ∧ d = .var x) := by
    intro i d hd
    by_cases e : i = n
    · subst e; rw [List.getElem?_set_self hlt] at hd; exact .inr ⟨rfl, by simpa using hd.symm⟩
    · rw [List.getElem?_set_ne (Ne.symm e)] at hd; exact .inl ⟨e, hd⟩
  refine ⟨upd μ n (.pointer (some ⟨w.heap.size, 0, none⟩)), rfl, ?_, ⟨by simp, hμ, fun _ _ h => h, hc⟩, hother, ?_⟩
  · exact {
      blks := by
        intro i d hd
        rw [List.length_set]
        rcases old i d hd with ⟨hi, hs⟩ | ⟨rfl, rfl⟩
        · rw [hother i hi]
          exact (st.blks i d hs).mono (Nat.le_refl _) hμ (fun _ _ h => h) hc (fun hl m hm => hnx.heap m ((st.blks i d hs).bid_lt hl m hm) (by simp))
        · rw [hself]
          exact ⟨w.heap.size, v.cells, t, v.cells.toList, [], rfl, hnew, by simp, hx.1.mono (Nat.le_refl _) hμ (fun _ _ h => h) hc⟩
      apart := by
        intro i j d e hd he hl hl' hij m hm hm'
        rcases old i d hd with ⟨hi, hs⟩ | ⟨rfl, rfl⟩ <;> rcases old j e he with ⟨hj, hs'⟩ | ⟨rfl, rfl⟩
        · rw [hother i hi] at hm; rw [hother j hj] at hm'; exact st.apart i j d e hs hs' hl hl' hij m hm hm'
        · rw [hother i hi] at hm; rw [hself] at hm'
          have := (st.blks i d hs).bid_lt hl m hm
          simp [bid] at hm'; omega
        · rw [hother j hj] at hm'; rw [hself] at hm
          have := (st.blks j e hs').bid_lt hl' m hm'
          simp [bid] at hm; omega
        · exact hij rfl
      free := by
        intro i d m hd hl hm o ho hg
        rcases old i d hd with ⟨hi, hs⟩ | ⟨rfl, rfl⟩
        · rw [hother i hi] at hm; exact st.free i d m hs hl hm o ho hg
        · rw [hself] at hm; simp [bid] at hm; have := st.gv _ _ hg; omega
      gv := fun b o hg => Nat.lt_of_lt_of_le (st.gv b o hg) hnx.size
      k0 := by rw [List.length_set]; exact st.k0
      keep := fun i hi => by rw [hother i (by omega)]; exact st.keep i hi
      g0 := st.g0
      gn := st.gn
      new := by
        intro i d m hi hd hl hm
        rcases old i d hd with ⟨hi', hs⟩ | ⟨rfl, rfl⟩
        · rw [hother i hi'] at hm; exact st.new i d m hi hs hl hm
        · rw [hself] at hm; simp [bid] at hm; have := st.size; left; omega
      os := hnx.os.trans st.os
      tape := hnx.tape.trans st.tape
      output := hnx.output.trans st.output
      size := Nat.le_trans st.size hnx.size
      fr := fun k hk hx => (hnx.heap k (Nat.lt_of_lt_of_le hk st.size) (by simp)).trans (st.fr k hk hx)
      lv := by
        intro i d hi hd hl
        rcases old i d hd with ⟨_, hs⟩ | ⟨rfl, rfl⟩
        · exact st.lv i d hi hs hl
        · omega
      glob := fun g x hg => (st.glob g x hg).mono (fun _ _ h => h) hc
      gw := fun b o v h1 h2 => hc b o v (st.g0 b o h1) (st.gw b o v h1 h2) }
  · refine VA.of_single ?_ rfl
    exact .ptr (b := w.heap.size) (by simpa using hlt) (.inl hself) (fun s hs => by cases hs) .nil

def app : List (Nat × Blk) → List Blk → List Blk
  | [], S => S
  | (n, b) :: δ, S => app δ (S.set n b)

theorem app_length : ∀ (δ : List (Nat × Blk)) (S : List Blk), (app δ S).length = S.length
  | [], _ => rfl
  | (n, b) :: δ, S => by simp only [app]; rw [app_length]; simp

theorem app_other : ∀ (δ : List (Nat × Blk)) (S : List Blk) (m : Nat), (∀ p ∈ δ, p.1 ≠ m) → (app δ S)[m]? = S[m]?
  | [], _, _, _ => rfl
  | (n, b) :: δ, S, m, h => by
    simp only [app]
    rw [app_other δ _ m (fun p hp => h p (by simp [hp])), List.getElem?_set_ne (h (n, b) (by simp))]

theorem app_set : ∀ (δ : List (Nat × Blk)) (S : List Blk) (m : Nat) (d : Blk), (∀ p ∈ δ, p.1 ≠ m) → app δ (S.set m d) = (app δ S).set m d
  | [], _, _, _, _ => rfl
  | (n, b) :: δ, S, m, d, h => by
    simp only [app]
    rw [List.set_comm _ _ (Ne.symm (h (n, b) (by simp))), app_set δ _ m d (fun p hp => h p (by simp [hp]))]

theorem app_comm : ∀ (δ ε : List (Nat × Blk)) (S : List Blk), (∀ p ∈ δ, ∀ q ∈ ε, p.1 ≠ q.1) → app δ (app ε S) = app ε (app δ S)
  | δ, [], _, _ => rfl
  | δ, (n, b) :: ε, S, h => by
    simp only [app]
    rw [app_comm δ ε _ (fun p hp q hq => h p hp q (by simp [hq])), app_set δ S n b (fun p hp => h p hp (n, b) (by simp))]

theorem CA.names {μ k w G l cs} (h : CA μ k w G l cs) : ∀ n ∈ namesVs l, n < k := by
  induction h with
  | nil => intro n h; simp [namesVs] at h
  | d _ _ ih => intro n h; exact ih n (by simpa [namesVs, namesV] using h)
  | ptr h1 _ _ _ ih =>
    intro n h
    simp only [namesVs, namesV, List.mem_append, List.mem_singleton] at h
    rcases h with rfl | h
    · exact h1
    · exact ih n h
  | row h1 _ _ ih =>
    intro n h
    simp only [namesVs, namesV, List.mem_append, List.mem_singleton] at h
    rcases h with rfl | h
    · exact h1
    · exact ih n h
  | mp h1 _ _ ih =>
    intro n h
    simp only [namesVs, namesV, List.mem_append, List.mem_singleton] at h
    rcases h with rfl | h
    · exact h1
    · exact ih n h
  | vw h1 _ _ _ _ _ _ ih =>
    intro n h
    simp only [namesVs, namesV, List.mem_append, List.mem_singleton] at h
    rcases h with rfl | h
    · exact h1
    · exact ih n h
  | fn h1 _ ih =>
    intro n h
    simp only [namesVs, namesV, List.mem_append] at h
    rcases h with h | h
    · exact (h1 n h).1
    · exact ih n h
  | agg _ _ ih1 ih2 =>
    intro n h
    simp only [namesVs, namesV, List.mem_append] at h
    rcases h with h | h
    · exact ih1 n h
    · exact ih2 n h

theorem BlkOk.names {μ k w G v b} (h : BlkOk μ k w G v b) : ∀ n ∈ namesB b, n < k := by
  cases b with
  | var x =>
    obtain ⟨b, cs, T, l, s, _, _, _, h3⟩ := h
    intro n hn
    exact h3.names n (by simpa [namesVs, namesB] using hn)
  | tvar T x =>
    obtain ⟨b, cs, _, _, h3⟩ := h
    intro n hn
    exact h3.names n (by simpa [namesVs, namesB] using hn)
  | mapb ks x =>
    obtain ⟨r, ents, _, _, _, _, _, h3⟩ := h
    intro n hn
    exact h3.names n (by simpa [namesVs, namesB] using hn)
  | _ => intro n hn; simp [namesB] at hn

/-- The last block is put into a place that was kept. -/
theorem St.moveLast {B S b μ G w n} (st : St B (S ++ [b]) μ G w) (hn : S[n]? = some .dead) (hμn : μ n = .nilFunc) (hk : B.k0 ≤ n)
    (hnm : ∀ (i : Nat) (d : Blk), S[i]? = some d → ∀ m ∈ namesB d, m < S.length) (hb : namesB b = []) : St B (S.set n b) (upd μ n (μ S.length)) G w := by
  have hlt : n < S.length := (List.getElem?_eq_some_iff.1 hn).1
  have hother : ∀ i, i ≠ n → upd μ n (μ S.length) i = μ i := fun i hi => by simp [upd, hi]
  have hself : upd μ n (μ S.length) n = μ S.length := by simp [upd]
  have hμ : ∀ i, i < S.length → solid (μ i) → upd μ n (μ S.length) i = μ i := fun i _ hs => hother i (fun e => by subst e; rw [hμn] at hs; exact hs)
  have hlast : (S ++ [b])[S.length]? = some b := by simp
  have from_ : ∀ (i : Nat) (d : Blk), (S.set n b)[i]? = some d → ∃ j : Nat, (S ++ [b])[j]? = some d ∧ upd μ n (μ S.length) i = μ j ∧ ((i ≠ n ∧ j = i ∧ i < S.length ∧ S[i]? = some d) ∨ (i = n ∧ j = S.length ∧ d = b)) := by
    intro i d hd
    by_cases e : i = n
    · subst e
      rw [List.getElem?_set_self hlt] at hd
      cases hd
      exact ⟨S.length, hlast, hself, .inr ⟨rfl, rfl, rfl⟩⟩
    · rw [List.getElem?_set_ne (Ne.symm e)] at hd
      have hi := (List.getElem?_eq_some_iff.1 hd).1
      exact ⟨i, by rw [List.getElem?_append_left hi]; exact hd, hother i e, .inl ⟨e, rfl, hi, hd⟩⟩
  have shr : ∀ (v : Value) (d : Blk), BlkOk μ (S ++ [b]).length w G v d → (∀ m ∈ namesB d, m < S.length) → BlkOk (upd μ n (μ S.length)) S.length w G v d := by
    intro v d h hm
    cases d with
    | var x =>
      obtain ⟨b, cs, T, l, s, e1, e2, e3, e4⟩ := h
      exact ⟨b, cs, T, l, s, e1, e2, e3, (e4.shrink (k' := S.length) (by simpa [namesVs, namesB] using hm)).mono (Nat.le_refl _) hμ (fun _ _ h => h) (fun _ _ _ _ h => h)⟩
    | tvar T x =>
      obtain ⟨b, cs, e1, e2, e3⟩ := h
      exact ⟨b, cs, e1, e2, (e3.shrink (k' := S.length) (by simpa [namesVs, namesB] using hm)).mono (Nat.le_refl _) hμ (fun _ _ h => h) (fun _ _ _ _ h => h)⟩
    | mapb ks x =>
      obtain ⟨r, ents, e1, e2, e3, e4, e5, e6⟩ := h
      exact ⟨r, ents, e1, e2, e3, e4, e5, (e6.shrink (k' := S.length) (by simpa [namesVs, namesB] using hm)).mono (Nat.le_refl _) hμ (fun _ _ h => h) (fun _ _ _ _ h => h)⟩
    | _ => exact h
  have hlb : (S ++ [b]).length = S.length + 1 := by simp
  exact {
    blks := by
      intro i d hd
      rw [List.length_set]
      obtain ⟨j, h1, h2, h3⟩ := from_ i d hd
      rw [h2]
      refine shr _ d (st.blks j d h1) ?_
      rcases h3 with ⟨_, _, _, h4⟩ | ⟨_, _, rfl⟩
      · exact hnm i d h4
      · rw [hb]; intro m hm; cases hm
    apart := by
      intro i j d e hd he hl hl' hij m hm hm'
      obtain ⟨p, h1, h2, h3⟩ := from_ i d hd
      obtain ⟨q, g1, g2, g3⟩ := from_ j e he
      rw [h2] at hm
      rw [g2] at hm'
      exact st.apart p q d e h1 g1 hl hl' (by omega) m hm hm'
    free := by
      intro i d m hd hl hm
      obtain ⟨p, h1, h2, h3⟩ := from_ i d hd
      rw [h2] at hm
      exact st.free p d m h1 hl hm
    gv := st.gv
    k0 := by rw [List.length_set]; omega
    keep := fun i hi => by rw [hother i (by omega)]; exact st.keep i hi
    g0 := st.g0
    gn := st.gn
    new := by
      intro i d m hi hd hl hm
      obtain ⟨p, h1, h2, h3⟩ := from_ i d hd
      rw [h2] at hm
      exact st.new p d m (by omega) h1 hl hm
    os := st.os
    tape := st.tape
    output := st.output
    size := st.size
    fr := st.fr
    lv := by
      intro i d hi hd hl
      obtain ⟨p, h1, h2, h3⟩ := from_ i d hd
      rcases h3 with ⟨_, rfl, _, _⟩ | ⟨rfl, _, _⟩
      · exact st.lv p d hi h1 hl
      · omega
    glob := st.glob
    gw := st.gw }

/-- What a call in a drawn region is given: data; slices of one's own; parts of variables, which are sealed. -/
def finO (ρ : Operand → Option AV) : List Operand → List Blk → Option (List AV × List (Nat × Blk))
  | [], _ => some ([], [])
  | o :: l, S => match ρ o with
    | some (.d x) => match finO ρ l S with
      | some (ys, δ) => some (.d x :: ys, δ)
      | none => none
    | some (.row k) => match finO ρ l S with
      | some (ys, δ) => some (.row k :: ys, δ)
      | none => none
    | some (.vw n [] lo len cnt sz) => match S[n]? with
      | some (.var (.d (.arr cnt' sz' xs))) => match Nat.beq cnt cnt' && Nat.beq sz sz' with
        | true => match finO ρ l (S.set n (.sealed (.cptr (.arr cnt sz xs)))) with
          | some (ys, δ) => some (.d (.sl sz ((xs.drop lo).take len)) :: ys, (n, .sealed (.cptr (.arr cnt sz xs))) :: δ)
          | none => none
        | false => none
      | _ => none
    | _ => none

theorem finO_congr {ρ ρ' : Operand → Option AV} : ∀ {l : List Operand} {S S' : List Blk} {ys δ}, finO ρ l S = some (ys, δ) → (∀ x ∈ l, ρ x = ρ' x) → S.length = S'.length → (∀ n ∈ δ.map (·.1), S[n]? = S'[n]?) → finO ρ' l S' = some (ys, δ)
  | [], S, S', ys, δ, h, _, _, _ => by simpa only [finO] using h
  | o :: l, S, S', ys, δ, h, hρ, hl, hS => by
    have ho := hρ o (by simp)
    have hr : ∀ x ∈ l, ρ x = ρ' x := fun x hx => hρ x (by simp [hx])
    simp only [finO] at h ⊢
    rw [← ho]
    split at h
    · split at h
      case h_2 => cases h
      rename_i h1
      cases h
      rw [finO_congr h1 hr hl hS]
    · split at h
      case h_2 => cases h
      rename_i h1
      cases h
      rw [finO_congr h1 hr hl hS]
    · split at h
      case h_2 => cases h
      rename_i cnt' sz' xs hs
      split at h
      case h_2 => cases h
      rename_i hb
      split at h
      case h_2 => cases h
      rename_i h1
      cases h
      rw [hS _ (by simp)] at hs
      simp only [hs, hb]
      rw [finO_congr h1 hr (by simp [hl]) (fun n hn => by
        have := hS n (by simp at hn ⊢; exact .inr hn)
        simp only [List.getElem?_set, hl, this])]
    · cases h

theorem finO_names {ρ : Operand → Option AV} : ∀ {l : List Operand} {S : List Blk} {ys δ}, finO ρ l S = some (ys, δ) → ∀ n ∈ δ.map (·.1), S[n]? ≠ some .dead
  | [], S, ys, δ, h => by simp only [finO] at h; cases h; simp
  | o :: l, S, ys, δ, h => by
    simp only [finO] at h
    split at h
    · split at h
      case h_2 => cases h
      rename_i h1
      cases h
      exact finO_names h1
    · split at h
      case h_2 => cases h
      rename_i h1
      cases h
      exact finO_names h1
    · split at h
      case h_2 => cases h
      rename_i cnt' sz' xs hs
      split at h
      case h_2 => cases h
      split at h
      case h_2 => cases h
      rename_i h1
      cases h
      intro m hm
      rw [List.map_cons, List.mem_cons] at hm
      rcases hm with rfl | hm
      · rw [hs]; simp
      · intro hd
        have := finO_names h1 m hm
        rw [List.getElem?_set] at this
        split at this
        · rename_i e; subst e; rw [hs] at hd; cases hd
        · exact this hd
    · cases h

theorem finO_sound {B : Base} {N : Nat} {env : Env} {S0 μ G0 a w} (h0 : At1 B N env S0 μ G0 a w) : ∀ (l : List Operand) (S : List Blk) (G : Nat → Nat → Prop) (ys : List AV) (δ : List (Nat × Blk)), finO (evalA B.c env) l S = some (ys, δ) → St B S μ G w → Later S0 μ G0 w S μ G w →
    ∃ G', St B (app δ S) μ G' w ∧ Later S μ G w (app δ S) μ G' w ∧ VS μ (app δ S).length w G' ys (l.map a.eval)
  | [], S, G, ys, δ, h, st, _ => by simp only [finO] at h; cases h; exact ⟨G, st, Later.refl _ _ _ _, .nil⟩
  | o :: l, S, G, ys, δ, h, st, lt => by
    simp only [finO] at h
    split at h
    · rename_i x hx
      split at h
      case h_2 => cases h
      rename_i h1
      cases h
      have hva := (lt.ra (evalA_sound h0 hx)).va (fun l e => by cases e)
      obtain ⟨G2, e1, e2, e3⟩ := finO_sound h0 l S G _ _ h1 st lt
      exact ⟨G2, e1, e2, .cons (hva.mono e2.k (fun i hi _ => e2.μ i hi) e2.g e2.cells) e3⟩
    · rename_i x hx
      split at h
      case h_2 => cases h
      rename_i h1
      cases h
      have hva := (lt.ra (evalA_sound h0 hx)).va (fun l e => by cases e)
      obtain ⟨G2, e1, e2, e3⟩ := finO_sound h0 l S G _ _ h1 st lt
      exact ⟨G2, e1, e2, .cons (hva.mono e2.k (fun i hi _ => e2.μ i hi) e2.g e2.cells) e3⟩
    · rename_i n lo len cnt sz hx
      split at h
      case h_2 => cases h
      rename_i cnt' sz' xs hs
      split at h
      case h_2 => cases h
      rename_i hb
      split at h
      case h_2 => cases h
      rename_i h1
      cases h
      have hva := (lt.ra (evalA_sound h0 hx)).va (fun l e => by cases e)
      have htd : AV.toD 0 S (.vw n [] lo len cnt sz) = some (.sl sz ((xs.drop lo).take len), S.set n (.sealed (.cptr (.arr cnt sz xs)))) := by
        simp only [AV.toD, hs, hb, Bool.true_and]
        rfl
      obtain ⟨G1, g1, g2, g3⟩ := toD_sound _ htd st hva.1
      have hv1 : VA μ (S.set n (.sealed (.cptr (.arr cnt sz xs)))).length w G1 (.d (.sl sz ((xs.drop lo).take len))) (a.eval o) := VA.d_iff.2 ⟨g3, by rw [hva.2]; rfl⟩
      obtain ⟨G2, e1, e2, e3⟩ := finO_sound h0 l _ G1 _ _ h1 g1 (lt.trans g2)
      exact ⟨G2, e1, g2.trans e2, .cons (hv1.mono e2.k (fun i hi _ => e2.μ i hi) e2.g e2.cells) e3⟩
    · cases h

theorem app_append : ∀ (δ ε : List (Nat × Blk)) (S : List Blk), app (δ ++ ε) S = app ε (app δ S)
  | [], _, _ => rfl
  | (n, b) :: δ, ε, S => by simp only [List.cons_append, app]; exact app_append δ ε _

def deads (ks : List Nat) : List (Nat × Blk) := ks.map fun k => (k, .dead)

theorem app_deads : ∀ (ks : List Nat) (S : List Blk), app (deads ks) S = putBack S ks (List.replicate ks.length .dead)
  | [], _ => rfl
  | k :: ks, S => by
    simp only [deads, List.map_cons, app, List.length_cons, List.replicate_succ, putBack]
    exact app_deads ks _

theorem app_deads_get : ∀ (ks : List Nat) (S : List Blk) (i : Nat) (d : Blk), (app (deads ks) S)[i]? = some d → d = .dead ∨ S[i]? = some d
  | [], _, _, _, h => .inr h
  | k :: ks, S, i, d, h => by
    rcases app_deads_get ks (S.set k .dead) i d h with h | h
    · exact .inl h
    · rw [List.getElem?_set] at h
      split at h
      · split at h
        · cases h; exact .inl rfl
        · cases h
      · exact .inr h

theorem app_deads_dead : ∀ (ks : List Nat) (S : List Blk) (i : Nat), S[i]? = some .dead → (app (deads ks) S)[i]? = some .dead
  | [], _, _, h => h
  | k :: ks, S, i, h => by
    refine app_deads_dead ks _ i ?_
    rw [List.getElem?_set]
    split
    · rename_i e; subst e; rw [if_pos (List.getElem?_eq_some_iff.1 h).1]
    · exact h

theorem subStore_congr {S S' : List Blk} : ∀ {ns : List Nat}, (∀ n ∈ ns, S[n]? = S'[n]?) → subStore S ns = subStore S' ns
  | [], _ => rfl
  | n :: ns, h => by
    simp only [subStore]
    rw [h n (by simp), subStore_congr fun m hm => h m (by simp [hm])]

theorem into_congr {S S' : List Blk} {ns args} (hl : S.length = S'.length) (h : ∀ n ∈ ns, S[n]? = S'[n]?) : into S ns args = into S' ns args := by
  unfold into
  rw [hl, subStore_congr h]

/-- A call that makes a slice of one's own, whose place is kept. -/
theorem callO_sound {B : Base} {N : Nat} {o : Oper} {env : Env} {S : List Blk} {tgt : Nat} {fo : Operand} {args : Array Operand} {ts : Array TypeId} {f : FuncId} {ys zs : List AV} {δ : List (Nat × Blk)} {ks : List Nat} {Sc : List Blk} {e : TypeId} {sz : Nat} {xs : List D}
    (ho : o.op = .call { callee := .value fo, args, argTypes := ts }) (hf : evalA B.c env fo = some (.fn f [])) (hys : finO (evalA B.c env) args.toList S = some (ys, δ)) (hin : into (app δ S) ks ys = some (zs, Sc))
    (hcall : CallR B.c f zs Sc (fun r S' => r = .row ks.length ∧ S' = List.replicate ks.length .dead ++ [.own e sz xs])) {μ G a w} (st : At1 B N env S μ G a w) (e1 : S[tgt]? = some .dead) (e2 : μ tgt = .nilFunc) (e3 : B.k0 ≤ tgt)
    (next : Act → World → Prop) (Q : Exit → Act → World → Prop)
    (hn : ∀ μ' G' v w', St B (app (δ ++ (deads ks ++ [(tgt, .own e sz xs)])) S) μ' G' w' → LaterD S μ G w (app (δ ++ (deads ks ++ [(tgt, .own e sz xs)])) S) μ' G' w' → (∀ i, i < S.length → i ≠ tgt → μ' i = μ i) →
      (RA μ' (app (δ ++ (deads ks ++ [(tgt, .own e sz xs)])) S).length w' G' (.row tgt) v) → next (a.put o.dst v) w') : o.wp B.c.P a w next Q := by
  obtain ⟨G1, g1, g2, g3⟩ := finO_sound st args.toList S G ys δ hys st.st (Later.refl _ _ _ _)
  have hi := into_spec hin
  have hfv := ((evalA_sound st hf).va (fun l e => by cases e)).fn_inv
  have hrun : (execOp a.eval o).run B.c.P w = (callFunc f (args.toList.map a.eval).toArray).run B.c.P w := by
    simp only [execOp, ho, resolve, hfv, Deferred.ofValue, Sem.run_bind, Sem.run_pure, Result.andThen_ok, invoke]
    congr 2
    apply Array.ext'
    simp
  have hct := hcall _ G1 w _ (hi.st g1) (hi.args_ok g3)
  have hle : (app δ S).length = S.length := app_length _ _
  have hrb : ∀ (f : Nat → Option Nat) (l : List Blk), (∀ b ∈ l, b = .dead ∨ b = .own e sz xs) → renBlks f l = some l := by
    intro f l
    induction l with
    | nil => intro _; rfl
    | cons b l ih =>
      intro h
      simp only [renBlks]
      rcases h b (by simp) with rfl | rfl
      · simp only [Blk.ren, ih (fun b hb => h b (by simp [hb]))]
      · simp only [Blk.ren, ih (fun b hb => h b (by simp [hb]))]
  have hbk : Back (app δ S) ks (List.replicate ks.length .dead ++ [.own e sz xs]) (.row ks.length) (.row (app δ S).length) (app (deads ks) (app δ S) ++ [.own e sz xs]) := by
    refine ⟨?_, _, hrb _ _ (fun b hb => ?_), ?_⟩
    · have hb : Nat.blt ks.length ks.length = false := by
        cases hh : Nat.blt ks.length ks.length with
        | false => rfl
        | true => have := Nat.le_of_ble_eq_true hh; omega
      simp only [AV.ren, backOf, hb, Nat.sub_self, Nat.add_zero]
    · rcases List.mem_append.1 hb with h | h
      · exact .inl (List.eq_of_mem_replicate h)
      · exact .inr (by simpa using h)
    · rw [app_deads, List.take_left' (by simp), List.drop_left' (by simp)]
  have hfin : ∀ (u : Value) (w' : World) (μ' : Nat → Value) (G' : Nat → Nat → Prop), St (base B.c Sc (fun i => μ (ks.getD i 0)) G1 w) (List.replicate ks.length .dead ++ [.own e sz xs]) μ' G' w' →
      RA μ' (List.replicate ks.length Blk.dead ++ [Blk.own e sz xs]).length w' G' (.row ks.length) u → next (a.put o.dst u) w' := by
    intro u w' μ' G' st' hra
    obtain ⟨μ'', a1, a2, a3⟩ := Back.st g1 hi hbk st'
    have a4 := (a3 u hra).va (fun l e => by cases e)
    have hd1 : (app δ S)[tgt]? = some Blk.dead := by
      rw [app_other δ S tgt (fun p hp e => finO_names hys p.1 (List.mem_map.2 ⟨p, hp, rfl⟩) (by rw [e]; exact e1))]
      exact e1
    have hlt : tgt < S.length := (List.getElem?_eq_some_iff.1 e1).1
    have hd2 := app_deads_dead ks _ _ hd1
    have hl2 : (app (deads ks) (app δ S)).length = (app δ S).length := app_length _ _
    have hm2 : μ'' tgt = .nilFunc := by rw [a2.μ tgt (by omega)]; exact e2
    have hst := a1.moveLast hd2 hm2 e3 (fun i d hd m hm => by
      rw [hl2]
      rcases app_deads_get ks _ i d hd with rfl | h
      · cases hm
      · exact (g1.blks i d h).names m hm) rfl
    have hS : (app (deads ks) (app δ S)).set tgt (.own e sz xs) = app (δ ++ (deads ks ++ [(tgt, .own e sz xs)])) S := by
      rw [app_append, app_append]; rfl
    rw [hl2] at hst
    rw [hS] at hst
    have hoth : ∀ i, i < S.length → i ≠ tgt → upd μ'' tgt (μ'' (app δ S).length) i = μ i := fun i hi hne => by
      simp only [upd, if_neg hne]
      exact a2.μ i (by omega)
    have hlen : (app (δ ++ (deads ks ++ [(tgt, .own e sz xs)])) S).length = S.length := app_length _ _
    refine hn _ G' u w' hst ⟨by omega, fun i hi hs => hoth i hi (fun e => by subst e; rw [e2] at hs; exact hs), fun b o h => a2.g b o (g2.g b o h), fun b o v h hv => a2.cells b o v (g2.g b o h) hv⟩ hoth ?_
    refine VA.ra ?_ (fun l e => by cases e)
    refine ⟨?_, a4.2⟩
    have h5 := a4.1
    generalize u.cells.toList = cu at h5 ⊢
    cases h5 with
    | row b1 b2 b3 =>
      cases b3
      exact .row (by omega) (by simp only [upd, if_pos]; exact b2) .nil
    | mp b1 b2 b3 =>
      cases b3
      exact .mp (by omega) (by simp only [upd, if_pos]; exact b2) .nil
  unfold Oper.wp
  rw [hrun]
  rcases hct with ⟨h1, h2⟩ | ⟨u, w', h1, u', r, S', μ', G', h3, ⟨rfl, rfl⟩, h4, h5⟩
  · rw [h1, Oper.upon_enter]
    refine h2.mono ?_
    rintro e w' ⟨u, r, S', μ', G', rfl, ⟨rfl, rfl⟩, st', hra⟩
    exact hfin u w' μ' G' st' hra
  · rw [h1, Oper.upon_value]
    cases h3
    exact hfin u w' μ' G' h4 h5

/-- A result in the last block, which is put into the place that was kept for it. -/
theorem moved {B : Base} {S S1 : List Blk} {b : Blk} {μ μ1 : Nat → Value} {G G1 : Nat → Nat → Prop} {w w1 : World} {tgt : Nat} {v : Value} (hS1 : S1.length = S.length) (st1 : St B (S1 ++ [b]) μ1 G1 w1) (lt : Later S μ G w (S1 ++ [b]) μ1 G1 w1)
    (hra : RA μ1 (S1 ++ [b]).length w1 G1 (.row S.length) v) (e1 : S1[tgt]? = some .dead) (e2 : μ tgt = .nilFunc) (e3 : B.k0 ≤ tgt) (hnm : ∀ (i : Nat) (d : Blk), S1[i]? = some d → ∀ m ∈ namesB d, m < S.length) (hb : namesB b = []) :
    ∃ μ', St B (S1.set tgt b) μ' G1 w1 ∧ LaterD S μ G w (S1.set tgt b) μ' G1 w1 ∧ (∀ i, i < S.length → i ≠ tgt → μ' i = μ i) ∧ RA μ' (S1.set tgt b).length w1 G1 (.row tgt) v := by
  have hlt : tgt < S1.length := (List.getElem?_eq_some_iff.1 e1).1
  have hm2 : μ1 tgt = .nilFunc := by rw [lt.μ tgt (by omega)]; exact e2
  have hst := st1.moveLast e1 hm2 e3 (by rw [hS1]; exact hnm) hb
  have hoth : ∀ i, i < S.length → i ≠ tgt → upd μ1 tgt (μ1 S1.length) i = μ i := fun i hi hne => by
    simp only [upd, if_neg hne]
    exact lt.μ i hi
  refine ⟨_, hst, ⟨by simp [hS1], fun i hi hs => hoth i hi (fun e => by subst e; rw [e2] at hs; exact hs), lt.g, lt.cells⟩, hoth, ?_⟩
  have a4 := hra.va (fun l e => by cases e)
  refine VA.ra ?_ (fun l e => by cases e)
  refine ⟨?_, a4.2⟩
  have h5 := a4.1
  generalize v.cells.toList = cu at h5 ⊢
  cases h5 with
  | row b1 b2 b3 =>
    cases b3
    exact .row (by simpa using hlt) (by simp only [upd, if_pos]; rw [hS1]; exact b2) .nil
  | mp b1 b2 b3 =>
    cases b3
    exact .mp (by simpa using hlt) (by simp only [upd, if_pos]; rw [hS1]; exact b2) .nil

/-- Behind a row of one's own: the row's place is kept. -/
theorem appendO_sound {B : Base} {N : Nat} (hc : B.c.ok) {o : Oper} {env : Env} {S : List Blk} {tgt : Nat} {s x : Operand} {t e : TypeId} {i fi : TI} {z : D} {n sz : Nat} {xs ys : List D}
    (ho : o.op = .call { callee := .builtin .append, args := #[s, x], argTypes := #[t, t] })
    (hi : B.c.tt t = some i) (hk : i.k = .slice e) (hfi : B.c.tt e = some fi) (hz : fi.zero = some z) (hzs : z.size = sz) (hsz : fi.size = sz)
    (hs : evalA B.c env s = some (.row n)) (hn : S[n]? = some (.row e sz xs) ∨ S[n]? = some (.own e sz xs)) (hx : evalA B.c env x = some (.d (.sl sz ys))) (hy : 0 < ys.length)
    (hb : (xs.length + ys.length) * (fi.bytes + 1) ≤ 140737488355328) {μ G a w} (st : At1 B N env S μ G a w) (e1 : S[tgt]? = some .dead) (e2 : μ tgt = .nilFunc) (e3 : B.k0 ≤ tgt)
    (next : Act → World → Prop) (Q : Exit → Act → World → Prop)
    (hnx : ∀ μ' G' v w', St B (app [(n, .sealed (.sl sz xs)), (tgt, .row e sz (xs ++ ys))] S) μ' G' w' → LaterD S μ G w (app [(n, .sealed (.sl sz xs)), (tgt, .row e sz (xs ++ ys))] S) μ' G' w' → (∀ i, i < S.length → i ≠ tgt → μ' i = μ i) →
      (RA μ' (app [(n, .sealed (.sl sz xs)), (tgt, .row e sz (xs ++ ys))] S).length w' G' (.row tgt) v) → next (a.put o.dst v) w') : o.wp B.c.P a w next Q := by
  have key : OpsTo B N o env S (fun y S' => y = some (.row S.length) ∧ S' = S.set n (.sealed (.sl sz xs)) ++ [.row e sz (xs ++ ys)]) := by
    rcases hn with hn | hn
    · exact rule_append hc ho hi hk hfi hz hzs hsz hs hn hx hy hb ⟨rfl, rfl⟩
    · refine opsTo_freeze hn (rule_append hc ho hi hk hfi hz hzs hsz hs (by rw [List.getElem?_set_self (List.getElem?_eq_some_iff.1 hn).1]) hx hy hb ⟨by simp, by simp⟩)
  refine key μ G a w st next Q ?_
  rintro y S' μ1 G1 v w1 ⟨rfl, rfl⟩ st1 lt hra
  have hne : n ≠ tgt := by
    rintro rfl
    rcases hn with hn | hn <;> (rw [e1] at hn; cases hn)
  obtain ⟨μ', m1, m2, m3, m4⟩ := moved (tgt := tgt) (by simp) st1 lt (hra _ rfl) (by rw [List.getElem?_set_ne hne]; exact e1) e2 e3 (fun i d hd m hm => by
    rw [List.getElem?_set] at hd
    split at hd
    · split at hd
      · cases hd; cases hm
      · cases hd
    · exact (st.st.blks i d hd).names m hm) rfl
  exact hnx μ' G1 v w1 m1 m2 m3 m4

theorem namesVs_append : ∀ (l m : List AV), namesVs (l ++ m) = namesVs l ++ namesVs m
  | [], m => rfl
  | x :: l, m => by rw [List.cons_append, namesVs, namesVs, namesVs_append l m, List.append_assoc]

theorem set_same {S : List Blk} {n : Nat} {b : Blk} (h : S[n]? = some b) : S.set n b = S := by
  apply List.ext_getElem?
  intro p
  rw [List.getElem?_set]
  split
  · rename_i ep
    subst ep
    rw [h, if_pos (List.getElem?_eq_some_iff.1 h).1]
  · rfl

/-- As `moved`, where the block is told with data beside. -/
theorem moved2 {B : Base} {S S1 : List Blk} {b : Blk} {μ μ1 : Nat → Value} {G G1 : Nat → Nat → Prop} {w w1 : World} {tgt : Nat} {v : Value} {y : D} (hS1 : S1.length = S.length) (st1 : St B (S1 ++ [b]) μ1 G1 w1) (lt : Later S μ G w (S1 ++ [b]) μ1 G1 w1)
    (hra : RA μ1 (S1 ++ [b]).length w1 G1 (.tup [.row S.length, .d y]) v) (e1 : S1[tgt]? = some .dead) (e2 : μ tgt = .nilFunc) (e3 : B.k0 ≤ tgt) (hnm : ∀ (i : Nat) (d : Blk), S1[i]? = some d → ∀ m ∈ namesB d, m < S.length) (hb : namesB b = []) :
    ∃ μ', St B (S1.set tgt b) μ' G1 w1 ∧ LaterD S μ G w (S1.set tgt b) μ' G1 w1 ∧ (∀ i, i < S.length → i ≠ tgt → μ' i = μ i) ∧ RA μ' (S1.set tgt b).length w1 G1 (.tup [.row tgt, .d y]) v := by
  have hlt : tgt < S1.length := (List.getElem?_eq_some_iff.1 e1).1
  have hm2 : μ1 tgt = .nilFunc := by rw [lt.μ tgt (by omega)]; exact e2
  have hst := st1.moveLast e1 hm2 e3 (by rw [hS1]; exact hnm) hb
  have hoth : ∀ i, i < S.length → i ≠ tgt → upd μ1 tgt (μ1 S1.length) i = μ i := fun i hi hne => by
    simp only [upd, if_neg hne]
    exact lt.μ i hi
  refine ⟨_, hst, ⟨by simp [hS1], fun i hi hs => hoth i hi (fun e => by subst e; rw [e2] at hs; exact hs), lt.g, lt.cells⟩, hoth, ?_⟩
  obtain ⟨vs, rfl, hvs⟩ := hra
  refine ⟨vs, rfl, ?_⟩
  cases hvs with
  | cons a4 hr =>
    cases hr with
    | cons a5 hn =>
      cases hn
      refine .cons ?_ (.cons (VA.d_iff.2 (VA.d_iff.1 a5)) .nil)
      rename_i v0 v1
      refine ⟨?_, a4.2⟩
      have h5 := a4.1
      generalize v0.cells.toList = cu at h5 ⊢
      cases h5 with
      | row b1 b2 b3 =>
        cases b3
        exact .row (by simpa using hlt) (by simp only [upd, if_pos]; rw [hS1]; exact b2) .nil
      | mp b1 b2 b3 =>
        cases b3
        exact .mp (by simpa using hlt) (by simp only [upd, if_pos]; rw [hS1]; exact b2) .nil

/-- A new place in a map: the row's place is kept. -/
theorem entM0_sound {B : Base} {N : Nat} (hc : B.c.ok) {o : Oper} {env : Env} {S : List Blk} {tgt : Nat} {t kt et e : TypeId} {m x : Operand} {ei : TI} {n sz : Nat} {ks : List ByteArray} {vs : List AV} {b : ByteArray} (ho : o.op = .mapEntry t m x) (ht : B.c.P.underlying t = some (.map kt et)) (hK : KeyOk B.c.P kt)
    (hfi : B.c.tt et = some ei) (hz : ei.zero = some (.sl sz [])) (hm : evalA B.c env m = some (.row n)) (hn : S[n]? = some (.mapb ks (.agg vs))) (hx : evalA B.c env x = some (.d (.arr 32 1 (D.bytes b)))) (hb : b.size = 32) (hall : (vs.all fun y => !y.isAgg) = true) (hnot : b ∉ ks)
    {μ G a w} (st : At1 B N env S μ G a w) (e1 : S[tgt]? = some .dead) (e2 : μ tgt = .nilFunc) (e3 : B.k0 ≤ tgt)
    (next : Act → World → Prop) (Q : Exit → Act → World → Prop)
    (hnx : ∀ μ' G' v w', St B (app [(n, .mapb (ks ++ [b]) (.agg (vs ++ [.d (.sl sz [])]))), (tgt, .row e sz [])] S) μ' G' w' → LaterD S μ G w (app [(n, .mapb (ks ++ [b]) (.agg (vs ++ [.d (.sl sz [])]))), (tgt, .row e sz [])] S) μ' G' w' → (∀ i, i < S.length → i ≠ tgt → μ' i = μ i) →
      (RA μ' (app [(n, .mapb (ks ++ [b]) (.agg (vs ++ [.d (.sl sz [])]))), (tgt, .row e sz [])] S).length w' G' (.tup [.row tgt, .d (.int .i64 (ks.length : Int))]) v) → next (a.put o.dst v) w') : o.wp B.c.P a w next Q := by
  have key : OpsTo B N o env S (fun y S' => y = some (.tup [.row S.length, .d (.int .i64 (ks.length : Int))]) ∧ S' = S.set n (.mapb (ks ++ [b]) (.agg (vs ++ [.d (.sl sz [])]))) ++ [.row e sz []]) :=
    rule_mapEntry hc ho ht hK hfi hz rfl hm hn hx hb hall (.inr ⟨hnot, e, sz, rfl, rfl, rfl⟩)
  refine key μ G a w st next Q ?_
  rintro y S' μ1 G1 v w1 ⟨rfl, rfl⟩ st1 lt hra
  have hne : n ≠ tgt := by
    rintro rfl
    rw [e1] at hn; cases hn
  obtain ⟨μ', m1, m2, m3, m4⟩ := moved2 (tgt := tgt) (by simp) st1 lt (hra _ rfl) (by rw [List.getElem?_set_ne hne]; exact e1) e2 e3 (fun i d hd m hm => by
    rw [List.getElem?_set] at hd
    split at hd
    · split at hd
      · cases hd
        simp only [namesB, namesV, namesVs_append, namesVs, List.append_nil] at hm
        exact (st.st.blks n _ hn).names m (by simpa [namesB, namesV] using hm)
      · cases hd
    · exact (st.st.blks i d hd).names m hm) rfl
  exact hnx μ' G1 v w1 m1 m2 m3 m4

/-- A part of an array over a part of an array. -/
theorem rule_copy_vw {B : Base} {N : Nat} {o : Oper} {env : Env} {S : List Blk} {K : Option AV → List Blk → Prop} {x y : Operand} {t u e : TypeId} {i fi : TI} {n lo len cnt m lo' len' cnt' : Nat} {p q : List Step} {X X' Y : AV} {xs zs : List D} (hc : B.c.ok) (ho : o.op = .call { callee := .builtin .copy, args := #[x, y], argTypes := #[t, u] })
    (hi : B.c.tt t = some i) (hk : i.k = .slice e) (hfi : B.c.tt e = some fi) (hsz : fi.size = 1)
    (hx : evalA B.c env x = some (.vw n p lo len cnt 1)) (hn : S[n]? = some (.var X)) (hX : AV.getP X p = some (.d (.arr cnt 1 xs)))
    (hy : evalA B.c env y = some (.vw m q lo' len' cnt' 1)) (hm : S[m]? = some (.var Y)) (hY : AV.getP Y q = some (.d (.arr cnt' 1 zs)))
    (hset : AV.setP X p (.d (.arr cnt 1 (xs.take lo ++ ((zs.drop lo').take (Nat.min len' len) ++ xs.drop (lo + Nat.min len' len))))) = some X') (hle : lo' + len' ≤ zs.length)
    (h : K (some (.d (.int .i64 (Nat.min len' len : Nat)))) (S.set n (.var X'))) : OpsTo B N o env S K := by
  have hl : ((zs.drop lo').take (Nat.min len' len)).length = Nat.min len' len := by
    rw [List.length_take, List.length_drop]
    have : Nat.min len' len ≤ len' := Nat.min_le_left _ _
    omega
  by_cases h1 : ∀ y ∈ zs, y.size = 1
  case neg =>
    intro μ G a w st
    obtain ⟨_, _, _, _, _, _, g4, _⟩ := vw_cells st hy hm hY
    exact absurd g4 h1
  refine rule_copy (L := len') (ys := (zs.drop lo').take (Nat.min len' len)) hc ho hi hk hfi hsz hx hn hX (fun μ G a w st => ?_) hl (fun y hy' => h1 y (List.mem_of_mem_drop (List.mem_of_mem_take hy'))) (by rw [hl]; exact hset) h
  obtain ⟨b, cap, c, e1, g2, g3, g4, g5, g6⟩ := vw_cells st hy hm hY
  have hcl : c.length = len' := by
    rw [g5.length, D.sizes_uniform (sz := 1) fun y hy' => g4 y (List.mem_of_mem_drop (List.mem_of_mem_take hy')), List.length_take, List.length_drop]
    omega
  obtain ⟨c1, c2, rfl, w1, w2⟩ := CL.append_inv (l := (zs.drop lo').take (Nat.min len' len)) (m := ((zs.drop lo').take len').drop (Nat.min len' len)) (by
    have e : (zs.drop lo').take (Nat.min len' len) = ((zs.drop lo').take len').take (Nat.min len' len) := by
      rw [List.take_take, Nat.min_eq_left (Nat.min_le_left _ _)]
    rw [e, List.take_append_drop]
    exact g5)
  have l1 : c1.length = Nat.min len' len := by
    rw [w1.length, D.sizes_uniform (sz := 1) fun y hy' => g4 y (List.mem_of_mem_drop (List.mem_of_mem_take hy')), hl, Nat.mul_one]
  refine ⟨c1, ?_, ?_, w1⟩
  · rw [e1]
    simp [Builtin.lenOf]
  · rw [e1]
    refine run_firstCells_some w 1 (Nat.min len' len) _ len' cap c1 (by rw [l1, Nat.mul_one]) fun j v hj => ?_
    rw [addr_add]
    exact g6 j v (by rw [List.getElem?_append_left (by have := (List.getElem?_eq_some_iff.1 hj).1; exact this)]; exact hj)

/-- The operations that make a block: its place is kept. -/
def makesB (c : Ctx) (o : Oper) : Bool :=
  match o.op with
  | .alloc _ => true
  | .box .. => true
  | .call { callee := .builtin .append, .. } => true
  | .mapEntry .. => true
  | .call { callee := .value (.func f), .. } => c.mks f
  | _ => false

/-- A call's arguments, where they are data. -/
def onlyD (x : Option AV) : Option AV :=
  match x with
  | some (.d x) => some (.d x)
  | _ => none

/-- Blocks of data alone. -/
def plainS (n : Nat) (l : List Blk) : Bool := Nat.beq l.length n && l.all fun b => match b with
  | .var (.d _) => true
  | _ => false

def zipB : List Nat → List Blk → List (Nat × Blk)
  | k :: ks, b :: bs => (k, b) :: zipB ks bs
  | _, _ => []

theorem app_zipB : ∀ (ks : List Nat) (bs : List Blk) (S : List Blk), app (zipB ks bs) S = putBack S ks bs
  | [], bs, S => by cases bs <;> rfl
  | k :: ks, [], S => rfl
  | k :: ks, b :: bs, S => by
    simp only [zipB, app, putBack]
    exact app_zipB ks bs _

theorem plainS_ren {n : Nat} {l : List Blk} (h : plainS n l = true) (f : Nat → Option Nat) : l.length = n ∧ renBlks f l = some l := by
  unfold plainS at h
  simp only [Bool.and_eq_true] at h
  refine ⟨beq_true h.1, ?_⟩
  have h2 := h.2
  clear h
  induction l with
  | nil => rfl
  | cons b l ih =>
    simp only [List.all_cons, Bool.and_eq_true] at h2
    obtain ⟨h3, h4⟩ := h2
    simp only [renBlks]
    split at h3
    · simp only [Blk.ren, AV.ren, ih h4]
    · cases h3

/-- One operation, told by what it looks at alone. -/
inductive StepD (c : Ctx) (o : Oper) (ρ : Operand → Option AV) (S : List Blk) (tgt : Nat) : Option AV → List (Nat × Blk) → List Nat → Prop
  | quiet {x} : WOpQ c o ρ (fun y => y = x) → StepD c o ρ S tgt (some x) [] []
  | load {t a i n p X y} : o.op = .load t a → c.tt t = some i → ρ a = some (.ptr n p) → S[n]? = some (.var X) → AV.getP X p = some y → shapeB i y = true → notTup y = true →
      StepD c o ρ S tgt (some y) [] [n]
  | loadC {t a i X} : o.op = .load t a → c.tt t = some i → ρ a = some (.d (.cptr X)) → shapeB i (.d X) = true → StepD c o ρ S tgt (some (.d X)) [] []
  | store {t a b i n p X X' v} : o.op = .store t a b → c.tt t = some i → ρ a = some (.ptr n p) → S[n]? = some (.var X) → (AV.getP X p).isSome = true → ρ b = some v → notTup v = true → shapeB i v = true →
      AV.setP X p v = some X' → StepD c o ρ S tgt none [(n, .var X')] [n]
  | alloc {t i z} : o.op = .alloc t → c.tt t = some i → i.zero = some z → StepD c o ρ S tgt (some (.ptr tgt [])) [(tgt, .var (.d z))] [tgt]
  | box {t a v} : o.op = .box t a → ρ a = some v → notTup v = true → StepD c o ρ S tgt (some (.ptr tgt [])) [(tgt, .var v)] [tgt]
  | call {fo args ts f zs v} : o.op = .call { callee := .value fo, args, argTypes := ts } → ρ fo = some (.fn f []) → mapO (fun a => onlyD (ρ a)) args.toList = some zs →
      CallR c f zs [] (fun r S' => r = v ∧ S' = []) → namesV v = [] → makesB c o = false → StepD c o ρ S tgt (some v) [] []
  | callO {fo args ts f ys δ ks zs Sc e sz xs} : o.op = .call { callee := .value fo, args, argTypes := ts } → makesB c o = true → ρ fo = some (.fn f []) → finO ρ args.toList S = some (ys, δ) → into (app δ S) ks ys = some (zs, Sc) →
      CallR c f zs Sc (fun r S' => r = .row ks.length ∧ S' = List.replicate ks.length .dead ++ [.own e sz xs]) →
      StepD c o ρ S tgt (some (.row tgt)) (δ ++ (deads ks ++ [(tgt, .own e sz xs)])) (tgt :: (ks ++ δ.map (·.1)))
  | bslice {t len parts y} : o.op = .buildSlice t len parts → wBuildSl c t len ρ parts.toList (fun z => z = y) → StepD c o ρ S tgt (some y) [] []
  | callP {fo args ts f ys ks zs Sc v S1} : o.op = .call { callee := .value fo, args, argTypes := ts } → makesB c o = false → ρ fo = some (.fn f []) → mapO ρ args.toList = some ys → (∀ y ∈ ys, notTup y = true) → into S ks ys = some (zs, Sc) →
      CallR c f zs Sc (fun r S' => r = v ∧ S' = S1) → namesV v = [] → plainS ks.length S1 = true → StepD c o ρ S tgt (some v) (zipB ks S1) ks
  | aslice {t e x lo hi i fi n cnt p l h} : o.op = .slice t x lo hi none → c.tt t = some i → i.k = .arr cnt e → c.tt e = some fi → ρ x = some (.ptr n p) → wBnd ρ lo 0 = some l → wBnd ρ hi cnt = some h → (0 ≤ l ∧ l ≤ h ∧ h ≤ cnt ∧ l < cnt ∧ cnt ≤ maxLen) →
      StepD c o ρ S tgt (some (.vw n p l.toNat (h - l).toNat cnt fi.size)) [] []
  | copyS {x y t u e i fi n lo len cnt p X X' xs s} : o.op = .call { callee := .builtin .copy, args := #[x, y], argTypes := #[t, u] } → c.tt t = some i → i.k = .slice e → c.tt e = some fi → fi.size = 1 → ρ x = some (.vw n p lo len cnt 1) → S[n]? = some (.var X) →
      AV.getP X p = some (.d (.arr cnt 1 xs)) → ρ y = some (.d (.str s)) → AV.setP X p (.d (.arr cnt 1 (xs.take lo ++ ((D.bytes s).take len ++ xs.drop (lo + Nat.min s.size len))))) = some X' →
      StepD c o ρ S tgt (some (.d (.int .i64 (Nat.min s.size len : Nat)))) [(n, .var X')] [n]
  | convV {src dst e x i j ei n lo len cnt p X xs s} : o.op = .convert src dst x → c.tt src = some i → c.tt dst = some j → i.k = .slice e → j.k = .str → c.tt e = some ei → ei.k = .int .u8 → ρ x = some (.vw n p lo len cnt 1) → S[n]? = some (.var X) → AV.getP X p = some (.d (.arr cnt 1 xs)) →
      (xs.drop lo).take len = D.bytes s → len = s.size → StepD c o ρ S tgt (some (.d (.str s))) [] [n]
  | copyV {x y t u e i fi n lo len cnt p X X' xs m lo' len' cnt' q Y zs} : o.op = .call { callee := .builtin .copy, args := #[x, y], argTypes := #[t, u] } → c.tt t = some i → i.k = .slice e → c.tt e = some fi → fi.size = 1 → ρ x = some (.vw n p lo len cnt 1) → S[n]? = some (.var X) →
      AV.getP X p = some (.d (.arr cnt 1 xs)) → ρ y = some (.vw m q lo' len' cnt' 1) → S[m]? = some (.var Y) → AV.getP Y q = some (.d (.arr cnt' 1 zs)) →
      AV.setP X p (.d (.arr cnt 1 (xs.take lo ++ ((zs.drop lo').take (Nat.min len' len) ++ xs.drop (lo + Nat.min len' len))))) = some X' → lo' + len' ≤ zs.length →
      StepD c o ρ S tgt (some (.d (.int .i64 (Nat.min len' len : Nat)))) [(n, .var X')] [n, m]
  | iaddrO {t x ix n sz xs e e' i fi k j} : o.op = .indexAddr t x ix → c.tt t = some i → i.k = .slice e → c.tt e = some fi → fi.size = sz → ρ x = some (.row n) → S[n]? = some (.own e' sz xs) → ρ ix = some (.d (.int k j)) → 0 ≤ j → j < xs.length →
      StepD c o ρ S tgt (some (.ptr n [.ix j.toNat fi.size xs.length])) [] [n]
  | loadO {t a i n e sz cnt i0 p xs y} : o.op = .load t a → c.tt t = some i → ρ a = some (.ptr n (.ix i0 sz cnt :: p)) → S[n]? = some (.own e sz xs) → i0 < xs.length → AV.getP (.d (xs.getD i0 .nilP)) p = some y → shapeB i y = true → notTup y = true →
      StepD c o ρ S tgt (some y) [] [n]
  | storeO {t a b i n e sz cnt i0 p xs v z} : o.op = .store t a b → c.tt t = some i → ρ a = some (.ptr n (.ix i0 sz cnt :: p)) → S[n]? = some (.own e sz xs) → i0 < xs.length → ρ b = some v → notTup v = true → setO sz (xs.getD i0 .nilP) p v = some z → shapeB i v = true →
      StepD c o ρ S tgt none [(n, .own e sz (xs.set i0 z))] [n]
  | appendO {s x t i e fi z n sz xs ys} : o.op = .call { callee := .builtin .append, args := #[s, x], argTypes := #[t, t] } → c.tt t = some i → i.k = .slice e → c.tt e = some fi → fi.zero = some z → z.size = sz → fi.size = sz →
      ρ s = some (.row n) → (S[n]? = some (.row e sz xs) ∨ S[n]? = some (.own e sz xs)) → ρ x = some (.d (.sl sz ys)) → 0 < ys.length → (xs.length + ys.length) * (fi.bytes + 1) ≤ 140737488355328 →
      StepD c o ρ S tgt (some (.row tgt)) [(n, .sealed (.sl sz xs)), (tgt, .row e sz (xs ++ ys))] [tgt, n]
  | lenM {t x n ks X kt et} : o.op = .call { callee := .builtin .len, args := #[x], argTypes := #[t] } → c.P.underlying t = some (.map kt et) → ρ x = some (.row n) → S[n]? = some (.mapb ks X) → StepD c o ρ S tgt (some (.d (.int .i64 (ks.length : Int)))) [] [n]
  | lenR {t x i el n e sz xs} : o.op = .call { callee := .builtin .len, args := #[x], argTypes := #[t] } → c.tt t = some i → i.k = .slice el → ρ x = some (.row n) → S[n]? = some (.row e sz xs) → StepD c o ρ S tgt (some (.d (.int .i64 (xs.length : Int)))) [] [n]
  | lookM1 {t m x kt et ei z n ks vs b j m' e sz xs} : o.op = .lookup t m x false → c.P.underlying t = some (.map kt et) → KeyOk c.P kt → c.tt et = some ei → ei.zero = some z → ρ m = some (.row n) → S[n]? = some (.mapb ks (.agg vs)) → ρ x = some (.d (.arr 32 1 (D.bytes b))) → b.size = 32 → (vs.all fun y => !y.isAgg) = true → (∀ i : Nat, ks[i]? = some b → i = j) → ks[j]? = some b → vs[j]? = some (.row m') → S[m']? = some (.row e sz xs) →
      StepD c o ρ S tgt (some (.d (.sl sz xs))) [] [n, m']
  | lookM0 {t m x kt et ei z n ks vs b} : o.op = .lookup t m x false → c.P.underlying t = some (.map kt et) → KeyOk c.P kt → c.tt et = some ei → ei.zero = some z → ρ m = some (.row n) → S[n]? = some (.mapb ks (.agg vs)) → ρ x = some (.d (.arr 32 1 (D.bytes b))) → b.size = 32 → (vs.all fun y => !y.isAgg) = true → b ∉ ks → StepD c o ρ S tgt (some (.d z)) [] [n]
  | entM1 {t m x kt et ei z n ks vs b j y} : o.op = .mapEntry t m x → c.P.underlying t = some (.map kt et) → KeyOk c.P kt → c.tt et = some ei → ei.zero = some z → z.isAgg = false → ρ m = some (.row n) → S[n]? = some (.mapb ks (.agg vs)) → ρ x = some (.d (.arr 32 1 (D.bytes b))) → b.size = 32 → (vs.all fun y => !y.isAgg) = true → (∀ i : Nat, ks[i]? = some b → i = j) → ks[j]? = some b → vs[j]? = some y → notTup y = true →
      StepD c o ρ S tgt (some (.tup [y, .d (.int .i64 (j : Int))])) [(n, .mapb ks (.agg vs))] [tgt, n]
  | entM0 {t m x kt et ei n ks vs b e sz} : o.op = .mapEntry t m x → c.P.underlying t = some (.map kt et) → KeyOk c.P kt → c.tt et = some ei → ei.zero = some (.sl sz []) → ρ m = some (.row n) → S[n]? = some (.mapb ks (.agg vs)) → ρ x = some (.d (.arr 32 1 (D.bytes b))) → b.size = 32 → (vs.all fun y => !y.isAgg) = true → b ∉ ks →
      StepD c o ρ S tgt (some (.tup [.row tgt, .d (.int .i64 (ks.length : Int))])) [(n, .mapb (ks ++ [b]) (.agg (vs ++ [.d (.sl sz [])]))), (tgt, .row e sz [])] [tgt, n]
  | entS {t m s x n ks vs k j y} : o.op = .entryStore t m s x → ρ m = some (.row n) → S[n]? = some (.mapb ks (.agg vs)) → ρ s = some (.d (.int k ((j : Nat) : Int))) → ρ x = some y → notTup y = true → y.isAgg = false → (vs.all fun y => !y.isAgg) = true → j < vs.length →
      StepD c o ρ S tgt none [(n, .mapb ks (.agg (vs.set j y)))] [n]

/-- The temporaries that an operation looks at. -/
def tmpsOf : List Operand → List Nat
  | [] => []
  | .tmp t :: l => t :: tmpsOf l
  | _ :: l => tmpsOf l

def usesOf (ops : List Oper) (o : Oper) : List Nat :=
  tmpsOf o.op.operands.toList ++ (match o.guard with | some (j, _) => (match (ops[j]?).bind (·.dst) with | some t => [t] | none => []) | none => [])

theorem mem_tmpsOf {l : List Operand} {t : Nat} (h : Operand.tmp t ∈ l) : t ∈ tmpsOf l := by
  induction l with
  | nil => simp at h
  | cons x l ih =>
    rcases List.mem_cons.1 h with rfl | hm
    · simp [tmpsOf]
    · have := ih hm
      cases x <;> simp [tmpsOf, this]

theorem evalA_congr {c : Ctx} {env env' : Env} {l : List Operand} (h : ∀ t ∈ tmpsOf l, env t = env' t) : ∀ x ∈ l, evalA c env x = evalA c env' x := by
  intro x hx
  cases x with
  | tmp t => exact h t (mem_tmpsOf hx)
  | _ => rfl

theorem mapO_congr {α β : Type} {f g : α → Option β} : ∀ {l : List α}, (∀ x ∈ l, f x = g x) → mapO f l = mapO g l
  | [], _ => rfl
  | x :: l, h => by
    simp only [mapO]
    rw [h x (by simp), mapO_congr fun y hy => h y (by simp [hy])]

theorem fillA_congr {ρ ρ' : Operand → Option AV} {st : Nat → Option (Step × Nat)} : ∀ {l : List (Nat × Operand)} {x : AV}, (∀ p ∈ l, ρ p.2 = ρ' p.2) → fillA ρ st l x = fillA ρ' st l x
  | [], _, _ => rfl
  | (i, o) :: l, x, h => by
    have h1 := h (i, o) (by simp)
    simp only at h1
    simp only [fillA, h1]
    have ih : ∀ z, fillA ρ st l z = fillA ρ' st l z := fun z => fillA_congr fun p hp => h p (by simp [hp])
    simp only [ih]

theorem capNames_congr {ρ ρ' : Operand → Option AV} : ∀ {l : List Operand}, (∀ x ∈ l, ρ x = ρ' x) → capNames ρ l = capNames ρ' l
  | [], _ => rfl
  | x :: l, h => by
    simp only [capNames]
    rw [h x (by simp), capNames_congr (l := l) fun y hy => h y (by simp [hy])]

theorem wBnd_congr {ρ ρ' : Operand → Option AV} {x : Option Operand} {d : Int} (h : ∀ y, x = some y → ρ y = ρ' y) : wBnd ρ x d = wBnd ρ' x d := by
  cases x with
  | none => rfl
  | some y => simp only [wBnd]; rw [h y rfl]

theorem WOpQ_congr {c : Ctx} {o : Oper} {ρ ρ' : Operand → Option AV} {K : AV → Prop} (h : ∀ x ∈ o.op.operands.toList, ρ x = ρ' x) (hw : WOpQ c o ρ K) : WOpQ c o ρ' K := by
  unfold WOpQ at hw ⊢
  cases ho : o.op <;> rw [ho] at h <;> simp only [ho] at hw ⊢ <;> simp only [Op.operands] at h
  case move x => rw [← h x (by simp)]; exact hw
  case assign x => rw [← h x (by simp)]; exact hw
  case pick a b d => rw [← h a (by simp), ← h b (by simp), ← h d (by simp)]; exact hw
  case binOp op t x y yt => rw [← h x (by simp), ← h y (by simp)]; exact hw
  case unOp op t x => rw [← h x (by simp)]; exact hw
  case extract x i => rw [← h x (by simp)]; exact hw
  case fieldAddr t x f => rw [← h x (by simp)]; exact hw
  case indexAddr t x ix => rw [← h x (by simp), ← h ix (by simp)]; exact hw
  case call cl =>
    obtain ⟨callee, args, ats⟩ := cl
    cases callee with
    | builtin b =>
      cases b <;> simp only at hw ⊢ <;> try exact hw
      split at hw
      · rename_i t x e1 e2
        have hx : ρ x = ρ' x := h x (by simp [Call.operands, e2])
        rw [← hx]; exact hw
      · exact hw.elim
    | value f => exact hw.elim
    | invoke r m => exact hw.elim
  case convert src dst x => rw [← h x (by simp)]; exact hw
  case index t x ix => rw [← h x (by simp), ← h ix (by simp)]; exact hw
  case field t x f => rw [← h x (by simp)]; exact hw
  case makeInterface t x => rw [← h x (by simp)]; exact hw
  case typeAssert x xt t ok => rw [← h x (by simp)]; exact hw
  case nilCheck x => rw [← h x (by simp)]; exact hw
  case build t parts =>
    have e : ∀ st z, fillA ρ st parts.toList z = fillA ρ' st parts.toList z := fun st z => fillA_congr fun p hp => h p.2 (List.mem_map.2 ⟨p, hp, rfl⟩)
    unfold wBuild at hw ⊢
    simp only [← e]
    exact hw
  case makeFunc fn first cs =>
    have e : capNames ρ cs.toList = capNames ρ' cs.toList := capNames_congr fun x hx => h x (by simp only [Array.toList_append, List.mem_append]; exact .inr hx)
    rw [← e]; exact hw
  case slice t x lo hi mx =>
    cases mx with
    | some m => exact hw.elim
    | none =>
      have e1 : ∀ d, wBnd ρ lo d = wBnd ρ' lo d := fun d => wBnd_congr fun y hy => h y (by subst hy; simp)
      have e2 : ∀ d, wBnd ρ hi d = wBnd ρ' hi d := fun d => wBnd_congr fun y hy => h y (by subst hy; simp)
      have e3 := h x (by simp)
      rw [← e3]
      unfold wSlice at hw ⊢
      simp only [← e1, ← e2]
      exact hw
  all_goals exact hw.elim

theorem StepD.congr {c : Ctx} {o : Oper} {ρ ρ' : Operand → Option AV} {S S' : List Blk} {tgt : Nat} {x δ R} (h : StepD c o ρ S tgt x δ R) (hρ : ∀ y ∈ o.op.operands.toList, ρ y = ρ' y) (hlen : S.length = S'.length) (hS : ∀ n ∈ R, S[n]? = S'[n]?) :
    StepD c o ρ' S' tgt x δ R := by
  cases h with
  | quiet h => exact .quiet (WOpQ_congr hρ h)
  | load ho h1 h2 h3 h4 h5 h6 => exact .load ho h1 (by rw [← hρ _ (by rw [ho]; simp [Op.operands])]; exact h2) (by rw [← hS _ (by simp)]; exact h3) h4 h5 h6
  | loadC ho h1 h2 h3 => exact .loadC ho h1 (by rw [← hρ _ (by rw [ho]; simp [Op.operands])]; exact h2) h3
  | store ho h1 h2 h3 h4 h5 h6 h7 h8 =>
    exact .store ho h1 (by rw [← hρ _ (by rw [ho]; simp [Op.operands])]; exact h2) (by rw [← hS _ (by simp)]; exact h3) h4 (by rw [← hρ _ (by rw [ho]; simp [Op.operands])]; exact h5) h6 h7 h8
  | alloc ho h1 h2 => exact .alloc ho h1 h2
  | box ho h1 h2 => exact .box ho (by rw [← hρ _ (by rw [ho]; simp [Op.operands])]; exact h1) h2
  | @callO fo args ts f ys δ ks zs Sc e sz xs ho hm h1 h2 h3 h4 =>
    have hmem : ∀ a ∈ args.toList, a ∈ o.op.operands.toList := fun a ha => by rw [ho]; simp [Op.operands, Call.operands]; exact .inr (by simpa using ha)
    refine .callO ho hm (by rw [← hρ _ (by rw [ho]; simp [Op.operands, Call.operands])]; exact h1) (finO_congr h2 (fun a ha => hρ a (hmem a ha)) hlen (fun n hn => hS n (by simp at hn ⊢; exact .inr (.inr hn)))) ?_ h4
    rw [← h3]
    refine (into_congr (by rw [app_length, app_length]; exact hlen) (fun n hn => ?_)).symm
    have hsn := hS n (by simp [hn])
    have key : ∀ (δ : List (Nat × Blk)) (A A' : List Blk), A[n]? = A'[n]? → A.length = A'.length → (app δ A)[n]? = (app δ A')[n]? := by
      intro δ
      induction δ with
      | nil => intro A A' h _; exact h
      | cons p δ ih =>
        intro A A' h hl
        obtain ⟨m, b⟩ := p
        simp only [app]
        refine ih _ _ ?_ (by simp [hl])
        simp only [List.getElem?_set, hl, h]
    exact key δ S S' hsn hlen
  | @bslice t len parts y ho h1 =>
    refine .bslice ho ?_
    have e : ∀ st z, fillA ρ st parts.toList z = fillA ρ' st parts.toList z := fun st z => fillA_congr fun p hp => hρ p.2 (by rw [ho]; simp only [Op.operands]; exact List.mem_map.2 ⟨p, hp, rfl⟩)
    unfold wBuildSl at h1 ⊢
    simp only [← e]
    exact h1
  | appendO ho h1 h2 h3 h4 h5 h6 h7 h8 h9 h10 h11 =>
    exact .appendO ho h1 h2 h3 h4 h5 h6 (by rw [← hρ _ (by rw [ho]; simp [Op.operands, Call.operands])]; exact h7) (by rw [← hS _ (by simp)]; exact h8) (by rw [← hρ _ (by rw [ho]; simp [Op.operands, Call.operands])]; exact h9) h10 h11
  | @callP fo args ts f ys ks zs Sc v S1 ho hm h1 h2 h3 h4 h5 h6 h7 =>
    refine .callP ho hm (by rw [← hρ _ (by rw [ho]; simp [Op.operands, Call.operands])]; exact h1) ?_ h3 ?_ h5 h6 h7
    · rw [← h2]
      exact (mapO_congr fun a ha => by rw [hρ a (by rw [ho]; simp [Op.operands, Call.operands]; exact .inr (by simpa using ha))]).symm
    · rw [← h4]
      exact (into_congr hlen fun n hn => hS n hn).symm
  | @aslice t e x lo hi i fi n cnt p l h ho h1 h2 h3 h4 h5 h6 h7 =>
    have hb : ∀ (z : Option Operand) (d : Int), (∀ y, z = some y → ρ y = ρ' y) → wBnd ρ z d = wBnd ρ' z d := fun z d hz => wBnd_congr hz
    refine .aslice ho h1 h2 h3 (by rw [← hρ _ (by rw [ho]; simp [Op.operands])]; exact h4) ?_ ?_ h7
    · rw [← hb lo 0 (fun y hy => hρ y (by rw [ho, hy]; simp [Op.operands]))]; exact h5
    · rw [← hb hi cnt (fun y hy => hρ y (by rw [ho, hy]; simp [Op.operands]))]; exact h6
  | copyS ho h1 h2 h3 h4 h5 h6 h7 h8 h9 =>
    exact .copyS ho h1 h2 h3 h4 (by rw [← hρ _ (by rw [ho]; simp [Op.operands, Call.operands])]; exact h5) (by rw [← hS _ (by simp)]; exact h6) h7 (by rw [← hρ _ (by rw [ho]; simp [Op.operands, Call.operands])]; exact h8) h9
  | convV ho h1 h2 h3 h4 h5 h6 h7 h8 h9 h10 h11 =>
    exact .convV ho h1 h2 h3 h4 h5 h6 (by rw [← hρ _ (by rw [ho]; simp [Op.operands])]; exact h7) (by rw [← hS _ (by simp)]; exact h8) h9 h10 h11
  | copyV ho h1 h2 h3 h4 h5 h6 h7 h8 h9 h10 h11 h12 =>
    exact .copyV ho h1 h2 h3 h4 (by rw [← hρ _ (by rw [ho]; simp [Op.operands, Call.operands])]; exact h5) (by rw [← hS _ (by simp)]; exact h6) h7 (by rw [← hρ _ (by rw [ho]; simp [Op.operands, Call.operands])]; exact h8) (by rw [← hS _ (by simp)]; exact h9) h10 h11 h12
  | iaddrO ho h1 h2 h3 h4 h5 h6 h7 h8 h9 => exact .iaddrO ho h1 h2 h3 h4 (by rw [← hρ _ (by rw [ho]; simp [Op.operands])]; exact h5) (by rw [← hS _ (by simp)]; exact h6) (by rw [← hρ _ (by rw [ho]; simp [Op.operands])]; exact h7) h8 h9
  | loadO ho h1 h2 h3 h4 h5 h6 h7 => exact .loadO ho h1 (by rw [← hρ _ (by rw [ho]; simp [Op.operands])]; exact h2) (by rw [← hS _ (by simp)]; exact h3) h4 h5 h6 h7
  | storeO ho h1 h2 h3 h4 h5 h6 h7 h8 => exact .storeO ho h1 (by rw [← hρ _ (by rw [ho]; simp [Op.operands])]; exact h2) (by rw [← hS _ (by simp)]; exact h3) h4 (by rw [← hρ _ (by rw [ho]; simp [Op.operands])]; exact h5) h6 h7 h8
  | lenM ho h1 h2 h3 => exact .lenM ho h1 (by rw [← hρ _ (by rw [ho]; simp [Op.operands, Call.operands])]; exact h2) (by rw [← hS _ (by simp)]; exact h3)
  | lenR ho h1 h2 h3 h4 => exact .lenR ho h1 h2 (by rw [← hρ _ (by rw [ho]; simp [Op.operands, Call.operands])]; exact h3) (by rw [← hS _ (by simp)]; exact h4)
  | lookM1 ho h1 h2 h3 h4 h5 h6 h7 h8 h9 h10 h11 h12 h13 => exact .lookM1 ho h1 h2 h3 h4 (by rw [← hρ _ (by rw [ho]; simp [Op.operands])]; exact h5) (by rw [← hS _ (by simp)]; exact h6) (by rw [← hρ _ (by rw [ho]; simp [Op.operands])]; exact h7) h8 h9 h10 h11 h12 (by rw [← hS _ (by simp)]; exact h13)
  | lookM0 ho h1 h2 h3 h4 h5 h6 h7 h8 h9 h10 => exact .lookM0 ho h1 h2 h3 h4 (by rw [← hρ _ (by rw [ho]; simp [Op.operands])]; exact h5) (by rw [← hS _ (by simp)]; exact h6) (by rw [← hρ _ (by rw [ho]; simp [Op.operands])]; exact h7) h8 h9 h10
  | entM1 ho h1 h2 h3 h4 h5 h6 h7 h8 h9 h10 h11 h12 h13 h14 => exact .entM1 ho h1 h2 h3 h4 h5 (by rw [← hρ _ (by rw [ho]; simp [Op.operands])]; exact h6) (by rw [← hS _ (by simp)]; exact h7) (by rw [← hρ _ (by rw [ho]; simp [Op.operands])]; exact h8) h9 h10 h11 h12 h13 h14
  | entM0 ho h1 h2 h3 h4 h5 h6 h7 h8 h9 h10 => exact .entM0 ho h1 h2 h3 h4 (by rw [← hρ _ (by rw [ho]; simp [Op.operands])]; exact h5) (by rw [← hS _ (by simp)]; exact h6) (by rw [← hρ _ (by rw [ho]; simp [Op.operands])]; exact h7) h8 h9 h10
  | entS ho h1 h2 h3 h4 h5 h6 h7 h8 => exact .entS ho (by rw [← hρ _ (by rw [ho]; simp [Op.operands])]; exact h1) (by rw [← hS _ (by simp)]; exact h2) (by rw [← hρ _ (by rw [ho]; simp [Op.operands])]; exact h3) (by rw [← hρ _ (by rw [ho]; simp [Op.operands])]; exact h4) h5 h6 h7 h8
  | call ho h1 h2 h3 h4 h5 =>
    refine .call ho (by rw [← hρ _ (by rw [ho]; simp [Op.operands, Call.operands])]; exact h1) ?_ h3 h4 h5
    rw [← h2]
    exact (mapO_congr fun a ha => by rw [hρ a (by rw [ho]; simp [Op.operands, Call.operands]; exact .inr (by simpa using ha))]).symm

mutual
theorem ren_none (f : Nat → Option Nat) : ∀ (x : AV), namesV x = [] → AV.ren f x = some x
  | .d x, _ => rfl
  | .ptr .., h => by simp [namesV] at h
  | .row _, h => by simp [namesV] at h
  | .vw .., h => by simp [namesV] at h
  | .fn g caps, h => by simp only [namesV] at h; subst h; simp [AV.ren, mapO]
  | .agg l, h => by simp only [namesV] at h; simp [AV.ren, rens_none f l h]
  | .tup l, h => by simp only [namesV] at h; simp [AV.ren, rens_none f l h]
theorem rens_none (f : Nat → Option Nat) : ∀ (l : List AV), namesVs l = [] → AV.rens f l = some l
  | [], _ => rfl
  | x :: l, h => by
    simp only [namesVs, List.append_eq_nil_iff] at h
    simp [AV.rens, ren_none f x h.1, rens_none f l h.2]
end

theorem onlyD_names {ρ : Operand → Option AV} : ∀ {l : List Operand} {zs : List AV}, mapO (fun a => onlyD (ρ a)) l = some zs → namesVs zs = [] ∧ ∀ {B : Base} {N : Nat} {env : Env} {S μ G a w}, ρ = evalA B.c env → At1 B N env S μ G a w → VS μ S.length w G zs (l.map a.eval)
  | [], zs, h => by simp only [mapO] at h; cases h; exact ⟨rfl, fun _ _ => .nil⟩
  | x :: l, zs, h => by
    simp only [mapO] at h
    split at h
    case h_2 => cases h
    rename_i y hy
    split at h
    case h_2 => cases h
    rename_i ys hys
    cases h
    obtain ⟨h1, h2⟩ := onlyD_names hys
    unfold onlyD at hy
    split at hy
    · rename_i x' hx
      cases hy
      exact ⟨by simp [namesVs, namesV, h1], fun e st => .cons (by rw [e] at hx; exact (evalA_sound st hx).va (fun l e => by cases e)) (h2 e st)⟩
    · cases hy

/-- What an operation of a statement comes to, in whatever order. -/
theorem StepD.sound {B : Base} {N : Nat} (hc : B.c.ok) {o : Oper} {env : Env} {S : List Blk} {tgt : Nat} {x δ R} (h : StepD B.c o (evalA B.c env) S tgt x δ R) {μ G a w} (st : At1 B N env S μ G a w)
    (hm : makesB B.c o = true → S[tgt]? = some .dead ∧ μ tgt = .nilFunc ∧ B.k0 ≤ tgt) (next : Act → World → Prop) (Q : Exit → Act → World → Prop)
    (hn : ∀ μ' G' v w', St B (app δ S) μ' G' w' → LaterD S μ G w (app δ S) μ' G' w' → (∀ i, i < S.length → i ≠ tgt → μ' i = μ i) → (∀ y, x = some y → RA μ' (app δ S).length w' G' y v) → next (a.put o.dst v) w') : o.wp B.c.P a w next Q := by
  have seq : ∀ {K : Option AV → List Blk → Prop}, OpsTo B N o env S K → (∀ y S', K y S' → y = x ∧ S' = app δ S) → o.wp B.c.P a w next Q := by
    intro K hop hK
    refine hop μ G a w st next Q ?_
    intro y S' μ' G' v w' hk st' lt hy
    obtain ⟨rfl, rfl⟩ := hK y S' hk
    exact hn μ' G' v w' st' lt.d (fun i hi _ => lt.μ i hi) hy
  cases h with
  | quiet h =>
    rename_i y
    exact seq (K := fun z S' => z = some y ∧ S' = S) (wopQ_sound hc (h := by
      have : WOpQ B.c o (evalA B.c env) (fun z => (some z = some y) ∧ S = S) := by
        have e : (fun z => z = y) = (fun z => (some z = some y) ∧ S = S) := by funext z; simp
        rw [← e]; exact h
      exact this)) (fun _ _ h => h)
  | load ho h1 h2 h3 h4 h5 h6 => exact seq (K := fun z S' => z = some _ ∧ S' = S) (rule_load hc ho h1 h2 h3 h4 h5 h6 ⟨rfl, rfl⟩) (fun _ _ h => h)
  | loadC ho h1 h2 h3 => exact seq (K := fun z S' => z = some _ ∧ S' = S) (rule_loadC hc ho h1 h2 h3 ⟨rfl, rfl⟩) (fun _ _ h => h)
  | store ho h1 h2 h3 h4 h5 h6 h7 h8 => exact seq (K := fun z S' => z = none ∧ S' = S.set _ (.var _)) (rule_store hc ho h1 h2 h3 h4 h5 h6 h8 h7 ⟨rfl, rfl⟩) (fun _ _ h => h)
  | @alloc t i z ho h1 h2 =>
    obtain ⟨e1, e2, e3⟩ := hm (by simp [makesB, ho])
    obtain ⟨_, info, g3, g4, g5, g6⟩ := hc t i h1
    obtain ⟨v, g7, g8⟩ := g6 z h2
    obtain ⟨μ', f1, f2, f3, f4, f5⟩ := st.st.allocAt (t := t) (x := .d z) (v := v) (VA.d_iff.2 (g8 w G)) e1 e2 e3
    have hrun : (execOp a.eval o).run B.c.P w = .ok (.value (.pointer (some ⟨w.heap.size, 0, none⟩))) (w.alloc (.cells v.cells t)) := by
      simp only [execOp, ho, Sem.run_bind, Instr.alloc, zeroValue, typeInfo, run_program, Result.andThen_ok, g3, g7, Sem.run_pure, f1]
    unfold Oper.wp
    rw [hrun, Oper.upon_value]
    exact hn μ' G _ _ f2 f3 (fun i _ hi => f4 i hi) (fun y hy => by cases hy; exact f5.ra (fun l e => by cases e))
  | @box t b v ho h1 h2 =>
    obtain ⟨e1, e2, e3⟩ := hm (by simp [makesB, ho])
    have hva := (evalA_sound st h1).va (notTup_spec h2)
    obtain ⟨μ', f1, f2, f3, f4, f5⟩ := st.st.allocAt (t := t) hva e1 e2 e3
    have hrun : (execOp a.eval o).run B.c.P w = .ok (.value (.pointer (some ⟨w.heap.size, 0, none⟩))) (w.alloc (.cells (a.eval b).cells t)) := by
      simp only [execOp, ho, Sem.run_bind, Instr.box, Result.andThen_ok, Sem.run_pure, f1]
    unfold Oper.wp
    rw [hrun, Oper.upon_value]
    exact hn μ' G _ _ f2 f3 (fun i _ hi => f4 i hi) (fun y hy => by cases hy; exact f5.ra (fun l e => by cases e))
  | bslice ho h1 =>
    rename_i y
    exact seq (K := fun z S' => z = some y ∧ S' = S) (wBuildSl_sound hc ho (by
      have e : (fun z => z = y) = (fun z => (some z = some y) ∧ S = S) := by funext z; simp
      rw [e] at h1
      exact h1)) (fun _ _ h => h)
  | appendO ho h1 h2 h3 h4 h5 h6 h7 h8 h9 h10 h11 =>
    obtain ⟨e1, e2, e3⟩ := hm (by simp [makesB, ho])
    exact appendO_sound hc ho h1 h2 h3 h4 h5 h6 h7 h8 h9 h10 h11 st e1 e2 e3 next Q (fun μ' G' v w' s1 s2 s3 s4 => hn μ' G' v w' s1 s2 s3 (fun y hy => by cases hy; exact s4))
  | @callO fo args ts f ys δ ks zs Sc e sz xs ho hmk h1 h2 h3 h4 =>
    obtain ⟨e1, e2, e3⟩ := hm hmk
    exact callO_sound ho h1 h2 h3 h4 st e1 e2 e3 next Q (fun μ' G' v w' s1 s2 s3 s4 => hn μ' G' v w' s1 s2 s3 (fun y hy => by cases hy; exact s4))
  | aslice ho h1 h2 h3 h4 h5 h6 h7 => exact seq (K := fun z S' => z = some _ ∧ S' = S) (rule_slice_arr hc ho h1 h2 h3 h4 h5 h6 h7.1 h7.2.1 h7.2.2.1 h7.2.2.2.1 h7.2.2.2.2 ⟨rfl, rfl⟩) (fun _ _ h => h)
  | copyS ho h1 h2 h3 h4 h5 h6 h7 h8 h9 => exact seq (K := fun z S' => z = some _ ∧ S' = S.set _ (.var _)) (rule_copy_str hc ho h1 h2 h3 h4 h5 h6 h7 h8 h9 ⟨rfl, rfl⟩) (fun _ _ h => h)
  | convV ho h1 h2 h3 h4 h5 h6 h7 h8 h9 h10 h11 => exact seq (K := fun z S' => z = some _ ∧ S' = S) (rule_conv_vw hc ho h1 h2 h3 h4 h5 h6 h7 h8 h9 h10 h11 ⟨rfl, rfl⟩) (fun _ _ h => h)
  | copyV ho h1 h2 h3 h4 h5 h6 h7 h8 h9 h10 h11 h12 => exact seq (K := fun z S' => z = some _ ∧ S' = S.set _ (.var _)) (rule_copy_vw hc ho h1 h2 h3 h4 h5 h6 h7 h8 h9 h10 h11 h12 ⟨rfl, rfl⟩) (fun _ _ h => h)
  | iaddrO ho h1 h2 h3 h4 h5 h6 h7 h8 h9 => exact seq (K := fun z S' => z = some _ ∧ S' = S) (rule_indexAddr_own hc ho h1 h2 h3 h4 h5 h6 h7 h8 h9 ⟨rfl, rfl⟩) (fun _ _ h => h)
  | loadO ho h1 h2 h3 h4 h5 h6 h7 => exact seq (K := fun z S' => z = some _ ∧ S' = S) (rule_loadO hc ho h1 h2 h3 h4 h5 h6 h7 ⟨rfl, rfl⟩) (fun _ _ h => h)
  | storeO ho h1 h2 h3 h4 h5 h6 h7 h8 => exact seq (K := fun z S' => z = none ∧ S' = S.set _ (.own _ _ _)) (rule_storeO hc ho h1 h2 h3 h4 h5 h6 h7 h8 ⟨rfl, rfl⟩) (fun _ _ h => h)
  | lenM ho h1 h2 h3 => exact seq (K := fun z S' => z = some _ ∧ S' = S) (rule_lenMap ho h1 h2 h3 ⟨rfl, rfl⟩) (fun _ _ h => h)
  | lenR ho h1 h2 h3 h4 => exact seq (K := fun z S' => z = some _ ∧ S' = S) (rule_lenRow hc ho h1 h2 h3 h4 ⟨rfl, rfl⟩) (fun _ _ h => h)
  | lookM1 ho h1 h2 h3 h4 h5 h6 h7 h8 h9 h10 h11 h12 h13 => exact seq (K := fun z S' => z = some _ ∧ S' = S) (rule_lookup hc ho h1 h2 h3 h4 h5 h6 h7 h8 h9 (.inl ⟨_, _, _, _, _, h10, h11, h12, h13, rfl, rfl⟩)) (fun _ _ h => h)
  | lookM0 ho h1 h2 h3 h4 h5 h6 h7 h8 h9 h10 => exact seq (K := fun z S' => z = some _ ∧ S' = S) (rule_lookup hc ho h1 h2 h3 h4 h5 h6 h7 h8 h9 (.inr ⟨h10, rfl, rfl⟩)) (fun _ _ h => h)
  | entM1 ho h1 h2 h3 h4 h5 h6 h7 h8 h9 h10 h11 h12 h13 h14 => exact seq (K := fun z S' => z = some _ ∧ S' = S) (rule_mapEntry hc ho h1 h2 h3 h4 h5 h6 h7 h8 h9 h10 (.inl ⟨_, _, h11, h12, h13, h14, rfl, rfl⟩)) (fun _ _ h => ⟨h.1, by rw [h.2]; exact (set_same h7).symm⟩)
  | entM0 ho h1 h2 h3 h4 h5 h6 h7 h8 h9 h10 =>
    obtain ⟨e1, e2, e3⟩ := hm (by simp [makesB, ho])
    exact entM0_sound hc ho h1 h2 h3 h4 h5 h6 h7 h8 h9 h10 st e1 e2 e3 next Q (fun μ' G' v w' s1 s2 s3 s4 => hn μ' G' v w' s1 s2 s3 (fun y hy => by cases hy; exact s4))
  | entS ho h1 h2 h3 h4 h5 h6 h7 h8 => exact seq (K := fun z S' => z = none ∧ S' = S.set _ (.mapb _ _)) (rule_entryStore ho h1 h2 h3 h4 h5 h6 h7 h8 ⟨rfl, rfl⟩) (fun _ _ h => h)
  | @callP fo args ts f ys ks zs Sc v S1 ho _ h1 h2 h3 h4 h5 h6 h7 =>
    have hvs : VS μ S.length w G ys (args.toList.map a.eval) := by
      have q : ∀ {l : List Operand} {ys : List AV}, mapO (evalA B.c env) l = some ys → (∀ y ∈ ys, notTup y = true) → VS μ S.length w G ys (l.map a.eval) := by
        intro l
        induction l with
        | nil => intro ys h _; simp only [mapO] at h; cases h; exact .nil
        | cons x l ih =>
          intro ys h hn
          simp only [mapO] at h
          split at h
          case h_2 => cases h
          rename_i y hy
          split at h
          case h_2 => cases h
          rename_i zs hzs
          cases h
          exact .cons ((evalA_sound st hy).va (notTup_spec (hn _ List.mem_cons_self))) (ih hzs fun z hz => hn z (List.mem_cons_of_mem _ hz))
      exact q h2 h3
    have hi := into_spec h4
    have hfv := ((evalA_sound st h1).va (fun l e => by cases e)).fn_inv
    have hrun : (execOp a.eval o).run B.c.P w = (callFunc f (args.toList.map a.eval).toArray).run B.c.P w := by
      simp only [execOp, ho, resolve, hfv, Deferred.ofValue, Sem.run_bind, Sem.run_pure, Result.andThen_ok, invoke]
      congr 2
      apply Array.ext'
      simp
    obtain ⟨hl1, hr1⟩ := plainS_ren h7 (backOf R S.length)
    have hb : Back S R S1 v v (app (zipB R S1) S) := ⟨ren_none _ v h6, S1, hr1, by rw [app_zipB, List.take_of_length_le (by omega), List.drop_of_length_le (by omega), List.append_nil]⟩
    have hct := h5 _ G w _ (hi.st st.st) (hi.args_ok hvs)
    unfold Oper.wp
    rw [hrun]
    rcases hct with ⟨g1, g2⟩ | ⟨u, w', g1, u', r, S', μ', G', e1, ⟨rfl, rfl⟩, e3, e4⟩
    · rw [g1, Oper.upon_enter]
      refine g2.mono ?_
      rintro e w' ⟨u, r, S', μ', G', rfl, ⟨rfl, rfl⟩, st', hra⟩
      obtain ⟨μ'', a1, a2, a3⟩ := Back.st st.st hi hb st'
      exact hn μ'' G' u w' a1 a2.d (fun i hi' _ => a2.μ i hi') (fun y hy => by cases hy; exact a3 u hra)
    · rw [g1, Oper.upon_value]
      cases e1
      obtain ⟨μ'', a1, a2, a3⟩ := Back.st st.st hi hb e3
      exact hn μ'' G' u w' a1 a2.d (fun i hi' _ => a2.μ i hi') (fun y hy => by cases hy; exact a3 u e4)
  | @call fo args ts f zs v ho h1 h2 h3 h4 _ =>
    obtain ⟨hz, hvs0⟩ := onlyD_names h2
    have hvs := hvs0 rfl st
    have hi : Into S [] zs zs [] := ⟨rfl, by simp, rens_none _ zs hz, [], rfl, rfl⟩
    have hfv := ((evalA_sound st h1).va (fun l e => by cases e)).fn_inv
    have hrun : (execOp a.eval o).run B.c.P w = (callFunc f (args.toList.map a.eval).toArray).run B.c.P w := by
      simp only [execOp, ho, resolve, hfv, Deferred.ofValue, Sem.run_bind, Sem.run_pure, Result.andThen_ok, invoke]
      congr 2
      apply Array.ext'
      simp
    have hb : Back S [] [] v v S := ⟨ren_none _ v h4, [], rfl, by simp [putBack]⟩
    have hct := h3 _ G w _ (hi.st st.st) (hi.args_ok hvs)
    unfold Oper.wp
    rw [hrun]
    rcases hct with ⟨g1, g2⟩ | ⟨u, w', g1, u', r, S', μ', G', e1, ⟨rfl, rfl⟩, e3, e4⟩
    · rw [g1, Oper.upon_enter]
      refine g2.mono ?_
      rintro e w' ⟨u, r, S', μ', G', rfl, ⟨rfl, rfl⟩, st', hra⟩
      obtain ⟨μ'', a1, a2, a3⟩ := Back.st st.st hi hb st'
      exact hn μ'' G' u w' a1 a2.d (fun i hi' _ => a2.μ i hi') (fun y hy => by cases hy; exact a3 u hra)
    · rw [g1, Oper.upon_value]
      cases e1
      obtain ⟨μ'', a1, a2, a3⟩ := Back.st st.st hi hb e3
      exact hn μ'' G' u w' a1 a2.d (fun i hi' _ => a2.μ i hi') (fun y hy => by cases hy; exact a3 u e4)

end Go.Ab

namespace Go.Ab
open Go.RowKit

structure Ent where
  x : Option AV
  δ : List (Nat × Blk)
  R : List Nat

def putO (d : Option Nat) (x : Option AV) (env : Env) : Env :=
  match d with
  | none => env
  | some d => env.put d x

def act (o : Oper) (e : Ent) (s : Env × List Blk) : Env × List Blk := (putO o.dst e.x s.1, app e.δ s.2)

def foldE (E : Nat → Bool) : Nat → List (Oper × Ent) → Env × List Blk → Env × List Blk
  | _, [], s => s
  | i, (o, e) :: l, s => foldE E (i + 1) l (if E i then act o e s else s)

def wr (e : Ent) (n : Nat) : Prop := ∃ b, (n, b) ∈ e.δ

theorem put_comm (env : Env) {d d' : Nat} (x x' : Option AV) (h : d ≠ d') : (env.put d x).put d' x' = (env.put d' x').put d x := by
  funext t
  by_cases h1 : t = d
  · subst h1
    rw [Env.put_ne _ _ h, Env.put_same, Env.put_same]
  · by_cases h2 : t = d'
    · subst h2
      rw [Env.put_same, Env.put_ne _ _ h1, Env.put_same]
    · rw [Env.put_ne _ _ h2, Env.put_ne _ _ h1, Env.put_ne _ _ h1, Env.put_ne _ _ h2]

/-- Two operations that do not touch each other. -/
def Free (o o' : Oper) (e e' : Ent) : Prop := (∀ d, o.dst = some d → o'.dst ≠ some d) ∧ ∀ n, wr e n → ¬ wr e' n

theorem act_comm {o o' : Oper} {e e' : Ent} (h : Free o o' e e') (s : Env × List Blk) : act o e (act o' e' s) = act o' e' (act o e s) := by
  obtain ⟨h1, h2⟩ := h
  simp only [act]
  congr 1
  · cases hd : o.dst with
    | none => rfl
    | some d =>
      cases hd' : o'.dst with
      | none => rfl
      | some d' =>
        simp only [putO]
        exact (put_comm _ _ _ (fun e => h1 d hd (by rw [hd', e]))).symm
  · exact app_comm _ _ _ (fun p hp q hq e => h2 p.1 ⟨p.2, hp⟩ ⟨q.2, by rw [e]; exact hq⟩)

theorem foldE_act (E : Nat → Bool) {o : Oper} {e : Ent} : ∀ (l : List (Oper × Ent)) (i : Nat) (s : Env × List Blk), (∀ (j : Nat) o' e', l[j]? = some (o', e') → E (i + j) = true → Free o o' e e') →
    foldE E i l (act o e s) = act o e (foldE E i l s)
  | [], _, _, _ => rfl
  | (o', e') :: l, i, s, h => by
    simp only [foldE]
    by_cases hE : E i = true
    · rw [if_pos hE, if_pos hE, ← act_comm (h 0 o' e' (by simp) (by simpa using hE))]
      exact foldE_act E l (i + 1) _ (fun j o2 e2 hj hE' => h (j + 1) o2 e2 (by simpa using hj) (by rw [Nat.add_assoc, Nat.add_comm 1 j] at hE'; exact hE'))
    · rw [if_neg hE, if_neg hE]
      exact foldE_act E l (i + 1) _ (fun j o2 e2 hj hE' => h (j + 1) o2 e2 (by simpa using hj) (by rw [Nat.add_assoc, Nat.add_comm 1 j] at hE'; exact hE'))

def with1 (E : Nat → Bool) (i : Nat) : Nat → Bool := fun j => if j = i then true else E j

theorem foldE_ext {E E' : Nat → Bool} : ∀ (l : List (Oper × Ent)) (i : Nat) (s : Env × List Blk), (∀ j, i ≤ j → j < i + l.length → E j = E' j) → foldE E i l s = foldE E' i l s
  | [], _, _, _ => rfl
  | (o, e) :: l, i, s, h => by
    simp only [foldE]
    rw [h i (Nat.le_refl _) (by simp), foldE_ext l (i + 1) _ (fun j h1 h2 => h j (by omega) (by simp; omega))]

/-- One more operation done. -/
theorem foldE_with (E : Nat → Bool) {o : Oper} {e : Ent} {k : Nat} : ∀ (l : List (Oper × Ent)) (i : Nat) (s : Env × List Blk), i ≤ k → l[k - i]? = some (o, e) → E k = false →
    (∀ (j : Nat) o' e', l[j]? = some (o', e') → k < i + j → E (i + j) = true → Free o o' e e') → foldE (with1 E k) i l s = act o e (foldE E i l s)
  | [], _, _, _, h, _, _ => by simp at h
  | (o', e') :: l, i, s, hik, hk, hE, hf => by
    simp only [foldE]
    by_cases hi : i = k
    · subst hi
      simp at hk
      obtain ⟨rfl, rfl⟩ := hk
      rw [if_pos (by simp [with1]), if_neg (by simp [hE])]
      rw [foldE_ext (E' := E) l (i + 1) _ (fun j h1 h2 => by simp [with1]; omega)]
      exact foldE_act E l (i + 1) s (fun j o2 e2 hj hE' => hf (j + 1) o2 e2 (by simpa using hj) (by omega) (by rw [Nat.add_assoc, Nat.add_comm 1 j] at hE'; exact hE'))
    · have e1 : with1 E k i = E i := by simp [with1, hi]
      rw [e1]
      exact foldE_with E l (i + 1) _ (by omega) (by rw [← hk]; have : k - i = (k - (i + 1)) + 1 := by omega
                                                    rw [this]; simp) hE (fun j o2 e2 hj hlt hE' => hf (j + 1) o2 e2 (by simpa using hj) (by omega) (by rw [Nat.add_assoc, Nat.add_comm 1 j] at hE'; exact hE'))

/-- A slot depends on those alone that write it. -/
theorem foldE_slot {E E' : Nat → Bool} (t : Nat) : ∀ (l : List (Oper × Ent)) (i : Nat) (s s' : Env × List Blk), s.1 t = s'.1 t → (∀ (j : Nat) o e, l[j]? = some (o, e) → o.dst = some t → E (i + j) = E' (i + j)) →
    (foldE E i l s).1 t = (foldE E' i l s').1 t
  | [], _, _, _, h, _ => h
  | (o, e) :: l, i, s, s', h, hw => by
    simp only [foldE]
    refine foldE_slot t l (i + 1) _ _ ?_ (fun j o2 e2 hj hd => by have := hw (j + 1) o2 e2 (by simpa using hj) hd; rw [Nat.add_assoc, Nat.add_comm 1 j]; exact this)
    by_cases hd : o.dst = some t
    · have := hw 0 o e (by simp) hd
      simp only [Nat.add_zero] at this
      rw [this]
      by_cases hE : E' i = true
      · rw [if_pos hE, if_pos hE]; simp [act, putO, hd, Env.put_same]
      · rw [if_neg hE, if_neg hE]; exact h
    · have keep : ∀ (b : Bool) (u : Env × List Blk), (if b then act o e u else u).1 t = u.1 t := by
        intro b u
        cases b with
        | false => rfl
        | true =>
          simp only [if_true, act]
          cases hd2 : o.dst with
          | none => rfl
          | some d => simp only [putO]; exact Env.put_ne _ _ (fun e => hd (by rw [hd2, e]))
      rw [keep, keep]; exact h

/-- A block depends on those alone that write it. -/
theorem foldE_blk {E E' : Nat → Bool} (n : Nat) : ∀ (l : List (Oper × Ent)) (i : Nat) (s s' : Env × List Blk), s.2[n]? = s'.2[n]? → s.2.length = s'.2.length → (∀ (j : Nat) o e, l[j]? = some (o, e) → wr e n → E (i + j) = E' (i + j)) →
    (foldE E i l s).2[n]? = (foldE E' i l s').2[n]?
  | [], _, _, _, h, _, _ => h
  | (o, e) :: l, i, s, s', h, hl, hw => by
    simp only [foldE]
    have len : ∀ (b : Bool) (u : Env × List Blk), (if b then act o e u else u).2.length = u.2.length := by
      intro b u; cases b <;> simp [act, app_length]
    refine foldE_blk n l (i + 1) _ _ ?_ (by rw [len, len]; exact hl) (fun j o2 e2 hj hd => by have := hw (j + 1) o2 e2 (by simpa using hj) hd; rw [Nat.add_assoc, Nat.add_comm 1 j]; exact this)
    by_cases hd : wr e n
    · have := hw 0 o e (by simp) hd
      simp only [Nat.add_zero] at this
      rw [this]
      by_cases hE : E' i = true
      · rw [if_pos hE, if_pos hE]
        simp only [act]
        have key : ∀ (δ : List (Nat × Blk)) (A B : List Blk), A[n]? = B[n]? → A.length = B.length → (app δ A)[n]? = (app δ B)[n]? := by
          intro δ
          induction δ with
          | nil => intro A B h _; exact h
          | cons p δ ih =>
            intro A B h hl
            obtain ⟨m, b⟩ := p
            simp only [app]
            refine ih _ _ ?_ (by simp [hl])
            by_cases e : m = n
            · subst e; simp [List.getElem?_set, hl]
            · rw [List.getElem?_set_ne e, List.getElem?_set_ne e]; exact h
        exact key _ _ _ h hl
      · rw [if_neg hE, if_neg hE]; exact h
    · have keep : ∀ (b : Bool) (u : Env × List Blk), (if b then act o e u else u).2[n]? = u.2[n]? := by
        intro b u
        cases b with
        | false => rfl
        | true =>
          simp only [if_true, act]
          exact app_other _ _ _ (fun p hp e => hd ⟨p.2, by rw [← e]; exact hp⟩)
      rw [keep, keep]; exact h

theorem foldE_len (E : Nat → Bool) : ∀ (l : List (Oper × Ent)) (i : Nat) (s : Env × List Blk), (foldE E i l s).2.length = s.2.length
  | [], _, _ => rfl
  | (o, e) :: l, i, s => by
    simp only [foldE]
    rw [foldE_len E l]
    split <;> simp [act, app_length]

theorem foldE_none : ∀ (l : List (Oper × Ent)) (i : Nat) (s : Env × List Blk), foldE (fun _ => false) i l s = s
  | [], _, _ => rfl
  | (o, e) :: l, i, s => by simp only [foldE]; exact foldE_none l (i + 1) s

/-- What an operation comes to in the text's own order. -/
def StepAt (c : Ctx) (ops : List Oper) (base : Nat) (i : Nat) (o : Oper) (e : Ent) (s : Env × List Blk) : Prop :=
  match o.guard with
  | none => StepD c o (evalA c s.1) s.2 (base + i) e.x e.δ e.R
  | some (j, want) => ∃ t, (ops[j]?).bind (·.dst) = some t ∧ ((∃ b, s.1 t = some (.d (.bool b)) ∧
    if b = want then StepD c o (evalA c s.1) s.2 (base + i) e.x e.δ e.R else e.x = some (.tup []) ∧ e.δ = [] ∧ e.R = []) ∨
    (s.1 t = some (.tup []) ∧ e.x = some (.tup []) ∧ e.δ = [] ∧ e.R = []))

def boundO (N : Nat) (d : Option Nat) : Bool :=
  match d with
  | none => true
  | some d => Nat.blt d N

def SeqOk (c : Ctx) (N : Nat) (ops : List Oper) (base : Nat) : Nat → List (Oper × Ent) → Env × List Blk → Prop
  | _, [], _ => True
  | i, (o, e) :: l, s => StepAt c ops base i o e s ∧ boundO N o.dst = true ∧ SeqOk c N ops base (i + 1) l (act o e s)

theorem SeqOk.get {c N ops base} : ∀ {l : List (Oper × Ent)} {i : Nat} {s : Env × List Blk}, SeqOk c N ops base i l s → ∀ (j : Nat) o e, l[j]? = some (o, e) →
    StepAt c ops base (i + j) o e (foldE (fun k => decide (k < i + j)) i l s) ∧ boundO N o.dst = true
  | [], _, _, _, j, o, e, h => by simp at h
  | (o', e') :: l, i, s, h, j, o, e, hj => by
    obtain ⟨h1, h2, h3⟩ := h
    cases j with
    | zero =>
      simp at hj
      obtain ⟨rfl, rfl⟩ := hj
      simp only [Nat.add_zero, foldE, Nat.lt_irrefl, decide_false, Bool.false_eq_true, if_false]
      rw [foldE_ext (E' := fun _ => false) l (i + 1) s (fun k hk _ => by simp; omega), foldE_none]
      exact ⟨h1, h2⟩
    | succ j =>
      have := SeqOk.get h3 j o e (by simpa using hj)
      have e1 : i + 1 + j = i + (j + 1) := by omega
      rw [e1] at this
      simp only [foldE]
      rw [if_pos (by simp)]
      exact this

/-- The operations that stand ahead of one by its edges. -/
def predsOf (o : Oper) : List Nat := (o.after.toList.filter fun e => Region.binds .any e).map (·.on)

def addAll (acc : List Nat) : List Nat → List Nat
  | [] => acc
  | n :: l => match acc.any (Nat.beq n) with
    | true => addAll acc l
    | false => addAll (n :: acc) l

def clos (acc : List (List Nat)) : List Nat → List Nat → List Nat
  | [], s => s
  | p :: l, s => clos acc l (addAll (addAll s [p]) (acc.getD p []))

def allClos : List Oper → List (List Nat) → List (List Nat)
  | [], acc => acc
  | o :: l, acc => allClos l (acc ++ [clos acc (predsOf o) []])

/-- Done with an operation, done with all ahead of it. -/
def Down (ops : List Oper) (E : Nat → Bool) : Prop := ∀ (j : Nat) o, ops[j]? = some o → E j = true → ∀ p ∈ predsOf o, E p = true

theorem mem_addAll {x : Nat} : ∀ {l acc : List Nat}, x ∈ addAll acc l → x ∈ acc ∨ x ∈ l
  | [], _, h => .inl h
  | n :: l, acc, h => by
    simp only [addAll] at h
    split at h
    · rcases mem_addAll h with h | h
      · exact .inl h
      · exact .inr (by simp [h])
    · rcases mem_addAll h with h | h
      · rcases List.mem_cons.1 h with rfl | h
        · exact .inr (by simp)
        · exact .inl h
      · exact .inr (by simp [h])

theorem clos_down {E : Nat → Bool} {acc : List (List Nat)} (hacc : ∀ (p : Nat), E p = true → ∀ x ∈ acc.getD p [], E x = true) : ∀ {l s : List Nat}, (∀ x ∈ s, E x = true) → (∀ p ∈ l, E p = true) → ∀ x ∈ clos acc l s, E x = true
  | [], _, hs, _ => hs
  | p :: l, s, hs, hl => by
    simp only [clos]
    refine clos_down hacc (fun x hx => ?_) (fun q hq => hl q (by simp [hq]))
    rcases mem_addAll hx with h | h
    · rcases mem_addAll h with h | h
      · exact hs x h
      · simp at h; subst h; exact hl x (by simp)
    · exact hacc p (hl p (by simp)) x h

theorem allClos_down {ops : List Oper} {E : Nat → Bool} (hd : Down ops E) : ∀ (l : List Oper) (acc : List (List Nat)), (∀ (j : Nat) o, l[j]? = some o → ops[acc.length + j]? = some o) →
    (∀ (p : Nat), E p = true → ∀ x ∈ acc.getD p [], E x = true) → ∀ (p : Nat), E p = true → ∀ x ∈ (allClos l acc).getD p [], E x = true
  | [], acc, _, h => h
  | o :: l, acc, hl, h => by
    simp only [allClos]
    refine allClos_down hd l _ (fun j o' hj => by have := hl (j + 1) o' (by simpa using hj); rw [List.length_append, List.length_singleton]; rw [Nat.add_assoc, Nat.add_comm 1 j]; exact this) (fun p hp x hx => ?_)
    by_cases h1 : p < acc.length
    · rw [List.getD_eq_getElem?_getD, List.getElem?_append_left h1, ← List.getD_eq_getElem?_getD] at hx
      exact h p hp x hx
    · by_cases h2 : p = acc.length
      · subst h2
        simp [List.getD_eq_getElem?_getD] at hx
        exact clos_down h (by simp) (hd acc.length o (by simpa using hl 0 o (by simp)) hp) x hx
      · rw [List.getD_eq_getElem?_getD, List.getElem?_eq_none (by simp; omega)] at hx
        simp at hx

def memB (n : Nat) (l : List Nat) : Bool := l.any (Nat.beq n)
theorem memB_false {n : Nat} {l : List Nat} (h : memB n l = false) : n ∉ l := fun hm => by
  have : memB n l = true := List.any_eq_true.2 ⟨n, hm, Nat.beq_refl n⟩
  rw [this] at h; cases h
theorem memB_true {n : Nat} {l : List Nat} (h : memB n l = true) : n ∈ l := by
  obtain ⟨x, h1, h2⟩ := List.any_eq_true.1 h
  rw [beq_true h2]; exact h1

def apartL (l m : List Nat) : Bool := l.all fun n => !memB n m
theorem apartL_spec {l m : List Nat} (h : apartL l m = true) : ∀ n ∈ l, n ∉ m := fun n hn => by
  have := List.all_eq_true.1 h n hn
  simp at this
  exact memB_false this

def dstL (o : Oper) : List Nat := match o.dst with | some d => [d] | none => []

/-- Two operations of which the edges do not tell which is first. -/
def indepB (ops : List Oper) (o o' : Oper) (e e' : Ent) : Bool :=
  apartL (dstL o) (usesOf ops o' ++ dstL o') && apartL (dstL o') (usesOf ops o) &&
  apartL (e.δ.map (·.1)) (e'.R ++ e'.δ.map (·.1)) && apartL (e'.δ.map (·.1)) e.R

def pairsFrom (ops : List Oper) (i : Nat) (o : Oper) (e : Ent) (base : Nat) : Nat → List (Oper × Ent) → List (List Nat) → Bool
  | _, [], _ => true
  | j, (o', e') :: l, cl => (memB i (cl.getD j []) || indepB ops o o' e e') && !memB (base + j) (e.δ.map (·.1)) && pairsFrom ops i o e base (j + 1) l cl

def pairsOk (ops : List Oper) (base : Nat) (cl : List (List Nat)) : Nat → List (Oper × Ent) → Bool
  | _, [] => true
  | i, (o, e) :: l => (predsOf o).all (fun p => Nat.blt p i) && pairsFrom ops i o e base (i + 1) l cl && pairsOk ops base cl (i + 1) l

theorem pairsFrom_get {ops i o e base cl} : ∀ {l : List (Oper × Ent)} {j : Nat}, pairsFrom ops i o e base j l cl = true → ∀ (m : Nat) o' e', l[m]? = some (o', e') →
    (i ∈ cl.getD (j + m) [] ∨ indepB ops o o' e e' = true) ∧ base + (j + m) ∉ e.δ.map (·.1)
  | [], _, _, m, o', e', h => by simp at h
  | (o2, e2) :: l, j, hb, m, o', e', h => by
    simp only [pairsFrom, Bool.and_eq_true, Bool.or_eq_true, Bool.not_eq_true'] at hb
    cases m with
    | zero =>
      simp at h
      obtain ⟨rfl, rfl⟩ := h
      exact ⟨hb.1.1.imp memB_true id, memB_false hb.1.2⟩
    | succ m =>
      have := pairsFrom_get hb.2 m o' e' (by simpa using h)
      have e1 : j + 1 + m = j + (m + 1) := by omega
      rw [e1] at this
      exact this

theorem pairsOk_get {ops base cl} : ∀ {l : List (Oper × Ent)} {i : Nat}, pairsOk ops base cl i l = true → ∀ (a b : Nat) o e o' e', l[a]? = some (o, e) → l[b]? = some (o', e') → a < b →
    (i + a ∈ cl.getD (i + b) [] ∨ indepB ops o o' e e' = true) ∧ base + (i + b) ∉ e.δ.map (·.1)
  | [], _, _, a, b, o, e, o', e', h, _, _ => by simp at h
  | (o2, e2) :: l, i, hb, a, b, o, e, o', e', ha, hb', hab => by
    simp only [pairsOk, Bool.and_eq_true] at hb
    cases b with
    | zero => omega
    | succ b =>
      cases a with
      | zero =>
        simp at ha
        obtain ⟨rfl, rfl⟩ := ha
        have := pairsFrom_get hb.1.2 b o' e' (by simpa using hb')
        have e1 : i + 1 + b = i + (b + 1) := by omega
        rw [e1] at this
        simpa using this
      | succ a =>
        have := pairsOk_get hb.2 a b o e o' e' (by simpa using ha) (by simpa using hb') (by omega)
        have e1 : i + 1 + a = i + (a + 1) := by omega
        have e2 : i + 1 + b = i + (b + 1) := by omega
        rw [e1, e2] at this
        exact this

theorem pairsOk_preds {ops base cl} : ∀ {l : List (Oper × Ent)} {i : Nat}, pairsOk ops base cl i l = true → ∀ (a : Nat) o e, l[a]? = some (o, e) → ∀ p ∈ predsOf o, p < i + a
  | [], _, _, a, o, e, h => by simp at h
  | (o2, e2) :: l, i, hb, a, o, e, ha => by
    simp only [pairsOk, Bool.and_eq_true] at hb
    cases a with
    | zero =>
      simp at ha
      obtain ⟨rfl, rfl⟩ := ha
      intro p hp
      exact Nat.le_of_ble_eq_true (List.all_eq_true.1 hb.1.1 p hp)
    | succ a =>
      have := pairsOk_preds hb.2 a o e (by simpa using ha)
      intro p hp
      have := this p hp
      omega

/-- The operation i stands, in whatever order, as it stands in the text's. -/
theorem stepAt_any {c : Ctx} {N base : Nat} {L : List (Oper × Ent)} {s : Env × List Blk} {E : Nat → Bool} (hseq : SeqOk c N (L.map (·.1)) base 0 L s) (hp : pairsOk (L.map (·.1)) base (allClos (L.map (·.1)) []) 0 L = true)
    (hd : Down (L.map (·.1)) E) {i : Nat} {o : Oper} {e : Ent} (hi : L[i]? = some (o, e)) (hE : E i = false) (hpre : ∀ p ∈ predsOf o, E p = true) :
    StepAt c (L.map (·.1)) base i o e (foldE E 0 L s) ∧ boundO N o.dst = true ∧ foldE (with1 E i) 0 L s = act o e (foldE E 0 L s) ∧ (makesB c o = true → base + i ∈ e.R → (foldE E 0 L s).2[base + i]? = s.2[base + i]?) := by
  have cl : ∀ (p : Nat), E p = true → ∀ x ∈ (allClos (L.map (·.1)) []).getD p [], E x = true := allClos_down hd _ [] (fun j o hj => by simpa using hj) (by simp)
  have cli : ∀ x ∈ (allClos (L.map (·.1)) []).getD i [], E x = true := by
    have hd' : Down (L.map (·.1)) (with1 E i) := by
      intro j o' hj hj' p hp'
      by_cases e1 : j = i
      · subst e1
        have : o' = o := by rw [List.getElem?_map, hi] at hj; simpa using hj.symm
        subst this
        have := hpre p hp'
        simp [with1, this]
      · simp only [with1, if_neg e1] at hj'
        have := hd j o' hj hj' p hp'
        simp [with1, this]
    intro x hx
    have h1 := allClos_down hd' _ [] (fun j o hj => by simpa using hj) (by simp) i (by simp [with1]) x hx
    by_cases e1 : x = i
    · -- an operation is not ahead of itself
      exfalso
      -- the set of all up to i, without i as a member of its own closure
      have h4 : ∀ x ∈ (allClos (L.map (·.1)) []).getD i [], decide (x < i) = true := by
        have hlen : ∀ (l : List Oper) (acc : List (List Nat)), (∀ (j : Nat) o', l[j]? = some o' → (L.map (·.1))[acc.length + j]? = some o') → (∀ q, q < acc.length → ∀ x ∈ acc.getD q [], x < q) →
            ∀ q, ∀ x ∈ (allClos l acc).getD q [], x < q := by
          intro l
          induction l with
          | nil =>
            intro acc _ ha q x hx
            simp only [allClos] at hx
            by_cases hq : q < acc.length
            · exact ha q hq x hx
            · rw [List.getD_eq_getElem?_getD, List.getElem?_eq_none (by omega)] at hx; simp at hx
          | cons o' l ih =>
            intro acc hl ha
            simp only [allClos]
            refine ih _ (fun j o2 hj => by have := hl (j + 1) o2 (by simpa using hj); rw [List.length_append, List.length_singleton, Nat.add_assoc, Nat.add_comm 1 j]; exact this) ?_
            intro q hq x hx
            rw [List.length_append, List.length_singleton] at hq
            by_cases h1 : q < acc.length
            · rw [List.getD_eq_getElem?_getD, List.getElem?_append_left h1, ← List.getD_eq_getElem?_getD] at hx
              exact ha q h1 x hx
            · have hq2 : q = acc.length := by omega
              subst hq2
              simp [List.getD_eq_getElem?_getD] at hx
              have hop := hl 0 o' (by simp)
              obtain ⟨le, hle, hle2⟩ : ∃ le, L[acc.length]? = some le ∧ le.1 = o' := by rw [List.getElem?_map] at hop; simpa using hop
              have := clos_down (E := fun k => decide (k < acc.length)) (acc := acc) (l := predsOf o') (s := []) (fun p hp x hx => by
                simp only [decide_eq_true_eq] at hp ⊢
                have := ha p hp x hx; omega) (by simp) (fun p hp' => by
                have := pairsOk_preds hp acc.length le.1 le.2 hle p (by rw [hle2]; exact hp')
                simpa using this) x hx
              simpa using this
        intro x hx
        simpa using hlen _ [] (fun j o hj => by simpa using hj) (by simp) i x hx
      have := h4 x hx
      simp at this
      omega
    · simpa [with1, e1] using h1
  obtain ⟨h1, h2⟩ := hseq.get i o e hi
  simp only [Nat.zero_add] at h1
  -- whoever is not told apart by the edges touches nothing of it
  have before : ∀ (j : Nat) o' e', L[j]? = some (o', e') → j < i → E j = false → indepB (L.map (·.1)) o' o e' e = true := by
    intro j o' e' hj hji hEj
    have := (pairsOk_get hp j i o' e' o e hj hi hji).1
    simp only [Nat.zero_add] at this
    rcases this with h | h
    · have := cli j h; rw [hEj] at this; cases this
    · exact h
  have after : ∀ (j : Nat) o' e', L[j]? = some (o', e') → i < j → E j = true → indepB (L.map (·.1)) o o' e e' = true := by
    intro j o' e' hj hji hEj
    have := (pairsOk_get hp i j o e o' e' hi hj hji).1
    simp only [Nat.zero_add] at this
    rcases this with h | h
    · have := cl j hEj i h; rw [hE] at this; cases this
    · exact h
  have slot : ∀ t ∈ usesOf (L.map (·.1)) o, (foldE E 0 L s).1 t = (foldE (fun k => decide (k < i)) 0 L s).1 t := by
    intro t ht
    refine foldE_slot t L 0 s s rfl (fun j o' e' hj hdst => ?_)
    simp only [Nat.zero_add]
    have hdl : t ∈ dstL o' := by simp [dstL, hdst]
    rcases Nat.lt_trichotomy j i with h | h | h
    · rw [decide_eq_true h]
      cases hEj : E j with
      | true => rfl
      | false =>
        have hb := before j o' e' hj h hEj
        simp only [indepB, Bool.and_eq_true] at hb
        exact absurd (List.mem_append.2 (.inl ht)) (apartL_spec hb.1.1.1 t hdl)
    · subst h; rw [hE]; simp
    · rw [decide_eq_false (by omega)]
      cases hEj : E j with
      | false => rfl
      | true =>
        have hb := after j o' e' hj h hEj
        simp only [indepB, Bool.and_eq_true] at hb
        exact absurd ht (apartL_spec hb.1.1.2 t hdl)
  have blk : ∀ n ∈ e.R, (foldE E 0 L s).2[n]? = (foldE (fun k => decide (k < i)) 0 L s).2[n]? := by
    intro n hn
    refine foldE_blk n L 0 s s rfl rfl (fun j o' e' hj hw => ?_)
    simp only [Nat.zero_add]
    have hwl : n ∈ e'.δ.map (·.1) := by obtain ⟨b, hb⟩ := hw; exact List.mem_map.2 ⟨(n, b), hb, rfl⟩
    rcases Nat.lt_trichotomy j i with h | h | h
    · rw [decide_eq_true h]
      cases hEj : E j with
      | true => rfl
      | false =>
        have hb := before j o' e' hj h hEj
        simp only [indepB, Bool.and_eq_true] at hb
        exact absurd (List.mem_append.2 (.inl hn)) (apartL_spec hb.1.2 n hwl)
    · subst h; rw [hE]; simp
    · rw [decide_eq_false (by omega)]
      cases hEj : E j with
      | false => rfl
      | true =>
        have hb := after j o' e' hj h hEj
        simp only [indepB, Bool.and_eq_true] at hb
        exact absurd hn (apartL_spec hb.2 n hwl)
  have hlenF : (foldE (fun k => decide (k < i)) 0 L s).2.length = (foldE E 0 L s).2.length := by rw [foldE_len, foldE_len]
  have hρ : ∀ y ∈ o.op.operands.toList, evalA c (foldE (fun k => decide (k < i)) 0 L s).1 y = evalA c (foldE E 0 L s).1 y :=
    evalA_congr fun t ht => (slot t (List.mem_append.2 (.inl ht))).symm
  refine ⟨?_, h2, foldE_with E L 0 s (Nat.zero_le _) (by simpa using hi) hE (fun j o' e' hj hlt hEj => ?_), fun _ hR => ?_⟩
  · unfold StepAt at h1 ⊢
    cases hg : o.guard with
    | none => rw [hg] at h1; simp only at h1 ⊢; exact h1.congr hρ hlenF (fun n hn => (blk n hn).symm)
    | some jw =>
      obtain ⟨j, want⟩ := jw
      rw [hg] at h1
      simp only at h1 ⊢
      obtain ⟨t, e1, e2⟩ := h1
      have es : (foldE E 0 L s).1 t = (foldE (fun k => decide (k < i)) 0 L s).1 t := slot t (List.mem_append.2 (.inr (by rw [hg]; simp only; rw [e1]; simp)))
      refine ⟨t, e1, ?_⟩
      rcases e2 with ⟨b, e2, e3⟩ | ⟨e2, e3⟩
      · refine .inl ⟨b, by rw [es]; exact e2, ?_⟩
        split
        · rename_i hb; rw [if_pos hb] at e3; exact e3.congr hρ hlenF (fun n hn => (blk n hn).symm)
        · rename_i hb; rw [if_neg hb] at e3; exact e3
      · exact .inr ⟨by rw [es]; exact e2, e3⟩
  · rw [Nat.zero_add] at hlt hEj
    have hb := after j o' e' hj hlt hEj
    simp only [indepB, Bool.and_eq_true] at hb
    refine ⟨fun d hdd hd' => ?_, fun n hw hw' => ?_⟩
    · exact apartL_spec hb.1.1.1 d (by simp [dstL, hdd]) (List.mem_append.2 (.inr (by simp [dstL, hd'])))
    · obtain ⟨b1, hb1⟩ := hw
      obtain ⟨b2, hb2⟩ := hw'
      exact apartL_spec hb.1.2 n (List.mem_map.2 ⟨(n, b1), hb1, rfl⟩) (List.mem_append.2 (.inr (List.mem_map.2 ⟨(n, b2), hb2, rfl⟩)))
  · -- nobody has written the place that is kept for it
    rw [blk _ hR]
    have := foldE_blk (E := fun k => decide (k < i)) (E' := fun _ => false) (base + i) L 0 s s rfl rfl (fun j o' e' hj hw => ?_)
    · rw [this, foldE_none]
    · simp only [Nat.zero_add, decide_eq_false_iff_not, Nat.not_lt]
      rcases Nat.lt_or_ge j i with h | h
      · exfalso
        have := (pairsOk_get hp j i o' e' o e hj hi h).2
        simp only [Nat.zero_add] at this
        obtain ⟨b, hb⟩ := hw
        exact this (List.mem_map.2 ⟨(_, b), hb, rfl⟩)
      · exact h

/-- How many are not yet done. -/
def undone (n : Nat) (listed : Array Bool) : Nat := ((List.range n).filter fun i => !listed.getD i true).length

theorem undone_lt {n i : Nat} {listed : Array Bool} (hi : listed.getD i true = false) (hn : i < n) : undone n (listed.setIfInBounds i true) < undone n listed := by
  have hlt : i < listed.size := by
    rcases Nat.lt_or_ge i listed.size with h | h
    · exact h
    · simp [Array.getD, Nat.not_lt.2 h] at hi
  have gen : ∀ l : List Nat, i ∈ l → (l.filter fun k => !(listed.setIfInBounds i true).getD k true).length < (l.filter fun k => !listed.getD k true).length := by
    intro l
    have le : ∀ l : List Nat, (l.filter fun k => !(listed.setIfInBounds i true).getD k true).length ≤ (l.filter fun k => !listed.getD k true).length := by
      intro l
      induction l with
      | nil => simp
      | cons k l ih =>
        by_cases hk : k = i
        · subst hk
          have e1 : (listed.setIfInBounds k true).getD k true = true := by simp [hlt]
          simp only [List.filter_cons, e1, hi, Bool.not_true, Bool.not_false, if_true, Bool.false_eq_true, if_false, List.length_cons]
          omega
        · have e1 : (listed.setIfInBounds i true).getD k true = listed.getD k true := getD_set_ne true (Ne.symm hk)
          simp only [List.filter_cons, e1]
          split
          · simp only [List.length_cons]; omega
          · exact ih
    induction l with
    | nil => intro h; simp at h
    | cons k l ih =>
      intro hm
      by_cases hk : k = i
      · subst hk
        have e1 : (listed.setIfInBounds k true).getD k true = true := by simp [hlt]
        simp only [List.filter_cons, e1, hi, Bool.not_true, Bool.not_false, if_true, Bool.false_eq_true, if_false, List.length_cons]
        have := le l
        omega
      · have e1 : (listed.setIfInBounds i true).getD k true = listed.getD k true := getD_set_ne true (Ne.symm hk)
        have hm' : i ∈ l := by
          rcases List.mem_cons.1 hm with h | h
          · exact absurd h.symm hk
          · exact h
        simp only [List.filter_cons, e1]
        have := ih hm'
        split
        · simp only [List.length_cons]; omega
        · exact this
  exact gen (List.range n) (by simpa using hn)

theorem undone_zero {n : Nat} {listed : Array Bool} (h : undone n listed = 0) {i : Nat} (hi : i < n) : listed.getD i true = true := by
  have : ((List.range n).filter fun i => !listed.getD i true) = [] := List.eq_nil_of_length_eq_zero h
  rw [List.filter_eq_nil_iff] at this
  have := this i (by simpa using hi)
  simpa using this

theorem StepD.makes {c : Ctx} {o : Oper} {ρ : Operand → Option AV} {S : List Blk} {tgt : Nat} {x δ R} (h : StepD c o ρ S tgt x δ R) (hm : makesB c o = true) : δ ≠ [] := by
  intro h0
  cases h with
  | quiet hq =>
    unfold makesB at hm
    split at hm
    · rename_i ho; unfold WOpQ at hq; rw [ho] at hq; exact hq.elim
    · rename_i ho; unfold WOpQ at hq; rw [ho] at hq; exact hq.elim
    · rename_i ho; unfold WOpQ at hq; rw [ho] at hq; exact hq.elim
    · rename_i ho; unfold WOpQ at hq; rw [ho] at hq; exact hq.elim
    · rename_i ho; unfold WOpQ at hq; rw [ho] at hq; exact hq.elim
    · cases hm
  | load ho => simp [makesB, ho] at hm
  | loadC ho => simp [makesB, ho] at hm
  | store ho => simp at h0
  | alloc => simp at h0
  | box => simp at h0
  | call _ _ _ _ _ h5 => rw [h5] at hm; cases hm
  | callO => simp at h0
  | callP _ h5 => rw [h5] at hm; cases hm
  | aslice ho => simp [makesB, ho] at hm
  | copyS ho => simp [makesB, ho] at hm
  | iaddrO ho => simp [makesB, ho] at hm
  | copyV ho => simp [makesB, ho] at hm
  | convV ho => simp [makesB, ho] at hm
  | loadO ho => simp [makesB, ho] at hm
  | lenM ho => simp [makesB, ho] at hm
  | lenR ho => simp [makesB, ho] at hm
  | lookM1 ho => simp [makesB, ho] at hm
  | lookM0 ho => simp [makesB, ho] at hm
  | entM1 => simp at h0
  | entM0 => simp at h0
  | entS => simp at h0
  | storeO ho => simp at h0
  | bslice ho => simp [makesB, ho] at hm
  | appendO => simp at h0

/-- All orders of a statement. -/
theorem anyOrder {B : Base} {N : Nat} (hc : B.c.ok) {L : List (Oper × Ent)} {env0 : Env} {S0 : List Blk} {base : Nat} (hseq : SeqOk B.c N (L.map (·.1)) base 0 L (env0, S0))
    (hp : pairsOk (L.map (·.1)) base (allClos (L.map (·.1)) []) 0 L = true) (hk : B.k0 ≤ base) (hdead : ∀ (i : Nat) o e, L[i]? = some (o, e) → makesB B.c o = true → S0[base + i]? = some .dead) (hRm : ∀ (i : Nat) o e, L[i]? = some (o, e) → makesB B.c o = true → e.δ ≠ [] → base + i ∈ e.R)
    (Q : Exit → Act → World → Prop) (hQ : ∀ a w, Here B N (foldE (fun _ => true) 0 L (env0, S0)).1 (foldE (fun _ => true) 0 L (env0, S0)).2 a w → Q .normal a w) :
    ∀ (fuel : Nat) (listed : Array Bool) (a : Act) (w : World) (μ : Nat → Value) (G : Nat → Nat → Prop), listed.size = L.length → undone L.length listed ≤ fuel → Down (L.map (·.1)) (fun i => listed.getD i false) →
      At1 B N (foldE (fun i => listed.getD i false) 0 L (env0, S0)).1 (foldE (fun i => listed.getD i false) 0 L (env0, S0)).2 μ G a w → (∀ (i : Nat) o e, L[i]? = some (o, e) → makesB B.c o = true → listed.getD i false = false → μ (base + i) = .nilFunc) →
      wpAny B.c.P .any (L.map (·.1)).toArray Q fuel listed a w := by
  have fin : ∀ (listed : Array Bool) (a : Act) (w : World) (μ : Nat → Value) (G : Nat → Nat → Prop), listed.size = L.length → Region.ready .any (L.map (·.1)).toArray listed = [] → 
      At1 B N (foldE (fun i => listed.getD i false) 0 L (env0, S0)).1 (foldE (fun i => listed.getD i false) 0 L (env0, S0)).2 μ G a w → Q .normal a w := by
    intro listed a w μ G hsz hr st
    have all : ∀ n, n < L.length → listed.getD n false = true := by
      intro n
      induction n using Nat.strongRecOn with
      | _ n ih =>
        intro hn
        cases hb : listed.getD n false with
        | true => rfl
        | false =>
          exfalso
          have : n ∈ Region.ready .any (L.map (·.1)).toArray listed := by
            rw [mem_ready]
            refine ⟨?_, (L[n]).1, by simp [hn], fun e he hb2 => ?_⟩
            · have hlt : n < listed.size := by omega
              simpa [Array.getD, hlt] using hb
            · have hpm : e.on ∈ predsOf (L[n]).1 := by
                simp only [predsOf, List.mem_map, List.mem_filter]
                exact ⟨e, ⟨by simpa using he, hb2⟩, rfl⟩
              have := pairsOk_preds hp n (L[n]).1 (L[n]).2 (by rw [List.getElem?_eq_getElem hn]) e.on hpm
              exact ih e.on (by omega) (by omega)
          rw [hr] at this
          cases this
    apply hQ
    have e : foldE (fun i => listed.getD i false) 0 L (env0, S0) = foldE (fun _ => true) 0 L (env0, S0) := foldE_ext L 0 _ (fun j _ hj => all j (by omega))
    rw [e] at st
    exact ⟨μ, G, st⟩
  intro fuel
  induction fuel with
  | zero =>
    intro listed a w μ G hsz hu hd st hv
    have hr : Region.ready .any (L.map (·.1)).toArray listed = [] := by
      cases h : Region.ready .any (L.map (·.1)).toArray listed with
      | nil => rfl
      | cons i r =>
        have hi : i ∈ Region.ready .any (L.map (·.1)).toArray listed := by rw [h]; simp
        rw [mem_ready] at hi
        obtain ⟨h1, o, h2, _⟩ := hi
        have hlt : i < L.length := by have := (Array.getElem?_eq_some_iff.1 h2).1; simpa using this
        have := undone_zero (Nat.le_zero.1 hu) hlt
        rw [h1] at this
        cases this
    exact ⟨hr, fin listed a w μ G hsz hr st⟩
  | succ fuel ih =>
    intro listed a w μ G hsz hu hd st hv
    refine ⟨fun hr => fin listed a w μ G hsz hr st, fun i hi => ?_⟩
    rw [mem_ready] at hi
    obtain ⟨h1, o, h2, h3⟩ := hi
    have hlt : i < L.length := by have := (Array.getElem?_eq_some_iff.1 h2).1; simpa using this
    have hlt' : i < listed.size := by omega
    have hEi : listed.getD i false = false := by simpa [Array.getD, hlt'] using h1
    obtain ⟨e, hLi⟩ : ∃ e, L[i]? = some (o, e) := by
      have : (L.map (·.1))[i]? = some o := by simpa using h2
      rw [List.getElem?_map] at this
      obtain ⟨le, hle1, hle2⟩ := Option.map_eq_some_iff.1 this
      exact ⟨le.2, by rw [hle1, ← hle2]⟩
    have hpre : ∀ p ∈ predsOf o, listed.getD p false = true := by
      intro p hp'
      simp only [predsOf, List.mem_map, List.mem_filter] at hp'
      obtain ⟨ed, ⟨he1, he2⟩, rfl⟩ := hp'
      exact h3 ed (by simpa using he1) he2
    obtain ⟨hstep, hbnd, hfold, hres⟩ := stepAt_any hseq hp hd hLi hEi hpre
    have hset : (fun j => (listed.setIfInBounds i true).getD j false) = with1 (fun j => listed.getD j false) i := by
      funext j
      by_cases hj : j = i
      · subst hj; simp [with1, hlt']
      · simp only [with1, if_neg hj]; exact getD_set_ne false (Ne.symm hj)
    have hd' : Down (L.map (·.1)) (fun j => (listed.setIfInBounds i true).getD j false) := by
      rw [hset]
      intro j o' hj hj' p hp'
      by_cases e1 : j = i
      · subst e1
        have : o' = o := by
          have : (L.map (·.1))[j]? = some o := by simpa using h2
          rw [this] at hj; simpa using hj.symm
        subst this
        have := hpre p hp'
        simp only [with1]; split; rfl; exact this
      · simp only [with1, if_neg e1] at hj'
        have := hd j o' hj hj' p hp'
        simp only [with1]; split; rfl; exact this
    have hu' : undone L.length (listed.setIfInBounds i true) ≤ fuel := by have := undone_lt h1 hlt; omega
    have go : ∀ (v : Value) (μ' : Nat → Value) (G' : Nat → Nat → Prop) (w' : World), At1 B N (act o e (foldE (fun j => listed.getD j false) 0 L (env0, S0))).1 (act o e (foldE (fun j => listed.getD j false) 0 L (env0, S0))).2 μ' G' (a.put o.dst v) w' →
        (∀ (j : Nat) o' e', L[j]? = some (o', e') → makesB B.c o' = true → j ≠ i → listed.getD j false = false → μ' (base + j) = .nilFunc) →
        wpAny B.c.P .any (L.map (·.1)).toArray Q fuel (listed.setIfInBounds i true) (a.put o.dst v) w' := by
      intro v μ' G' w' st' hv'
      refine ih _ _ _ μ' G' (by simp [hsz]) hu' hd' ?_ (fun j o' e' hj hm' hj' => ?_)
      · rw [hset, hfold]; exact st'
      · by_cases e1 : j = i
        · subst e1; simp [hlt'] at hj'
        · rw [getD_set_ne false (Ne.symm e1)] at hj'; exact hv' j o' e' hj hm' e1 hj'
    have hflen : (foldE (fun j => listed.getD j false) 0 L (env0, S0)).2.length = S0.length := foldE_len _ _ _ _
    have dst_put : ∀ (x : Option AV) (v : Value) (S' : List Blk) (μ' : Nat → Value) (G' : Nat → Nat → Prop) (w' : World), x = e.x → S' = (act o e (foldE (fun j => listed.getD j false) 0 L (env0, S0))).2 → St B S' μ' G' w' → LaterD (foldE (fun j => listed.getD j false) 0 L (env0, S0)).2 μ G w S' μ' G' w' →
        (∀ y, x = some y → RA μ' S'.length w' G' y v) → At1 B N (act o e (foldE (fun j => listed.getD j false) 0 L (env0, S0))).1 S' μ' G' (a.put o.dst v) w' := by
      intro x v S' μ' G' w' hx hS st' lt hy
      subst hx
      refine ⟨st', ?_, by rw [Act.put_size]; exact st.n, by rw [Act.put_defers']; exact st.d⟩
      have henv : EnvOk μ' S'.length w' G' (foldE (fun j => listed.getD j false) 0 L (env0, S0)).1 a.tmps := fun t z hz => let ⟨u, u1, u2⟩ := st.env t z hz; ⟨u, u1, lt.ra u2⟩
      simp only [act, putO]
      cases hdst : o.dst with
      | none => exact henv
      | some d =>
        have hdn : d < a.tmps.size := by rw [st.n]; rw [hdst] at hbnd; exact Nat.le_of_ble_eq_true hbnd
        simp only [Act.put]
        cases hex : e.x with
        | none => exact henv.unset d v
        | some y => exact henv.put hdn (hy y hex)
    have skip : e.x = some (.tup []) → e.δ = [] → At1 B N (act o e (foldE (fun j => listed.getD j false) 0 L (env0, S0))).1 (act o e (foldE (fun j => listed.getD j false) 0 L (env0, S0))).2 μ G (a.put o.dst undef) w := by
      intro hx hδ
      have hS : (act o e (foldE (fun j => listed.getD j false) 0 L (env0, S0))).2 = (foldE (fun j => listed.getD j false) 0 L (env0, S0)).2 := by simp [act, hδ, app]
      refine dst_put (some (.tup [])) undef _ μ G w hx.symm rfl (by rw [hS]; exact st.st) (by rw [hS]; exact (Later.refl _ _ _ _).d) (fun y hy => by cases hy; exact ⟨[], rfl, .nil⟩)
    have run : StepD B.c o (evalA B.c (foldE (fun j => listed.getD j false) 0 L (env0, S0)).1) (foldE (fun j => listed.getD j false) 0 L (env0, S0)).2 (base + i) e.x e.δ e.R →
        o.wp B.c.P a w (wpAny B.c.P .any (L.map (·.1)).toArray Q fuel (listed.setIfInBounds i true)) Q := by
      intro hst
      refine hst.sound hc st (fun hm => ?_) _ Q (fun μ' G' v w' st' lt hμ hy => ?_)
      · have hne : e.δ ≠ [] := hst.makes hm
        exact ⟨by rw [hres hm (hRm i o e hLi hm hne)]; exact hdead i o e hLi hm, hv i o e hLi hm hEi, by omega⟩
      · refine go v μ' G' w' (dst_put e.x v _ μ' G' w' rfl rfl st' lt hy) (fun j o' e' hj hm' hne hj' => ?_)
        rw [hμ (base + j) ?_ (by omega)]
        · exact hv j o' e' hj hm' hj'
        · rw [hflen]
          have := hdead j o' e' hj hm'
          exact (List.getElem?_eq_some_iff.1 this).1
    unfold wpOp
    rw [h2]
    simp only
    unfold StepAt at hstep
    cases hg : o.guard with
    | none =>
      rw [hg] at hstep
      simp only at hstep
      rw [if_pos (by simp [Region.wanted, hg])]
      exact .inl (run hstep)
    | some jw =>
      obtain ⟨j, want⟩ := jw
      rw [hg] at hstep
      simp only at hstep
      obtain ⟨t, e1, e2⟩ := hstep
      rcases e2 with ⟨b, e2, e3⟩ | ⟨e2, e3⟩
      · obtain ⟨u, u1, u2⟩ := st.env t _ e2
        have hub := ra_bool u2
        subst hub
        have hy : yielded (L.map (·.1)).toArray a.tmps j = some b := by
          simp only [yielded, List.getElem?_toArray, e1, Option.bind_some, u1]
        have hwt : Region.wanted o (yielded (L.map (·.1)).toArray a.tmps) = (b == want) := by simp [Region.wanted, hg, hy]
        rw [hwt]
        by_cases hbw : b = want
        · rw [if_pos hbw] at e3
          rw [if_pos (by simp [hbw])]
          exact .inl (run e3)
        · rw [if_neg hbw] at e3
          rw [if_neg (by simpa using hbw)]
          exact go undef μ G w (skip e3.1 e3.2.1) (fun j' o' e' hj' hm' _ hj2 => hv j' o' e' hj' hm' hj2)
      · obtain ⟨u, u1, u2⟩ := st.env t _ e2
        obtain ⟨vs, rfl, hvs⟩ := u2
        cases hvs
        have hy : yielded (L.map (·.1)).toArray a.tmps j = none := by
          simp only [yielded, List.getElem?_toArray, e1, Option.bind_some, u1]
        rw [if_neg (by simp [Region.wanted, hg, hy])]
        exact go undef μ G w (skip e3.1 e3.2.1) (fun j' o' e' hj' hm' _ hj2 => hv j' o' e' hj' hm' hj2)

end Go.Ab

namespace Go.Ab
open Go.RowKit
set_option linter.unusedSimpArgs false

theorem evBin_det {op : BinOp} {x y : D} {K : D → Prop} (h : evBin op x y K) : ∃ z, K z ∧ evBin op x y (fun u => u = z) := by
  unfold evBin at h ⊢
  split at h
  · rename_i k a k' b
    cases op <;> simp only at h ⊢
    case shl => exact ⟨_, h.2, h.1, rfl⟩
    case shr => exact ⟨_, h.2, h.1, rfl⟩
    all_goals
      cases hk : kindB k k' with
      | false => rw [hk] at h; exact h.elim
      | true =>
        rw [hk] at h
        simp only at h ⊢
        first | exact h.elim | exact ⟨_, h, rfl⟩ | exact ⟨_, h.2, h.1, rfl⟩
  · cases op <;> simp only at h ⊢ <;> first | exact h.elim | exact ⟨_, h, rfl⟩ | exact ⟨_, h.2, h.1, rfl⟩
  · cases op <;> simp only at h ⊢ <;> first | exact h.elim | exact ⟨_, h, rfl⟩
  · exact h.elim

theorem wB_det {op : BinOp} {b : Bool} {K : AV → Prop} (h : wB op b K) : ∃ z, K z ∧ wB op b (fun u => u = z) := by
  unfold wB at h ⊢
  cases op <;> first | exact h.elim | exact ⟨_, h, rfl⟩

theorem wEqT_det {c : Ctx} {op : BinOp} {t : TypeId} {x y : D} {K : AV → Prop} (h : wEqT c op t x y K) : ∃ z, K z ∧ wEqT c op t x y (fun u => u = z) := by
  obtain ⟨h1, h2⟩ := h
  obtain ⟨z, h3, h4⟩ := wB_det h2
  exact ⟨z, h3, h1, h4⟩

theorem wEqP_det {c : Ctx} {op : BinOp} {t : TypeId} {b : Bool} {K : AV → Prop} (h : wEqP c op t b K) : ∃ z, K z ∧ wEqP c op t b (fun u => u = z) := by
  unfold wEqP at h ⊢
  split at h
  case h_2 => exact h.elim
  split at h
  case h_2 => exact h.elim
  exact wB_det h

theorem wEqI_det {c : Ctx} {op : BinOp} {t : TypeId} {x y : D} {K : AV → Prop} (h : wEqI c op t x y K) : ∃ z, K z ∧ wEqI c op t x y (fun u => u = z) := by
  unfold wEqI at h ⊢
  split at h
  case h_2 => exact h.elim
  split at h
  case h_2 => exact h.elim
  split at h
  · split at h
    · exact wB_det h
    · exact h.elim
  · exact wB_det h
  · exact wB_det h
  · rename_i ta a tb b
    cases hb : Nat.beq ta tb with
    | false =>
      rw [hb] at h
      exact wB_det h
    | true =>
      rw [hb] at h
      simp only at h ⊢
      split at h
      case h_2 => exact h.elim
      split at h
      case h_2 => exact h.elim
      obtain ⟨h1, h2⟩ := h
      obtain ⟨z, h3, h4⟩ := wB_det h2
      exact ⟨z, h3, h1, h4⟩
  · exact h.elim

theorem wBin_det {c : Ctx} {op : BinOp} {t : TypeId} {x y : Option AV} {K : AV → Prop} (h : wBin c op t x y K) : ∃ z, K z ∧ wBin c op t x y (fun u => u = z) := by
  have ev : ∀ {dx dy : D}, (evBin op dx dy fun z => K (.d z)) → ∃ z, K z ∧ evBin op dx dy (fun u => AV.d u = z) := by
    intro dx dy h
    obtain ⟨z, h1, h2⟩ := evBin_det h
    refine ⟨.d z, h1, ?_⟩
    have e : (fun u : D => u = z) = fun u => AV.d u = AV.d z := by funext u; simp
    rw [e] at h2
    exact h2
  cases x with
  | none => exact h.elim
  | some x =>
  cases y with
  | none => cases x <;> exact h.elim
  | some y =>
  cases x with
  | d dx =>
    cases y with
    | d dy =>
      cases dx with
      | bool b =>
        simp only [wBin] at h ⊢
        split at h
        case h_2 => exact h.elim
        split at h
        case h_2 => exact h.elim
        exact ev h
      | agg l => exact wEqT_det h
      | arr n sz l => exact wEqT_det h
      | nilI => exact wEqI_det h
      | iface t x => exact wEqI_det h
      | nilP =>
        cases dy with
        | nilP => exact wEqP_det h
        | cptr x => exact wEqP_det h
        | _ => exact h.elim
      | cptr x =>
        cases dy with
        | nilP => exact wEqP_det h
        | _ => exact h.elim
      | int k n => exact ev h
      | str b => exact ev h
      | nilF => exact h.elim
      | sl sz l => exact h.elim
    | ptr n p =>
      cases dx with
      | nilP => exact wEqP_det h
      | _ => exact h.elim
    | _ => exact h.elim
  | ptr n p =>
    cases y with
    | d dy =>
      cases dy with
      | nilP => exact wEqP_det h
      | _ => exact h.elim
    | _ => exact h.elim
  | _ => cases y <;> exact h.elim

theorem wValQ_det {x : Option AV} {K : AV → Prop} (h : wValQ K x) : ∃ z, K z ∧ wValQ (fun u => u = z) x := by
  cases x with
  | none => exact h.elim
  | some v => exact ⟨v, h, rfl⟩

theorem wConv_det {c : Ctx} {i j : TI} {x : Option AV} {K : AV → Prop} (h : wConv c i j x K) : ∃ z, K z ∧ wConv c i j x (fun u => u = z) := by
  unfold wConv at h ⊢
  split at h
  · split at h
    · exact ⟨_, h, rfl⟩
    · exact ⟨_, h, rfl⟩
    · exact h.elim
  · split at h
    · exact ⟨_, h, rfl⟩
    · exact h.elim
  · split at h
    case h_2 => exact h.elim
    split at h
    case h_2 => exact h.elim
    split at h
    case h_2 => exact h.elim
    split at h
    case h_2 => exact h.elim
    obtain ⟨s, h1, h2⟩ := h
    exact ⟨_, h2, s, h1, rfl⟩
  · exact h.elim

theorem wIdx_det {c : Ctx} {i : TI} {x ix : Option AV} {K : AV → Prop} (h : wIdx c i x ix K) : ∃ z, K z ∧ wIdx c i x ix (fun u => u = z) := by
  unfold wIdx at h ⊢
  split at h
  case h_2 => exact h.elim
  split at h
  · split at h
    case h_2 => exact h.elim
    exact ⟨_, h.2, h.1, rfl⟩
  · split at h
    case h_2 => exact h.elim
    split at h
    case h_2 => exact h.elim
    split at h
    case h_2 => exact h.elim
    exact ⟨_, h.2.2, h.1, h.2.1, rfl⟩
  · exact h.elim

theorem wFld_det {c : Ctx} {i : TI} {f : Nat} {x : Option AV} {K : AV → Prop} (h : wFld c i f x K) : ∃ z, K z ∧ wFld c i f x (fun u => u = z) := by
  unfold wFld at h ⊢
  split at h
  case h_2 => exact h.elim
  split at h
  case h_2 => exact h.elim
  split at h
  case h_2 => exact h.elim
  split at h
  case h_2 => exact h.elim
  split at h
  case h_2 => exact h.elim
  split at h
  case h_2 => exact h.elim
  exact ⟨_, h, rfl⟩

theorem wAssert_det {i : TI} {t : TypeId} {ok : Bool} {x : Option AV} {K : AV → Prop} (h : wAssert i t ok x K) : ∃ z, K z ∧ wAssert i t ok x (fun u => u = z) := by
  unfold wAssert at h ⊢
  split at h
  case h_1 => exact h.elim
  split at h
  · split at h
    · cases ok <;> exact ⟨_, h, rfl⟩
    · split at h
      case h_2 => exact h.elim
      split at h
      case h_2 => exact h.elim
      exact ⟨_, h, rfl⟩
  · split at h
    case h_2 => exact h.elim
    split at h
    case h_2 => exact h.elim
    exact ⟨_, h, rfl⟩
  · exact h.elim

theorem wNil_det {x : Option AV} {K : AV → Prop} (h : wNil x K) : ∃ z, K z ∧ wNil x (fun u => u = z) := by
  unfold wNil at h ⊢
  split at h
  · exact ⟨_, h, rfl⟩
  · exact ⟨_, h, rfl⟩
  · exact ⟨_, h, rfl⟩
  · exact h.elim

theorem wBuild_det {c : Ctx} {ρ : Operand → Option AV} {i : TI} {parts : List (Nat × Operand)} {K : AV → Prop} (h : wBuild c ρ i parts K) : ∃ z, K z ∧ wBuild c ρ i parts (fun u => u = z) := by
  unfold wBuild at h ⊢
  split at h
  · split at h
    case h_2 => exact h.elim
    split at h
    case h_2 => exact h.elim
    split at h
    case h_2 => exact h.elim
    exact ⟨_, h, rfl⟩
  · split at h
    case h_2 => exact h.elim
    split at h
    case h_2 => exact h.elim
    split at h
    case h_2 => exact h.elim
    split at h
    case h_2 => exact h.elim
    exact ⟨_, h, rfl⟩
  · exact h.elim

theorem wFunc_det {fn : Fn} {first : Array Operand} {ns : Option (List Nat)} {K : AV → Prop} (h : wFunc fn first ns K) : ∃ z, K z ∧ wFunc fn first ns (fun u => u = z) := by
  unfold wFunc at h ⊢
  split at h
  case h_2 => exact h.elim
  split at h
  case h_2 => exact h.elim
  split at h
  case h_2 => exact h.elim
  exact ⟨_, h, rfl⟩

theorem wSlice_det {c : Ctx} {i : TI} {ρ : Operand → Option AV} {x : Option AV} {lo hi : Option Operand} {K : AV → Prop} (h : wSlice c i ρ x lo hi K) : ∃ z, K z ∧ wSlice c i ρ x lo hi (fun u => u = z) := by
  unfold wSlice at h ⊢
  split at h
  case h_1 => exact h.elim
  split at h
  · split at h
    case h_2 => exact h.elim
    split at h
    case h_2 => exact h.elim
    exact ⟨_, h.2, h.1, rfl⟩
  · split at h
    case h_2 => exact h.elim
    split at h
    case h_2 => exact h.elim
    split at h
    case h_2 => exact h.elim
    split at h
    case h_2 => exact h.elim
    exact ⟨_, h.2, h.1, rfl⟩
  · exact h.elim

theorem wNilL_det {c : Ctx} {op : BinOp} {t : TypeId} {x : Option AV} {K : AV → Prop} (h : wNilL c op t x K) : ∃ z, K z ∧ wNilL c op t x (fun u => u = z) := by
  unfold wNilL at h ⊢
  split at h
  case h_2 => exact h.elim
  split at h
  case h_2 => exact h.elim
  split at h
  · exact wB_det h
  · exact wB_det h
  · exact h.elim

theorem WOpQ_det {c : Ctx} {o : Oper} {ρ : Operand → Option AV} {K : AV → Prop} (h : WOpQ c o ρ K) : ∃ z, K z ∧ WOpQ c o ρ (fun u => u = z) := by
  unfold WOpQ at h ⊢
  split at h
  · exact wValQ_det h
  · exact wValQ_det h
  · split at h
    · rename_i b hb
      cases b with
      | false => obtain ⟨z, h1, h2⟩ := wValQ_det h; exact ⟨z, h1, by simp only [hb]; exact h2⟩
      | true => obtain ⟨z, h1, h2⟩ := wValQ_det h; exact ⟨z, h1, by simp only [hb]; exact h2⟩
    · exact h.elim
  · rename_i y _ _
    split at h
    · exact wNilL_det h
    · exact wBin_det h
  · split at h
    · rename_i b hb; exact ⟨_, h, by simp only [hb]⟩
    · rename_i k n hb; exact ⟨_, h, by simp only [hb]⟩
    · rename_i k n hb; exact ⟨_, h, by simp only [hb]⟩
    · exact h.elim
  · split at h
    case h_2 => exact h.elim
    rename_i l hl
    split at h
    case h_2 => exact h.elim
    rename_i v hv
    split at h
    case h_2 => exact h.elim
    rename_i hn
    exact ⟨v, h, by simp only [hl, hv, hn]⟩
  · split at h
    case h_2 => exact h.elim
    rename_i i hi
    unfold wField at h
    split at h
    case h_2 => exact h.elim
    rename_i fs hk
    split at h
    case h_2 => exact h.elim
    rename_i off ft nm hf
    split at h
    case h_2 => exact h.elim
    rename_i fi hfi
    split at h
    case h_2 => exact h.elim
    rename_i hz
    split at h
    · rename_i n p hx; exact ⟨_, h, by simp only [hi, wField, hk, hf, hfi, hz, hx, wValQ]⟩
    · rename_i l hx
      split at h
      case h_2 => exact h.elim
      rename_i hb
      split at h
      case h_2 => exact h.elim
      rename_i y hy
      exact ⟨_, h, by simp only [hi, wField, hk, hf, hfi, hz, hx, hb, hy, wValQ]⟩
    · exact h.elim
  · split at h
    case h_2 => exact h.elim
    rename_i i hi
    unfold wIndexQ at h
    split at h
    case h_2 => exact h.elim
    rename_i k j hj
    split at h
    · rename_i cnt e hk
      split at h
      case h_2 => exact h.elim
      rename_i fi hfi
      split at h
      case h_3 => exact h.elim
      · rename_i n p hx
        exact ⟨_, h.2, by simp only [hi, wIndexQ, hj, hk, hfi, hx]; first | exact ⟨h.1, rfl⟩ | exact ⟨h.1, trivial⟩⟩
      · rename_i cnt' sz xs hx
        split at h
        case h_2 => exact h.elim
        rename_i hb
        exact ⟨_, h.2, by simp only [hi, wIndexQ, hj, hk, hfi, hx, hb]; first | exact ⟨h.1, rfl⟩ | exact ⟨h.1, trivial⟩⟩
    · rename_i e hk
      split at h
      case h_2 => exact h.elim
      rename_i fi hfi
      split at h
      case h_2 => exact h.elim
      rename_i sz xs hx
      split at h
      case h_2 => exact h.elim
      rename_i hsz
      exact ⟨_, h.2, by simp only [hi, wIndexQ, hj, hk, hfi, hx, hsz]; first | exact ⟨h.1, rfl⟩ | exact ⟨h.1, trivial⟩⟩
    · exact h.elim
  · split at h
    case h_2 => exact h.elim
    rename_i t x e1 e2
    split at h
    case h_2 => exact h.elim
    rename_i i hi
    unfold wLenQ at h
    unfold wLenQ
    split at h
    · split at h
      · exact ⟨_, h, rfl⟩
      · exact h.elim
    · split at h
      · exact ⟨_, h, rfl⟩
      · exact ⟨_, h, rfl⟩
      · exact h.elim
    · split at h
      case h_2 => exact h.elim
      split at h
      case h_2 => exact h.elim
      exact ⟨_, h, rfl⟩
    · exact h.elim
  · split at h
    case h_2 => exact h.elim
    split at h
    case h_2 => exact h.elim
    exact wConv_det h
  · split at h
    case h_2 => exact h.elim
    exact wIdx_det h
  · split at h
    case h_2 => exact h.elim
    exact wFld_det h
  · split at h
    case h_2 => exact h.elim
    split at h
    case h_1 => exact h.elim
    split at h
    case h_2 => exact h.elim
    exact ⟨_, h, rfl⟩
  · split at h
    case h_2 => exact h.elim
    exact wAssert_det h
  · exact wNil_det h
  · split at h
    case h_2 => exact h.elim
    exact wBuild_det h
  · exact wFunc_det h
  · split at h
    case h_2 => exact h.elim
    split at h
    case h_2 => exact h.elim
    exact wSlice_det h
  · exact h.elim

/-- One operation of such a statement. -/
def WStep (c : Ctx) (o : Oper) (env : Env) (S : List Blk) (tgt : Nat) (K : Ent → Prop) : Prop :=
  match o.op with
  | .load t a => match c.tt t with
    | some i => match evalA c env a with
      | some (.ptr n p) => match S[n]? with
        | some (.var X) => match AV.getP X p with
          | some y => match shapeB i y && notTup y with
            | true => K ⟨some y, [], [n]⟩
            | false => False
          | none => False
        | some (.own _ sz xs) => match p with
          | .ix i0 sz' _ :: p => match Nat.beq sz' sz with
            | true => match AV.getP (.d (xs.getD i0 .nilP)) p with
              | some y => match shapeB i y && notTup y with
                | true => i0 < xs.length ∧ K ⟨some y, [], [n]⟩
                | false => False
              | none => False
            | false => False
          | _ => False
        | _ => False
      | some (.d (.cptr X)) => match shapeB i (.d X) with
        | true => K ⟨some (.d X), [], []⟩
        | false => False
      | _ => False
    | none => False
  | .store t a b => match c.tt t with
    | some i => match evalA c env a, evalA c env b with
      | some (.ptr n p), some v => match S[n]? with
        | some (.var X) => match (AV.getP X p).isSome && notTup v && shapeB i v with
          | true => match AV.setP X p v with
            | some X' => K ⟨none, [(n, .var X')], [n]⟩
            | none => False
          | false => False
        | some (.own e sz xs) => match p with
          | .ix i0 sz' _ :: p => match (Nat.beq sz' sz && notTup v) && shapeB i v with
            | true => match setO sz (xs.getD i0 .nilP) p v with
              | some z => i0 < xs.length ∧ K ⟨none, [(n, .own e sz (xs.set i0 z))], [n]⟩
              | none => False
            | false => False
          | _ => False
        | _ => False
      | _, _ => False
    | none => False
  | .convert src dst x => match evalA c env x with
    | some (.vw n p lo len cnt sz) => match c.tt src with
      | some i => match c.tt dst with
        | some j => match i.k with
          | .slice e => match j.k with
            | .str => match c.tt e with
              | some ei => match isU8 ei.k && Nat.beq sz 1 with
                | true => match S[n]? with
                  | some (.var X) => match AV.getP X p with
                    | some (.d (.arr cnt' sz' xs)) => match Nat.beq cnt cnt' && Nat.beq sz' 1 with
                      | true => ∃ s, ((xs.drop lo).take len = D.bytes s ∧ len = s.size) ∧ K ⟨some (.d (.str s)), [], [n]⟩
                      | false => False
                    | _ => False
                  | _ => False
                | false => False
              | none => False
            | _ => False
          | _ => False
        | none => False
      | none => False
    | _ => WOpQ c o (evalA c env) fun x => K ⟨some x, [], []⟩
  | .indexAddr t x ix => match evalA c env x with
    | some (.row n) => match c.tt t with
      | some i => match i.k with
        | .slice e => match c.tt e with
          | some fi => match S[n]? with
            | some (.own _ sz xs) => match Nat.beq fi.size sz with
              | true => match evalA c env ix with
                | some (.d (.int _ j)) => (0 ≤ j ∧ j < xs.length) ∧ K ⟨some (.ptr n [.ix j.toNat fi.size xs.length]), [], [n]⟩
                | _ => False
              | false => False
            | _ => False
          | none => False
        | _ => False
      | none => False
    | _ => WOpQ c o (evalA c env) fun x => K ⟨some x, [], []⟩
  | .alloc t => match c.tt t with
    | some i => match i.zero with
      | some z => K ⟨some (.ptr tgt []), [(tgt, .var (.d z))], [tgt]⟩
      | none => False
    | none => False
  | .box _ a => match evalA c env a with
    | some v => match notTup v with
      | true => K ⟨some (.ptr tgt []), [(tgt, .var v)], [tgt]⟩
      | false => False
    | none => False
  | .buildSlice t len parts => wBuildSl c t len (evalA c env) parts.toList fun x => K ⟨some x, [], []⟩
  | .slice t x lo hi none => match evalA c env x with
    | some (.ptr n p) => match c.tt t with
      | some i => match i.k with
        | .arr cnt e => match c.tt e with
          | some fi => match wBnd (evalA c env) lo 0 with
            | some l => match wBnd (evalA c env) hi cnt with
              | some h => (0 ≤ l ∧ l ≤ h ∧ h ≤ cnt ∧ l < cnt ∧ cnt ≤ maxLen) ∧ K ⟨some (.vw n p l.toNat (h - l).toNat cnt fi.size), [], []⟩
              | none => False
            | none => False
          | none => False
        | _ => False
      | none => False
    | _ => WOpQ c o (evalA c env) fun x => K ⟨some x, [], []⟩
  | .call { callee := .builtin .copy, args, argTypes } => match argTypes.toList, args.toList with
    | [t, _], [x, y] => match c.tt t with
      | some i => match i.k with
        | .slice e => match c.tt e with
          | some fi => match Nat.beq fi.size 1 with
            | true => match evalA c env x with
              | some (.vw n p lo len cnt sz) => match S[n]? with
                | some (.var X) => match AV.getP X p with
                  | some (.d (.arr cnt' sz2 xs)) => match (Nat.beq cnt' cnt && Nat.beq sz2 1) && Nat.beq sz 1 with
                    | true => match evalA c env y with
                      | some (.d (.str s)) => match AV.setP X p (.d (.arr cnt 1 (xs.take lo ++ ((D.bytes s).take len ++ xs.drop (lo + Nat.min s.size len))))) with
                        | some X' => K ⟨some (.d (.int .i64 (Nat.min s.size len : Nat))), [(n, .var X')], [n]⟩
                        | none => False
                      | some (.vw m q lo' len' cnt2 sz3) => match S[m]? with
                        | some (.var Y) => match AV.getP Y q with
                          | some (.d (.arr cnt3 sz4 zs)) => match (Nat.beq cnt3 cnt2 && Nat.beq sz4 1) && Nat.beq sz3 1 with
                            | true => match AV.setP X p (.d (.arr cnt 1 (xs.take lo ++ ((zs.drop lo').take (Nat.min len' len) ++ xs.drop (lo + Nat.min len' len))))) with
                              | some X' => lo' + len' ≤ zs.length ∧ K ⟨some (.d (.int .i64 (Nat.min len' len : Nat))), [(n, .var X')], [n, m]⟩
                              | none => False
                            | false => False
                          | _ => False
                        | _ => False
                      | _ => False
                    | false => False
                  | _ => False
                | _ => False
              | _ => False
            | false => False
          | none => False
        | _ => False
      | none => False
    | _, _ => False
  | .call { callee := .builtin .append, args, argTypes } => match argTypes.toList, args.toList with
    | [t, t'], [x, y] => match Nat.beq t t' with
      | true => match c.tt t with
        | some i => match i.k with
          | .slice e => match c.tt e with
            | some fi => match fi.zero with
              | some z => match evalA c env x, evalA c env y with
                | some (.row n), some (.d (.sl sz' ys)) => match S[n]? with
                  | some (.row e' sz xs) => match (Nat.beq e e' && Nat.beq fi.size sz) && (Nat.beq z.size sz && Nat.beq sz' sz) with
                    | true => (0 < ys.length ∧ (xs.length + ys.length) * (fi.bytes + 1) ≤ 140737488355328) ∧ K ⟨some (.row tgt), [(n, .sealed (.sl sz xs)), (tgt, .row e sz (xs ++ ys))], [tgt, n]⟩
                    | false => False
                  | some (.own e' sz xs) => match (Nat.beq e e' && Nat.beq fi.size sz) && (Nat.beq z.size sz && Nat.beq sz' sz) with
                    | true => (0 < ys.length ∧ (xs.length + ys.length) * (fi.bytes + 1) ≤ 140737488355328) ∧ K ⟨some (.row tgt), [(n, .sealed (.sl sz xs)), (tgt, .row e sz (xs ++ ys))], [tgt, n]⟩
                    | false => False
                  | _ => False
                | _, _ => False
              | none => False
            | none => False
          | _ => False
        | none => False
      | false => False
    | _, _ => False
  | .call { callee := .value fo, args, argTypes := _ } => match makesB c o with
    | true => match evalA c env fo with
      | some (.fn f []) => match finO (evalA c env) args.toList S with
        | some (ys, δ) => match into (app δ S) (namesVs ys) ys with
          | some (zs, Sc) => ∃ (e : TypeId) (sz : Nat) (xs : List D), CallR c f zs Sc (fun r S' => r = .row (namesVs ys).length ∧ S' = List.replicate (namesVs ys).length .dead ++ [.own e sz xs]) ∧
            K ⟨some (.row tgt), δ ++ (deads (namesVs ys) ++ [(tgt, .own e sz xs)]), tgt :: (namesVs ys ++ δ.map (·.1))⟩
          | none => False
        | none => False
      | _ => False
    | false => match evalA c env fo with
      | some (.fn f []) => match mapO (fun a => onlyD (evalA c env a)) args.toList with
        | some zs => ∃ v, CallR c f zs [] (fun r S' => r = v ∧ S' = []) ∧ match namesV v with
          | [] => K ⟨some v, [], []⟩
          | _ => False
        | none => match mapO (evalA c env) args.toList with
          | some ys => match ys.all notTup with
            | true => match into S (namesVs ys) ys with
              | some (zs, Sc) => ∃ v S1, CallR c f zs Sc (fun r S' => r = v ∧ S' = S1) ∧ match namesV v with
                | [] => match plainS (namesVs ys).length S1 with
                  | true => K ⟨some v, zipB (namesVs ys) S1, namesVs ys⟩
                  | false => False
                | _ => False
              | none => False
            | false => False
          | none => False
      | _ => False
  | .call { callee := .builtin .len, args, argTypes } => match argTypes.toList, args.toList with
    | [t], [x] => match evalA c env x with
      | some (.row n) => match S[n]? with
        | some (.mapb ks _) => (∃ kt et : TypeId, c.P.underlying t = some (.map kt et)) ∧ K ⟨some (.d (.int .i64 (ks.length : Int))), [], [n]⟩
        | some (.row _ _ xs) => match c.tt t with
          | some i => match i.k with
            | .slice _ => K ⟨some (.d (.int .i64 (xs.length : Int))), [], [n]⟩
            | _ => False
          | none => False
        | _ => False
      | _ => WOpQ c o (evalA c env) fun x => K ⟨some x, [], []⟩
    | _, _ => False
  | .lookup t m x false => match evalA c env m with
    | some (.row n) => match S[n]? with
      | some (.mapb ks (.agg vs)) => match evalA c env x with
        | some (.d kd) => ∃ (kt et : TypeId) (ei : TI) (z : D) (b : ByteArray), (c.P.underlying t = some (.map kt et) ∧ KeyOk c.P kt ∧ c.tt et = some ei ∧ ei.zero = some z ∧ kd = .arr 32 1 (D.bytes b) ∧ b.size = 32 ∧ (vs.all fun y => !y.isAgg) = true) ∧
          ((∃ (j m : Nat) (e : TypeId) (sz : Nat) (xs : List D), ((∀ i : Nat, ks[i]? = some b → i = j) ∧ ks[j]? = some b ∧ vs[j]? = some (.row m) ∧ S[m]? = some (.row e sz xs)) ∧ K ⟨some (.d (.sl sz xs)), [], [n, m]⟩) ∨ (b ∉ ks ∧ K ⟨some (.d z), [], [n]⟩))
        | _ => False
      | _ => False
    | _ => False
  | .mapEntry t m x => match evalA c env m with
    | some (.row n) => match S[n]? with
      | some (.mapb ks (.agg vs)) => match evalA c env x with
        | some (.d kd) => ∃ (kt et : TypeId) (ei : TI) (z : D) (b : ByteArray), (c.P.underlying t = some (.map kt et) ∧ KeyOk c.P kt ∧ c.tt et = some ei ∧ ei.zero = some z ∧ z.isAgg = false ∧ kd = .arr 32 1 (D.bytes b) ∧ b.size = 32 ∧ (vs.all fun y => !y.isAgg) = true) ∧
          ((∃ (j : Nat) (y : AV), ((∀ i : Nat, ks[i]? = some b → i = j) ∧ ks[j]? = some b ∧ vs[j]? = some y ∧ notTup y = true) ∧ K ⟨some (.tup [y, .d (.int .i64 (j : Int))]), [(n, .mapb ks (.agg vs))], [tgt, n]⟩) ∨
            (b ∉ ks ∧ ∃ (e : TypeId) (sz : Nat), z = .sl sz [] ∧ K ⟨some (.tup [.row tgt, .d (.int .i64 (ks.length : Int))]), [(n, .mapb (ks ++ [b]) (.agg (vs ++ [.d (.sl sz [])]))), (tgt, .row e sz [])], [tgt, n]⟩))
        | _ => False
      | _ => False
    | _ => False
  | .entryStore _ m s x => match evalA c env m with
    | some (.row n) => match S[n]? with
      | some (.mapb ks (.agg vs)) => match evalA c env s with
        | some (.d (.int _ i)) => match evalA c env x with
          | some y => ∃ j : Nat, (i = (j : Int) ∧ notTup y = true ∧ y.isAgg = false ∧ (vs.all fun y => !y.isAgg) = true ∧ j < vs.length) ∧ K ⟨none, [(n, .mapb ks (.agg (vs.set j y)))], [n]⟩
          | none => False
        | _ => False
      | _ => False
    | _ => False
  | _ => WOpQ c o (evalA c env) fun x => K ⟨some x, [], []⟩

theorem WStep_ok {c : Ctx} {o : Oper} {env : Env} {S : List Blk} {tgt : Nat} {K : Ent → Prop} (h : WStep c o env S tgt K) :
    ∃ e : Ent, K e ∧ StepD c o (evalA c env) S tgt e.x e.δ e.R ∧ (makesB c o = true → e.δ ≠ [] → tgt ∈ e.R) := by
  have quiet : WOpQ c o (evalA c env) (fun x => K ⟨some x, [], []⟩) → ∃ e : Ent, K e ∧ StepD c o (evalA c env) S tgt e.x e.δ e.R ∧ (makesB c o = true → e.δ ≠ [] → tgt ∈ e.R) := by
    intro hq
    obtain ⟨z, h1, h2⟩ := WOpQ_det hq
    exact ⟨⟨some z, [], []⟩, h1, .quiet h2, fun _ h => absurd rfl h⟩
  unfold WStep at h
  split at h
  · rename_i t a ho
    split at h
    case h_2 => exact h.elim
    rename_i i hi
    split at h
    · rename_i n p hx
      split at h
      · rename_i X hX
        split at h
        case h_2 => exact h.elim
        rename_i y hy
        split at h
        case h_2 => exact h.elim
        rename_i hb
        simp only [Bool.and_eq_true] at hb
        exact ⟨_, h, .load ho hi hx hX hy hb.1 hb.2, fun _ h => absurd rfl h⟩
      · rename_i e sz xs hX
        split at h
        case h_2 => exact h.elim
        rename_i i0 sz' cnt p
        split at h
        case h_2 => exact h.elim
        rename_i hsz
        obtain rfl := beq_true hsz
        split at h
        case h_2 => exact h.elim
        rename_i y hy
        split at h
        case h_2 => exact h.elim
        rename_i hb
        simp only [Bool.and_eq_true] at hb
        exact ⟨_, h.2, .loadO ho hi hx hX h.1 hy hb.1 hb.2, fun _ h => absurd rfl h⟩
      · exact h.elim
    · rename_i X hx
      split at h
      case h_2 => exact h.elim
      rename_i hb
      exact ⟨_, h, .loadC ho hi hx hb, fun _ h => absurd rfl h⟩
    · exact h.elim
  · rename_i t a b ho
    split at h
    case h_2 => exact h.elim
    rename_i i hi
    split at h
    case h_2 => exact h.elim
    rename_i n p v hx hv
    split at h
    · rename_i X hX
      split at h
      case h_2 => exact h.elim
      rename_i hb
      simp only [Bool.and_eq_true] at hb
      split at h
      case h_2 => exact h.elim
      rename_i X' hX'
      exact ⟨_, h, .store ho hi hx hX hb.1.1 hv hb.1.2 hb.2 hX', fun hm => by simp [makesB, ho] at hm⟩
    · rename_i e sz xs hX
      split at h
      case h_2 => exact h.elim
      rename_i i0 sz' cnt p
      split at h
      case h_2 => exact h.elim
      rename_i hb
      simp only [Bool.and_eq_true] at hb
      obtain rfl := beq_true hb.1.1
      split at h
      case h_2 => exact h.elim
      rename_i z hz
      exact ⟨_, h.2, .storeO ho hi hx hX h.1 hv hb.1.2 hz hb.2, fun hm => by simp [makesB, ho] at hm⟩
    · exact h.elim
  · rename_i src dst x ho
    split at h
    · rename_i n p lo len cnt sz hx
      split at h
      case h_2 => exact h.elim
      rename_i i hi
      split at h
      case h_2 => exact h.elim
      rename_i j hj
      split at h
      case h_2 => exact h.elim
      rename_i e hk
      split at h
      case h_2 => exact h.elim
      rename_i hkj
      split at h
      case h_2 => exact h.elim
      rename_i ei he
      split at h
      case h_2 => exact h.elim
      rename_i hu
      simp only [Bool.and_eq_true] at hu
      obtain rfl := beq_true hu.2
      split at h
      case h_2 => exact h.elim
      rename_i X hX
      split at h
      case h_2 => exact h.elim
      rename_i cnt' sz' xs hg
      split at h
      case h_2 => exact h.elim
      rename_i hb
      simp only [Bool.and_eq_true] at hb
      obtain rfl := beq_true hb.1
      obtain rfl := beq_true hb.2
      obtain ⟨s, h1, h2⟩ := h
      exact ⟨_, h2, .convV ho hi hj hk hkj he (isU8_spec hu.1) hx hX hg h1.1 h1.2, fun _ h => absurd rfl h⟩
    · exact quiet h
  · rename_i t x ix ho
    split at h
    · rename_i n hx
      split at h
      case h_2 => exact h.elim
      rename_i i hi
      split at h
      case h_2 => exact h.elim
      rename_i e hk
      split at h
      case h_2 => exact h.elim
      rename_i fi hfi
      split at h
      case h_2 => exact h.elim
      rename_i e' sz xs hX
      split at h
      case h_2 => exact h.elim
      rename_i hsz
      split at h
      case h_2 => exact h.elim
      rename_i k j hj
      exact ⟨_, h.2, .iaddrO ho hi hk hfi (beq_true hsz) hx hX hj h.1.1 h.1.2, fun _ h => absurd rfl h⟩
    · exact quiet h
  · rename_i t ho
    split at h
    case h_2 => exact h.elim
    rename_i i hi
    split at h
    case h_2 => exact h.elim
    rename_i z hz
    exact ⟨_, h, .alloc ho hi hz, fun _ _ => by simp⟩
  · rename_i t a ho
    split at h
    case h_2 => exact h.elim
    rename_i v hv
    split at h
    case h_2 => exact h.elim
    rename_i hn
    exact ⟨_, h, .box ho hv hn, fun _ _ => by simp⟩
  · rename_i t len parts ho
    have det : ∃ z, K ⟨some z, [], []⟩ ∧ wBuildSl c t len (evalA c env) parts.toList (fun u => u = z) := by
      unfold wBuildSl at h ⊢
      split at h
      case h_2 => exact h.elim
      split at h
      case h_2 => exact h.elim
      split at h
      case h_2 => exact h.elim
      split at h
      case h_2 => exact h.elim
      split at h
      case h_2 => exact h.elim
      split at h
      case h_2 => exact h.elim
      split at h
      case h_2 => exact h.elim
      exact ⟨_, h, rfl⟩
    obtain ⟨z, h1, h2⟩ := det
    exact ⟨_, h1, .bslice ho h2, fun _ h => absurd rfl h⟩
  · rename_i t x lo hi ho
    split at h
    · rename_i n p hx
      split at h
      case h_2 => exact h.elim
      rename_i i hi'
      split at h
      case h_2 => exact h.elim
      rename_i cnt e hk
      split at h
      case h_2 => exact h.elim
      rename_i fi hfi
      split at h
      case h_2 => exact h.elim
      rename_i l hl
      split at h
      case h_2 => exact h.elim
      rename_i b hb
      exact ⟨_, h.2, .aslice ho hi' hk hfi hx hl hb h.1, fun _ h => absurd rfl h⟩
    · exact quiet h
  · rename_i args ats ho
    split at h
    case h_2 => exact h.elim
    rename_i t u x y ht hxy
    have ho' : o.op = .call { callee := .builtin .copy, args := #[x, y], argTypes := #[t, u] } := by
      rw [ho]
      have e1 : args = #[x, y] := by rw [← Array.toArray_toList (xs := args), hxy]
      have e2 : ats = #[t, u] := by rw [← Array.toArray_toList (xs := ats), ht]
      rw [e1, e2]
    split at h
    case h_2 => exact h.elim
    rename_i i hi
    split at h
    case h_2 => exact h.elim
    rename_i e hk
    split at h
    case h_2 => exact h.elim
    rename_i fi hfi
    split at h
    case h_2 => exact h.elim
    rename_i hsz
    split at h
    case h_2 => exact h.elim
    rename_i n p lo len cnt sz hx
    split at h
    case h_2 => exact h.elim
    rename_i X hn
    split at h
    case h_2 => exact h.elim
    rename_i cnt' sz2 xs hX
    split at h
    case h_2 => exact h.elim
    rename_i hq
    simp only [Bool.and_eq_true] at hq
    obtain rfl := beq_true hq.1.1
    obtain rfl := beq_true hq.1.2
    obtain rfl := beq_true hq.2
    split at h
    · rename_i s hy
      split at h
      case h_2 => exact h.elim
      rename_i X' hset
      exact ⟨_, h, .copyS ho' hi hk hfi (beq_true hsz) hx hn hX hy hset, fun hm => by simp [makesB, ho] at hm⟩
    · rename_i m q lo' len' cnt2 sz3 hy
      split at h
      case h_2 => exact h.elim
      rename_i Y hm
      split at h
      case h_2 => exact h.elim
      rename_i cnt3 sz4 zs hY
      split at h
      case h_2 => exact h.elim
      rename_i hq2
      simp only [Bool.and_eq_true] at hq2
      obtain rfl := beq_true hq2.1.1
      obtain rfl := beq_true hq2.1.2
      obtain rfl := beq_true hq2.2
      split at h
      case h_2 => exact h.elim
      rename_i X' hset
      exact ⟨_, h.2, .copyV ho' hi hk hfi (beq_true hsz) hx hn hX hy hm hY hset h.1, fun hm => by simp [makesB, ho] at hm⟩
    · exact h.elim
  · rename_i args ats ho
    split at h
    case h_2 => exact h.elim
    rename_i t t' x y ht hxy
    split at h
    case h_2 => exact h.elim
    rename_i htt
    have htt := beq_true htt
    subst htt
    have ho' : o.op = .call { callee := .builtin .append, args := #[x, y], argTypes := #[t, t] } := by
      rw [ho]
      have e1 : args = #[x, y] := by rw [← Array.toArray_toList (xs := args), hxy]
      have e2 : ats = #[t, t] := by rw [← Array.toArray_toList (xs := ats), ht]
      rw [e1, e2]
    split at h
    case h_2 => exact h.elim
    rename_i i hi
    split at h
    case h_2 => exact h.elim
    rename_i e hk
    split at h
    case h_2 => exact h.elim
    rename_i fi hfi
    split at h
    case h_2 => exact h.elim
    rename_i z hz
    split at h
    case h_2 => exact h.elim
    rename_i n sz' ys hx hy
    split at h
    · rename_i e' sz xs hn
      split at h
      case h_2 => exact h.elim
      rename_i hb
      simp only [Bool.and_eq_true] at hb
      obtain ⟨⟨b1, b2⟩, b3, b4⟩ := hb
      have b1 := beq_true b1
      have b4 := beq_true b4
      subst b1; subst b4
      exact ⟨_, h.2, .appendO ho' hi hk hfi hz (beq_true b3) (beq_true b2) hx (.inl hn) hy h.1.1 h.1.2, fun _ _ => by simp⟩
    · rename_i e' sz xs hn
      split at h
      case h_2 => exact h.elim
      rename_i hb
      simp only [Bool.and_eq_true] at hb
      obtain ⟨⟨b1, b2⟩, b3, b4⟩ := hb
      have b1 := beq_true b1
      have b4 := beq_true b4
      subst b1; subst b4
      exact ⟨_, h.2, .appendO ho' hi hk hfi hz (beq_true b3) (beq_true b2) hx (.inr hn) hy h.1.1 h.1.2, fun _ _ => by simp⟩
    · exact h.elim
  · rename_i fo args ts ho
    split at h
    · rename_i hmk
      split at h
      case h_2 => exact h.elim
      rename_i f hf
      split at h
      case h_2 => exact h.elim
      rename_i ys δ hys
      split at h
      case h_2 => exact h.elim
      rename_i zs Sc hin
      obtain ⟨e, sz, xs, h1, h2⟩ := h
      exact ⟨_, h2, .callO ho hmk hf hys hin h1, fun _ _ => by simp⟩
    rename_i hmk
    split at h
    case h_2 => exact h.elim
    rename_i f hf
    split at h
    · rename_i zs hzs
      obtain ⟨v, h1, h2⟩ := h
      split at h2
      case h_2 => exact h2.elim
      rename_i hv
      exact ⟨_, h2, .call ho hf hzs h1 hv hmk, fun _ h => absurd rfl h⟩
    · split at h
      case h_2 => exact h.elim
      rename_i ys hys
      split at h
      case h_2 => exact h.elim
      rename_i hnt
      split at h
      case h_2 => exact h.elim
      rename_i zs Sc hin
      obtain ⟨v, S1, h1, h2⟩ := h
      split at h2
      case h_2 => exact h2.elim
      rename_i hv
      split at h2
      case h_2 => exact h2.elim
      rename_i hp
      exact ⟨_, h2, .callP ho hmk hf hys (List.all_eq_true.1 hnt) hin h1 hv hp, fun hm => by rw [hm] at hmk; cases hmk⟩
  · rename_i args ats ho
    split at h
    case h_2 => exact h.elim
    rename_i t x ht hxs
    have ho' : o.op = .call { callee := .builtin .len, args := #[x], argTypes := #[t] } := by
      rw [ho]
      have e1 : args = #[x] := by rw [← Array.toArray_toList (xs := args), hxs]
      have e2 : ats = #[t] := by rw [← Array.toArray_toList (xs := ats), ht]
      rw [e1, e2]
    split at h
    · rename_i n hx
      split at h
      · rename_i ks X hn
        obtain ⟨⟨kt, et, h1⟩, h2⟩ := h
        exact ⟨_, h2, .lenM ho' h1 hx hn, fun _ h => absurd rfl h⟩
      · rename_i e sz xs hn
        split at h
        case h_2 => exact h.elim
        rename_i i hi
        split at h
        case h_2 => exact h.elim
        rename_i el hk
        exact ⟨_, h, .lenR ho' hi hk hx hn, fun _ h => absurd rfl h⟩
      · exact h.elim
    · exact quiet h
  · rename_i t m x ho
    split at h
    case h_2 => exact h.elim
    rename_i n hm
    split at h
    case h_2 => exact h.elim
    rename_i ks vs hn
    split at h
    case h_2 => exact h.elim
    rename_i kd hx
    obtain ⟨kt, et, ei, z, b, ⟨h1, h2, h3, h4, rfl, h6, h7⟩, h8⟩ := h
    rcases h8 with ⟨j, m', e, sz, xs, ⟨q1, q2, q3, q4⟩, q5⟩ | ⟨q1, q2⟩
    · exact ⟨_, q5, .lookM1 ho h1 h2 h3 h4 hm hn hx h6 h7 q1 q2 q3 q4, fun _ h => absurd rfl h⟩
    · exact ⟨_, q2, .lookM0 ho h1 h2 h3 h4 hm hn hx h6 h7 q1, fun _ h => absurd rfl h⟩
  · rename_i t m x ho
    split at h
    case h_2 => exact h.elim
    rename_i n hm
    split at h
    case h_2 => exact h.elim
    rename_i ks vs hn
    split at h
    case h_2 => exact h.elim
    rename_i kd hx
    obtain ⟨kt, et, ei, z, b, ⟨h1, h2, h3, h4, h4', rfl, h6, h7⟩, h8⟩ := h
    rcases h8 with ⟨j, y, ⟨q1, q2, q3, q4⟩, q5⟩ | ⟨q1, e, sz, rfl, q2⟩
    · exact ⟨_, q5, .entM1 ho h1 h2 h3 h4 h4' hm hn hx h6 h7 q1 q2 q3 q4, fun _ _ => by simp⟩
    · exact ⟨_, q2, .entM0 ho h1 h2 h3 h4 hm hn hx h6 h7 q1, fun _ _ => by simp⟩
  · rename_i t m s x ho
    split at h
    case h_2 => exact h.elim
    rename_i n hm
    split at h
    case h_2 => exact h.elim
    rename_i ks vs hn
    split at h
    case h_2 => exact h.elim
    rename_i k i hs
    split at h
    case h_2 => exact h.elim
    rename_i y hx
    obtain ⟨j, ⟨rfl, h2, h3, h4, h5⟩, h6⟩ := h
    exact ⟨_, h6, .entS ho hm hn hs hx h2 h3 h4 h5, fun hm' => by simp [makesB, ho] at hm'⟩
  · exact quiet h

def WDr (c : Ctx) (N : Nat) (ops : List Oper) (base : Nat) : Nat → List Oper → Env → List Blk → List (Oper × Ent) → (Env → List Blk → List (Oper × Ent) → Prop) → Prop
  | _, [], env, S, acc, K => K env S acc
  | i, o :: r, env, S, acc, K =>
    match boundO N o.dst with
    | false => False
    | true =>
      match o.guard with
      | none => WStep c o env S (base + i) fun e => WDr c N ops base (i + 1) r (putO o.dst e.x env) (app e.δ S) ((o, e) :: acc) K
      | some (j, want) =>
        match (ops[j]?).bind (·.dst) with
        | none => False
        | some t => match env t with
          | some (.d (.bool b)) =>
            @Bool.rec (fun _ => Prop)
              (match want with
                | false => WStep c o (env.put t (some (.d (.bool false)))) S (base + i) fun e => WDr c N ops base (i + 1) r (putO o.dst e.x (env.put t (some (.d (.bool false))))) (app e.δ S) ((o, e) :: acc) K
                | true => WDr c N ops base (i + 1) r (putO o.dst (some (.tup [])) (env.put t (some (.d (.bool false))))) S ((o, ⟨some (.tup []), [], []⟩) :: acc) K)
              (match want with
                | true => WStep c o (env.put t (some (.d (.bool true)))) S (base + i) fun e => WDr c N ops base (i + 1) r (putO o.dst e.x (env.put t (some (.d (.bool true))))) (app e.δ S) ((o, e) :: acc) K
                | false => WDr c N ops base (i + 1) r (putO o.dst (some (.tup [])) (env.put t (some (.d (.bool true))))) S ((o, ⟨some (.tup []), [], []⟩) :: acc) K) b
          | some (.tup []) => WDr c N ops base (i + 1) r (putO o.dst (some (.tup [])) env) S ((o, ⟨some (.tup []), [], []⟩) :: acc) K
          | _ => False

theorem put_known_eq {env : Env} {t : Nat} {x : AV} (h : env t = some x) : env.put t (some x) = env := by
  funext s
  by_cases e : s = t
  · subst e; rw [Env.put_same, h]
  · rw [Env.put_ne _ _ e]

theorem WDr_ok {c : Ctx} {N : Nat} {ops : List Oper} {base : Nat} {K : Env → List Blk → List (Oper × Ent) → Prop} : ∀ (l : List Oper) (i : Nat) (env : Env) (S : List Blk) (acc : List (Oper × Ent)), WDr c N ops base i l env S acc K →
    ∃ L : List (Oper × Ent), L.map (·.1) = l ∧ SeqOk c N ops base i L (env, S) ∧ (∀ (m : Nat) o e, L[m]? = some (o, e) → makesB c o = true → e.δ ≠ [] → base + (i + m) ∈ e.R) ∧
      K (foldE (fun _ => true) i L (env, S)).1 (foldE (fun _ => true) i L (env, S)).2 (L.reverse ++ acc)
  | [], i, env, S, acc, h => ⟨[], rfl, trivial, by simp, by unfold WDr at h; simpa [foldE] using h⟩
  | o :: l, i, env, S, acc, h => by
    have cons : ∀ (e : Ent), StepAt c ops base i o e (env, S) → boundO N o.dst = true → (makesB c o = true → e.δ ≠ [] → base + i ∈ e.R) → WDr c N ops base (i + 1) l (putO o.dst e.x env) (app e.δ S) ((o, e) :: acc) K →
        ∃ L : List (Oper × Ent), L.map (·.1) = o :: l ∧ SeqOk c N ops base i L (env, S) ∧ (∀ (m : Nat) o e, L[m]? = some (o, e) → makesB c o = true → e.δ ≠ [] → base + (i + m) ∈ e.R) ∧
          K (foldE (fun _ => true) i L (env, S)).1 (foldE (fun _ => true) i L (env, S)).2 (L.reverse ++ acc) := by
      intro e h1 hb h2 h3
      obtain ⟨L, g1, g2, g3, g4⟩ := WDr_ok l (i + 1) _ _ _ h3
      refine ⟨(o, e) :: L, by simp [g1], ⟨h1, hb, g2⟩, fun m o' e' hm => ?_, by simpa [foldE, act] using g4⟩
      cases m with
      | zero => simp at hm; obtain ⟨rfl, rfl⟩ := hm; simpa using h2
      | succ m =>
        have := g3 m o' e' (by simpa using hm)
        have e1 : i + 1 + m = i + (m + 1) := by omega
        rw [e1] at this
        exact this
    unfold WDr at h
    split at h
    case h_1 => exact h.elim
    rename_i hbd
    split at h
    · rename_i hg
      obtain ⟨e, h1, h2, h3⟩ := WStep_ok h
      exact cons e (by unfold StepAt; rw [hg]; exact h2) hbd h3 h1
    · rename_i j want hg
      split at h
      case h_1 => exact h.elim
      rename_i t ht
      split at h
      · rename_i b hb
        cases b with
        | false =>
          simp only at h
          rw [put_known_eq hb] at h
          cases want with
          | false =>
            obtain ⟨e, h1, h2, h3⟩ := WStep_ok h
            exact cons e (by unfold StepAt; rw [hg]; exact ⟨t, ht, .inl ⟨false, hb, by rw [if_pos rfl]; exact h2⟩⟩) hbd h3 h1
          | true => exact cons ⟨some (.tup []), [], []⟩ (by unfold StepAt; rw [hg]; exact ⟨t, ht, .inl ⟨false, hb, by rw [if_neg (by simp)]; exact ⟨rfl, rfl, rfl⟩⟩⟩) hbd (fun _ h => absurd rfl h) h
        | true =>
          simp only at h
          rw [put_known_eq hb] at h
          cases want with
          | true =>
            obtain ⟨e, h1, h2, h3⟩ := WStep_ok h
            exact cons e (by unfold StepAt; rw [hg]; exact ⟨t, ht, .inl ⟨true, hb, by rw [if_pos rfl]; exact h2⟩⟩) hbd h3 h1
          | false => exact cons ⟨some (.tup []), [], []⟩ (by unfold StepAt; rw [hg]; exact ⟨t, ht, .inl ⟨true, hb, by rw [if_neg (by simp)]; exact ⟨rfl, rfl, rfl⟩⟩⟩) hbd (fun _ h => absurd rfl h) h
      · rename_i hb
        exact cons ⟨some (.tup []), [], []⟩ (by unfold StepAt; rw [hg]; exact ⟨t, ht, .inr ⟨hb, rfl, rfl, rfl⟩⟩) hbd (fun _ h => absurd rfl h) h
      · exact h.elim

/-- How many places are kept for blocks to come. -/
def keepN (c : Ctx) (ops : List Oper) : Nat :=
  match ops.any (makesB c) with
  | true => ops.length
  | false => 0

def WDraw (c : Ctx) (N : Nat) (ops : Array Oper) (env : Env) (S : List Blk) (K : Env → List Blk → Prop) : Prop :=
  c.P.follows .mixedOrders = true ∧
  WDr c N ops.toList S.length 0 ops.toList env (S ++ List.replicate (keepN c ops.toList) .dead) [] fun env' S' acc =>
    pairsOk ops.toList S.length (allClos ops.toList []) 0 acc.reverse = true ∧ K env' S'

theorem wdraw_sound {B : Base} {N id : Nat} {ops : Array Oper} {env : Env} {S : List Blk} {K : Env → List Blk → Prop} (hc : B.c.ok) (h : WDraw B.c N ops env S K) {μ G a w} (st : At1 B N env S μ G a w) :
    (Code.region id ops true).wp B.c.P (fun e a w => e = .normal ∧ ∃ env' S', K env' S' ∧ Here B N env' S' a w) a w := by
  obtain ⟨hm, hd⟩ := h
  obtain ⟨L, h1, h2, h3, h4, h5⟩ := WDr_ok _ _ _ _ _ hd
  have hops : (L.map (·.1)).toArray = ops := by rw [h1, Array.toArray_toList]
  have hLl : L.length = ops.size := by rw [← List.length_map (f := fun x : Oper × Ent => x.1), h1]; simp
  rw [List.append_nil, List.reverse_reverse] at h4
  obtain ⟨μ1, r1, r2, r3⟩ := st.st.reserve (keepN B.c ops.toList)
  have hdn : Next w { w with drawn := w.drawn + 1 } none := ⟨rfl, rfl, rfl, Nat.le_refl _, fun _ _ _ => rfl⟩
  have st1 : At1 B N env (S ++ List.replicate (keepN B.c ops.toList) .dead) μ1 G a { w with drawn := w.drawn + 1 } :=
    ⟨r1.quiet hdn, fun t x hx => let ⟨v, g1, g2⟩ := st.env t x hx; ⟨v, g1, (r3.ra g2).mono (Nat.le_refl _) (fun _ _ _ => rfl) (fun _ _ h => h) (fun _ _ _ _ h => h)⟩, st.n, st.d⟩
  have keep : ∀ (i : Nat) o e, L[i]? = some (o, e) → makesB B.c o = true → keepN B.c ops.toList = ops.size ∧ i < ops.size := by
    intro i o e hi hmk
    have hlt : i < L.length := (List.getElem?_eq_some_iff.1 hi).1
    have hmem : o ∈ ops.toList := by rw [← h1]; exact List.mem_map.2 ⟨(o, e), List.mem_of_getElem? hi, rfl⟩
    refine ⟨?_, by omega⟩
    unfold keepN
    rw [List.any_eq_true.2 ⟨o, hmem, hmk⟩]
    simp
  obtain ⟨S0, hS0⟩ : ∃ S0, S0 = S ++ List.replicate (keepN B.c ops.toList) .dead := ⟨_, rfl⟩
  rw [← hS0] at h2 h5 st1
  refine wp_region_any hm ?_
  rw [← hops]
  rw [← h1] at h2 h4
  refine anyOrder (base := S.length) hc h2 (by rw [h1] at h4 ⊢; exact h4) st.st.k0 (fun i o e hi hmk => ?_) (fun i o e hi hmk hne => by have := h3 i o e hi hmk hne; simpa using this) _ (fun a' w' hh => ⟨rfl, _, _, h5, hh⟩) _ _ a _ μ1 G ?_ ?_ ?_ ?_ ?_
  · obtain ⟨k1, k2⟩ := keep i o e hi hmk
    rw [hS0, List.getElem?_append_right (by omega), List.getElem?_replicate, if_pos (by rw [k1]; omega)]
  · simp
  · have : ∀ l : List Nat, (l.filter fun i => !(Array.replicate (L.map (·.1)).toArray.size false).getD i true).length ≤ l.length := fun l => List.length_filter_le _ _
    have := this (List.range L.length)
    simpa [undone] using this
  · intro j o hj hE
    by_cases hlt : j < L.length <;> simp [Array.getD, hlt] at hE
  · rw [foldE_ext (E' := fun _ => false) L 0 _ (fun j _ hj => by simp [Array.getD]), foldE_none]
    exact st1
  · intro i o e hi hmk _
    obtain ⟨k1, k2⟩ := keep i o e hi hmk
    exact r2 _ (by omega) (by rw [k1]; omega)

/-- All rules. -/
def R1 : OpRule := ⟨WOp, fun _ _ _ _ _ _ hc h => wop_sound hc h, fun c _ N ops env S K => WDraw c N ops env S K, fun _ _ _ _ _ _ _ hc h _ _ _ _ st => wdraw_sound hc h st⟩

theorem brec {b : Bool} {A A' : Prop} (ht : b = true → A) (hf : b = false → A') : @Bool.rec (fun _ => Prop) A' A b := by
  cases b with
  | true => exact ht rfl
  | false => exact hf rfl

end Go.Ab
