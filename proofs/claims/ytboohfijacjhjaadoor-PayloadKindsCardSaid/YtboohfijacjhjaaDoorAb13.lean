/-
  An own logic over the kit's 'Calls' (Ab13): a function's contract from its code.
-/
import Derived.Test.YtboohfijacjhjaaDoorAb12
namespace Go.Ab
open Go.RowKit

def resVal (c : Ctx) (k0 : Nat) (env : Env) (S : List Blk) : ResultVar → Option (AV × List Blk)
  | .tmp t => match env t with
    | some v => finA k0 S v
    | none => none
  | .cell a t => match env a with
    | some (.ptr n p) => match c.tt t with
      | some i => match S[n]? with
        | some (.var X) => match AV.getP X p with
          | some y => match shapeB i y with
            | true => finA k0 S y
            | false => none
          | none => none
        | _ => none
      | none => none
    | _ => none

def resVals (c : Ctx) (k0 : Nat) (env : Env) : List Blk → List ResultVar → Option (List AV × List Blk)
  | S, [] => some ([], S)
  | S, r :: l => match resVal c k0 env S r with
    | some (y, S') => match resVals c k0 env S' l with
      | some (ys, S'') => some (y :: ys, S'')
      | none => none
    | none => none

def pack : List AV → AV
  | [x] => x
  | l => .tup l

theorem resVal_sound {B : Base} {N : Nat} (hc : B.c.ok) {env : Env} {S0 μ G0 a w} (h0 : At1 B N env S0 μ G0 a w) {S S' : List Blk} {G : Nat → Nat → Prop} {r : ResultVar} {y : AV} (h : resVal B.c B.k0 env S r = some (y, S')) (st : St B S μ G w) (lt : Later S0 μ G0 w S μ G w) :
    ∃ u G', (match r with | .tmp t => pure (a.tmps.getD t undef) | .cell b t => do loadVar t (← asAddr (a.tmps.getD b undef)) : Sem Value).run B.c.P w = .ok u w ∧
      St B S' μ G' w ∧ Later S μ G w S' μ G' w ∧ VA μ S'.length w G' y u ∧ notTup y = true := by
  cases r with
  | tmp t =>
    simp only [resVal] at h
    split at h
    case h_2 => cases h
    rename_i v hv
    obtain ⟨u, h1, h2⟩ := h0.env t v hv
    have hu : a.tmps.getD t undef = u := by
      obtain ⟨e1, e2⟩ := Array.getElem?_eq_some_iff.1 h1
      simp [Array.getD, e1, e2]
    have hnt : ∀ l, v ≠ .tup l := fun l e => by subst e; simp [finA] at h
    obtain ⟨G', g1, g2, g3, g4⟩ := finA_sound h st ((lt.ra h2).va hnt)
    exact ⟨u, G', by simp [hu], g1, g2, g3, g4⟩
  | cell b t =>
    simp only [resVal] at h
    split at h
    case h_2 => cases h
    rename_i n p hb
    split at h
    case h_2 => cases h
    rename_i i hi
    split at h
    case h_2 => cases h
    rename_i X hX
    split at h
    case h_2 => cases h
    rename_i z hz
    split at h
    case h_2 => cases h
    rename_i hs
    obtain ⟨v, h1, h2⟩ := h0.env b _ hb
    have hu : a.tmps.getD b undef = v := by
      obtain ⟨e1, e2⟩ := Array.getElem?_eq_some_iff.1 h1
      simp [Array.getD, e1, e2]
    have hva := (lt.ra h2).va (fun l e => by cases e)
    obtain ⟨u, h3, h4⟩ := st.load hc hi hva hX hz hs
    obtain ⟨b', e1, e2, e3, e4⟩ := hva.ptr_inv
    obtain ⟨G', g1, g2, g3, g4⟩ := finA_sound h st h4
    refine ⟨u, G', ?_, g1, g2, g3, g4⟩
    rw [e4] at h3
    simp only [Instr.loadAt, Instr.sureAddr, Sem.run_bind, Sem.run_pure, Result.andThen_ok] at h3
    simp only [hu, e4, asAddr, Sem.run_bind, Sem.run_pure, Result.andThen_ok, h3]

theorem resVals_sound {B : Base} {N : Nat} (hc : B.c.ok) {env : Env} {S0 μ G0 a w} (h0 : At1 B N env S0 μ G0 a w) : ∀ (l : List ResultVar) (S S' : List Blk) (G : Nat → Nat → Prop) (ys : List AV), resVals B.c B.k0 env S l = some (ys, S') → St B S μ G w → Later S0 μ G0 w S μ G w →
    ∃ us G', (l.mapM (fun r => match r with | .tmp t => pure (a.tmps.getD t undef) | .cell b t => do loadVar t (← asAddr (a.tmps.getD b undef)) : ResultVar → Sem Value)).run B.c.P w = .ok us w ∧
      St B S' μ G' w ∧ Later S μ G w S' μ G' w ∧ VS μ S'.length w G' ys us ∧ ∀ y ∈ ys, notTup y = true
  | [], S, S', G, ys, h, st, _ => by simp only [resVals] at h; cases h; exact ⟨[], G, by simp, st, Later.refl _ _ _ _, .nil, by simp⟩
  | r :: l, S, S', G, ys, h, st, lt => by
    simp only [resVals] at h
    split at h
    case h_2 => cases h
    rename_i y S1 h1
    split at h
    case h_2 => cases h
    rename_i ys1 S2 h2
    cases h
    obtain ⟨u, G1, e1, g1, g2, g3, g4⟩ := resVal_sound hc h0 h1 st lt
    obtain ⟨us, G2, f1, f2, f3, f4, f5⟩ := resVals_sound hc h0 l S1 _ G1 _ h2 g1 (lt.trans g2)
    refine ⟨u :: us, G2, ?_, f2, g2.trans f3, .cons (g3.mono f3.k (fun i hi _ => f3.μ i hi) f3.g f3.cells) f4, fun z hz => ?_⟩
    · rw [List.mapM_cons, Sem.run_bind, e1, Result.andThen_ok, Sem.run_bind, f1]
      rfl
    · rcases List.mem_cons.1 hz with rfl | hz
      · exact g4
      · exact f5 z hz

theorem VS.length_eq {μ k w G l vs} (h : VS μ k w G l vs) : vs.length = l.length := by
  induction h with
  | nil => rfl
  | cons _ _ ih => simp [ih]

theorem results_sound {B : Base} {N : Nat} (hc : B.c.ok) {env : Env} {S μ G a w} (h0 : At1 B N env S μ G a w) {fn : Func} {ys S'} (h : resVals B.c B.k0 env S fn.results.toList = some (ys, S')) :
    ∃ v G', (results fn a.tmps).run B.c.P w = .ok v w ∧ St B S' μ G' w ∧ RA μ S'.length w G' (pack ys) v := by
  obtain ⟨us, G', e1, e2, e3, e4, e5⟩ := resVals_sound hc h0 fn.results.toList S S' G ys h h0.st (Later.refl _ _ _ _)
  have hrun : (results fn a.tmps).run B.c.P w = .ok (if h : us.toArray.size = 1 then us.toArray[0] else .tuple us.toArray) w := by
    unfold results
    rw [Sem.run_bind, Array.mapM_eq_mapM_toList, Sem.run_map]
    erw [e1]
    rfl
  have hlen := e4.length_eq
  refine ⟨_, G', hrun, e2, ?_⟩
  by_cases h1 : us.length = 1
  · rw [dif_pos (by simpa using h1)]
    cases e4 with
    | nil => simp at h1
    | cons hv hr =>
      rename_i x v l vs
      simp at h1
      have hl : vs = [] := by simpa using h1
      subst hl
      cases hr
      exact hv.ra (notTup_spec (e5 x (by simp)))
  · rw [dif_neg (by simpa using h1)]
    have hp : pack ys = .tup ys := by
      cases ys with
      | nil => rfl
      | cons x r => cases r with
        | nil => simp at hlen; exact absurd hlen h1
        | cons => rfl
    rw [hp]
    exact ⟨us, rfl, e4⟩

/-- What comes back, and the store: without the callee's own names where nothing tells of them. -/
def wRet (k0 : Nat) (r : AV) (S : List Blk) (Post : AV → List Blk → Prop) : Prop :=
  match allLt k0 (namesV r) && blksBelow k0 (S.take k0) with
  | true => Post r (S.take k0)
  | false => Post r S

def ofArgs (args : List AV) : Env := fun t => args[t]?

def WFun (R : OpRule) (c : Ctx) (fn : Func) (args : List AV) (S : List Blk) (Post : AV → List Blk → Prop) : Prop :=
  match fn.body with
  | some code => match Nat.ble args.length fn.ntmps with
    | true => WP R c S.length fn.ntmps code (ofArgs args) S fun e env S' =>
      match e with
      | .normal => match resVals c S.length env S' fn.results.toList with
        | some (ys, S'') => wRet S.length (pack ys) S'' Post
        | none => False
      | .ret => match resVals c S.length env S' fn.results.toList with
        | some (ys, S'') => wRet S.length (pack ys) S'' Post
        | none => False
      | _ => False
    | false => False
  | none => False

theorem VS.get {μ k w G} : ∀ {l vs} {i : Nat} {x : AV}, VS μ k w G l vs → l[i]? = some x → ∃ v, vs[i]? = some v ∧ VA μ k w G x v := by
  intro l vs i x h
  induction h generalizing i with
  | nil => intro h; simp at h
  | cons h1 _ ih =>
    intro h
    cases i with
    | zero => simp at h; subst h; exact ⟨_, by simp, h1⟩
    | succ i => simpa using ih (by simpa using h)

/-- A function's contract, from its code. -/
theorem callR_of {R : OpRule} {c : Ctx} (hc : c.ok) {f : FuncId} {fn : Func} {args : List AV} {S : List Blk} {Post : AV → List Blk → Prop} (hf : c.P.funcs[f]? = some fn) (hname : (fn.name == "runtime.NumGoroutine") = false)
    (hnt : args.all notTup = true) (h : WFun R c fn args S Post) : CallR c f args S Post := by
  intro μ G w vals st hv
  unfold WFun at h
  cases hb : fn.body with
  | none => rw [hb] at h; exact h.elim
  | some code =>
    rw [hb] at h
    simp only at h
    cases hle : Nat.ble args.length fn.ntmps with
    | false => rw [hle] at h; exact h.elim
    | true =>
      rw [hle] at h
      simp only at h
      have hle' := Nat.le_of_ble_eq_true hle
      left
      constructor
      · simp only [callFunc, Sem.run_bind, run_program, Result.andThen_ok, hf, hname, hb]
        rfl
      · refine calls_of_wp hf hb ?_
        have hlen := hv.length_eq
        have h1 : At1 (base c S μ G w) fn.ntmps (ofArgs args) S μ G { tmps := vals.toArray ++ Array.replicate (fn.ntmps - vals.toArray.size) undef, defers := [] } w := by
          refine ⟨st, ?_, ?_, rfl⟩
          · intro t x hx
            obtain ⟨v, e1, e2⟩ := VS.get hv hx
            have hlt : t < vals.length := (List.getElem?_eq_some_iff.1 e1).1
            refine ⟨v, ?_, e2.ra (notTup_spec (List.all_eq_true.1 hnt x (List.mem_of_getElem? hx)))⟩
            rw [Array.getElem?_append_left (by simpa using hlt)]
            simpa using e1
          · simp; omega
        refine wp_mono (wp_sound (B := base c S μ G w) hc code _ _ S μ G _ w h h1) ?_
        rintro e a' w' ⟨env', S', hk, μ', G', st'⟩
        have fin : ∀ ys S'', resVals c S.length env' S' fn.results.toList = some (ys, S'') → wRet S.length (pack ys) S'' Post →
            a'.defers = [] ∧ ∃ v, (results fn a'.tmps).run c.P w' = .ok v w' ∧ ∃ v_1 r S_1 μ_1 G_1, Ending.returned v = .returned v_1 ∧ Post r S_1 ∧ St (base c S μ G w) S_1 μ_1 G_1 w' ∧ RA μ_1 S_1.length w' G_1 r v_1 := by
          intro ys S'' hr hp
          obtain ⟨v, G'', e1, e2, e3⟩ := results_sound (B := base c S μ G w) hc st' hr
          refine ⟨st'.d, v, e1, ?_⟩
          unfold wRet at hp
          split at hp
          · rename_i hbb
            simp only [Bool.and_eq_true] at hbb
            have hk0 : (S''.take S.length).length = S.length := by
              have : S.length ≤ S''.length := e2.k0
              simp [Nat.min_eq_left this]
            refine ⟨v, pack ys, S''.take S.length, μ', G'', rfl, hp, e2.trim (Nat.le_refl _) e2.k0 hbb.2, ?_⟩
            rw [hk0]
            exact e3.shrink (allLt_spec hbb.1)
          · exact ⟨v, pack ys, S'', μ', G'', rfl, hp, e2, e3⟩
        cases e with
        | normal =>
          simp only at hk
          split at hk
          case h_2 => exact hk.elim
          rename_i ys S'' hr
          exact fin ys S'' hr hk
        | ret =>
          simp only at hk
          split at hk
          case h_2 => exact hk.elim
          rename_i ys S'' hr
          exact fin ys S'' hr hk
        | _ => exact hk.elim

end Go.Ab
