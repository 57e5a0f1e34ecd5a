/- The own logic: contracts of functions that hand back rows inside of structs. -/
import Derived.Test.YtboohfijacjhjaaDoorAbZ
namespace Go.Ab
open Go.RowKit

noncomputable def resValA (c : Ctx) (env : Env) (S : List Blk) : ResultVar → Option AV
  | .tmp t => match env t with
    | some v => match notTup v with
      | true => some v
      | false => none
    | none => none
  | .cell a t => match env a with
    | some (.ptr n p) => match c.tt t with
      | some i => match S[n]? with
        | some (.var X) => match AV.getP X p with
          | some y => match shapeB i y with
            | true => match notTup y with
              | true => some y
              | false => none
            | false => none
          | none => none
        | _ => none
      | none => none
    | _ => none

noncomputable def resValsA (c : Ctx) (env : Env) (S : List Blk) : List ResultVar → Option (List AV)
  | [] => some []
  | r :: l => match resValA c env S r with
    | some y => match resValsA c env S l with
      | some ys => some (y :: ys)
      | none => none
    | none => none

theorem resValA_sound {B : Base} {N : Nat} (hc : B.c.ok) {env : Env} {S μ G a w} (h0 : At1 B N env S μ G a w) {r : ResultVar} {y : AV} (h : resValA B.c env S r = some y) :
    ∃ u, (match r with | .tmp t => pure (a.tmps.getD t undef) | .cell b t => do loadVar t (← asAddr (a.tmps.getD b undef)) : Sem Value).run B.c.P w = .ok u w ∧ VA μ S.length w G y u ∧ notTup y = true := by
  cases r with
  | tmp t =>
    simp only [resValA] at h
    split at h
    case h_2 => cases h
    rename_i v hv
    split at h
    case h_2 => cases h
    rename_i hn
    cases h
    obtain ⟨u, h1, h2⟩ := h0.env t _ hv
    have hu : a.tmps.getD t undef = u := by
      obtain ⟨e1, e2⟩ := Array.getElem?_eq_some_iff.1 h1
      simp [Array.getD, e1, e2]
    exact ⟨u, by simp [hu], h2.va (notTup_spec hn), hn⟩
  | cell b t =>
    simp only [resValA] at h
    split at h
    case h_2 => cases h
    rename_i n p hb
    split at h
    case h_2 => cases h
    rename_i i hi
    split at h
    case h_2 => cases h
    rename_i X hX
    split at h
    case h_2 => cases h
    rename_i z hz
    split at h
    case h_2 => cases h
    rename_i hs
    split at h
    case h_2 => cases h
    rename_i hn
    cases h
    obtain ⟨v, h1, h2⟩ := h0.env b _ hb
    have hu : a.tmps.getD b undef = v := by
      obtain ⟨e1, e2⟩ := Array.getElem?_eq_some_iff.1 h1
      simp [Array.getD, e1, e2]
    have hva := h2.va (fun l e => by cases e)
    obtain ⟨u, h3, h4⟩ := h0.st.load hc hi hva hX hz hs
    obtain ⟨b', e1, e2, e3, e4⟩ := hva.ptr_inv
    refine ⟨u, ?_, h4, hn⟩
    rw [e4] at h3
    simp only [Instr.loadAt, Instr.sureAddr, Sem.run_bind, Sem.run_pure, Result.andThen_ok] at h3
    simp only [hu, e4, asAddr, Sem.run_bind, Sem.run_pure, Result.andThen_ok, h3]

theorem resValsA_sound {B : Base} {N : Nat} (hc : B.c.ok) {env : Env} {S μ G a w} (h0 : At1 B N env S μ G a w) : ∀ (l : List ResultVar) (ys : List AV), resValsA B.c env S l = some ys →
    ∃ us, (l.mapM (fun r => match r with | .tmp t => pure (a.tmps.getD t undef) | .cell b t => do loadVar t (← asAddr (a.tmps.getD b undef)) : ResultVar → Sem Value)).run B.c.P w = .ok us w ∧
      VS μ S.length w G ys us ∧ ∀ y ∈ ys, notTup y = true
  | [], ys, h => by simp only [resValsA] at h; cases h; exact ⟨[], by simp, .nil, by simp⟩
  | r :: l, ys, h => by
    simp only [resValsA] at h
    split at h
    case h_2 => cases h
    rename_i y h1
    split at h
    case h_2 => cases h
    rename_i ys1 h2
    cases h
    obtain ⟨u, e1, g3, g4⟩ := resValA_sound hc h0 h1
    obtain ⟨us, f1, f4, f5⟩ := resValsA_sound hc h0 l _ h2
    refine ⟨u :: us, ?_, .cons g3 f4, fun z hz => ?_⟩
    · rw [List.mapM_cons, Sem.run_bind, e1, Result.andThen_ok, Sem.run_bind, f1]
      rfl
    · rcases List.mem_cons.1 hz with rfl | hz
      · exact g4
      · exact f5 z hz

theorem resultsA_sound {B : Base} {N : Nat} (hc : B.c.ok) {env : Env} {S μ G a w} (h0 : At1 B N env S μ G a w) {fn : Func} {ys} (h : resValsA B.c env S fn.results.toList = some ys) :
    ∃ v, (results fn a.tmps).run B.c.P w = .ok v w ∧ RA μ S.length w G (pack ys) v := by
  obtain ⟨us, e1, e4, e5⟩ := resValsA_sound hc h0 fn.results.toList ys h
  have hrun : (results fn a.tmps).run B.c.P w = .ok (if h : us.toArray.size = 1 then us.toArray[0] else .tuple us.toArray) w := by
    unfold results
    rw [Sem.run_bind, Array.mapM_eq_mapM_toList, Sem.run_map]
    erw [e1]
    rfl
  have hlen := e4.length_eq
  refine ⟨_, hrun, ?_⟩
  by_cases h1 : us.length = 1
  · rw [dif_pos (by simpa using h1)]
    cases e4 with
    | nil => simp at h1
    | cons hv hr =>
      rename_i x v l vs
      simp at h1
      have hl : vs = [] := by simpa using h1
      subst hl
      cases hr
      exact hv.ra (notTup_spec (e5 x (by simp)))
  · rw [dif_neg (by simpa using h1)]
    have hp : pack ys = .tup ys := by
      cases ys with
      | nil => rfl
      | cons x r => cases r with
        | nil => simp at hlen; exact absurd hlen h1
        | cons => rfl
    rw [hp]
    exact ⟨us, rfl, e4⟩

def WFunA (R : OpRule) (c : Ctx) (fn : Func) (args : List AV) (S : List Blk) (Post : AV → List Blk → Prop) : Prop :=
  match fn.body with
  | some code => match Nat.ble args.length fn.ntmps with
    | true => WP R c S.length fn.ntmps code (ofArgs args) S fun e env S' =>
      match e with
      | .normal => match resValsA c env S' fn.results.toList with
        | some ys => Post (pack ys) S'
        | none => False
      | .ret => match resValsA c env S' fn.results.toList with
        | some ys => Post (pack ys) S'
        | none => False
      | _ => False
    | false => False
  | none => False

/-- A function's contract, from its code. -/
theorem callR_ofA {R : OpRule} {c : Ctx} (hc : c.ok) {f : FuncId} {fn : Func} {args : List AV} {S : List Blk} {Post : AV → List Blk → Prop} (hf : c.P.funcs[f]? = some fn) (hname : (fn.name == "runtime.NumGoroutine") = false)
    (hnt : args.all notTup = true) (h : WFunA R c fn args S Post) : CallR c f args S Post := by
  intro μ G w vals st hv
  unfold WFunA at h
  cases hb : fn.body with
  | none => rw [hb] at h; exact h.elim
  | some code =>
    rw [hb] at h
    simp only at h
    cases hle : Nat.ble args.length fn.ntmps with
    | false => rw [hle] at h; exact h.elim
    | true =>
      rw [hle] at h
      simp only at h
      have hle' := Nat.le_of_ble_eq_true hle
      left
      constructor
      · simp only [callFunc, Sem.run_bind, run_program, Result.andThen_ok, hf, hname, hb]
        rfl
      · refine calls_of_wp hf hb ?_
        have hlen := hv.length_eq
        have h1 : At1 (base c S μ G w) fn.ntmps (ofArgs args) S μ G { tmps := vals.toArray ++ Array.replicate (fn.ntmps - vals.toArray.size) undef, defers := [] } w := by
          refine ⟨st, ?_, ?_, rfl⟩
          · intro t x hx
            obtain ⟨v, e1, e2⟩ := VS.get hv hx
            have hlt : t < vals.length := (List.getElem?_eq_some_iff.1 e1).1
            refine ⟨v, ?_, e2.ra (notTup_spec (List.all_eq_true.1 hnt x (List.mem_of_getElem? hx)))⟩
            rw [Array.getElem?_append_left (by simpa using hlt)]
            simpa using e1
          · simp; omega
        refine wp_mono (wp_sound (B := base c S μ G w) hc code _ _ S μ G _ w h h1) ?_
        rintro e a' w' ⟨env', S', hk, μ', G', st'⟩
        have fin : ∀ ys, resValsA c env' S' fn.results.toList = some ys → Post (pack ys) S' →
            a'.defers = [] ∧ ∃ v, (results fn a'.tmps).run c.P w' = .ok v w' ∧ ∃ v_1 r S_1 μ_1 G_1, Ending.returned v = .returned v_1 ∧ Post r S_1 ∧ St (base c S μ G w) S_1 μ_1 G_1 w' ∧ RA μ_1 S_1.length w' G_1 r v_1 := by
          intro ys hr hp
          obtain ⟨v, e1, e3⟩ := resultsA_sound (B := base c S μ G w) hc st' hr
          exact ⟨st'.d, v, e1, v, pack ys, S', μ', G', rfl, hp, st'.st, e3⟩
        cases e with
        | normal =>
          simp only at hk
          split at hk
          case h_2 => exact hk.elim
          rename_i ys hr
          exact fin ys hr hk
        | ret =>
          simp only at hk
          split at hk
          case h_2 => exact hk.elim
          rename_i ys hr
          exact fin ys hr hk
        | _ => exact hk.elim


end Go.Ab
