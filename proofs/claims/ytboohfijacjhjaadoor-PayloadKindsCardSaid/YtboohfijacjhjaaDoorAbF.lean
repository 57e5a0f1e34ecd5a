/-
  An own logic over the kit's 'Calls' (AbF): the rule for a statement that draws its order, reckoned in the text's order.
-/
import Derived.Test.YtboohfijacjhjaaDoorAbE
namespace Go.Ab
open Go.RowKit
set_option linter.unusedSimpArgs false

theorem evBin_det {op : BinOp} {x y : D} {K : D → Prop} (h : evBin op x y K) : ∃ z, K z ∧ evBin op x y (fun u => u = z) := by
  unfold evBin at h ⊢
  split at h
  · rename_i k a k' b
    cases op <;> simp only at h ⊢
    case shl => exact ⟨_, h.2, h.1, rfl⟩
    case shr => exact ⟨_, h.2, h.1, rfl⟩
    all_goals
      cases hk : kindB k k' with
      | false => rw [hk] at h; exact h.elim
      | true =>
        rw [hk] at h
        simp only at h ⊢
        first | exact h.elim | exact ⟨_, h, rfl⟩ | exact ⟨_, h.2, h.1, rfl⟩
  · cases op <;> simp only at h ⊢ <;> first | exact h.elim | exact ⟨_, h, rfl⟩ | exact ⟨_, h.2, h.1, rfl⟩
  · cases op <;> simp only at h ⊢ <;> first | exact h.elim | exact ⟨_, h, rfl⟩
  · exact h.elim

theorem wB_det {op : BinOp} {b : Bool} {K : AV → Prop} (h : wB op b K) : ∃ z, K z ∧ wB op b (fun u => u = z) := by
  unfold wB at h ⊢
  cases op <;> first | exact h.elim | exact ⟨_, h, rfl⟩

theorem wEqT_det {c : Ctx} {op : BinOp} {t : TypeId} {x y : D} {K : AV → Prop} (h : wEqT c op t x y K) : ∃ z, K z ∧ wEqT c op t x y (fun u => u = z) := by
  obtain ⟨h1, h2⟩ := h
  obtain ⟨z, h3, h4⟩ := wB_det h2
  exact ⟨z, h3, h1, h4⟩

theorem wEqP_det {c : Ctx} {op : BinOp} {t : TypeId} {b : Bool} {K : AV → Prop} (h : wEqP c op t b K) : ∃ z, K z ∧ wEqP c op t b (fun u => u = z) := by
  unfold wEqP at h ⊢
  split at h
  case h_2 => exact h.elim
  split at h
  case h_2 => exact h.elim
  exact wB_det h

theorem wEqI_det {c : Ctx} {op : BinOp} {t : TypeId} {x y : D} {K : AV → Prop} (h : wEqI c op t x y K) : ∃ z, K z ∧ wEqI c op t x y (fun u => u = z) := by
  unfold wEqI at h ⊢
  split at h
  case h_2 => exact h.elim
  split at h
  case h_2 => exact h.elim
  split at h
  · split at h
    · exact wB_det h
    · exact h.elim
  · exact wB_det h
  · exact wB_det h
  · rename_i ta a tb b
    cases hb : Nat.beq ta tb with
    | false =>
      rw [hb] at h
      exact wB_det h
    | true =>
      rw [hb] at h
      simp only at h ⊢
      split at h
      case h_2 => exact h.elim
      split at h
      case h_2 => exact h.elim
      obtain ⟨h1, h2⟩ := h
      obtain ⟨z, h3, h4⟩ := wB_det h2
      exact ⟨z, h3, h1, h4⟩
  · exact h.elim

theorem wBin_det {c : Ctx} {op : BinOp} {t : TypeId} {x y : Option AV} {K : AV → Prop} (h : wBin c op t x y K) : ∃ z, K z ∧ wBin c op t x y (fun u => u = z) := by
  have ev : ∀ {dx dy : D}, (evBin op dx dy fun z => K (.d z)) → ∃ z, K z ∧ evBin op dx dy (fun u => AV.d u = z) := by
    intro dx dy h
    obtain ⟨z, h1, h2⟩ := evBin_det h
    refine ⟨.d z, h1, ?_⟩
    have e : (fun u : D => u = z) = fun u => AV.d u = AV.d z := by funext u; simp
    rw [e] at h2
    exact h2
  cases x with
  | none => exact h.elim
  | some x =>
  cases y with
  | none => cases x <;> exact h.elim
  | some y =>
  cases x with
  | d dx =>
    cases y with
    | d dy =>
      cases dx with
      | bool b =>
        simp only [wBin] at h ⊢
        split at h
        case h_2 => exact h.elim
        split at h
        case h_2 => exact h.elim
        exact ev h
      | agg l => exact wEqT_det h
      | arr n sz l => exact wEqT_det h
      | nilI => exact wEqI_det h
      | iface t x => exact wEqI_det h
      | nilP =>
        cases dy with
        | nilP => exact wEqP_det h
        | cptr x => exact wEqP_det h
        | _ => exact h.elim
      | cptr x =>
        cases dy with
        | nilP => exact wEqP_det h
        | _ => exact h.elim
      | int k n => exact ev h
      | str b => exact ev h
      | nilF => exact h.elim
      | sl sz l => exact h.elim
    | ptr n p =>
      cases dx with
      | nilP => exact wEqP_det h
      | _ => exact h.elim
    | _ => exact h.elim
  | ptr n p =>
    cases y with
    | d dy =>
      cases dy with
      | nilP => exact wEqP_det h
      | _ => exact h.elim
    | _ => exact h.elim
  | _ => cases y <;> exact h.elim

theorem wValQ_det {x : Option AV} {K : AV → Prop} (h : wValQ K x) : ∃ z, K z ∧ wValQ (fun u => u = z) x := by
  cases x with
  | none => exact h.elim
  | some v => exact ⟨v, h, rfl⟩

theorem wConv_det {c : Ctx} {i j : TI} {x : Option AV} {K : AV → Prop} (h : wConv c i j x K) : ∃ z, K z ∧ wConv c i j x (fun u => u = z) := by
  unfold wConv at h ⊢
  split at h
  · split at h
    · exact ⟨_, h, rfl⟩
    · exact ⟨_, h, rfl⟩
    · exact h.elim
  · split at h
    · exact ⟨_, h, rfl⟩
    · exact h.elim
  · split at h
    case h_2 => exact h.elim
    split at h
    case h_2 => exact h.elim
    split at h
    case h_2 => exact h.elim
    split at h
    case h_2 => exact h.elim
    obtain ⟨s, h1, h2⟩ := h
    exact ⟨_, h2, s, h1, rfl⟩
  · exact h.elim

theorem wIdx_det {c : Ctx} {i : TI} {x ix : Option AV} {K : AV → Prop} (h : wIdx c i x ix K) : ∃ z, K z ∧ wIdx c i x ix (fun u => u = z) := by
  unfold wIdx at h ⊢
  split at h
  case h_2 => exact h.elim
  split at h
  · split at h
    case h_2 => exact h.elim
    exact ⟨_, h.2, h.1, rfl⟩
  · split at h
    case h_2 => exact h.elim
    split at h
    case h_2 => exact h.elim
    split at h
    case h_2 => exact h.elim
    exact ⟨_, h.2.2, h.1, h.2.1, rfl⟩
  · exact h.elim

theorem wFld_det {c : Ctx} {i : TI} {f : Nat} {x : Option AV} {K : AV → Prop} (h : wFld c i f x K) : ∃ z, K z ∧ wFld c i f x (fun u => u = z) := by
  unfold wFld at h ⊢
  split at h
  case h_2 => exact h.elim
  split at h
  case h_2 => exact h.elim
  split at h
  case h_2 => exact h.elim
  split at h
  case h_2 => exact h.elim
  split at h
  case h_2 => exact h.elim
  split at h
  case h_2 => exact h.elim
  exact ⟨_, h, rfl⟩

theorem wAssert_det {i : TI} {t : TypeId} {ok : Bool} {x : Option AV} {K : AV → Prop} (h : wAssert i t ok x K) : ∃ z, K z ∧ wAssert i t ok x (fun u => u = z) := by
  unfold wAssert at h ⊢
  split at h
  case h_1 => exact h.elim
  split at h
  · split at h
    · cases ok <;> exact ⟨_, h, rfl⟩
    · split at h
      case h_2 => exact h.elim
      split at h
      case h_2 => exact h.elim
      exact ⟨_, h, rfl⟩
  · split at h
    case h_2 => exact h.elim
    split at h
    case h_2 => exact h.elim
    exact ⟨_, h, rfl⟩
  · exact h.elim

theorem wNil_det {x : Option AV} {K : AV → Prop} (h : wNil x K) : ∃ z, K z ∧ wNil x (fun u => u = z) := by
  unfold wNil at h ⊢
  split at h
  · exact ⟨_, h, rfl⟩
  · exact ⟨_, h, rfl⟩
  · exact ⟨_, h, rfl⟩
  · exact h.elim

theorem wBuild_det {c : Ctx} {ρ : Operand → Option AV} {i : TI} {parts : List (Nat × Operand)} {K : AV → Prop} (h : wBuild c ρ i parts K) : ∃ z, K z ∧ wBuild c ρ i parts (fun u => u = z) := by
  unfold wBuild at h ⊢
  split at h
  · split at h
    case h_2 => exact h.elim
    split at h
    case h_2 => exact h.elim
    split at h
    case h_2 => exact h.elim
    exact ⟨_, h, rfl⟩
  · split at h
    case h_2 => exact h.elim
    split at h
    case h_2 => exact h.elim
    split at h
    case h_2 => exact h.elim
    split at h
    case h_2 => exact h.elim
    exact ⟨_, h, rfl⟩
  · exact h.elim

theorem wFunc_det {fn : Fn} {first : Array Operand} {ns : Option (List Nat)} {K : AV → Prop} (h : wFunc fn first ns K) : ∃ z, K z ∧ wFunc fn first ns (fun u => u = z) := by
  unfold wFunc at h ⊢
  split at h
  case h_2 => exact h.elim
  split at h
  case h_2 => exact h.elim
  split at h
  case h_2 => exact h.elim
  exact ⟨_, h, rfl⟩

theorem wSlice_det {c : Ctx} {i : TI} {ρ : Operand → Option AV} {x : Option AV} {lo hi : Option Operand} {K : AV → Prop} (h : wSlice c i ρ x lo hi K) : ∃ z, K z ∧ wSlice c i ρ x lo hi (fun u => u = z) := by
  unfold wSlice at h ⊢
  split at h
  case h_1 => exact h.elim
  split at h
  · split at h
    case h_2 => exact h.elim
    split at h
    case h_2 => exact h.elim
    exact ⟨_, h.2, h.1, rfl⟩
  · split at h
    case h_2 => exact h.elim
    split at h
    case h_2 => exact h.elim
    split at h
    case h_2 => exact h.elim
    split at h
    case h_2 => exact h.elim
    exact ⟨_, h.2, h.1, rfl⟩
  · exact h.elim

theorem WOpQ_det {c : Ctx} {o : Oper} {ρ : Operand → Option AV} {K : AV → Prop} (h : WOpQ c o ρ K) : ∃ z, K z ∧ WOpQ c o ρ (fun u => u = z) := by
  unfold WOpQ at h ⊢
  split at h
  · exact wValQ_det h
  · exact wValQ_det h
  · split at h
    · rename_i b hb
      cases b with
      | false => obtain ⟨z, h1, h2⟩ := wValQ_det h; exact ⟨z, h1, by simp only [hb]; exact h2⟩
      | true => obtain ⟨z, h1, h2⟩ := wValQ_det h; exact ⟨z, h1, by simp only [hb]; exact h2⟩
    · exact h.elim
  · exact wBin_det h
  · split at h
    · rename_i b hb; exact ⟨_, h, by simp only [hb]⟩
    · rename_i k n hb; exact ⟨_, h, by simp only [hb]⟩
    · exact h.elim
  · split at h
    case h_2 => exact h.elim
    rename_i l hl
    split at h
    case h_2 => exact h.elim
    rename_i v hv
    split at h
    case h_2 => exact h.elim
    rename_i hn
    exact ⟨v, h, by simp only [hl, hv, hn]⟩
  · split at h
    case h_2 => exact h.elim
    rename_i i hi
    unfold wField at h
    split at h
    case h_2 => exact h.elim
    rename_i fs hk
    split at h
    case h_2 => exact h.elim
    rename_i off ft nm hf
    split at h
    case h_2 => exact h.elim
    rename_i fi hfi
    split at h
    case h_2 => exact h.elim
    rename_i hz
    split at h
    · rename_i n p hx; exact ⟨_, h, by simp only [hi, wField, hk, hf, hfi, hz, hx, wValQ]⟩
    · rename_i l hx
      split at h
      case h_2 => exact h.elim
      rename_i hb
      split at h
      case h_2 => exact h.elim
      rename_i y hy
      exact ⟨_, h, by simp only [hi, wField, hk, hf, hfi, hz, hx, hb, hy, wValQ]⟩
    · exact h.elim
  · split at h
    case h_2 => exact h.elim
    rename_i i hi
    unfold wIndexQ at h
    split at h
    case h_2 => exact h.elim
    rename_i k j hj
    split at h
    · rename_i cnt e hk
      split at h
      case h_2 => exact h.elim
      rename_i fi hfi
      split at h
      case h_2 => exact h.elim
      rename_i n p hx
      exact ⟨_, h.2, by simp only [hi, wIndexQ, hj, hk, hfi, hx]; first | exact ⟨h.1, rfl⟩ | exact ⟨h.1, trivial⟩⟩
    · rename_i e hk
      split at h
      case h_2 => exact h.elim
      rename_i fi hfi
      split at h
      case h_2 => exact h.elim
      rename_i sz xs hx
      split at h
      case h_2 => exact h.elim
      rename_i hsz
      exact ⟨_, h.2, by simp only [hi, wIndexQ, hj, hk, hfi, hx, hsz]; first | exact ⟨h.1, rfl⟩ | exact ⟨h.1, trivial⟩⟩
    · exact h.elim
  · split at h
    case h_2 => exact h.elim
    rename_i t x e1 e2
    split at h
    case h_2 => exact h.elim
    rename_i i hi
    unfold wLenQ at h
    unfold wLenQ
    split at h
    · split at h
      · exact ⟨_, h, rfl⟩
      · exact h.elim
    · split at h
      · exact ⟨_, h, rfl⟩
      · exact ⟨_, h, rfl⟩
      · exact h.elim
    · split at h
      case h_2 => exact h.elim
      split at h
      case h_2 => exact h.elim
      exact ⟨_, h, rfl⟩
    · exact h.elim
  · split at h
    case h_2 => exact h.elim
    split at h
    case h_2 => exact h.elim
    exact wConv_det h
  · split at h
    case h_2 => exact h.elim
    exact wIdx_det h
  · split at h
    case h_2 => exact h.elim
    exact wFld_det h
  · split at h
    case h_2 => exact h.elim
    split at h
    case h_1 => exact h.elim
    split at h
    case h_2 => exact h.elim
    exact ⟨_, h, rfl⟩
  · split at h
    case h_2 => exact h.elim
    exact wAssert_det h
  · exact wNil_det h
  · split at h
    case h_2 => exact h.elim
    exact wBuild_det h
  · exact wFunc_det h
  · split at h
    case h_2 => exact h.elim
    split at h
    case h_2 => exact h.elim
    exact wSlice_det h
  · exact h.elim

/-- One operation of such a statement. -/
def WStep (c : Ctx) (o : Oper) (env : Env) (S : List Blk) (tgt : Nat) (K : Ent → Prop) : Prop :=
  match o.op with
  | .load t a => match c.tt t with
    | some i => match evalA c env a with
      | some (.ptr n p) => match S[n]? with
        | some (.var X) => match AV.getP X p with
          | some y => match shapeB i y && notTup y with
            | true => K ⟨some y, [], [n]⟩
            | false => False
          | none => False
        | _ => False
      | some (.d (.cptr X)) => match shapeB i (.d X) with
        | true => K ⟨some (.d X), [], []⟩
        | false => False
      | _ => False
    | none => False
  | .store t a b => match c.tt t with
    | some i => match evalA c env a, evalA c env b with
      | some (.ptr n p), some v => match S[n]? with
        | some (.var X) => match (AV.getP X p).isSome && notTup v && shapeB i v with
          | true => match AV.setP X p v with
            | some X' => K ⟨none, [(n, .var X')], [n]⟩
            | none => False
          | false => False
        | _ => False
      | _, _ => False
    | none => False
  | .alloc t => match c.tt t with
    | some i => match i.zero with
      | some z => K ⟨some (.ptr tgt []), [(tgt, .var (.d z))], [tgt]⟩
      | none => False
    | none => False
  | .box _ a => match evalA c env a with
    | some v => match notTup v with
      | true => K ⟨some (.ptr tgt []), [(tgt, .var v)], [tgt]⟩
      | false => False
    | none => False
  | .call { callee := .value fo, args, argTypes := _ } => match evalA c env fo with
    | some (.fn f []) => match mapO (fun a => onlyD (evalA c env a)) args.toList with
      | some zs => ∃ v, CallR c f zs [] (fun r S' => r = v ∧ S' = []) ∧ match namesV v with
        | [] => K ⟨some v, [], []⟩
        | _ => False
      | none => False
    | _ => False
  | _ => WOpQ c o (evalA c env) fun x => K ⟨some x, [], []⟩

theorem WStep_ok {c : Ctx} {o : Oper} {env : Env} {S : List Blk} {tgt : Nat} {K : Ent → Prop} (h : WStep c o env S tgt K) :
    ∃ e : Ent, K e ∧ StepD c o (evalA c env) S tgt e.x e.δ e.R ∧ (makesB o = true → e.δ ≠ [] → tgt ∈ e.R) := by
  have quiet : WOpQ c o (evalA c env) (fun x => K ⟨some x, [], []⟩) → ∃ e : Ent, K e ∧ StepD c o (evalA c env) S tgt e.x e.δ e.R ∧ (makesB o = true → e.δ ≠ [] → tgt ∈ e.R) := by
    intro hq
    obtain ⟨z, h1, h2⟩ := WOpQ_det hq
    exact ⟨⟨some z, [], []⟩, h1, .quiet h2, fun _ h => absurd rfl h⟩
  unfold WStep at h
  split at h
  · rename_i t a ho
    split at h
    case h_2 => exact h.elim
    rename_i i hi
    split at h
    · rename_i n p hx
      split at h
      case h_2 => exact h.elim
      rename_i X hX
      split at h
      case h_2 => exact h.elim
      rename_i y hy
      split at h
      case h_2 => exact h.elim
      rename_i hb
      simp only [Bool.and_eq_true] at hb
      exact ⟨_, h, .load ho hi hx hX hy hb.1 hb.2, fun _ h => absurd rfl h⟩
    · rename_i X hx
      split at h
      case h_2 => exact h.elim
      rename_i hb
      exact ⟨_, h, .loadC ho hi hx hb, fun _ h => absurd rfl h⟩
    · exact h.elim
  · rename_i t a b ho
    split at h
    case h_2 => exact h.elim
    rename_i i hi
    split at h
    case h_2 => exact h.elim
    rename_i n p v hx hv
    split at h
    case h_2 => exact h.elim
    rename_i X hX
    split at h
    case h_2 => exact h.elim
    rename_i hb
    simp only [Bool.and_eq_true] at hb
    split at h
    case h_2 => exact h.elim
    rename_i X' hX'
    exact ⟨_, h, .store ho hi hx hX hb.1.1 hv hb.1.2 hb.2 hX', fun hm => by simp [makesB, ho] at hm⟩
  · rename_i t ho
    split at h
    case h_2 => exact h.elim
    rename_i i hi
    split at h
    case h_2 => exact h.elim
    rename_i z hz
    exact ⟨_, h, .alloc ho hi hz, fun _ _ => by simp⟩
  · rename_i t a ho
    split at h
    case h_2 => exact h.elim
    rename_i v hv
    split at h
    case h_2 => exact h.elim
    rename_i hn
    exact ⟨_, h, .box ho hv hn, fun _ _ => by simp⟩
  · rename_i fo args ts ho
    split at h
    case h_2 => exact h.elim
    rename_i f hf
    split at h
    case h_2 => exact h.elim
    rename_i zs hzs
    obtain ⟨v, h1, h2⟩ := h
    split at h2
    case h_2 => exact h2.elim
    rename_i hv
    exact ⟨_, h2, .call ho hf hzs h1 hv, fun _ h => absurd rfl h⟩
  · exact quiet h

def WDr (c : Ctx) (N : Nat) (ops : List Oper) (base : Nat) : Nat → List Oper → Env → List Blk → List (Oper × Ent) → (Env → List Blk → List (Oper × Ent) → Prop) → Prop
  | _, [], env, S, acc, K => K env S acc
  | i, o :: r, env, S, acc, K =>
    match boundO N o.dst with
    | false => False
    | true =>
      match o.guard with
      | none => WStep c o env S (base + i) fun e => WDr c N ops base (i + 1) r (putO o.dst e.x env) (app e.δ S) ((o, e) :: acc) K
      | some (j, want) =>
        match (ops[j]?).bind (·.dst) with
        | none => False
        | some t => match env t with
          | some (.d (.bool b)) =>
            @Bool.rec (fun _ => Prop)
              (match want with
                | false => WStep c o (env.put t (some (.d (.bool false)))) S (base + i) fun e => WDr c N ops base (i + 1) r (putO o.dst e.x (env.put t (some (.d (.bool false))))) (app e.δ S) ((o, e) :: acc) K
                | true => WDr c N ops base (i + 1) r (putO o.dst (some (.tup [])) (env.put t (some (.d (.bool false))))) S ((o, ⟨some (.tup []), [], []⟩) :: acc) K)
              (match want with
                | true => WStep c o (env.put t (some (.d (.bool true)))) S (base + i) fun e => WDr c N ops base (i + 1) r (putO o.dst e.x (env.put t (some (.d (.bool true))))) (app e.δ S) ((o, e) :: acc) K
                | false => WDr c N ops base (i + 1) r (putO o.dst (some (.tup [])) (env.put t (some (.d (.bool true))))) S ((o, ⟨some (.tup []), [], []⟩) :: acc) K) b
          | some (.tup []) => WDr c N ops base (i + 1) r (putO o.dst (some (.tup [])) env) S ((o, ⟨some (.tup []), [], []⟩) :: acc) K
          | _ => False

theorem put_known_eq {env : Env} {t : Nat} {x : AV} (h : env t = some x) : env.put t (some x) = env := by
  funext s
  by_cases e : s = t
  · subst e; rw [Env.put_same, h]
  · rw [Env.put_ne _ _ e]

theorem WDr_ok {c : Ctx} {N : Nat} {ops : List Oper} {base : Nat} {K : Env → List Blk → List (Oper × Ent) → Prop} : ∀ (l : List Oper) (i : Nat) (env : Env) (S : List Blk) (acc : List (Oper × Ent)), WDr c N ops base i l env S acc K →
    ∃ L : List (Oper × Ent), L.map (·.1) = l ∧ SeqOk c N ops base i L (env, S) ∧ (∀ (m : Nat) o e, L[m]? = some (o, e) → makesB o = true → e.δ ≠ [] → base + (i + m) ∈ e.R) ∧
      K (foldE (fun _ => true) i L (env, S)).1 (foldE (fun _ => true) i L (env, S)).2 (L.reverse ++ acc)
  | [], i, env, S, acc, h => ⟨[], rfl, trivial, by simp, by unfold WDr at h; simpa [foldE] using h⟩
  | o :: l, i, env, S, acc, h => by
    have cons : ∀ (e : Ent), StepAt c ops base i o e (env, S) → boundO N o.dst = true → (makesB o = true → e.δ ≠ [] → base + i ∈ e.R) → WDr c N ops base (i + 1) l (putO o.dst e.x env) (app e.δ S) ((o, e) :: acc) K →
        ∃ L : List (Oper × Ent), L.map (·.1) = o :: l ∧ SeqOk c N ops base i L (env, S) ∧ (∀ (m : Nat) o e, L[m]? = some (o, e) → makesB o = true → e.δ ≠ [] → base + (i + m) ∈ e.R) ∧
          K (foldE (fun _ => true) i L (env, S)).1 (foldE (fun _ => true) i L (env, S)).2 (L.reverse ++ acc) := by
      intro e h1 hb h2 h3
      obtain ⟨L, g1, g2, g3, g4⟩ := WDr_ok l (i + 1) _ _ _ h3
      refine ⟨(o, e) :: L, by simp [g1], ⟨h1, hb, g2⟩, fun m o' e' hm => ?_, by simpa [foldE, act] using g4⟩
      cases m with
      | zero => simp at hm; obtain ⟨rfl, rfl⟩ := hm; simpa using h2
      | succ m =>
        have := g3 m o' e' (by simpa using hm)
        have e1 : i + 1 + m = i + (m + 1) := by omega
        rw [e1] at this
        exact this
    unfold WDr at h
    split at h
    case h_1 => exact h.elim
    rename_i hbd
    split at h
    · rename_i hg
      obtain ⟨e, h1, h2, h3⟩ := WStep_ok h
      exact cons e (by unfold StepAt; rw [hg]; exact h2) hbd h3 h1
    · rename_i j want hg
      split at h
      case h_1 => exact h.elim
      rename_i t ht
      split at h
      · rename_i b hb
        cases b with
        | false =>
          simp only at h
          rw [put_known_eq hb] at h
          cases want with
          | false =>
            obtain ⟨e, h1, h2, h3⟩ := WStep_ok h
            exact cons e (by unfold StepAt; rw [hg]; exact ⟨t, ht, .inl ⟨false, hb, by rw [if_pos rfl]; exact h2⟩⟩) hbd h3 h1
          | true => exact cons ⟨some (.tup []), [], []⟩ (by unfold StepAt; rw [hg]; exact ⟨t, ht, .inl ⟨false, hb, by rw [if_neg (by simp)]; exact ⟨rfl, rfl, rfl⟩⟩⟩) hbd (fun _ h => absurd rfl h) h
        | true =>
          simp only at h
          rw [put_known_eq hb] at h
          cases want with
          | true =>
            obtain ⟨e, h1, h2, h3⟩ := WStep_ok h
            exact cons e (by unfold StepAt; rw [hg]; exact ⟨t, ht, .inl ⟨true, hb, by rw [if_pos rfl]; exact h2⟩⟩) hbd h3 h1
          | false => exact cons ⟨some (.tup []), [], []⟩ (by unfold StepAt; rw [hg]; exact ⟨t, ht, .inl ⟨true, hb, by rw [if_neg (by simp)]; exact ⟨rfl, rfl, rfl⟩⟩⟩) hbd (fun _ h => absurd rfl h) h
      · rename_i hb
        exact cons ⟨some (.tup []), [], []⟩ (by unfold StepAt; rw [hg]; exact ⟨t, ht, .inr ⟨hb, rfl, rfl, rfl⟩⟩) hbd (fun _ h => absurd rfl h) h
      · exact h.elim

/-- How many places are kept for blocks to come. -/
def keepN (ops : List Oper) : Nat :=
  match ops.any makesB with
  | true => ops.length
  | false => 0

def WDraw (c : Ctx) (N : Nat) (ops : Array Oper) (env : Env) (S : List Blk) (K : Env → List Blk → Prop) : Prop :=
  c.P.follows .mixedOrders = true ∧
  WDr c N ops.toList S.length 0 ops.toList env (S ++ List.replicate (keepN ops.toList) .dead) [] fun env' S' acc =>
    pairsOk ops.toList S.length (allClos ops.toList []) 0 acc.reverse = true ∧ K env' S'

theorem wdraw_sound {B : Base} {N id : Nat} {ops : Array Oper} {env : Env} {S : List Blk} {K : Env → List Blk → Prop} (hc : B.c.ok) (h : WDraw B.c N ops env S K) {μ G a w} (st : At1 B N env S μ G a w) :
    (Code.region id ops true).wp B.c.P (fun e a w => e = .normal ∧ ∃ env' S', K env' S' ∧ Here B N env' S' a w) a w := by
  obtain ⟨hm, hd⟩ := h
  obtain ⟨L, h1, h2, h3, h4, h5⟩ := WDr_ok _ _ _ _ _ hd
  have hops : (L.map (·.1)).toArray = ops := by rw [h1, Array.toArray_toList]
  have hLl : L.length = ops.size := by rw [← List.length_map (f := fun x : Oper × Ent => x.1), h1]; simp
  rw [List.append_nil, List.reverse_reverse] at h4
  obtain ⟨μ1, r1, r2, r3⟩ := st.st.reserve (keepN ops.toList)
  have hdn : Next w { w with drawn := w.drawn + 1 } none := ⟨rfl, rfl, rfl, Nat.le_refl _, fun _ _ _ => rfl⟩
  have st1 : At1 B N env (S ++ List.replicate (keepN ops.toList) .dead) μ1 G a { w with drawn := w.drawn + 1 } :=
    ⟨r1.quiet hdn, fun t x hx => let ⟨v, g1, g2⟩ := st.env t x hx; ⟨v, g1, (r3.ra g2).mono (Nat.le_refl _) (fun _ _ _ => rfl) (fun _ _ h => h) (fun _ _ _ _ h => h)⟩, st.n, st.d⟩
  have keep : ∀ (i : Nat) o e, L[i]? = some (o, e) → makesB o = true → keepN ops.toList = ops.size ∧ i < ops.size := by
    intro i o e hi hmk
    have hlt : i < L.length := (List.getElem?_eq_some_iff.1 hi).1
    have hmem : o ∈ ops.toList := by rw [← h1]; exact List.mem_map.2 ⟨(o, e), List.mem_of_getElem? hi, rfl⟩
    refine ⟨?_, by omega⟩
    unfold keepN
    rw [List.any_eq_true.2 ⟨o, hmem, hmk⟩]
    simp
  obtain ⟨S0, hS0⟩ : ∃ S0, S0 = S ++ List.replicate (keepN ops.toList) .dead := ⟨_, rfl⟩
  rw [← hS0] at h2 h5 st1
  refine wp_region_any hm ?_
  rw [← hops]
  rw [← h1] at h2 h4
  refine anyOrder (base := S.length) hc h2 (by rw [h1] at h4 ⊢; exact h4) st.st.k0 (fun i o e hi hmk => ?_) (fun i o e hi hmk hne => by have := h3 i o e hi hmk hne; simpa using this) _ (fun a' w' hh => ⟨rfl, _, _, h5, hh⟩) _ _ a _ μ1 G ?_ ?_ ?_ ?_ ?_
  · obtain ⟨k1, k2⟩ := keep i o e hi hmk
    rw [hS0, List.getElem?_append_right (by omega), List.getElem?_replicate, if_pos (by rw [k1]; omega)]
  · simp
  · have : ∀ l : List Nat, (l.filter fun i => !(Array.replicate (L.map (·.1)).toArray.size false).getD i true).length ≤ l.length := fun l => List.length_filter_le _ _
    have := this (List.range L.length)
    simpa [undone] using this
  · intro j o hj hE
    by_cases hlt : j < L.length <;> simp [Array.getD, hlt] at hE
  · rw [foldE_ext (E' := fun _ => false) L 0 _ (fun j _ hj => by simp [Array.getD]), foldE_none]
    exact st1
  · intro i o e hi hmk _
    obtain ⟨k1, k2⟩ := keep i o e hi hmk
    exact r2 _ (by omega) (by rw [k1]; omega)

/-- All rules. -/
def R1 : OpRule := ⟨WOp, fun _ _ _ _ _ _ hc h => wop_sound hc h, fun c _ N ops env S K => WDraw c N ops env S K, fun _ _ _ _ _ _ _ hc h _ _ _ _ st => wdraw_sound hc h st⟩

theorem brec {b : Bool} {A A' : Prop} (ht : b = true → A) (hf : b = false → A') : @Bool.rec (fun _ => Prop) A' A b := by
  cases b with
  | true => exact ht rfl
  | false => exact hf rfl

end Go.Ab
