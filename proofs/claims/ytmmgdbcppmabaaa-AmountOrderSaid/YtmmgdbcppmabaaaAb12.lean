/-
  An own logic over the kit's 'Calls' (Ab12): all operations in one predicate, and a function's contract from its code.
-/
import Derived.Test.YtmmgdbcppmabaaaAb11
namespace Go.Ab
open Go.RowKit

def wVal (K : Option AV → List Blk → Prop) (S : List Blk) : Option AV → Prop
  | some v => K (some v) S
  | none => False

def wLoad (i : TI) (S : List Blk) (x : Option AV) (K : Option AV → List Blk → Prop) : Prop :=
  match x with
  | some (.ptr n p) => match S[n]? with
    | some (.var X) => match AV.getP X p with
      | some y => match shapeB i y && notTup y with
        | true => K (some y) S
        | false => False
      | none => False
    | _ => False
  | some (.d (.cptr X)) => match shapeB i (.d X) with
    | true => K (some (.d X)) S
    | false => False
  | _ => False

def wStore (i : TI) (S : List Blk) (x v : Option AV) (K : Option AV → List Blk → Prop) : Prop :=
  match x, v with
  | some (.ptr n p), some v => match S[n]? with
    | some (.var X) => match (AV.getP X p).isSome && notTup v && shapeB i v with
      | true => match AV.setP X p v with
        | some X' => K none (S.set n (.var X'))
        | none => False
      | false => False
    | _ => False
  | _, _ => False

def wField (c : Ctx) (i : TI) (f : Nat) (S : List Blk) (x : Option AV) (K : Option AV → List Blk → Prop) : Prop :=
  match i.k with
  | .struct fs => match fs[f]? with
    | some (off, ft, _) => match c.tt ft with
      | some fi => match Nat.beq fi.size 0 with
        | false => match x with
          | some (.ptr n p) => K (some (.ptr n (p ++ [.fld f off]))) S
          | some (.d (.cptr (.agg l))) => match Nat.beq (D.sizes (l.take f)) off with
            | true => match l[f]? with
              | some y => K (some (.d (.cptr y))) S
              | none => False
            | false => False
          | _ => False
        | true => False
      | none => False
    | none => False
  | _ => False

def wIndexAddr (c : Ctx) (k0 : Nat) (i : TI) (S : List Blk) (x ix : Option AV) (K : Option AV → List Blk → Prop) : Prop :=
  match ix with
  | some (.d (.int _ j)) => match i.k with
    | .arr cnt e => match c.tt e with
      | some fi => match x with
        | some (.ptr n p) => (0 ≤ j ∧ j < cnt) ∧ K (some (.ptr n (p ++ [.ix j.toNat fi.size cnt]))) S
        | _ => False
      | none => False
    | .slice e => match c.tt e with
      | some fi => match x with
        | some v => match v.toD k0 S with
          | some (.sl sz xs, _) => match v with
            | .vw .. => False
            | _ => match Nat.beq fi.size sz with
              | true => (0 ≤ j ∧ j < xs.length) ∧ K (some (.d (.cptr (xs.getD j.toNat .nilP)))) S
              | false => False
          | _ => False
        | none => False
      | none => False
    | _ => False
  | _ => False

def wBuild (c : Ctx) (env : Env) (i : TI) (parts : List (Nat × Operand)) (S : List Blk) (K : Option AV → List Blk → Prop) : Prop :=
  match i.k with
  | .struct fs => match i.zero with
    | some z => match z.isAgg && allKnown c fs with
      | true => match fillA c env (stepOf c fs) parts (.d z) with
        | some x => K (some x) S
        | none => False
      | false => False
    | none => False
  | .arr n e => match c.tt e with
    | some fi => match i.zero with
      | some z => match z.isAgg with
        | true => match fillA c env (stepArr n fi.size) parts (.d z) with
          | some x => K (some x) S
          | none => False
        | false => False
      | none => False
    | none => False
  | _ => False

def wLen (k0 : Nat) (i : TI) (S : List Blk) (x : Option AV) (K : Option AV → List Blk → Prop) : Prop :=
  match i.k with
  | .str => match x with
    | some (.d (.str s)) => K (some (.d (.int .i64 s.size))) S
    | _ => False
  | .slice _ => match x with
    | some (.vw _ _ _ len _ _) => K (some (.d (.int .i64 len))) S
    | some v => match v.toD k0 S with
      | some (.sl _ xs, _) => K (some (.d (.int .i64 xs.length))) S
      | _ => False
    | none => False
  | .arr n _ => match x with
    | some v => match notTup v with
      | true => K (some (.d (.int .i64 n))) S
      | false => False
    | none => False
  | _ => False

/-- An index into data or into an array in the store. -/
def wIndexQ (c : Ctx) (i : TI) (x ix : Option AV) (K : AV → Prop) : Prop :=
  match ix with
  | some (.d (.int _ j)) => match i.k with
    | .arr cnt e => match c.tt e with
      | some fi => match x with
        | some (.ptr n p) => (0 ≤ j ∧ j < cnt) ∧ K (.ptr n (p ++ [.ix j.toNat fi.size cnt]))
        | _ => False
      | none => False
    | .slice e => match c.tt e with
      | some fi => match x with
        | some (.d (.sl sz xs)) => match Nat.beq fi.size sz with
          | true => (0 ≤ j ∧ j < xs.length) ∧ K (.d (.cptr (xs.getD j.toNat .nilP)))
          | false => False
        | _ => False
      | none => False
    | _ => False
  | _ => False

def wLenQ (i : TI) (x : Option AV) (K : AV → Prop) : Prop :=
  match i.k with
  | .str => match x with
    | some (.d (.str s)) => K (.d (.int .i64 s.size))
    | _ => False
  | .slice _ => match x with
    | some (.vw _ _ _ len _ _) => K (.d (.int .i64 len))
    | some (.d (.sl _ xs)) => K (.d (.int .i64 xs.length))
    | _ => False
  | .arr n _ => match x with
    | some v => match notTup v with
      | true => K (.d (.int .i64 n))
      | false => False
    | none => False
  | _ => False

def wValQ (K : AV → Prop) : Option AV → Prop
  | some v => K v
  | none => False

/-- The operations that neither look into the store nor change it. -/
def WOpQ (c : Ctx) (o : Oper) (ρ : Operand → Option AV) (K : AV → Prop) : Prop :=
  match o.op with
  | .move x => wValQ K (ρ x)
  | .assign x => wValQ K (ρ x)
  | .pick q x y => match ρ q with
    | some (.d (.bool b)) => @Bool.rec (fun _ => Prop) (wValQ K (ρ y)) (wValQ K (ρ x)) b
    | _ => False
  | .binOp op t x y _ => wBin c op t (ρ x) (ρ y) K
  | .unOp op _ x => match op, ρ x with
    | .not, some (.d (.bool b)) => K (.d (.bool (!b)))
    | .neg, some (.d (.int k n)) => K (.d (.int k (k.wrap (0 - n))))
    | _, _ => False
  | .extract x i => match ρ x with
    | some (.tup l) => match l[i]? with
      | some v => match notTup v with
        | true => K v
        | false => False
      | none => False
    | _ => False
  | .fieldAddr t x f => match c.tt t with
    | some i => wField c i f [] (ρ x) fun v _ => wValQ K v
    | none => False
  | .indexAddr t x ix => match c.tt t with
    | some i => wIndexQ c i (ρ x) (ρ ix) K
    | none => False
  | .call { callee := .builtin .len, args, argTypes } => match argTypes.toList, args.toList with
    | [t], [x] => match c.tt t with
      | some i => wLenQ i (ρ x) K
      | none => False
    | _, _ => False
  | _ => False

def quietB (o : Oper) : Bool :=
  match o.op with
  | .move _ => true
  | .assign _ => true
  | .pick .. => true
  | .binOp .. => true
  | .unOp .. => true
  | .extract .. => true
  | .fieldAddr .. => true
  | _ => false

def WOp (c : Ctx) (k0 : Nat) (o : Oper) (env : Env) (S : List Blk) (K : Option AV → List Blk → Prop) : Prop :=
  match quietB o with
  | true => WOpQ c o (evalA c env) fun x => K (some x) S
  | false => match o.op with
    | .alloc t => match c.tt t with
      | some i => match i.zero with
        | some z => K (some (.ptr S.length [])) (S ++ [.var (.d z)])
        | none => False
      | none => False
    | .box _ x => match evalA c env x with
      | some v => match notTup v with
        | true => K (some (.ptr S.length [])) (S ++ [.var v])
        | false => False
      | none => False
    | .load t x => match c.tt t with
      | some i => wLoad i S (evalA c env x) K
      | none => False
    | .store t x y => match c.tt t with
      | some i => wStore i S (evalA c env x) (evalA c env y) K
      | none => False
    | .indexAddr t x ix => match c.tt t with
      | some i => wIndexAddr c k0 i S (evalA c env x) (evalA c env ix) K
      | none => False
    | .build t parts => match c.tt t with
      | some i => wBuild c env i parts.toList S K
      | none => False
    | .call { callee := .value fo, args, argTypes := _ } => wCall c k0 env S fo args.toList fun r S' => K (some r) S'
    | .call { callee := .builtin .len, args, argTypes } => match argTypes.toList, args.toList with
      | [t], [x] => match c.tt t with
        | some i => wLen k0 i S (evalA c env x) K
        | none => False
      | _, _ => False
    | _ => False

section
variable {B : Base} {N : Nat} {o : Oper} {env : Env} {S : List Blk} {K : Option AV → List Blk → Prop}

theorem wVal_some {x : Option AV} (h : wVal K S x) : ∃ v, x = some v ∧ K (some v) S := by
  cases x with
  | none => exact h.elim
  | some v => exact ⟨v, rfl, h⟩

theorem rule_len {i : TI} {t : TypeId} {x : Operand} (hc : B.c.ok) (ho : o.op = .call { callee := .builtin .len, args := #[x], argTypes := #[t] }) (hi : B.c.tt t = some i) (h : wLen B.k0 i S (evalA B.c env x) K) : OpsTo B N o env S K := by
  obtain ⟨⟨d, h1, h2⟩, _⟩ := hc t i hi
  have run : ∀ (a : Act) (w : World) (v : Value), (Builtin.len_ #[t] o.type #[a.eval x]).run B.c.P w = .ok v w → (execOp a.eval o).run B.c.P w = .ok (.value v) w := by
    intro a w v hv
    simp only [execOp, ho, resolve, Sem.run_bind, Sem.run_pure, Result.andThen_ok, invoke, builtin]
    have : (Array.map a.eval #[x]) = #[a.eval x] := by simp
    rw [this, hv]
    rfl
  unfold wLen at h
  split at h
  · rename_i hk
    split at h
    · rename_i s hx
      refine opsTo_pure h fun μ G a w st => ⟨_, run a w _ ?_, VD.int.ra⟩
      have := (evalA_sound st hx).vd.str_inv
      rw [hk] at h2
      cases d <;> simp [tkOf] at h2
      simp [Builtin.len_, run_underlying h1, this, goInt]
    · exact h.elim
  · rename_i e hk
    split at h
    · rename_i n p lo len cnt sz hx
      refine opsTo_pure h fun μ G a w st => ⟨_, run a w _ ?_, VD.int.ra⟩
      have hva := (evalA_sound st hx).va (fun l e => by cases e)
      rcases hva.inv with ⟨h3, _⟩ | ⟨_, h3, _⟩
      · simp [AV.isAgg] at h3
      · rw [hk] at h2
        cases d <;> simp [tkOf] at h2
        generalize a.eval x = q at h3
        cases h3
        simp [Builtin.len_, run_underlying h1, goInt]
    · rename_i v _ hx
      split at h
      · rename_i sz xs S1 hv
        have hnt : ∀ l, v ≠ .tup l := fun l e => by subst e; simp [AV.toD] at hv
        refine opsTo_pure h fun μ G a w st => ⟨_, run a w _ ?_, VD.int.ra⟩
        have hva := (evalA_sound st hx).va hnt
        obtain ⟨G', g1, g2, g3⟩ := toD_sound v hv st.st hva.1
        have hvd : VD w G' (.sl sz xs) (a.eval x) := ⟨g3, by rw [hva.2]; exact (toD_isAgg hv).symm⟩
        rw [hk] at h2
        cases d <;> simp [tkOf] at h2
        rcases hvd.sl_inv with ⟨e1, rfl⟩ | ⟨b, cap, c, e1, _⟩
        · simp [Builtin.len_, run_underlying h1, e1, goInt]
        · simp [Builtin.len_, run_underlying h1, e1, goInt]
      · exact h.elim
    · exact h.elim
  · rename_i n e hk
    split at h
    case h_2 => exact h.elim
    rename_i v hx
    split at h
    case h_2 => exact h.elim
    refine opsTo_pure h fun μ G a w st => ⟨_, run a w _ ?_, VD.int.ra⟩
    rw [hk] at h2
    cases d <;> simp [tkOf] at h2
    obtain ⟨rfl, rfl⟩ := h2
    simp [Builtin.len_, run_underlying h1, goInt]
  · exact h.elim

theorem wValQ_some {x : Option AV} {K : AV → Prop} (h : wValQ K x) : ∃ v, x = some v ∧ K v := by
  cases x with
  | none => exact h.elim
  | some v => exact ⟨v, rfl, h⟩

theorem wopQ_sound (hc : B.c.ok) (h : WOpQ B.c o (evalA B.c env) fun x => K (some x) S) : OpsTo B N o env S K := by
  unfold WOpQ at h
  split at h
  · rename_i x ho
    obtain ⟨v, h1, h2⟩ := wValQ_some h
    exact rule_move (.inl ho) h1 h2
  · rename_i x ho
    obtain ⟨v, h1, h2⟩ := wValQ_some h
    exact rule_move (.inr ho) h1 h2
  · rename_i q x y ho
    split at h
    · rename_i b hb
      cases b with
      | false =>
        obtain ⟨v, h1, h2⟩ := wValQ_some h
        exact rule_pick (b := false) ho hb h1 h2
      | true =>
        obtain ⟨v, h1, h2⟩ := wValQ_some h
        exact rule_pick (b := true) ho hb h1 h2
    · exact h.elim
  · rename_i op t x y yt ho
    exact wBin_sound hc ho h
  · rename_i op t x ho
    split at h
    · rename_i b hx
      exact rule_un ho rfl hx h
    · rename_i k n hx
      exact rule_neg ho hx h
    · exact h.elim
  · rename_i x i ho
    split at h
    case h_2 => exact h.elim
    rename_i l hl
    split at h
    case h_2 => exact h.elim
    rename_i v hv
    split at h
    case h_2 => exact h.elim
    rename_i hn
    exact rule_extract ho hl hv hn h
  · rename_i t x f ho
    split at h
    case h_2 => exact h.elim
    rename_i i hi
    unfold wField at h
    split at h
    case h_2 => exact h.elim
    rename_i fs hk
    split at h
    case h_2 => exact h.elim
    rename_i off ft nm hf
    split at h
    case h_2 => exact h.elim
    rename_i fi hfi
    split at h
    case h_2 => exact h.elim
    rename_i hz
    split at h
    · rename_i n p hx
      exact rule_fieldAddr hc ho hi hk hf hfi hz hx h
    · rename_i l hx
      split at h
      case h_2 => exact h.elim
      rename_i hb
      split at h
      case h_2 => exact h.elim
      rename_i y hy
      exact rule_fieldAddrC hc ho hi hk hf hfi hz hx hb hy h
    · exact h.elim
  · rename_i t x ix ho
    split at h
    case h_2 => exact h.elim
    rename_i i hi
    unfold wIndexQ at h
    split at h
    case h_2 => exact h.elim
    rename_i k j hj
    split at h
    · rename_i cnt e hk
      split at h
      case h_2 => exact h.elim
      rename_i fi hfi
      split at h
      case h_2 => exact h.elim
      rename_i n p hx
      exact rule_indexAddr_arr hc ho hi hk hfi hx hj h.1.1 h.1.2 h.2
    · rename_i e hk
      split at h
      case h_2 => exact h.elim
      rename_i fi hfi
      split at h
      case h_2 => exact h.elim
      rename_i sz xs hv
      split at h
      case h_2 => exact h.elim
      rename_i hsz
      exact rule_indexAddr_sl hc ho hi hk hfi hsz hv rfl hj h.1.1 h.1.2 h.2
    · exact h.elim
  · rename_i args ts ho
    split at h
    case h_2 => exact h.elim
    rename_i t x e1 e2
    split at h
    case h_2 => exact h.elim
    rename_i i hi
    have e3 : args = #[x] := Array.ext' e2
    have e4 : ts = #[t] := Array.ext' e1
    subst e3; subst e4
    refine rule_len hc ho hi ?_
    unfold wLenQ at h
    unfold wLen
    split at h
    · split at h
      · exact h
      · exact h.elim
    · split at h
      · first | exact h | (rename_i hx; rw [hx]; exact h)
      · first | exact h | (rename_i sz xs hx; rw [hx]; exact h)
      · exact h.elim
    · split at h
      case h_2 => exact h.elim
      exact h
    · exact h.elim
  · exact h.elim

theorem wop_sound (hc : B.c.ok) (h : WOp B.c B.k0 o env S K) : OpsTo B N o env S K := by
  unfold WOp at h
  split at h
  · exact wopQ_sound hc h
  split at h
  · rename_i t ho
    split at h
    case h_2 => exact h.elim
    rename_i i hi
    split at h
    case h_2 => exact h.elim
    rename_i z hz
    exact rule_alloc hc ho hi hz h
  · rename_i t x ho
    split at h
    case h_2 => exact h.elim
    rename_i v hv
    split at h
    case h_2 => exact h.elim
    rename_i hn
    exact rule_box ho hv hn h
  · rename_i t x ho
    split at h
    case h_2 => exact h.elim
    rename_i i hi
    unfold wLoad at h
    split at h
    · rename_i n p hx
      split at h
      case h_2 => exact h.elim
      rename_i X hX
      split at h
      case h_2 => exact h.elim
      rename_i y hy
      split at h
      case h_2 => exact h.elim
      rename_i hb
      simp only [Bool.and_eq_true] at hb
      exact rule_load hc ho hi hx hX hy hb.1 hb.2 h
    · rename_i X hx
      split at h
      case h_2 => exact h.elim
      rename_i hb
      exact rule_loadC hc ho hi hx hb h
    · exact h.elim
  · rename_i t x y ho
    split at h
    case h_2 => exact h.elim
    rename_i i hi
    unfold wStore at h
    split at h
    case h_2 => exact h.elim
    rename_i n p v hx hv
    split at h
    case h_2 => exact h.elim
    rename_i X hX
    split at h
    case h_2 => exact h.elim
    rename_i hb
    simp only [Bool.and_eq_true] at hb
    split at h
    case h_2 => exact h.elim
    rename_i X' hX'
    exact rule_store hc ho hi hx hX hb.1.1 hv hb.1.2 hX' hb.2 h
  · rename_i t x ix ho
    split at h
    case h_2 => exact h.elim
    rename_i i hi
    unfold wIndexAddr at h
    split at h
    case h_2 => exact h.elim
    rename_i k j hj
    split at h
    · rename_i cnt e hk
      split at h
      case h_2 => exact h.elim
      rename_i fi hfi
      split at h
      case h_2 => exact h.elim
      rename_i n p hx
      exact rule_indexAddr_arr hc ho hi hk hfi hx hj h.1.1 h.1.2 h.2
    · rename_i e hk
      split at h
      case h_2 => exact h.elim
      rename_i fi hfi
      split at h
      case h_2 => exact h.elim
      rename_i v hv
      split at h
      case h_2 => exact h.elim
      rename_i sz xs S1 hD
      split at h
      · exact h.elim
      · rename_i hnv
        split at h
        case h_2 => exact h.elim
        rename_i hsz
        have hS : S1 = S := by
          cases v with
          | d x => simp only [AV.toD] at hD; cases hD; rfl
          | row n => simp only [AV.toD] at hD; split at hD <;> cases hD <;> rfl
          | vw n p lo len cnt sz' => exact (hnv _ _ _ _ _ _ rfl).elim
          | agg l => simp only [AV.toD] at hD; split at hD <;> cases hD
          | ptr | fn | tup => simp only [AV.toD] at hD; cases hD
        subst hS
        exact rule_indexAddr_sl hc ho hi hk hfi hsz hv hD hj h.1.1 h.1.2 h.2
    · exact h.elim
  · rename_i t parts ho
    split at h
    case h_2 => exact h.elim
    rename_i i hi
    unfold wBuild at h
    split at h
    · rename_i fs hk
      split at h
      case h_2 => exact h.elim
      rename_i z hz
      split at h
      case h_2 => exact h.elim
      rename_i hb
      simp only [Bool.and_eq_true] at hb
      split at h
      case h_2 => exact h.elim
      rename_i x hx
      exact rule_build hc ho hi hk hz hb.1 hb.2 hx h
    · rename_i n e hk
      split at h
      case h_2 => exact h.elim
      rename_i fi hfi
      split at h
      case h_2 => exact h.elim
      rename_i z hz
      split at h
      case h_2 => exact h.elim
      rename_i ha
      split at h
      case h_2 => exact h.elim
      rename_i x hx
      exact rule_buildA hc ho hi hk hfi hz ha hx h
    · exact h.elim
  · rename_i fo args ts ho
    exact rule_call ho h
  · rename_i args ts ho
    split at h
    case h_2 => exact h.elim
    rename_i t x e1 e2
    split at h
    case h_2 => exact h.elim
    rename_i i hi
    have e3 : args = #[x] := Array.ext' e2
    have e4 : ts = #[t] := Array.ext' e1
    subst e3; subst e4
    exact rule_len hc ho hi h
  · exact h.elim

end

end Go.Ab
