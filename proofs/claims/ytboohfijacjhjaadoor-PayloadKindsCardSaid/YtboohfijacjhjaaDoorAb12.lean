/-
  An own logic over the kit's 'Calls' (Ab12): all operations in one predicate, and a function's contract from its code.
-/
import Derived.Test.YtboohfijacjhjaaDoorAbO
namespace Go.Ab
open Go.RowKit

def wVal (K : Option AV → List Blk → Prop) (S : List Blk) : Option AV → Prop
  | some v => K (some v) S
  | none => False

def wLoad (i : TI) (S : List Blk) (x : Option AV) (K : Option AV → List Blk → Prop) : Prop :=
  match x with
  | some (.ptr n p) => match S[n]? with
    | some (.var X) => match AV.getP X p with
      | some y => match shapeB i y && notTup y with
        | true => K (some y) S
        | false => False
      | none => False
    | _ => False
  | some (.d (.cptr X)) => match shapeB i (.d X) with
    | true => K (some (.d X)) S
    | false => False
  | _ => False

def wStore (i : TI) (S : List Blk) (x v : Option AV) (K : Option AV → List Blk → Prop) : Prop :=
  match x, v with
  | some (.ptr n p), some v => match S[n]? with
    | some (.var X) => match (AV.getP X p).isSome && notTup v && shapeB i v with
      | true => match AV.setP X p v with
        | some X' => fS (S.set n (.var X')) fun S' => K none S'
        | none => False
      | false => False
    | _ => False
  | _, _ => False

def wField (c : Ctx) (i : TI) (f : Nat) (S : List Blk) (x : Option AV) (K : Option AV → List Blk → Prop) : Prop :=
  match i.k with
  | .struct fs => match fs[f]? with
    | some (off, ft, _) => match c.tt ft with
      | some fi => match Nat.beq fi.size 0 with
        | false => match x with
          | some (.ptr n p) => K (some (.ptr n (p ++ [.fld f off]))) S
          | some (.d (.cptr (.agg l))) => match Nat.beq (D.sizes (l.take f)) off with
            | true => match l[f]? with
              | some y => K (some (.d (.cptr y))) S
              | none => False
            | false => False
          | _ => False
        | true => False
      | none => False
    | none => False
  | _ => False

def wIndexAddr (c : Ctx) (k0 : Nat) (i : TI) (S : List Blk) (x ix : Option AV) (K : Option AV → List Blk → Prop) : Prop :=
  match ix with
  | some (.d (.int _ j)) => match i.k with
    | .arr cnt e => match c.tt e with
      | some fi => match x with
        | some (.ptr n p) => (0 ≤ j ∧ j < cnt) ∧ K (some (.ptr n (p ++ [.ix j.toNat fi.size cnt]))) S
        | _ => False
      | none => False
    | .slice e => match c.tt e with
      | some fi => match x with
        | some v => match v.toD k0 S with
          | some (.sl sz xs, _) => match v with
            | .vw .. => False
            | _ => match Nat.beq fi.size sz with
              | true => (0 ≤ j ∧ j < xs.length) ∧ K (some (.d (.cptr (xs.getD j.toNat .nilP)))) S
              | false => False
          | _ => False
        | none => False
      | none => False
    | _ => False
  | _ => False

def wBuild (c : Ctx) (ρ : Operand → Option AV) (i : TI) (parts : List (Nat × Operand)) (K : AV → Prop) : Prop :=
  match i.k with
  | .struct fs => match i.zero with
    | some z => match z.isAgg && allKnown c fs with
      | true => match fillA ρ (stepOf c fs) parts (.d z) with
        | some x => K x
        | none => False
      | false => False
    | none => False
  | .arr n e => match c.tt e with
    | some fi => match i.zero with
      | some z => match z.isAgg with
        | true => match fillA ρ (stepArr n fi.size) parts (.d z) with
          | some x => K x
          | none => False
        | false => False
      | none => False
    | none => False
  | _ => False

def wLen (k0 : Nat) (i : TI) (S : List Blk) (x : Option AV) (K : Option AV → List Blk → Prop) : Prop :=
  match i.k with
  | .str => match x with
    | some (.d (.str s)) => K (some (.d (.int .i64 s.size))) S
    | _ => False
  | .slice _ => match x with
    | some (.vw _ _ _ len _ _) => K (some (.d (.int .i64 len))) S
    | some v => match v.toD k0 S with
      | some (.sl _ xs, _) => K (some (.d (.int .i64 xs.length))) S
      | _ => False
    | none => False
  | .arr n _ => match x with
    | some v => match notTup v with
      | true => K (some (.d (.int .i64 n))) S
      | false => False
    | none => False
  | _ => False

/-- An index into data or into an array in the store. -/
def wIndexQ (c : Ctx) (i : TI) (x ix : Option AV) (K : AV → Prop) : Prop :=
  match ix with
  | some (.d (.int _ j)) => match i.k with
    | .arr cnt e => match c.tt e with
      | some fi => match x with
        | some (.ptr n p) => (0 ≤ j ∧ j < cnt) ∧ K (.ptr n (p ++ [.ix j.toNat fi.size cnt]))
        | _ => False
      | none => False
    | .slice e => match c.tt e with
      | some fi => match x with
        | some (.d (.sl sz xs)) => match Nat.beq fi.size sz with
          | true => (0 ≤ j ∧ j < xs.length) ∧ K (.d (.cptr (xs.getD j.toNat .nilP)))
          | false => False
        | _ => False
      | none => False
    | _ => False
  | _ => False

def wLenQ (i : TI) (x : Option AV) (K : AV → Prop) : Prop :=
  match i.k with
  | .str => match x with
    | some (.d (.str s)) => K (.d (.int .i64 s.size))
    | _ => False
  | .slice _ => match x with
    | some (.vw _ _ _ len _ _) => K (.d (.int .i64 len))
    | some (.d (.sl _ xs)) => K (.d (.int .i64 xs.length))
    | _ => False
  | .arr n _ => match x with
    | some v => match notTup v with
      | true => K (.d (.int .i64 n))
      | false => False
    | none => False
  | _ => False

def isU8 : TK → Bool
  | .int .u8 => true
  | _ => false
def isIf : TK → Bool
  | .iface _ => true
  | _ => false

def wConv (c : Ctx) (i j : TI) (x : Option AV) (K : AV → Prop) : Prop :=
  match x with
  | some (.d (.int _ n)) => match j.k with
    | .int k => K (.d (.int k (k.wrap n)))
    | .str => K (.d (.str (Utf8.encode n)))
    | _ => False
  | some (.d (.str s)) => match j.k with
    | .str => K (.d (.str s))
    | _ => False
  | some (.d (.sl _ xs)) => match i.k with
    | .slice e => match c.tt e with
      | some ei => match isU8 ei.k with
        | true => match j.k with
          | .str => ∃ s, xs = D.bytes s ∧ K (.d (.str s))
          | _ => False
        | false => False
      | none => False
    | _ => False
  | _ => False

def wIdx (c : Ctx) (i : TI) (x ix : Option AV) (K : AV → Prop) : Prop :=
  match ix with
  | some (.d (.int _ j)) => match x with
    | some (.d (.str s)) => match i.k with
      | .str => (0 ≤ j ∧ j < s.size) ∧ K (.d (.int .u8 (byteAt s j.toNat)))
      | _ => False
    | some (.d (.arr n sz xs)) => match i.k with
      | .arr cnt e => match c.tt e with
        | some fi => match Nat.beq n cnt && Nat.beq fi.size sz with
          | true => (0 ≤ j ∧ j < n) ∧ shapeB fi (.d (xs.getD j.toNat .nilP)) = true ∧ K (.d (xs.getD j.toNat .nilP))
          | false => False
        | none => False
      | _ => False
    | _ => False
  | _ => False

def wFld (c : Ctx) (i : TI) (f : Nat) (x : Option AV) (K : AV → Prop) : Prop :=
  match i.k with
  | .struct fs => match fs[f]? with
    | some (off, ft, _) => match c.tt ft with
      | some fi => match x with
        | some v => match AV.getS v (.fld f off) with
          | some y => match shapeB fi y && (notTup v && notTup y) with
            | true => K y
            | false => False
          | none => False
        | none => False
      | none => False
    | none => False
  | _ => False

def wAssert (i : TI) (t : TypeId) (ok : Bool) (x : Option AV) (K : AV → Prop) : Prop :=
  match isIf i.k with
  | true => False
  | false => match x with
    | some (.d (.iface t' y)) => match Nat.beq t' t with
      | true => match ok with
        | true => K (.tup [.d y, .d (.bool true)])
        | false => K (.d y)
      | false => match ok with
        | true => match i.zero with
          | some z => K (.tup [.d z, .d (.bool false)])
          | none => False
        | false => False
    | some (.d .nilI) => match ok with
      | true => match i.zero with
        | some z => K (.tup [.d z, .d (.bool false)])
        | none => False
      | false => False
    | _ => False

def wNil (x : Option AV) (K : AV → Prop) : Prop :=
  match x with
  | some (.ptr n p) => K (.ptr n p)
  | some (.d (.cptr y)) => K (.d (.cptr y))
  | some (.fn f cs) => K (.fn f cs)
  | _ => False

def wSlice (c : Ctx) (i : TI) (ρ : Operand → Option AV) (x : Option AV) (lo hi : Option Operand) (K : AV → Prop) : Prop :=
  match wBnd ρ lo 0 with
  | none => False
  | some l => match x with
    | some (.d (.str s)) => match i.k with
      | .str => match wBnd ρ hi s.size with
        | some h => (0 ≤ l ∧ l ≤ h ∧ h ≤ s.size) ∧ K (.d (.str (s.extract l.toNat h.toNat)))
        | none => False
      | _ => False
    | some (.d (.sl sz xs)) => match i.k with
      | .slice e => match c.tt e with
        | some fi => match Nat.beq fi.size sz with
          | true => match wBnd ρ hi xs.length with
            | some h => (0 ≤ l ∧ l ≤ h ∧ h ≤ xs.length) ∧ K (.d (.sl sz ((xs.drop l.toNat).take (h - l).toNat)))
            | none => False
          | false => False
        | none => False
      | _ => False
    | _ => False

def wFunc (fn : Fn) (first : Array Operand) (ns : Option (List Nat)) (K : AV → Prop) : Prop :=
  match fn with
  | .func f => match first.toList with
    | [] => match ns with
      | some ns => K (.fn f ns)
      | none => False
    | _ => False
  | _ => False

def wValQ (K : AV → Prop) : Option AV → Prop
  | some v => K v
  | none => False

/-- The operations that neither look into the store nor change it. -/
def WOpQ (c : Ctx) (o : Oper) (ρ : Operand → Option AV) (K : AV → Prop) : Prop :=
  match o.op with
  | .move x => wValQ K (ρ x)
  | .assign x => wValQ K (ρ x)
  | .pick q x y => match ρ q with
    | some (.d (.bool b)) => @Bool.rec (fun _ => Prop) (wValQ K (ρ y)) (wValQ K (ρ x)) b
    | _ => False
  | .binOp op t x y _ => wBin c op t (ρ x) (ρ y) K
  | .unOp op _ x => match op, ρ x with
    | .not, some (.d (.bool b)) => K (.d (.bool (!b)))
    | .neg, some (.d (.int k n)) => K (.d (.int k (k.wrap (0 - n))))
    | _, _ => False
  | .extract x i => match ρ x with
    | some (.tup l) => match l[i]? with
      | some v => match notTup v with
        | true => K v
        | false => False
      | none => False
    | _ => False
  | .fieldAddr t x f => match c.tt t with
    | some i => wField c i f [] (ρ x) fun v _ => wValQ K v
    | none => False
  | .indexAddr t x ix => match c.tt t with
    | some i => wIndexQ c i (ρ x) (ρ ix) K
    | none => False
  | .call { callee := .builtin .len, args, argTypes } => match argTypes.toList, args.toList with
    | [t], [x] => match c.tt t with
      | some i => wLenQ i (ρ x) K
      | none => False
    | _, _ => False
  | .convert src dst x => match c.tt src with
    | some i => match c.tt dst with
      | some j => wConv c i j (ρ x) K
      | none => False
    | none => False
  | .index t x ix => match c.tt t with
    | some i => wIdx c i (ρ x) (ρ ix) K
    | none => False
  | .field t x f => match c.tt t with
    | some i => wFld c i f (ρ x) K
    | none => False
  | .makeInterface t x => match c.tt t with
    | some i => match isIf i.k with
      | true => False
      | false => match ρ x with
        | some (.d y) => K (.d (.iface t y))
        | _ => False
    | none => False
  | .typeAssert x _ t ok => match c.tt t with
    | some i => wAssert i t ok (ρ x) K
    | none => False
  | .nilCheck x => wNil (ρ x) K
  | .build t parts => match c.tt t with
    | some i => wBuild c ρ i parts.toList K
    | none => False
  | .makeFunc fn first cs => wFunc fn first (capNames ρ cs.toList) K
  | .slice t x lo hi mx => match mx with
    | none => match c.tt t with
      | some i => wSlice c i ρ (ρ x) lo hi K
      | none => False
    | some _ => False
  | _ => False

def quietB (o : Oper) : Bool :=
  match o.op with
  | .move _ => true
  | .assign _ => true
  | .pick .. => true
  | .binOp .. => true
  | .unOp .. => true
  | .extract .. => true
  | .fieldAddr .. => true
  | .index .. => true
  | .field .. => true
  | .makeInterface .. => true
  | .typeAssert .. => true
  | .nilCheck .. => true
  | .makeFunc .. => true
  | .build .. => true
  | _ => false

/-- A conversion: that of a string to bytes lays new memory. -/
def wConvS (c : Ctx) (o : Oper) (src dst : TypeId) (env : Env) (S : List Blk) (x : Option AV) (K : Option AV → List Blk → Prop) : Prop :=
  match c.tt dst with
  | some j => match j.k with
    | .slice e => match x with
      | some (.d (.str s)) => match c.tt src with
        | some i => match i.k with
          | .str => match c.tt e with
            | some ei => match isU8 ei.k with
              | true => s.size ≤ maxLen ∧ K (some (.d (.sl 1 (D.bytes s)))) S
              | false => False
            | none => False
          | _ => False
        | none => False
      | _ => False
    | _ => WOpQ c o (evalA c env) fun x => K (some x) S
  | none => False

def WOp (c : Ctx) (k0 : Nat) (o : Oper) (env : Env) (S : List Blk) (K : Option AV → List Blk → Prop) : Prop :=
  match quietB o with
  | true => WOpQ c o (evalA c env) fun x => K (some x) S
  | false => match o.op with
    | .alloc t => match c.tt t with
      | some i => match i.zero with
        | some z => K (some (.ptr S.length [])) (S ++ [.var (.d z)])
        | none => False
      | none => False
    | .box _ x => match evalA c env x with
      | some v => match notTup v with
        | true => K (some (.ptr S.length [])) (S ++ [.var v])
        | false => False
      | none => False
    | .load t x => match c.tt t with
      | some i => wLoad i S (evalA c env x) K
      | none => False
    | .store t x y => match c.tt t with
      | some i => wStore i S (evalA c env x) (evalA c env y) K
      | none => False
    | .indexAddr t x ix => match c.tt t with
      | some i => wIndexAddr c k0 i S (evalA c env x) (evalA c env ix) K
      | none => False
    | .call { callee := .value fo, args, argTypes := _ } => wCall c k0 env S fo args.toList fun r S' => K (some r) S'
    | .call { callee := .builtin .len, args, argTypes } => match argTypes.toList, args.toList with
      | [t], [x] => match c.tt t with
        | some i => wLen k0 i S (evalA c env x) K
        | none => False
      | _, _ => False
    | .convert src dst x => wConvS c o src dst env S (evalA c env x) K
    | .slice .. => WOpQ c o (evalA c env) fun x => K (some x) S
    | _ => False

section
variable {B : Base} {N : Nat} {o : Oper} {env : Env} {S : List Blk} {K : Option AV → List Blk → Prop}

theorem wVal_some {x : Option AV} (h : wVal K S x) : ∃ v, x = some v ∧ K (some v) S := by
  cases x with
  | none => exact h.elim
  | some v => exact ⟨v, rfl, h⟩

theorem rule_len {i : TI} {t : TypeId} {x : Operand} (hc : B.c.ok) (ho : o.op = .call { callee := .builtin .len, args := #[x], argTypes := #[t] }) (hi : B.c.tt t = some i) (h : wLen B.k0 i S (evalA B.c env x) K) : OpsTo B N o env S K := by
  obtain ⟨⟨d, h1, h2⟩, _⟩ := hc t i hi
  have run : ∀ (a : Act) (w : World) (v : Value), (Builtin.len_ #[t] o.type #[a.eval x]).run B.c.P w = .ok v w → (execOp a.eval o).run B.c.P w = .ok (.value v) w := by
    intro a w v hv
    simp only [execOp, ho, resolve, Sem.run_bind, Sem.run_pure, Result.andThen_ok, invoke, builtin]
    have : (Array.map a.eval #[x]) = #[a.eval x] := by simp
    rw [this, hv]
    rfl
  unfold wLen at h
  split at h
  · rename_i hk
    split at h
    · rename_i s hx
      refine opsTo_pure h fun μ G a w st => ⟨_, run a w _ ?_, VD.int.ra⟩
      have := (evalA_sound st hx).vd.str_inv
      rw [hk] at h2
      cases d <;> simp [tkOf] at h2
      simp [Builtin.len_, run_underlying h1, this, goInt]
    · exact h.elim
  · rename_i e hk
    split at h
    · rename_i n p lo len cnt sz hx
      refine opsTo_pure h fun μ G a w st => ⟨_, run a w _ ?_, VD.int.ra⟩
      have hva := (evalA_sound st hx).va (fun l e => by cases e)
      rcases hva.inv with ⟨h3, _⟩ | ⟨_, h3, _⟩
      · simp [AV.isAgg] at h3
      · rw [hk] at h2
        cases d <;> simp [tkOf] at h2
        generalize a.eval x = q at h3
        cases h3
        simp [Builtin.len_, run_underlying h1, goInt]
    · rename_i v _ hx
      split at h
      · rename_i sz xs S1 hv
        have hnt : ∀ l, v ≠ .tup l := fun l e => by subst e; simp [AV.toD] at hv
        refine opsTo_pure h fun μ G a w st => ⟨_, run a w _ ?_, VD.int.ra⟩
        have hva := (evalA_sound st hx).va hnt
        obtain ⟨G', g1, g2, g3⟩ := toD_sound v hv st.st hva.1
        have hvd : VD w G' (.sl sz xs) (a.eval x) := ⟨g3, by rw [hva.2]; exact (toD_isAgg hv).symm⟩
        rw [hk] at h2
        cases d <;> simp [tkOf] at h2
        rcases hvd.sl_inv with ⟨e1, rfl⟩ | ⟨b, cap, c, e1, _⟩
        · simp [Builtin.len_, run_underlying h1, e1, goInt]
        · simp [Builtin.len_, run_underlying h1, e1, goInt]
      · exact h.elim
    · exact h.elim
  · rename_i n e hk
    split at h
    case h_2 => exact h.elim
    rename_i v hx
    split at h
    case h_2 => exact h.elim
    refine opsTo_pure h fun μ G a w st => ⟨_, run a w _ ?_, VD.int.ra⟩
    rw [hk] at h2
    cases d <;> simp [tkOf] at h2
    obtain ⟨rfl, rfl⟩ := h2
    simp [Builtin.len_, run_underlying h1, goInt]
  · exact h.elim

theorem wValQ_some {x : Option AV} {K : AV → Prop} (h : wValQ K x) : ∃ v, x = some v ∧ K v := by
  cases x with
  | none => exact h.elim
  | some v => exact ⟨v, rfl, h⟩

theorem isU8_spec {k : TK} (h : isU8 k = true) : k = .int .u8 := by
  unfold isU8 at h
  split at h
  · rfl
  · cases h

theorem isIf_no {k : TK} (h : isIf k = false) : ∀ b, k ≠ .iface b := by
  intro b e; subst e; cases h

theorem wConv_sound {src dst : TypeId} {x : Operand} {i j : TI} (hc : B.c.ok) (ho : o.op = .convert src dst x) (hi : B.c.tt src = some i) (hj : B.c.tt dst = some j) (h : wConv B.c i j (evalA B.c env x) fun x => K (some x) S) : OpsTo B N o env S K := by
  unfold wConv at h
  split at h
  · rename_i k n hx
    split at h
    · rename_i k' hk; exact rule_conv_int hc ho hi hj hk hx h
    · rename_i hk; exact rule_conv_rune hc ho hi hj hk hx h
    · exact h.elim
  · rename_i s hx
    split at h
    case h_2 => exact h.elim
    rename_i hk
    exact rule_conv_str hc ho hi hj hk hx h
  · rename_i sz xs hx
    split at h
    case h_2 => exact h.elim
    rename_i e hk
    split at h
    case h_2 => exact h.elim
    rename_i ei he
    split at h
    case h_2 => exact h.elim
    rename_i hu
    split at h
    case h_2 => exact h.elim
    rename_i hkj
    obtain ⟨s, rfl, h⟩ := h
    exact rule_conv_bytes hc ho hi hj hk hkj he (isU8_spec hu) hx h
  · exact h.elim

theorem wAssert_sound {x : Operand} {xt t : TypeId} {ok : Bool} {i : TI} (hc : B.c.ok) (ho : o.op = .typeAssert x xt t ok) (hi : B.c.tt t = some i) (h : wAssert i t ok (evalA B.c env x) fun x => K (some x) S) : OpsTo B N o env S K := by
  unfold wAssert at h
  split at h
  case h_1 => exact h.elim
  rename_i hk
  split at h
  · rename_i t' y hx
    split at h
    · rename_i hb
      obtain rfl := beq_true hb
      refine rule_assert hc ho hi (isIf_no hk) hx ?_
      cases ok <;> exact h
    · rename_i hb
      split at h
      case h_2 => exact h.elim
      split at h
      case h_2 => exact h.elim
      rename_i z hz
      exact rule_assert_no hc ho hi (isIf_no hk) hz hx (.inr ⟨t', y, rfl, fun e => by subst e; simp at hb⟩) h
  · rename_i hx
    split at h
    case h_2 => exact h.elim
    split at h
    case h_2 => exact h.elim
    rename_i z hz
    exact rule_assert_no hc ho hi (isIf_no hk) hz hx (.inl rfl) h
  · exact h.elim

theorem wopQ_sound (hc : B.c.ok) (h : WOpQ B.c o (evalA B.c env) fun x => K (some x) S) : OpsTo B N o env S K := by
  unfold WOpQ at h
  split at h
  · rename_i x ho
    obtain ⟨v, h1, h2⟩ := wValQ_some h
    exact rule_move (.inl ho) h1 h2
  · rename_i x ho
    obtain ⟨v, h1, h2⟩ := wValQ_some h
    exact rule_move (.inr ho) h1 h2
  · rename_i q x y ho
    split at h
    · rename_i b hb
      cases b with
      | false =>
        obtain ⟨v, h1, h2⟩ := wValQ_some h
        exact rule_pick (b := false) ho hb h1 h2
      | true =>
        obtain ⟨v, h1, h2⟩ := wValQ_some h
        exact rule_pick (b := true) ho hb h1 h2
    · exact h.elim
  · rename_i op t x y yt ho
    exact wBin_sound hc ho h
  · rename_i op t x ho
    split at h
    · rename_i b hx
      exact rule_un ho rfl hx h
    · rename_i k n hx
      exact rule_neg ho hx h
    · exact h.elim
  · rename_i x i ho
    split at h
    case h_2 => exact h.elim
    rename_i l hl
    split at h
    case h_2 => exact h.elim
    rename_i v hv
    split at h
    case h_2 => exact h.elim
    rename_i hn
    exact rule_extract ho hl hv hn h
  · rename_i t x f ho
    split at h
    case h_2 => exact h.elim
    rename_i i hi
    unfold wField at h
    split at h
    case h_2 => exact h.elim
    rename_i fs hk
    split at h
    case h_2 => exact h.elim
    rename_i off ft nm hf
    split at h
    case h_2 => exact h.elim
    rename_i fi hfi
    split at h
    case h_2 => exact h.elim
    rename_i hz
    split at h
    · rename_i n p hx
      exact rule_fieldAddr hc ho hi hk hf hfi hz hx h
    · rename_i l hx
      split at h
      case h_2 => exact h.elim
      rename_i hb
      split at h
      case h_2 => exact h.elim
      rename_i y hy
      exact rule_fieldAddrC hc ho hi hk hf hfi hz hx hb hy h
    · exact h.elim
  · rename_i t x ix ho
    split at h
    case h_2 => exact h.elim
    rename_i i hi
    unfold wIndexQ at h
    split at h
    case h_2 => exact h.elim
    rename_i k j hj
    split at h
    · rename_i cnt e hk
      split at h
      case h_2 => exact h.elim
      rename_i fi hfi
      split at h
      case h_2 => exact h.elim
      rename_i n p hx
      exact rule_indexAddr_arr hc ho hi hk hfi hx hj h.1.1 h.1.2 h.2
    · rename_i e hk
      split at h
      case h_2 => exact h.elim
      rename_i fi hfi
      split at h
      case h_2 => exact h.elim
      rename_i sz xs hv
      split at h
      case h_2 => exact h.elim
      rename_i hsz
      exact rule_indexAddr_sl hc ho hi hk hfi hsz hv rfl hj h.1.1 h.1.2 h.2
    · exact h.elim
  · rename_i args ts ho
    split at h
    case h_2 => exact h.elim
    rename_i t x e1 e2
    split at h
    case h_2 => exact h.elim
    rename_i i hi
    have e3 : args = #[x] := Array.ext' e2
    have e4 : ts = #[t] := Array.ext' e1
    subst e3; subst e4
    refine rule_len hc ho hi ?_
    unfold wLenQ at h
    unfold wLen
    split at h
    · split at h
      · exact h
      · exact h.elim
    · split at h
      · first | exact h | (rename_i hx; rw [hx]; exact h)
      · first | exact h | (rename_i sz xs hx; rw [hx]; exact h)
      · exact h.elim
    · split at h
      case h_2 => exact h.elim
      exact h
    · exact h.elim
  · rename_i src dst x ho
    split at h
    case h_2 => exact h.elim
    rename_i i hi
    split at h
    case h_2 => exact h.elim
    rename_i j hj
    exact wConv_sound hc ho hi hj h
  · rename_i t x ix ho
    split at h
    case h_2 => exact h.elim
    rename_i i hi
    unfold wIdx at h
    split at h
    case h_2 => exact h.elim
    rename_i k j hj
    split at h
    · rename_i s hx
      split at h
      case h_2 => exact h.elim
      rename_i hk
      exact rule_index_str hc ho hi hk hx hj h.1.1 h.1.2 h.2
    · rename_i n sz xs hx
      split at h
      case h_2 => exact h.elim
      rename_i cnt e hk
      split at h
      case h_2 => exact h.elim
      rename_i fi hfi
      split at h
      case h_2 => exact h.elim
      rename_i hb
      simp only [Bool.and_eq_true] at hb
      obtain rfl := beq_true hb.1
      exact rule_index_arr hc ho hi hk hfi hb.2 hx hj h.1.1 h.1.2 h.2.1 h.2.2
    · exact h.elim
  · rename_i t x f ho
    split at h
    case h_2 => exact h.elim
    rename_i i hi
    unfold wFld at h
    split at h
    case h_2 => exact h.elim
    rename_i fs hk
    split at h
    case h_2 => exact h.elim
    rename_i off ft nm hf
    split at h
    case h_2 => exact h.elim
    rename_i fi hfi
    split at h
    case h_2 => exact h.elim
    rename_i v hx
    split at h
    case h_2 => exact h.elim
    rename_i y hy
    split at h
    case h_2 => exact h.elim
    rename_i hb
    simp only [Bool.and_eq_true] at hb
    exact rule_field hc ho hi hk hf hfi hx hb.2.1 hy hb.1 hb.2.2 h
  · rename_i t x ho
    split at h
    case h_2 => exact h.elim
    rename_i i hi
    split at h
    case h_1 => exact h.elim
    rename_i hk
    split at h
    case h_2 => exact h.elim
    rename_i y hy
    exact rule_iface hc ho hi (isIf_no hk) hy h
  · rename_i x xt t ok ho
    split at h
    case h_2 => exact h.elim
    rename_i i hi
    exact wAssert_sound hc ho hi h
  · rename_i x ho
    unfold wNil at h
    split at h
    · rename_i n p hx; exact rule_nilCheck ho hx (.inl ⟨n, p, rfl⟩) h
    · rename_i y hx; exact rule_nilCheck ho hx (.inr (.inl ⟨y, rfl⟩)) h
    · rename_i f cs hx; exact rule_nilCheck ho hx (.inr (.inr ⟨f, cs, rfl⟩)) h
    · exact h.elim
  · rename_i t parts ho
    split at h
    case h_2 => exact h.elim
    rename_i i hi
    unfold wBuild at h
    split at h
    · rename_i fs hk
      split at h
      case h_2 => exact h.elim
      rename_i z hz
      split at h
      case h_2 => exact h.elim
      rename_i hb
      simp only [Bool.and_eq_true] at hb
      split at h
      case h_2 => exact h.elim
      rename_i x hx
      exact rule_build hc ho hi hk hz hb.1 hb.2 hx h
    · rename_i n e hk
      split at h
      case h_2 => exact h.elim
      rename_i fi hfi
      split at h
      case h_2 => exact h.elim
      rename_i z hz
      split at h
      case h_2 => exact h.elim
      rename_i ha
      split at h
      case h_2 => exact h.elim
      rename_i x hx
      exact rule_buildA hc ho hi hk hfi hz ha hx h
    · exact h.elim
  · rename_i fn first cs ho
    unfold wFunc at h
    split at h
    case h_2 => exact h.elim
    rename_i f
    split at h
    case h_2 => exact h.elim
    rename_i hf
    split at h
    case h_2 => exact h.elim
    rename_i ns hns
    have e : first = #[] := Array.ext' hf
    subst e
    exact rule_makeFunc ho hns h
  · rename_i t x lo hi mx ho
    split at h
    case h_2 => exact h.elim
    split at h
    case h_2 => exact h.elim
    rename_i i hi'
    unfold wSlice at h
    split at h
    case h_1 => exact h.elim
    rename_i l hl
    split at h
    · rename_i s hx
      split at h
      case h_2 => exact h.elim
      rename_i hk
      split at h
      case h_2 => exact h.elim
      rename_i b hb
      exact rule_slice_str hc ho hi' hk hx hl hb h.1.1 h.1.2.1 h.1.2.2 h.2
    · rename_i sz xs hx
      split at h
      case h_2 => exact h.elim
      rename_i e hk
      split at h
      case h_2 => exact h.elim
      rename_i fi hfi
      split at h
      case h_2 => exact h.elim
      rename_i hsz
      split at h
      case h_2 => exact h.elim
      rename_i b hb
      exact rule_slice_sl hc ho hi' hk hfi hsz hx hl hb h.1.1 h.1.2.1 h.1.2.2 h.2
    · exact h.elim
  · exact h.elim

theorem wop_sound (hc : B.c.ok) (h : WOp B.c B.k0 o env S K) : OpsTo B N o env S K := by
  unfold WOp at h
  split at h
  · exact wopQ_sound hc h
  split at h
  · rename_i t ho
    split at h
    case h_2 => exact h.elim
    rename_i i hi
    split at h
    case h_2 => exact h.elim
    rename_i z hz
    exact rule_alloc hc ho hi hz h
  · rename_i t x ho
    split at h
    case h_2 => exact h.elim
    rename_i v hv
    split at h
    case h_2 => exact h.elim
    rename_i hn
    exact rule_box ho hv hn h
  · rename_i t x ho
    split at h
    case h_2 => exact h.elim
    rename_i i hi
    unfold wLoad at h
    split at h
    · rename_i n p hx
      split at h
      case h_2 => exact h.elim
      rename_i X hX
      split at h
      case h_2 => exact h.elim
      rename_i y hy
      split at h
      case h_2 => exact h.elim
      rename_i hb
      simp only [Bool.and_eq_true] at hb
      exact rule_load hc ho hi hx hX hy hb.1 hb.2 h
    · rename_i X hx
      split at h
      case h_2 => exact h.elim
      rename_i hb
      exact rule_loadC hc ho hi hx hb h
    · exact h.elim
  · rename_i t x y ho
    split at h
    case h_2 => exact h.elim
    rename_i i hi
    unfold wStore at h
    split at h
    case h_2 => exact h.elim
    rename_i n p v hx hv
    split at h
    case h_2 => exact h.elim
    rename_i X hX
    split at h
    case h_2 => exact h.elim
    rename_i hb
    simp only [Bool.and_eq_true] at hb
    split at h
    case h_2 => exact h.elim
    rename_i X' hX'
    rw [fS_eq] at h
    exact rule_store hc ho hi hx hX hb.1.1 hv hb.1.2 hX' hb.2 h
  · rename_i t x ix ho
    split at h
    case h_2 => exact h.elim
    rename_i i hi
    unfold wIndexAddr at h
    split at h
    case h_2 => exact h.elim
    rename_i k j hj
    split at h
    · rename_i cnt e hk
      split at h
      case h_2 => exact h.elim
      rename_i fi hfi
      split at h
      case h_2 => exact h.elim
      rename_i n p hx
      exact rule_indexAddr_arr hc ho hi hk hfi hx hj h.1.1 h.1.2 h.2
    · rename_i e hk
      split at h
      case h_2 => exact h.elim
      rename_i fi hfi
      split at h
      case h_2 => exact h.elim
      rename_i v hv
      split at h
      case h_2 => exact h.elim
      rename_i sz xs S1 hD
      split at h
      · exact h.elim
      · rename_i hnv
        split at h
        case h_2 => exact h.elim
        rename_i hsz
        have hS : S1 = S := by
          cases v with
          | d x => simp only [AV.toD] at hD; cases hD; rfl
          | row n => simp only [AV.toD] at hD; split at hD <;> cases hD <;> rfl
          | vw n p lo len cnt sz' => exact (hnv _ _ _ _ _ _ rfl).elim
          | agg l => simp only [AV.toD] at hD; split at hD <;> cases hD
          | ptr | fn | tup => simp only [AV.toD] at hD; cases hD
        subst hS
        exact rule_indexAddr_sl hc ho hi hk hfi hsz hv hD hj h.1.1 h.1.2 h.2
    · exact h.elim
  · rename_i fo args ts ho
    exact rule_call ho h
  · rename_i args ts ho
    split at h
    case h_2 => exact h.elim
    rename_i t x e1 e2
    split at h
    case h_2 => exact h.elim
    rename_i i hi
    have e3 : args = #[x] := Array.ext' e2
    have e4 : ts = #[t] := Array.ext' e1
    subst e3; subst e4
    exact rule_len hc ho hi h
  · rename_i src dst x ho
    unfold wConvS at h
    split at h
    case h_2 => exact h.elim
    rename_i j hj
    split at h
    · rename_i e hk
      split at h
      case h_2 => exact h.elim
      rename_i s hx
      split at h
      case h_2 => exact h.elim
      rename_i i hi
      split at h
      case h_2 => exact h.elim
      rename_i hki
      split at h
      case h_2 => exact h.elim
      rename_i ei he
      split at h
      case h_2 => exact h.elim
      rename_i hu
      exact rule_conv_sb hc ho hi hj hki hk he (isU8_spec hu) hx h.1 h.2
    · exact wopQ_sound hc h
  · exact wopQ_sound hc h
  · exact h.elim

end

end Go.Ab
