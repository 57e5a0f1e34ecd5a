/-
  An own logic over the kit's 'Calls' (Ab8): the operations, each with its rule.
-/
import Derived.Test.YtboohfijacjhjaaDoorAbT
namespace Go.Ab
open Go.RowKit

/-- What a binary operator gives, on data. -/
def evBin (op : BinOp) (x y : D) (K : D → Prop) : Prop :=
  match x, y with
  | .int k a, .int k' b =>
    match op with
    | .shl => 0 ≤ b ∧ K (.int k (k.wrap (a * 2 ^ (min b.toNat k.bits))))
    | .shr => 0 ≤ b ∧ K (.int k (a.fdiv (2 ^ (min b.toNat k.bits))))
    | op => match kindB k k' with
      | false => False
      | true => match op with
        | .add => K (.int k (k.wrap (a + b)))
        | .sub => K (.int k (k.wrap (a - b)))
        | .mul => K (.int k (k.wrap (a * b)))
        | .quo => b ≠ 0 ∧ K (.int k (k.wrap (a.tdiv b)))
        | .rem => b ≠ 0 ∧ K (.int k (a.tmod b))
        | .and => K (.int k (k.wrap (BitVec.ofInt k.bits a &&& BitVec.ofInt k.bits b).toNat))
        | .or => K (.int k (k.wrap (BitVec.ofInt k.bits a ||| BitVec.ofInt k.bits b).toNat))
        | .xor => K (.int k (k.wrap (BitVec.ofInt k.bits a ^^^ BitVec.ofInt k.bits b).toNat))
        | .andNot => K (.int k (k.wrap (BitVec.ofInt k.bits a &&& ~~~(BitVec.ofInt k.bits b)).toNat))
        | .eql => K (.bool (a == b))
        | .neq => K (.bool (a != b))
        | .lss => K (.bool (decide (a < b)))
        | .leq => K (.bool (decide (a ≤ b)))
        | .gtr => K (.bool (decide (a > b)))
        | .geq => K (.bool (decide (a ≥ b)))
        | _ => False
  | .str a, .str b =>
    match op with
    | .add => a.size + b.size ≤ 9223372036854775807 ∧ K (.str (a ++ b))
    | .eql => K (.bool (decide (a = b)))
    | .neq => K (.bool (!decide (a = b)))
    | _ => False
  | .bool a, .bool b =>
    match op with
    | .eql => K (.bool (a == b))
    | .neq => K (.bool (!(a == b)))
    | _ => False
  | _, _ => False

theorem toList_beq (a b : ByteArray) : (a.toList == b.toList) = decide (a = b) := by
  rw [ByteArray.toList_eq, ByteArray.toList_eq]
  by_cases h : a = b
  · subst h; simp
  · rw [decide_eq_false h, beq_eq_false_iff_ne]
    intro e
    apply h
    cases a; cases b
    simp at e
    rw [e]

theorem run_eqGuard_int (P : Program) (op : BinOp) (t : TypeId) (x y : Operand) (k k' : IntKind) (a b : Int) (w : World) : (eqGuard op t x y (.int k a) (.int k' b)).run P w = .ok () w := by
  unfold eqGuard; cases op <;> rfl
theorem run_eqGuard_str (P : Program) (op : BinOp) (t : TypeId) (x y : Operand) (a b : ByteArray) (w : World) : (eqGuard op t x y (.string a) (.string b)).run P w = .ok () w := by
  unfold eqGuard; cases op <;> rfl
theorem run_eqGuard_bool (P : Program) (op : BinOp) (t : TypeId) (x y : Operand) (a b : Bool) (w : World) : (eqGuard op t x y (.bool a) (.bool b)).run P w = .ok () w := by
  unfold eqGuard; cases op <;> rfl

theorem run_equalIn_bool' {P : Program} {t : TypeId} (hu : P.underlying t = some .bool) (a b : Bool) (d : Nat) (w : World) : (Op.equalIn (d + 1) t (.bool a) (.bool b)).run P w = .ok (a == b) w := by
  simp only [Op.equalIn, Sem.run_bind, run_underlying hu, Result.andThen_ok]
  rfl

theorem run_equal_bool {P : Program} {t : TypeId} (hu : P.underlying t = some .bool) (a b : Bool) (w : World) : (Op.equal t (.bool a) (.bool b)).run P w = .ok (a == b) w :=
  run_equalIn_bool' hu a b 9999 w

theorem run_bin_eql_bool {P : Program} {t : TypeId} (hu : P.underlying t = some .bool) (a b : Bool) (w : World) : (binOp .eql t (.bool a) (.bool b)).run P w = .ok (.bool (a == b)) w := by
  show (Op.equal t (.bool a) (.bool b) >>= fun r => pure (Value.bool r)).run P w = _
  rw [Sem.run_bind, run_equal_bool hu]
  rfl

theorem run_bin_neq_bool {P : Program} {t : TypeId} (hu : P.underlying t = some .bool) (a b : Bool) (w : World) : (binOp .neq t (.bool a) (.bool b)).run P w = .ok (.bool (!(a == b))) w := by
  show (Op.equal t (.bool a) (.bool b) >>= fun r => pure (Value.bool (!r))).run P w = _
  rw [Sem.run_bind, run_equal_bool hu]
  rfl

theorem evBin_sound {P : Program} {op : BinOp} {t : TypeId} {ox oy : Operand} {x y : D} {K : D → Prop} {w : World} {G} {vx vy : Value}
    (hb : ∀ a b, x = .bool a → y = .bool b → P.underlying t = some .bool) (h : evBin op x y K)
    (hx : VD w G x vx) (hy : VD w G y vy) : ∃ z v, K z ∧ (do eqGuard op t ox oy vx vy; binOp op t vx vy : Sem Value).run P w = .ok v w ∧ VD w G z v := by
  unfold evBin at h
  split at h
  · -- integers
    rename_i k a k' b
    have e1 := hx.int_inv; have e2 := hy.int_inv
    subst e1; subst e2
    simp only [Sem.run_bind, run_eqGuard_int, Result.andThen_ok]
    cases op <;> simp only at h
    case shl => exact ⟨_, .int k _, h.2, by simp [binOp, Op.shift, Int.not_lt.2 h.1], VD.int⟩
    case shr => exact ⟨_, .int k _, h.2, by simp [binOp, Op.shift, Int.not_lt.2 h.1], VD.int⟩
    all_goals
      cases hk : kindB k k' with
      | false => rw [hk] at h; exact h.elim
      | true =>
        rw [hk] at h
        have := kindB_spec hk
        subst this
        simp only at h
        first
          | exact h.elim
          | exact ⟨_, .int k _, h, by simp only [binOp, ne_eq, not_true_eq_false, if_false, Op.intArith]; rfl, VD.int⟩
          | exact ⟨_, .int k _, h.2, by simp [binOp, Op.intDiv, h.1], VD.int⟩
          | exact ⟨_, .int k _, h, by simp only [binOp, ne_eq, not_true_eq_false, if_false]; rfl, VD.int⟩
          | exact ⟨_, .bool _, h, by simp [binOp, Op.intCmp], VD.bool⟩
  · rename_i a b
    have e1 := hx.str_inv; have e2 := hy.str_inv
    subst e1; subst e2
    simp only [Sem.run_bind, run_eqGuard_str, Result.andThen_ok]
    cases op <;> simp only at h
    case add =>
      refine ⟨_, .string (a ++ b), h.2, ?_, VD.str⟩
      have : ¬ (((a.size + b.size : Nat) : Int) > IntKind.i64.max) := by
        have := h.1
        simp only [IntKind.max, IntKind.signed, IntKind.bits, if_true]
        omega
      simp only [binOp, Op.stringOp]
      rw [if_neg this]
      rfl
    case eql => exact ⟨_, .bool (decide (a = b)), h, by simp only [binOp, Op.stringOp, toList_beq]; rfl, VD.bool⟩
    case neq => exact ⟨_, .bool (!decide (a = b)), h, by simp only [binOp, Op.stringOp, toList_beq]; rfl, VD.bool⟩
    all_goals exact h.elim
  · rename_i a b
    have e1 := hx.bool_inv; have e2 := hy.bool_inv
    subst e1; subst e2
    simp only [Sem.run_bind, run_eqGuard_bool, Result.andThen_ok]
    have hu := hb a b rfl rfl
    cases op <;> simp only at h
    case eql => exact ⟨_, .bool (a == b), h, run_bin_eql_bool hu a b w, VD.bool⟩
    case neq => exact ⟨_, .bool (!(a == b)), h, run_bin_neq_bool hu a b w, VD.bool⟩
    all_goals exact h.elim
  · exact h.elim

def isBoolTK : TK → Bool
  | .bool => true
  | _ => false

/-- Equality's answer. -/
def wB (op : BinOp) (b : Bool) (K : AV → Prop) : Prop :=
  match op with
  | .eql => K (.d (.bool b))
  | .neq => K (.d (.bool (!b)))
  | _ => False

def wEqT (c : Ctx) (op : BinOp) (t : TypeId) (x y : D) (K : AV → Prop) : Prop :=
  (∃ T : Ty, T.fitE c.tt t = true ∧ Nat.blt T.depth 9999 = true ∧ T.is x ∧ T.is y) ∧ wB op (deq x y) K

def wEqI (c : Ctx) (op : BinOp) (t : TypeId) (x y : D) (K : AV → Prop) : Prop :=
  match c.tt t with
  | some i => match i.k with
    | .iface e => match x, y with
      | .nilI, .nilI => match e with
        | true => wB op true K
        | false => False
      | .nilI, .iface _ _ => wB op false K
      | .iface _ _, .nilI => wB op false K
      | .iface ta a, .iface tb b => match Nat.beq ta tb with
        | false => wB op false K
        | true => match c.tt ta with
          | some ia => match ia.cmp with
            | true => (∃ T : Ty, T.fitE c.tt ta = true ∧ Nat.blt T.depth 9999 = true ∧ T.is a ∧ T.is b) ∧ wB op (deq a b) K
            | false => False
          | none => False
      | _, _ => False
    | _ => False
  | none => False

def wEqP (c : Ctx) (op : BinOp) (t : TypeId) (b : Bool) (K : AV → Prop) : Prop :=
  match c.tt t with
  | some i => match i.k with
    | .ptr _ => wB op b K
    | _ => False
  | none => False

/-- 'K' of what an operation gives. -/
def wBin (c : Ctx) (op : BinOp) (t : TypeId) (x y : Option AV) (K : AV → Prop) : Prop :=
  match x, y with
  | some (.d x), some (.d y) =>
    match x with
    | .bool _ => match c.tt t with
      | some i => match isBoolTK i.k with | true => evBin op x y fun z => K (.d z) | false => False
      | none => False
    | .agg _ => wEqT c op t x y K
    | .arr _ _ _ => wEqT c op t x y K
    | .nilI => wEqI c op t x y K
    | .iface _ _ => wEqI c op t x y K
    | .nilP => match y with
      | .nilP => wEqP c op t true K
      | .cptr _ => wEqP c op t false K
      | _ => False
    | .cptr _ => match y with
      | .nilP => wEqP c op t false K
      | _ => False
    | x => evBin op x y fun z => K (.d z)
  | some (.ptr _ _), some (.d y) => match y with
    | .nilP => wEqP c op t false K
    | _ => False
  | some (.d x), some (.ptr _ _) => match x with
    | .nilP => wEqP c op t false K
    | _ => False
  | _, _ => False

theorem tkOf_bool {d : TypeDesc} (h : isBoolTK (tkOf d) = true) : d = .bool := by
  cases d <;> simp [tkOf, isBoolTK] at h ⊢

section
variable {B : Base} {N : Nat} {env : Env} {S : List Blk} {K : Option AV → List Blk → Prop} {op : BinOp} {t : TypeId} {x y : Operand} {yt : TypeId} {o : Oper}

/-- From the equality of two values to the rule. -/
theorem wB_sound {b : Bool} (ho : o.op = .binOp op t x y yt) (h : wB op b fun v => K (some v) S)
    (hr : ∀ (μ : Nat → Value) (G : Nat → Nat → Prop) (a : Act) (w : World), At1 B N env S μ G a w →
      (eqGuard op t x y (a.eval x) (a.eval y)).run B.c.P w = .ok () w ∧ (Op.equal t (a.eval x) (a.eval y)).run B.c.P w = .ok b w ∧
      (binOp .eql t (a.eval x) (a.eval y)).run B.c.P w = ((Op.equal t (a.eval x) (a.eval y)).run B.c.P w).andThen (fun r w' => .ok (.bool r) w') ∧
      (binOp .neq t (a.eval x) (a.eval y)).run B.c.P w = ((Op.equal t (a.eval x) (a.eval y)).run B.c.P w).andThen (fun r w' => .ok (.bool (!r)) w')) : OpsTo B N o env S K := by
  unfold wB at h
  split at h
  · refine opsTo_pure h fun μ G a w st => ⟨.bool b, ?_, VD.bool.ra⟩
    obtain ⟨h1, h2, h3, _⟩ := hr μ G a w st
    simp only [execOp, ho, Sem.run_bind, h1, Result.andThen_ok, h3, h2, Sem.run_pure]
  · refine opsTo_pure h fun μ G a w st => ⟨.bool (!b), ?_, VD.bool.ra⟩
    obtain ⟨h1, h2, _, h3⟩ := hr μ G a w st
    simp only [execOp, ho, Sem.run_bind, h1, Result.andThen_ok, h3, h2, Sem.run_pure]
  · exact h.elim

theorem VD.isVAgg {w G x v} (h : VD w G x v) (hx : x.isAgg = true) : ∃ cs, v = .agg cs := by
  rcases h.inv with ⟨_, cs, rfl, _⟩ | ⟨e, _⟩
  · exact ⟨cs, rfl⟩
  · rw [hx] at e; cases e

theorem wEqT_sound {dx dy : D} (hc : B.c.ok) (ho : o.op = .binOp op t x y yt) (hx : evalA B.c env x = some (.d dx)) (hy : evalA B.c env y = some (.d dy)) (hax : dx.isAgg = true)
    (h : wEqT B.c op t dx dy fun v => K (some v) S) : OpsTo B N o env S K := by
  obtain ⟨⟨T, h1, h2, h3, h4⟩, h5⟩ := h
  refine wB_sound ho h5 fun μ G a w st => ?_
  have vx := (evalA_sound st hx).vd
  have vy := (evalA_sound st hy).vd
  have hay : dy.isAgg = true := by rw [Ty.is_agg T dy h4, ← Ty.is_agg T dx h3]; exact hax
  have heq := Ty.equalIn_ok hc T t 10000 dx dy _ _ h1 h3 h4 vx vy (by have := Nat.le_of_ble_eq_true h2; omega)
  obtain ⟨cx, ex⟩ := vx.isVAgg hax
  obtain ⟨cy, ey⟩ := vy.isVAgg hay
  rw [ex, ey] at heq ⊢
  have hfl : B.c.P.eqGuardType B.c.P.depth t = false := by
    have hagg : T.agg = true := by rw [← Ty.is_agg T dx h3]; exact hax
    cases T <;> simp only [Ty.agg, Bool.false_eq_true] at hagg <;> simp only [Ty.fitE] at h1 <;> split at h1 <;> first
      | (cases h1; done)
      | (rename_i i hi; simp only [Bool.and_eq_true] at h1; exact ((hc.flags t i hi).1 h1.1).2)
  exact ⟨run_eqGuard_agg w op t x y cx cy hfl, heq, run_eql_struct w t cx cy, run_neq_struct w t cx cy⟩

theorem VD.cptr_inv' {w G x v} (h : VD w G (.cptr x) v) : ∃ a, v = .pointer (some a) := by
  obtain ⟨b, off, c, e, _⟩ := h.cptr_inv
  exact ⟨_, e⟩

def notNum : Value → Bool
  | .nilIface => true
  | .iface _ _ => true
  | .pointer _ => true
  | _ => false

theorem binEq_run {P : Program} {t : TypeId} {w : World} {vx vy : Value} (h : notNum vx = true) :
    (binOp .eql t vx vy).run P w = ((Op.equal t vx vy).run P w).andThen (fun r w' => .ok (.bool r) w') ∧
    (binOp .neq t vx vy).run P w = ((Op.equal t vx vy).run P w).andThen (fun r w' => .ok (.bool (!r)) w') := by
  have e1 : binOp .eql t vx vy = (Op.equal t vx vy >>= fun r => pure (.bool r)) := by
    cases vx <;> simp only [notNum, Bool.false_eq_true] at h <;> cases vy <;> rfl
  have e2 : binOp .neq t vx vy = (Op.equal t vx vy >>= fun r => pure (.bool (!r))) := by
    cases vx <;> simp only [notNum, Bool.false_eq_true] at h <;> cases vy <;> rfl
  rw [e1, e2, Sem.run_bind, Sem.run_bind]
  exact ⟨rfl, rfl⟩

section
variable {P : Program} {t : TypeId} {w : World}
theorem eqIn_nn {ms} (h : P.underlying t = some (.interface ms)) (d : Nat) : (Op.equalIn (d + 1) t .nilIface .nilIface).run P w = .ok true w := by
  simp only [Op.equalIn, Sem.run_bind, run_underlying h, Result.andThen_ok]; rfl
theorem eqIn_ni {ms} (h : P.underlying t = some (.interface ms)) (d : Nat) (ta u) : (Op.equalIn (d + 1) t .nilIface (.iface ta u)).run P w = .ok false w := by
  simp only [Op.equalIn, Sem.run_bind, run_underlying h, Result.andThen_ok]; rfl
theorem eqIn_in {ms} (h : P.underlying t = some (.interface ms)) (d : Nat) (ta u) : (Op.equalIn (d + 1) t (.iface ta u) .nilIface).run P w = .ok false w := by
  simp only [Op.equalIn, Sem.run_bind, run_underlying h, Result.andThen_ok]; rfl
theorem eqIn_ne {ms} (h : P.underlying t = some (.interface ms)) (d : Nat) {ta tb : TypeId} (hn : ta ≠ tb) (u v : Value) : (Op.equalIn (d + 1) t (.iface ta u) (.iface tb v)).run P w = .ok false w := by
  simp only [Op.equalIn, Sem.run_bind, run_underlying h, Result.andThen_ok]
  rw [if_pos hn]; rfl
theorem eqIn_ii {ms} (h : P.underlying t = some (.interface ms)) (d : Nat) {ta : TypeId} {info : TypeInfo} (hi : P.info? ta = some info) (hcmp : info.comparable = true) (u v : Value) :
    (Op.equalIn (d + 1) t (.iface ta u) (.iface ta v)).run P w = (Op.equalIn d ta u v).run P w := by
  simp only [Op.equalIn, Sem.run_bind, run_underlying h, Result.andThen_ok, ne_eq, not_true_eq_false, if_false, run_typeInfo w hi, hcmp, Bool.not_true, Bool.false_eq_true]
theorem eqIn_pp {e} (h : P.underlying t = some (.pointer e)) (d : Nat) : (Op.equalIn (d + 1) t (.pointer none) (.pointer none)).run P w = .ok true w := by
  simp only [Op.equalIn, Sem.run_bind, run_underlying h, Result.andThen_ok]; rfl
theorem eqIn_pn {e} (h : P.underlying t = some (.pointer e)) (d : Nat) (p) : (Op.equalIn (d + 1) t (.pointer (some p)) (.pointer none)).run P w = .ok false w := by
  simp only [Op.equalIn, Sem.run_bind, run_underlying h, Result.andThen_ok]; rfl
theorem eqIn_np {e} (h : P.underlying t = some (.pointer e)) (d : Nat) (p) : (Op.equalIn (d + 1) t (.pointer none) (.pointer (some p))).run P w = .ok false w := by
  simp only [Op.equalIn, Sem.run_bind, run_underlying h, Result.andThen_ok]; rfl
theorem eqGuard_nn {ms} (h : P.underlying t = some (.interface ms)) (he : ms.isEmpty = true) (op : BinOp) (x y : Operand) : (eqGuard op t x y .nilIface .nilIface).run P w = .ok () w := by
  have hg : ∀ d, (Op.eqGuardIn (d + 1) t .nilIface .nilIface).run P w = .ok false w := by
    intro d
    simp only [Op.eqGuardIn, Sem.run_bind, run_underlying h, Result.andThen_ok, Sem.run_pure, he]
    rfl
  have hg := hg 9999
  have inner : ∀ b : Bool, ((if b = true then pure () else do if ← Op.eqGuardIn Op.maxDepth t .nilIface .nilIface then unsupported (.noEntry "binop/eql: two nil values of an interface type with methods, neither of them the literal nil") : Sem Unit)).run P w = .ok () w := by
    intro b
    cases b
    · simp only [Bool.false_eq_true, if_false]
      rw [Sem.run_bind]
      show ((Op.eqGuardIn (9999 + 1) t .nilIface .nilIface).run P w).andThen _ = _
      rw [hg]
      rfl
    · rfl
  unfold eqGuard
  cases op <;> first | rfl | exact inner _
end

theorem wEqI_sound {dx dy : D} (hc : B.c.ok) (ho : o.op = .binOp op t x y yt) (hx : evalA B.c env x = some (.d dx)) (hy : evalA B.c env y = some (.d dy))
    (h : wEqI B.c op t dx dy fun v => K (some v) S) : OpsTo B N o env S K := by
  unfold wEqI at h
  split at h
  case h_2 => exact h.elim
  rename_i i hi
  split at h
  case h_2 => exact h.elim
  rename_i e hk
  obtain ⟨⟨d, h1, h2⟩, _⟩ := hc t i hi
  rw [hk] at h2
  cases d <;> simp [tkOf] at h2
  rename_i ms
  split at h
  · split at h
    case h_2 => exact h.elim
    refine wB_sound ho h fun μ G a w st => ?_
    have vx := (evalA_sound st hx).vd.nilI_inv
    have vy := (evalA_sound st hy).vd.nilI_inv
    rw [vx, vy]
    exact ⟨eqGuard_nn h1 (by simpa using h2) op x y, eqIn_nn h1 9999, binEq_run rfl⟩
  · refine wB_sound ho h fun μ G a w st => ?_
    have vx := (evalA_sound st hx).vd.nilI_inv
    obtain ⟨u, vy, _⟩ := (evalA_sound st hy).vd.iface_inv
    rw [vx, vy]
    exact ⟨by unfold eqGuard; cases op <;> rfl, eqIn_ni h1 9999 _ _, binEq_run rfl⟩
  · refine wB_sound ho h fun μ G a w st => ?_
    obtain ⟨u, vx, _⟩ := (evalA_sound st hx).vd.iface_inv
    have vy := (evalA_sound st hy).vd.nilI_inv
    rw [vx, vy]
    exact ⟨by unfold eqGuard; cases op <;> rfl, eqIn_in h1 9999 _ _, binEq_run rfl⟩
  · rename_i ta da tb db
    split at h
    · rename_i hb
      have hne : ta ≠ tb := fun e => by subst e; rw [Nat.beq_refl] at hb; cases hb
      refine wB_sound ho h fun μ G a w st => ?_
      obtain ⟨u, vx, _⟩ := (evalA_sound st hx).vd.iface_inv
      obtain ⟨u', vy, _⟩ := (evalA_sound st hy).vd.iface_inv
      rw [vx, vy]
      exact ⟨by unfold eqGuard; cases op <;> rfl, eqIn_ne h1 9999 hne _ _, binEq_run rfl⟩
    · rename_i hb
      have := nbeq hb
      subst this
      split at h
      case h_2 => exact h.elim
      rename_i ia hia
      split at h
      case h_2 => exact h.elim
      rename_i hcmp
      obtain ⟨⟨T, g1, g2, g3, g4⟩, g5⟩ := h
      obtain ⟨info, hinfo, hcomp⟩ := (hc.flags ta ia hia).2 hcmp
      refine wB_sound ho g5 fun μ G a w st => ?_
      obtain ⟨u, vx, wx⟩ := (evalA_sound st hx).vd.iface_inv
      obtain ⟨u', vy, wy⟩ := (evalA_sound st hy).vd.iface_inv
      rw [vx, vy]
      have heq := Ty.equalIn_ok hc T ta 9999 da db _ _ g1 g3 g4 wx wy (Nat.le_of_ble_eq_true g2)
      exact ⟨by unfold eqGuard; cases op <;> rfl, (eqIn_ii h1 9999 hinfo hcomp _ _).trans heq, binEq_run rfl⟩
  · exact h.elim

/-- A value that is a pointer, nil or not. -/
theorem wEqP_sound {b : Bool} (hc : B.c.ok) (ho : o.op = .binOp op t x y yt) (h : wEqP B.c op t b fun v => K (some v) S)
    (hv : ∀ (μ : Nat → Value) (G : Nat → Nat → Prop) (a : Act) (w : World), At1 B N env S μ G a w → (b = true ∧ a.eval x = .pointer none ∧ a.eval y = .pointer none) ∨
      (b = false ∧ ((∃ p, a.eval x = .pointer (some p) ∧ a.eval y = .pointer none) ∨ (∃ p, a.eval x = .pointer none ∧ a.eval y = .pointer (some p))))) : OpsTo B N o env S K := by
  unfold wEqP at h
  split at h
  case h_2 => exact h.elim
  rename_i i hi
  split at h
  case h_2 => exact h.elim
  rename_i e hk
  obtain ⟨⟨d, h1, h2⟩, _⟩ := hc t i hi
  rw [hk] at h2
  cases d <;> simp [tkOf] at h2
  refine wB_sound ho h fun μ G a w st => ?_
  rcases hv μ G a w st with ⟨rfl, ex, ey⟩ | ⟨rfl, ⟨p, ex, ey⟩ | ⟨p, ex, ey⟩⟩ <;> rw [ex, ey]
  · exact ⟨by unfold eqGuard; cases op <;> rfl, eqIn_pp h1 9999, binEq_run rfl⟩
  · exact ⟨by unfold eqGuard; cases op <;> rfl, eqIn_pn h1 9999 p, binEq_run rfl⟩
  · exact ⟨by unfold eqGuard; cases op <;> rfl, eqIn_np h1 9999 p, binEq_run rfl⟩

theorem VA.ptr_some {μ k w G n p v} (h : VA μ k w G (.ptr n p) v) : ∃ a, v = .pointer (some a) := by
  obtain ⟨b, _, _, _, e⟩ := h.ptr_inv
  exact ⟨_, e⟩

theorem wBin_sound (hc : B.c.ok) (ho : o.op = .binOp op t x y yt) (h : wBin B.c op t (evalA B.c env x) (evalA B.c env y) fun v => K (some v) S) :
    OpsTo B N o env S K := by
  unfold wBin at h
  split at h
  case h_4 => exact h.elim
  · rename_i dx dy hx hy
    have key : ∀ (hbb : ∀ a b, dx = .bool a → dy = .bool b → B.c.P.underlying t = some .bool), (evBin op dx dy fun z => K (some (.d z)) S) → OpsTo B N o env S K := by
      intro hbb hev
      refine opsTo_value fun μ G a w st => ?_
      obtain ⟨z, v, h1, h2, h3⟩ := evBin_sound (ox := x) (oy := y) hbb hev (evalA_sound st hx).vd (evalA_sound st hy).vd
      refine ⟨v, w, μ, G, .d z, S, ?_, h1, st.st, Later.refl _ _ _ _, h3.ra⟩
      simp only [execOp, ho]
      simp only [Sem.run_bind] at h2 ⊢
      rw [h2]
      rfl
    split at h
    · rename_i b
      split at h
      case h_2 => exact h.elim
      rename_i i hi
      split at h
      case h_2 => exact h.elim
      rename_i hk
      refine key (fun _ _ _ _ => ?_) h
      obtain ⟨⟨d, h1, h2⟩, _⟩ := hc t i hi
      have hd := tkOf_bool (d := d) (by rw [h2]; exact hk)
      rw [h1, hd]
    · exact wEqT_sound hc ho hx hy rfl h
    · exact wEqT_sound hc ho hx hy rfl h
    · exact wEqI_sound hc ho hx hy h
    · exact wEqI_sound hc ho hx hy h
    · split at h
      · exact wEqP_sound hc ho h fun μ G a w st => .inl ⟨rfl, (evalA_sound st hx).vd.nilP_inv, (evalA_sound st hy).vd.nilP_inv⟩
      · refine wEqP_sound hc ho h fun μ G a w st => .inr ⟨rfl, .inr ?_⟩
        obtain ⟨p, e⟩ := (evalA_sound st hy).vd.cptr_inv'
        exact ⟨p, (evalA_sound st hx).vd.nilP_inv, e⟩
      · exact h.elim
    · split at h
      · refine wEqP_sound hc ho h fun μ G a w st => .inr ⟨rfl, .inl ?_⟩
        obtain ⟨p, e⟩ := (evalA_sound st hx).vd.cptr_inv'
        exact ⟨p, e, (evalA_sound st hy).vd.nilP_inv⟩
      · exact h.elim
    · rename_i hb _ _ _ _ _ _
      exact key (fun a b e _ => absurd e (by intro e; exact hb a e)) h
  · rename_i n p dy hx hy
    split at h
    case h_2 => exact h.elim
    refine wEqP_sound hc ho h fun μ G a w st => .inr ⟨rfl, .inl ?_⟩
    obtain ⟨p, e⟩ := ((evalA_sound st hx).va (fun l e => by cases e)).ptr_some
    exact ⟨p, e, (evalA_sound st hy).vd.nilP_inv⟩
  · rename_i dx n p hx hy
    split at h
    case h_2 => exact h.elim
    refine wEqP_sound hc ho h fun μ G a w st => .inr ⟨rfl, .inr ?_⟩
    obtain ⟨p, e⟩ := ((evalA_sound st hy).va (fun l e => by cases e)).ptr_some
    exact ⟨p, (evalA_sound st hx).vd.nilP_inv, e⟩

end

end Go.Ab
