/-
  An own logic over the kit's 'Calls' (Ab8): the operations, each with its rule.
-/
import Derived.Test.YtmmgdbcppmabaaaAb7
namespace Go.Ab
open Go.RowKit

def kindB : IntKind → IntKind → Bool
  | .i8, .i8 => true | .i16, .i16 => true | .i32, .i32 => true | .i64, .i64 => true
  | .u8, .u8 => true | .u16, .u16 => true | .u32, .u32 => true | .u64, .u64 => true
  | _, _ => false

theorem kindB_spec {a b : IntKind} (h : kindB a b = true) : a = b := by cases a <;> cases b <;> first | rfl | cases h

/-- What a binary operator gives, on data. -/
def evBin (op : BinOp) (x y : D) (K : D → Prop) : Prop :=
  match x, y with
  | .int k a, .int k' b =>
    match op with
    | .shl => 0 ≤ b ∧ K (.int k (k.wrap (a * 2 ^ (min b.toNat k.bits))))
    | .shr => 0 ≤ b ∧ K (.int k (a.fdiv (2 ^ (min b.toNat k.bits))))
    | op => match kindB k k' with
      | false => False
      | true => match op with
        | .add => K (.int k (k.wrap (a + b)))
        | .sub => K (.int k (k.wrap (a - b)))
        | .mul => K (.int k (k.wrap (a * b)))
        | .quo => b ≠ 0 ∧ K (.int k (k.wrap (a.tdiv b)))
        | .rem => b ≠ 0 ∧ K (.int k (a.tmod b))
        | .and => K (.int k (k.wrap (BitVec.ofInt k.bits a &&& BitVec.ofInt k.bits b).toNat))
        | .or => K (.int k (k.wrap (BitVec.ofInt k.bits a ||| BitVec.ofInt k.bits b).toNat))
        | .xor => K (.int k (k.wrap (BitVec.ofInt k.bits a ^^^ BitVec.ofInt k.bits b).toNat))
        | .andNot => K (.int k (k.wrap (BitVec.ofInt k.bits a &&& ~~~(BitVec.ofInt k.bits b)).toNat))
        | .eql => K (.bool (a == b))
        | .neq => K (.bool (a != b))
        | .lss => K (.bool (decide (a < b)))
        | .leq => K (.bool (decide (a ≤ b)))
        | .gtr => K (.bool (decide (a > b)))
        | .geq => K (.bool (decide (a ≥ b)))
        | _ => False
  | .str a, .str b =>
    match op with
    | .add => a.size + b.size ≤ 9223372036854775807 ∧ K (.str (a ++ b))
    | .eql => K (.bool (decide (a = b)))
    | .neq => K (.bool (!decide (a = b)))
    | _ => False
  | .bool a, .bool b =>
    match op with
    | .eql => K (.bool (a == b))
    | .neq => K (.bool (!(a == b)))
    | _ => False
  | _, _ => False

theorem toList_beq (a b : ByteArray) : (a.toList == b.toList) = decide (a = b) := by
  rw [ByteArray.toList_eq, ByteArray.toList_eq]
  by_cases h : a = b
  · subst h; simp
  · rw [decide_eq_false h, beq_eq_false_iff_ne]
    intro e
    apply h
    cases a; cases b
    simp at e
    rw [e]

theorem run_eqGuard_int (P : Program) (op : BinOp) (t : TypeId) (x y : Operand) (k k' : IntKind) (a b : Int) (w : World) : (eqGuard op t x y (.int k a) (.int k' b)).run P w = .ok () w := by
  unfold eqGuard; cases op <;> rfl
theorem run_eqGuard_str (P : Program) (op : BinOp) (t : TypeId) (x y : Operand) (a b : ByteArray) (w : World) : (eqGuard op t x y (.string a) (.string b)).run P w = .ok () w := by
  unfold eqGuard; cases op <;> rfl
theorem run_eqGuard_bool (P : Program) (op : BinOp) (t : TypeId) (x y : Operand) (a b : Bool) (w : World) : (eqGuard op t x y (.bool a) (.bool b)).run P w = .ok () w := by
  unfold eqGuard; cases op <;> rfl

theorem run_equalIn_bool' {P : Program} {t : TypeId} (hu : P.underlying t = some .bool) (a b : Bool) (d : Nat) (w : World) : (Op.equalIn (d + 1) t (.bool a) (.bool b)).run P w = .ok (a == b) w := by
  simp only [Op.equalIn, Sem.run_bind, run_underlying hu, Result.andThen_ok]
  rfl

theorem run_equal_bool {P : Program} {t : TypeId} (hu : P.underlying t = some .bool) (a b : Bool) (w : World) : (Op.equal t (.bool a) (.bool b)).run P w = .ok (a == b) w :=
  run_equalIn_bool' hu a b 9999 w

theorem run_bin_eql_bool {P : Program} {t : TypeId} (hu : P.underlying t = some .bool) (a b : Bool) (w : World) : (binOp .eql t (.bool a) (.bool b)).run P w = .ok (.bool (a == b)) w := by
  show (Op.equal t (.bool a) (.bool b) >>= fun r => pure (Value.bool r)).run P w = _
  rw [Sem.run_bind, run_equal_bool hu]
  rfl

theorem run_bin_neq_bool {P : Program} {t : TypeId} (hu : P.underlying t = some .bool) (a b : Bool) (w : World) : (binOp .neq t (.bool a) (.bool b)).run P w = .ok (.bool (!(a == b))) w := by
  show (Op.equal t (.bool a) (.bool b) >>= fun r => pure (Value.bool (!r))).run P w = _
  rw [Sem.run_bind, run_equal_bool hu]
  rfl

theorem evBin_sound {P : Program} {op : BinOp} {t : TypeId} {ox oy : Operand} {x y : D} {K : D → Prop} {w : World} {G} {vx vy : Value}
    (hb : ∀ a b, x = .bool a → y = .bool b → P.underlying t = some .bool) (h : evBin op x y K)
    (hx : VD w G x vx) (hy : VD w G y vy) : ∃ z v, K z ∧ (do eqGuard op t ox oy vx vy; binOp op t vx vy : Sem Value).run P w = .ok v w ∧ VD w G z v := by
  unfold evBin at h
  split at h
  · -- integers
    rename_i k a k' b
    have e1 := hx.int_inv; have e2 := hy.int_inv
    subst e1; subst e2
    simp only [Sem.run_bind, run_eqGuard_int, Result.andThen_ok]
    cases op <;> simp only at h
    case shl => exact ⟨_, .int k _, h.2, by simp [binOp, Op.shift, Int.not_lt.2 h.1], VD.int⟩
    case shr => exact ⟨_, .int k _, h.2, by simp [binOp, Op.shift, Int.not_lt.2 h.1], VD.int⟩
    all_goals
      cases hk : kindB k k' with
      | false => rw [hk] at h; exact h.elim
      | true =>
        rw [hk] at h
        have := kindB_spec hk
        subst this
        simp only at h
        first
          | exact h.elim
          | exact ⟨_, .int k _, h, by simp only [binOp, ne_eq, not_true_eq_false, if_false, Op.intArith]; rfl, VD.int⟩
          | exact ⟨_, .int k _, h.2, by simp [binOp, Op.intDiv, h.1], VD.int⟩
          | exact ⟨_, .int k _, h, by simp only [binOp, ne_eq, not_true_eq_false, if_false]; rfl, VD.int⟩
          | exact ⟨_, .bool _, h, by simp [binOp, Op.intCmp], VD.bool⟩
  · rename_i a b
    have e1 := hx.str_inv; have e2 := hy.str_inv
    subst e1; subst e2
    simp only [Sem.run_bind, run_eqGuard_str, Result.andThen_ok]
    cases op <;> simp only at h
    case add =>
      refine ⟨_, .string (a ++ b), h.2, ?_, VD.str⟩
      have : ¬ (((a.size + b.size : Nat) : Int) > IntKind.i64.max) := by
        have := h.1
        simp only [IntKind.max, IntKind.signed, IntKind.bits, if_true]
        omega
      simp only [binOp, Op.stringOp]
      rw [if_neg this]
      rfl
    case eql => exact ⟨_, .bool (decide (a = b)), h, by simp only [binOp, Op.stringOp, toList_beq]; rfl, VD.bool⟩
    case neq => exact ⟨_, .bool (!decide (a = b)), h, by simp only [binOp, Op.stringOp, toList_beq]; rfl, VD.bool⟩
    all_goals exact h.elim
  · rename_i a b
    have e1 := hx.bool_inv; have e2 := hy.bool_inv
    subst e1; subst e2
    simp only [Sem.run_bind, run_eqGuard_bool, Result.andThen_ok]
    have hu := hb a b rfl rfl
    cases op <;> simp only at h
    case eql => exact ⟨_, .bool (a == b), h, run_bin_eql_bool hu a b w, VD.bool⟩
    case neq => exact ⟨_, .bool (!(a == b)), h, run_bin_neq_bool hu a b w, VD.bool⟩
    all_goals exact h.elim
  · exact h.elim

def isBoolTK : TK → Bool
  | .bool => true
  | _ => false

/-- 'K' of what an operation gives. -/
def wBin (c : Ctx) (op : BinOp) (t : TypeId) (x y : Option AV) (K : AV → Prop) : Prop :=
  match x, y with
  | some (.d x), some (.d y) =>
    match x with
    | .bool _ => match c.tt t with
      | some i => match isBoolTK i.k with | true => evBin op x y fun z => K (.d z) | false => False
      | none => False
    | x => evBin op x y fun z => K (.d z)
  | _, _ => False

theorem tkOf_bool {d : TypeDesc} (h : isBoolTK (tkOf d) = true) : d = .bool := by
  cases d <;> simp [tkOf, isBoolTK] at h ⊢

theorem wBin_sound {B : Base} {N env S K op t x y yt} {o : Oper} (hc : B.c.ok) (ho : o.op = .binOp op t x y yt) (h : wBin B.c op t (evalA B.c env x) (evalA B.c env y) fun v => K (some v) S) :
    OpsTo B N o env S K := by
  unfold wBin at h
  split at h
  case h_2 => exact h.elim
  rename_i dx dy hx hy
  have key : ∀ (hbb : ∀ a b, dx = .bool a → dy = .bool b → B.c.P.underlying t = some .bool), (evBin op dx dy fun z => K (some (.d z)) S) → OpsTo B N o env S K := by
    intro hbb hev
    refine opsTo_value fun μ G a w st => ?_
    obtain ⟨z, v, h1, h2, h3⟩ := evBin_sound (ox := x) (oy := y) hbb hev (evalA_sound st hx).vd (evalA_sound st hy).vd
    refine ⟨v, w, μ, G, .d z, S, ?_, h1, st.st, Later.refl _ _ _ _, h3.ra⟩
    simp only [execOp, ho]
    simp only [Sem.run_bind] at h2 ⊢
    rw [h2]
    rfl
  split at h
  · rename_i b hb
    split at h
    case h_2 => exact h.elim
    rename_i i hi
    split at h
    case h_2 => exact h.elim
    rename_i hk
    refine key (fun _ _ _ _ => ?_) h
    obtain ⟨⟨d, h1, h2⟩, _⟩ := hc t i hi
    have hd := tkOf_bool (d := d) (by rw [h2]; exact hk)
    rw [h1, hd]
  · rename_i hb
    exact key (fun a b e _ => absurd e (by intro e; exact hb a e)) h

end Go.Ab
