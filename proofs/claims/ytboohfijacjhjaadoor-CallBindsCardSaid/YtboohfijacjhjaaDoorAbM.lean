/- An own logic, last part: maps of one's own in a rule. -/
import Derived.Test.YtboohfijacjhjaaDoorAbV
set_option linter.unusedVariables false
namespace Go.Ab
open Go.RowKit

def wMake (S : List Blk) (K : Option AV → List Blk → Prop) : Prop := K (some (.row S.length)) (S ++ [.mapb [] (.agg [])])

/-- A look into a map of one's own. -/
def wLook (c : Ctx) (t : TypeId) (m x : Option AV) (S : List Blk) (K : Option AV → List Blk → Prop) : Prop :=
  match m with
  | some (.row n) => match S[n]? with
    | some (.mapb ks (.agg vs)) => match x with
      | some (.d kd) => ∃ (kt et : TypeId) (ei : TI) (z : D) (b : ByteArray), (c.P.underlying t = some (.map kt et) ∧ KeyOk c.P kt ∧ c.tt et = some ei ∧ ei.zero = some z ∧ kd = .arr 32 1 (D.bytes b) ∧ b.size = 32 ∧ (vs.all fun y => !y.isAgg) = true) ∧
        ((∃ (j m : Nat) (e : TypeId) (sz : Nat) (xs : List D), ((∀ i, ks[i]? = some b → i = j) ∧ ks[j]? = some b ∧ vs[j]? = some (.row m) ∧ S[m]? = some (.row e sz xs)) ∧ K (some (.d (.sl sz xs))) S) ∨ (b ∉ ks ∧ K (some (.d z)) S))
      | _ => False
    | _ => False
  | _ => False

/-- A place in a map of one's own. -/
def wEntry (c : Ctx) (t : TypeId) (m x : Option AV) (S : List Blk) (K : Option AV → List Blk → Prop) : Prop :=
  match m with
  | some (.row n) => match S[n]? with
    | some (.mapb ks (.agg vs)) => match x with
      | some (.d kd) => ∃ (kt et : TypeId) (ei : TI) (z : D) (b : ByteArray), (c.P.underlying t = some (.map kt et) ∧ KeyOk c.P kt ∧ c.tt et = some ei ∧ ei.zero = some z ∧ z.isAgg = false ∧ kd = .arr 32 1 (D.bytes b) ∧ b.size = 32 ∧ (vs.all fun y => !y.isAgg) = true) ∧
        ((∃ (j : Nat) (y : AV), ((∀ i, ks[i]? = some b → i = j) ∧ ks[j]? = some b ∧ vs[j]? = some y ∧ notTup y = true) ∧ K (some (.tup [y, .d (.int .i64 (j : Int))])) S) ∨
          (b ∉ ks ∧ ∃ (e : TypeId) (sz : Nat), z = .sl sz [] ∧ fS (S.set n (.mapb (ks ++ [b]) (.agg (vs ++ [.d z]))) ++ [.row e sz []]) fun S' => K (some (.tup [.row S.length, .d (.int .i64 (ks.length : Int))])) S'))
      | _ => False
    | _ => False
  | _ => False

/-- A value into a map's place. -/
def wStoreE (m s x : Option AV) (S : List Blk) (K : Option AV → List Blk → Prop) : Prop :=
  match m with
  | some (.row n) => match S[n]? with
    | some (.mapb ks (.agg vs)) => match s with
      | some (.d (.int _ i)) => match x with
        | some y => ∃ j : Nat, (i = (j : Int) ∧ notTup y = true ∧ y.isAgg = false ∧ (vs.all fun y => !y.isAgg) = true ∧ j < vs.length) ∧ fS (S.set n (.mapb ks (.agg (vs.set j y)))) fun S' => K none S'
        | none => False
      | _ => False
    | _ => False
  | _ => False

def wLenM (c : Ctx) (t : TypeId) (x : Option AV) (S : List Blk) (K : Option AV → List Blk → Prop) : Prop :=
  match x with
  | some (.row n) => match S[n]? with
    | some (.mapb ks _) => (∃ kt et : TypeId, c.P.underlying t = some (.map kt et)) ∧ K (some (.d (.int .i64 (ks.length : Int)))) S
    | _ => False
  | _ => False

def WOp4 (c : Ctx) (k : Nat) (o : Oper) (env : Env) (S : List Blk) (K : Option AV → List Blk → Prop) : Prop :=
  match o.op with
  | .makeMap _ none => wMake S K
  | .lookup t m x false => wLook c t (evalA c env m) (evalA c env x) S K
  | .mapEntry t m x => wEntry c t (evalA c env m) (evalA c env x) S K
  | .entryStore _ m s x => wStoreE (evalA c env m) (evalA c env s) (evalA c env x) S K
  | .call { callee := .builtin .len, args, argTypes } => WOp3 c k o env S K ∨ (match argTypes.toList, args.toList with
    | [t], [x] => wLenM c t (evalA c env x) S K
    | _, _ => False)
  | _ => WOp3 c k o env S K

theorem wop4_sound {B : Base} {N : Nat} {o : Oper} {env : Env} {S : List Blk} {K : Option AV → List Blk → Prop} (hc : B.c.ok) (h : WOp4 B.c B.k0 o env S K) : OpsTo B N o env S K := by
  unfold WOp4 at h
  split at h
  · rename_i ho
    exact rule_makeMap ho h
  · rename_i t m x ho
    unfold wLook at h
    split at h
    case h_2 => exact h.elim
    rename_i n hm
    split at h
    case h_2 => exact h.elim
    rename_i ks vs hn
    split at h
    case h_2 => exact h.elim
    rename_i kd hx
    obtain ⟨kt, et, ei, z, b, ⟨h1, h2, h3, h4, rfl, h6, h7⟩, h8⟩ := h
    refine rule_lookup hc ho h1 h2 h3 h4 hm hn hx h6 h7 ?_
    rcases h8 with ⟨j, m', e, sz, xs, ⟨q1, q2, q3, q4⟩, q5⟩ | q
    · exact .inl ⟨j, m', e, sz, xs, q1, q2, q3, q4, q5⟩
    · exact .inr q
  · rename_i t m x ho
    unfold wEntry at h
    split at h
    case h_2 => exact h.elim
    rename_i n hm
    split at h
    case h_2 => exact h.elim
    rename_i ks vs hn
    split at h
    case h_2 => exact h.elim
    rename_i kd hx
    obtain ⟨kt, et, ei, z, b, ⟨h1, h2, h3, h4, h4', rfl, h6, h7⟩, h8⟩ := h
    refine rule_mapEntry hc ho h1 h2 h3 h4 h4' hm hn hx h6 h7 ?_
    rcases h8 with ⟨j, y, ⟨q1, q2, q3, q4⟩, q5⟩ | ⟨q1, q2⟩
    · exact .inl ⟨j, y, q1, q2, q3, q4, q5⟩
    · obtain ⟨e, sz, q3, q2⟩ := q2
      rw [fS_eq] at q2
      exact .inr ⟨q1, e, sz, q3, q2⟩
  · rename_i t m s x ho
    unfold wStoreE at h
    split at h
    case h_2 => exact h.elim
    rename_i n hm
    split at h
    case h_2 => exact h.elim
    rename_i ks vs hn
    split at h
    case h_2 => exact h.elim
    rename_i k i hs
    split at h
    case h_2 => exact h.elim
    rename_i y hx
    obtain ⟨j, ⟨rfl, h2, h3, h4, h5⟩, h6⟩ := h
    rw [fS_eq] at h6
    exact rule_entryStore ho hm hn hs hx h2 h3 h4 h5 h6
  · rename_i args ats ho
    rcases h with h | h
    · exact wop3_sound hc h
    · split at h
      case h_2 => exact h.elim
      rename_i t x ht hxs
      unfold wLenM at h
      split at h
      case h_2 => exact h.elim
      rename_i n hx
      split at h
      case h_2 => exact h.elim
      rename_i ks X hn
      obtain ⟨⟨kt, et, h1⟩, h2⟩ := h
      have ho' : o.op = .call { callee := .builtin .len, args := #[x], argTypes := #[t] } := by
        rw [ho]
        have e1 : args = #[x] := by rw [← Array.toArray_toList (xs := args), hxs]
        have e2 : ats = #[t] := by rw [← Array.toArray_toList (xs := ats), ht]
        rw [e1, e2]
      exact rule_lenMap ho' h1 hx hn h2
  · exact wop3_sound hc h

/-- R3, and maps of one's own. -/
def R4 : OpRule := ⟨WOp4, fun _ _ _ _ _ _ hc h => wop4_sound hc h, fun c _ N ops env S K => WDraw c N ops env S K, fun _ _ _ _ _ _ _ hc h _ _ _ _ st => wdraw_sound hc h st⟩
end Go.Ab
