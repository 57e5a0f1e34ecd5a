/- An own logic, tenth part: nothing put behind a row (append of an empty slice). -/
import Derived.Test.YtboohfijacjhjaaDoorAbX
set_option linter.unusedVariables false
namespace Go.Ab
open Go.RowKit

theorem run_append_none {P : Program} {w : World} {t ty e : TypeId} {i : TypeInfo} (ht : P.underlying t = some (.slice e)) (hi : P.info? e = some i)
    {v : Value} {n : Nat} {xs : List Value} {size : Nat} (hown : w.ownsRowF 0 e size v n xs) {b : Option Addr} {c : Nat} :
    (Builtin.append_ #[t, t] ty #[v, .slice b 0 c]).run P w = .ok v w := by
  have hld : ∀ a : Addr, (loadCells a 0).run P w = .ok #[] w := by
    intro a
    simp [loadCells, loadCellsFrom]
  rcases hown.2 with ⟨rfl, rfl⟩ | ⟨g, cap, cur, fz, rfl, hbg, hg, hfz, hnc, hcm, hcs, htake⟩
  · cases b with
    | none => simp [Builtin.append_, run_underlying ht, sizeOf, typeInfo, hi, Builtin.lenOf, Builtin.firstCells]
    | some a => simp [Builtin.append_, run_underlying ht, sizeOf, typeInfo, hi, Builtin.lenOf, Builtin.firstCells, hld]
  · cases b with
    | none => simp [Builtin.append_, run_underlying ht, sizeOf, typeInfo, hi, Builtin.lenOf, Builtin.firstCells, hnc, storeCells]
    | some a => simp [Builtin.append_, run_underlying ht, sizeOf, typeInfo, hi, Builtin.lenOf, Builtin.firstCells, hld, hnc, storeCells]

theorem rule_append0 {B : Base} {N : Nat} {o : Oper} {env : Env} {S : List Blk} {K : Option AV → List Blk → Prop} {s x : Operand} {t e : TypeId} {i fi : TI} {n sz sz' : Nat} {xs : List D} (hc : B.c.ok) (ho : o.op = .call { callee := .builtin .append, args := #[s, x], argTypes := #[t, t] })
    (hi : B.c.tt t = some i) (hk : i.k = .slice e) (hfi : B.c.tt e = some fi) (hs : evalA B.c env s = some (.row n)) (hn : S[n]? = some (.row e sz xs)) (hx : evalA B.c env x = some (.d (.sl sz' []))) (h : K (some (.row n)) S) : OpsTo B N o env S K := by
  obtain ⟨⟨d, h1, h2⟩, _⟩ := hc t i hi
  obtain ⟨_, info, f1, f2, f3, f4⟩ := hc e fi hfi
  rw [hk] at h2
  obtain rfl : d = .slice e := by cases d <;> simp [tkOf] at h2; subst h2; rfl
  refine opsTo_pure h fun μ G a w st => ?_
  obtain ⟨hnS, hsv⟩ := ca_row_inv ((evalA_sound st hs).va (fun l e => by cases e))
  obtain ⟨cs, g1, g2, g3, g4⟩ := st.st.blks n _ hn
  have hv := (evalA_sound st hx).vd
  obtain ⟨b, c, e1⟩ : ∃ b c, a.eval x = .slice b 0 c := by
    rcases hv.sl_inv with ⟨e1, _⟩ | ⟨ad, cap, c, e1, _⟩
    · exact ⟨none, 0, e1⟩
    · exact ⟨_, _, e1⟩
  refine ⟨μ n, ?_, hsv ▸ evalA_sound st hs⟩
  simp only [execOp, ho, resolve, Sem.run_bind, Sem.run_pure, Result.andThen_ok, invoke, builtin]
  have : (Array.map a.eval #[s, x]) = #[μ n, .slice b 0 c] := by simp [hsv, e1]
  rw [this, run_append_none h1 f1 g1]
  rfl

/-- An append of a slice that may be empty. -/
def wAppend0 (c : Ctx) (o : Oper) (env : Env) (S : List Blk) (K : Option AV → List Blk → Prop) : Prop :=
  match o.op with
  | .call { callee := .builtin .append, args, argTypes } => match argTypes.toList, args.toList with
    | [t, t'], [x, y] => match Nat.beq t t' with
      | true => match c.tt t with
        | some i => match i.k with
          | .slice e => match c.tt e with
            | some _ => match evalA c env x with
              | some (.row n) => match S[n]? with
                | some (.row e' _ _) => match Nat.beq e e' with
                  | true => match evalA c env y with
                    | some (.d (.sl _ ys)) => ys = [] ∧ K (some (.row n)) S
                    | _ => False
                  | false => False
                | _ => False
              | _ => False
            | none => False
          | _ => False
        | none => False
      | false => False
    | _, _ => False
  | _ => False

theorem wAppend0_sound {B : Base} {N : Nat} {o : Oper} {env : Env} {S : List Blk} {K : Option AV → List Blk → Prop} (hc : B.c.ok) (h : wAppend0 B.c o env S K) : OpsTo B N o env S K := by
  unfold wAppend0 at h
  split at h
  case h_2 => exact h.elim
  rename_i args ats ho
  split at h
  case h_2 => exact h.elim
  rename_i t t' x y ht hxy
  split at h
  case h_2 => exact h.elim
  rename_i htt
  have htt := beq_true htt
  subst htt
  have ho' : o.op = .call { callee := .builtin .append, args := #[x, y], argTypes := #[t, t] } := by
    rw [ho]
    have e1 : args = #[x, y] := by rw [← Array.toArray_toList (xs := args), hxy]
    have e2 : ats = #[t, t] := by rw [← Array.toArray_toList (xs := ats), ht]
    rw [e1, e2]
  split at h
  case h_2 => exact h.elim
  rename_i i hi
  split at h
  case h_2 => exact h.elim
  rename_i e hk
  split at h
  case h_2 => exact h.elim
  rename_i fi hfi
  split at h
  case h_2 => exact h.elim
  rename_i n hs
  split at h
  case h_2 => exact h.elim
  rename_i e' sz xs hn
  split at h
  case h_2 => exact h.elim
  rename_i he
  obtain rfl := beq_true he
  split at h
  case h_2 => exact h.elim
  rename_i sz' ys hy
  obtain ⟨rfl, h⟩ := h
  exact rule_append0 hc ho' hi hk hfi hs hn hy h

def WOp2 (c : Ctx) (k : Nat) (o : Oper) (env : Env) (S : List Blk) (K : Option AV → List Blk → Prop) : Prop :=
  match o.op with
  | .call { callee := .builtin .append, .. } => WOp c k o env S K ∨ wAppend0 c o env S K
  | _ => WOp c k o env S K

theorem wop2_sound {B : Base} {N : Nat} {o : Oper} {env : Env} {S : List Blk} {K : Option AV → List Blk → Prop} (hc : B.c.ok) (h : WOp2 B.c B.k0 o env S K) : OpsTo B N o env S K := by
  unfold WOp2 at h
  split at h
  · exact h.elim (wop_sound hc) (wAppend0_sound hc)
  · exact wop_sound hc h

/-- R1, and appends that may put nothing behind. -/
def R2 : OpRule := ⟨WOp2, fun _ _ _ _ _ _ hc h => wop2_sound hc h, fun c _ N ops env S K => WDraw c N ops env S K, fun _ _ _ _ _ _ _ hc h _ _ _ _ st => wdraw_sound hc h st⟩
end Go.Ab
