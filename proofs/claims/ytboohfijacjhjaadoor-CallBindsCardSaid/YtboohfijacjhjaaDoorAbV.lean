/- An own logic, eleventh part: a struct is built whose nil slices are rows of one's own. -/
import Derived.Test.YtboohfijacjhjaaDoorAbW
set_option linter.unusedVariables false
namespace Go.Ab
open Go.RowKit

theorem rule_build_rows {B : Base} {N : Nat} {o : Oper} {env : Env} {S : List Blk} {K : Option AV → List Blk → Prop} {t : TypeId} {parts : Array (Nat × Operand)} {i : TI} {fs : List (Nat × Nat × Bool)} {l : List D} {ws : List (Option TypeId)} {x : AV} (hc : B.c.ok) (ho : o.op = .build t parts) (hi : B.c.tt t = some i) (hk : i.k = .struct fs) (hz : i.zero = some (.agg l))
    (hall : allKnown B.c fs = true) (hf : fillA (evalA B.c env) (stepOf B.c fs) parts.toList (.agg (rowsZ S.length l ws).1) = some x) (h : K (some x) (S ++ (rowsZ S.length l ws).2)) : OpsTo B N o env S K :=
  opsTo_value fun μ G a w st => by
    obtain ⟨⟨d, h1, h2⟩, _⟩ := hc t i hi
    obtain ⟨info, v, k1, k5, k6, k7⟩ := hc.zero0 t i _ hi hz
    have k6' : cells0s l = some v.cells.toList := by simpa only [cells0] using k6
    obtain ⟨μ1, g1, g2, g3⟩ := rowsZ_ok l ws _ S μ G w k6' st.st
    have st1 : At1 B N env (S ++ (rowsZ S.length l ws).2) μ1 G a w := ⟨g1, st.env.later g2, st.n, st.d⟩
    rw [hk] at h2
    cases d with
    | struct fields =>
      simp only [tkOf, TK.struct.injEq] at h2
      obtain ⟨ps, q1, q2⟩ := run_places hc fields.toList w (by rw [h2]; exact hall)
      have hzc : CA μ1 (S ++ (rowsZ S.length l ws).2).length w G [.agg (rowsZ S.length l ws).1] v.cells.toList := by simpa using CA.agg g3 .nil
      obtain ⟨cells', e1, e2, e3, e4⟩ := fill_sound st1 (st := stepOf B.c fs) (place := fun i => ps[i]?) (fun i s sz hs => by
        unfold stepOf at hs
        split at hs
        · rename_i off ft nm hfs
          split at hs
          · rename_i fi hfi
            cases hs
            exact ⟨trivial, q2 i off ft nm fi (by rw [h2]; exact hfs) hfi⟩
          · cases hs
        · cases hs) parts.toList (.agg (rowsZ S.length l ws).1) x v.cells hf hzc
      refine ⟨.agg cells', w, μ1, G, x, _, ?_, h, g1, g2, ?_⟩
      · simp only [execOp, ho, Sem.run_bind, Instr.build, zeroValue, typeInfo, run_program, Result.andThen_ok, k1, k5, Sem.run_pure, run_underlying h1, Array.mapM_eq_mapM_toList, Sem.run_map]
        rw [q1]
        simp only [Result.andThen_ok, List.getElem?_toArray, Array.toList_map]
        rw [e1]
        rfl
      · have hxa : x.isAgg = true := by rw [e4]; rfl
        have hnt : ∀ l, x ≠ .tup l := fun l e => by subst e; cases hxa
        have := VA.of_agg e2 hxa
        rw [Array.toArray_toList] at this
        exact this.ra hnt
    | _ => simp [tkOf] at h2

/-- A struct built, some of its nil slices rows of one's own. -/
def wBuildR (c : Ctx) (o : Oper) (env : Env) (S : List Blk) (ws : List (Option TypeId)) (K : Option AV → List Blk → Prop) : Prop :=
  match o.op with
  | .build t parts => match c.tt t with
    | some i => match i.k with
      | .struct fs => match i.zero with
        | some (.agg l) => match allKnown c fs with
          | true => match fillA (evalA c env) (stepOf c fs) parts.toList (.agg (rowsZ S.length l ws).1) with
            | some x => fS (S ++ (rowsZ S.length l ws).2) fun S' => K (some x) S'
            | none => False
          | false => False
        | _ => False
      | _ => False
    | none => False
  | _ => False

theorem wBuildR_sound {B : Base} {N : Nat} {o : Oper} {env : Env} {S : List Blk} {ws : List (Option TypeId)} {K : Option AV → List Blk → Prop} (hc : B.c.ok) (h : wBuildR B.c o env S ws K) : OpsTo B N o env S K := by
  unfold wBuildR at h
  split at h
  case h_2 => exact h.elim
  rename_i t parts ho
  split at h
  case h_2 => exact h.elim
  rename_i i hi
  split at h
  case h_2 => exact h.elim
  rename_i fs hk
  split at h
  case h_2 => exact h.elim
  rename_i l hz
  split at h
  case h_2 => exact h.elim
  rename_i hall
  split at h
  case h_2 => exact h.elim
  rename_i x hx
  rw [fS_eq] at h
  exact rule_build_rows hc ho hi hk hz hall hx h

def WOp3 (c : Ctx) (k : Nat) (o : Oper) (env : Env) (S : List Blk) (K : Option AV → List Blk → Prop) : Prop :=
  match o.op with
  | .build _ _ => WOp c k o env S K ∨ ∃ ws, wBuildR c o env S ws K
  | _ => WOp2 c k o env S K

theorem wop3_sound {B : Base} {N : Nat} {o : Oper} {env : Env} {S : List Blk} {K : Option AV → List Blk → Prop} (hc : B.c.ok) (h : WOp3 B.c B.k0 o env S K) : OpsTo B N o env S K := by
  unfold WOp3 at h
  split at h
  · exact h.elim (wop_sound hc) fun ⟨_, h⟩ => wBuildR_sound hc h
  · exact wop2_sound hc h

/-- R2, and structs that are built with rows of one's own. -/
def R3 : OpRule := ⟨WOp3, fun _ _ _ _ _ _ hc h => wop3_sound hc h, fun c _ N ops env S K => WDraw c N ops env S K, fun _ _ _ _ _ _ _ hc h _ _ _ _ st => wdraw_sound hc h st⟩
end Go.Ab
