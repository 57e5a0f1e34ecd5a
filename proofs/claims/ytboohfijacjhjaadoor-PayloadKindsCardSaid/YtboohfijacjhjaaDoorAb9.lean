/-
  An own logic over the kit's 'Calls' (Ab9): the other operations.
-/
import Derived.Test.YtboohfijacjhjaaDoorAb8
namespace Go.Ab
open Go.RowKit

def notTup : AV → Bool
  | .tup _ => false
  | _ => true

theorem notTup_spec {x : AV} (h : notTup x = true) : ∀ l, x ≠ .tup l := by
  intro l e; subst e; cases h

section
variable {B : Base} {N : Nat} {o : Oper} {env : Env} {S : List Blk} {K : Option AV → List Blk → Prop}

theorem rule_move {x : Operand} {v : AV} (ho : o.op = .move x ∨ o.op = .assign x) (hx : evalA B.c env x = some v) (h : K (some v) S) : OpsTo B N o env S K :=
  opsTo_pure h fun μ G a w st => ⟨a.eval x, by rcases ho with ho | ho <;> simp [execOp, ho], evalA_sound st hx⟩

theorem rule_pick {c x y : Operand} {b : Bool} {v : AV} (ho : o.op = .pick c x y) (hc : evalA B.c env c = some (.d (.bool b))) (hv : evalA B.c env (if b then x else y) = some v) (h : K (some v) S) : OpsTo B N o env S K :=
  opsTo_pure h fun μ G a w st => ⟨a.eval (if b then x else y), by
    have := (evalA_sound st hc).vd.bool_inv
    cases b <;> simp [execOp, ho, this, asBool], evalA_sound st hv⟩

theorem rule_extract {x : Operand} {i : Nat} {l : List AV} {v : AV} (ho : o.op = .extract x i) (hx : evalA B.c env x = some (.tup l)) (hi : l[i]? = some v) (hv : notTup v = true) (h : K (some v) S) : OpsTo B N o env S K :=
  opsTo_pure h fun μ G a w st => by
    obtain ⟨vs, e, hvs⟩ := evalA_sound st hx
    have key : ∀ {l : List AV} {vs : List Value} {i : Nat}, VS μ S.length w G l vs → l[i]? = some v → ∃ u, vs[i]? = some u ∧ VA μ S.length w G v u := by
      intro l vs i hs
      induction hs generalizing i with
      | nil => intro h; simp at h
      | cons h1 _ ih =>
        intro h
        cases i with
        | zero => simp at h; subst h; exact ⟨_, by simp, h1⟩
        | succ i => simpa using ih (by simpa using h)
    obtain ⟨u, hu, hra⟩ := key hvs hi
    refine ⟨u, ?_, hra.ra (notTup_spec hv)⟩
    simp [execOp, ho, e, Instr.extract, hu]

theorem rule_un {op : UnOp} {t : TypeId} {x : Operand} {b : Bool} (ho : o.op = .unOp op t x) (hop : op = .not) (hx : evalA B.c env x = some (.d (.bool b))) (h : K (some (.d (.bool (!b)))) S) : OpsTo B N o env S K :=
  opsTo_pure h fun μ G a w st => ⟨.bool (!b), by
    have := (evalA_sound st hx).vd.bool_inv
    subst hop
    simp [execOp, ho, this, Op.unary], VD.bool.ra⟩

theorem rule_neg {t : TypeId} {x : Operand} {k : IntKind} {n : Int} (ho : o.op = .unOp .neg t x) (hx : evalA B.c env x = some (.d (.int k n))) (h : K (some (.d (.int k (k.wrap (0 - n))))) S) : OpsTo B N o env S K :=
  opsTo_pure h fun μ G a w st => ⟨.int k (k.wrap (0 - n)), by
    have := (evalA_sound st hx).vd.int_inv
    simp [execOp, ho, this, Op.unary, Op.intArith], VD.int.ra⟩

theorem rule_alloc {t : TypeId} {i : TI} {z : D} (hc : B.c.ok) (ho : o.op = .alloc t) (hi : B.c.tt t = some i) (hz : i.zero = some z) (h : K (some (.ptr S.length [])) (S ++ [.var (.d z)])) : OpsTo B N o env S K :=
  opsTo_value fun μ G a w st => by
    obtain ⟨_, info, h1, h2, h3, h4⟩ := hc t i hi
    obtain ⟨v, h5, h6⟩ := h4 z hz
    obtain ⟨μ', h7, h8, h9, h10⟩ := st.st.newVar (t := t) (x := .d z) (v := v) (VA.d_iff.2 (h6 w G))
    refine ⟨.pointer (some ⟨w.heap.size, 0, none⟩), _, μ', G, _, _, ?_, h, h8, h9, h10.ra (fun l e => by cases e)⟩
    simp only [execOp, ho, Sem.run_bind, Instr.alloc, zeroValue, typeInfo, run_program, Result.andThen_ok, h1, h5, Sem.run_pure, h7]

theorem rule_box {t : TypeId} {x : Operand} {v : AV} (ho : o.op = .box t x) (hx : evalA B.c env x = some v) (hv : notTup v = true) (h : K (some (.ptr S.length [])) (S ++ [.var v])) : OpsTo B N o env S K :=
  opsTo_value fun μ G a w st => by
    have hva := (evalA_sound st hx).va (notTup_spec hv)
    obtain ⟨μ', h7, h8, h9, h10⟩ := st.st.newVar (t := t) hva
    refine ⟨.pointer (some ⟨w.heap.size, 0, none⟩), _, μ', G, _, _, ?_, h, h8, h9, h10.ra (fun l e => by cases e)⟩
    simp only [execOp, ho, Sem.run_bind, Instr.box, Result.andThen_ok, Sem.run_pure, h7]

theorem rule_load {t : TypeId} {x : Operand} {i : TI} {n : Nat} {p : List Step} {X y : AV} (hc : B.c.ok) (ho : o.op = .load t x) (hi : B.c.tt t = some i) (hx : evalA B.c env x = some (.ptr n p))
    (hn : S[n]? = some (.var X)) (hg : AV.getP X p = some y) (hs : shapeB i y = true) (hy : notTup y = true) (h : K (some y) S) : OpsTo B N o env S K :=
  opsTo_pure h fun μ G a w st => by
    obtain ⟨u, h1, h2⟩ := st.st.load hc hi ((evalA_sound st hx).va (fun l e => by cases e)) hn hg hs
    refine ⟨u, ?_, h2.ra (notTup_spec hy)⟩
    simp only [execOp, ho, Sem.run_bind, h1, Result.andThen_ok, Sem.run_pure]

theorem rule_loadC {t : TypeId} {x : Operand} {i : TI} {X : D} (hc : B.c.ok) (ho : o.op = .load t x) (hi : B.c.tt t = some i) (hx : evalA B.c env x = some (.d (.cptr X)))
    (hs : shapeB i (.d X) = true) (h : K (some (.d X)) S) : OpsTo B N o env S K :=
  opsTo_pure h fun μ G a w st => by
    obtain ⟨u, h1, h2⟩ := st.st.loadC hc hi (evalA_sound st hx).vd hs
    refine ⟨u, ?_, h2.ra⟩
    simp only [execOp, ho, Sem.run_bind, h1, Result.andThen_ok, Sem.run_pure]

theorem rule_store {t : TypeId} {x y : Operand} {i : TI} {n : Nat} {p : List Step} {X X' v : AV} (hc : B.c.ok) (ho : o.op = .store t x y) (hi : B.c.tt t = some i) (hx : evalA B.c env x = some (.ptr n p))
    (hn : S[n]? = some (.var X)) (hg : (AV.getP X p).isSome = true) (hy : evalA B.c env y = some v) (hv : notTup v = true) (hset : AV.setP X p v = some X') (hs : shapeB i v = true) (h : K none (S.set n (.var X'))) : OpsTo B N o env S K :=
  opsTo_skip fun μ G a w st => by
    obtain ⟨w', h1, h2, h3⟩ := st.st.store hc hi ((evalA_sound st hx).va (fun l e => by cases e)) hn hg ((evalA_sound st hy).va (notTup_spec hv)) hset hs
    refine ⟨w', μ, G, _, ?_, h, h2, h3⟩
    simp only [execOp, ho, Sem.run_bind, h1, Result.andThen_ok, Sem.run_pure]

/-- The field's place. -/
theorem run_fieldAt {P : Program} {t : TypeId} {i : TI} {fs : List (Nat × Nat × Bool)} (hi : i.fits P t) (hk : i.k = .struct fs) {f off ft : Nat} {nm : Bool} (hf : fs[f]? = some (off, ft, nm)) {fi : TI} (hfi : fi.fits P ft)
    (hz : fi.size ≠ 0) (b o : Nat) (w : World) : (Instr.fieldAt t (.pointer (some ⟨b, o, none⟩)) f).run P w = .ok (.pointer (some ⟨b, o + off, none⟩)) w := by
  obtain ⟨⟨d, h1, h2⟩, _⟩ := hi
  rw [hk] at h2
  cases d with
  | struct fields =>
    simp only [tkOf, TK.struct.injEq] at h2
    rw [← h2] at hf
    simp only [List.getElem?_map, Option.map_eq_some_iff] at hf
    obtain ⟨fld, hf1, hf2⟩ := hf
    simp only [Prod.mk.injEq] at hf2
    obtain ⟨rfl, rfl, _⟩ := hf2
    have hf3 : fields[f]? = some fld := by simpa using hf1
    simp only [Instr.fieldAt, Sem.run_bind, run_underlying h1, Result.andThen_ok, hf3, Instr.sureAddr, Sem.run_pure, fieldPlace, run_sizeOf' hfi, Sem.run_ite]
    rw [if_neg hz]
    simp only [Result.andThen_ok, addr_add]
  | _ => simp [tkOf] at h2

theorem rule_fieldAddr {t : TypeId} {x : Operand} {f n : Nat} {p : List Step} {i fi : TI} {fs : List (Nat × Nat × Bool)} {off ft : Nat} {nm : Bool} (hc : B.c.ok) (ho : o.op = .fieldAddr t x f) (hi : B.c.tt t = some i) (hk : i.k = .struct fs)
    (hf : fs[f]? = some (off, ft, nm)) (hfi : B.c.tt ft = some fi) (hz : Nat.beq fi.size 0 = false) (hx : evalA B.c env x = some (.ptr n p)) (h : K (some (.ptr n (p ++ [.fld f off]))) S) : OpsTo B N o env S K :=
  opsTo_pure h fun μ G a w st => by
    obtain ⟨b, h1, h2, h3, h4⟩ := ((evalA_sound st hx).va (fun l e => by cases e)).ptr_inv
    refine ⟨.pointer (some ⟨b, offp p + off, none⟩), ?_, ?_⟩
    · simp only [execOp, ho, h4, Sem.run_bind, run_fieldAt (hc t i hi) hk hf (hc ft fi hfi) (by intro e; rw [e] at hz; cases hz), Result.andThen_ok, Sem.run_pure]
    · have e : offp p + off = offp (p ++ [.fld f off]) := by simp [offp_append, offp]
      rw [e]
      exact (VA.of_single (.ptr h1 h2 (fun s hs => by
        rcases List.mem_append.1 hs with hs | hs
        · exact h3 s hs
        · simp at hs; subst hs; trivial) .nil) rfl).ra (fun l e => by cases e)

theorem rule_fieldAddrC {t : TypeId} {x : Operand} {f : Nat} {i fi : TI} {fs : List (Nat × Nat × Bool)} {off ft : Nat} {nm : Bool} {l : List D} {y : D} (hc : B.c.ok) (ho : o.op = .fieldAddr t x f) (hi : B.c.tt t = some i) (hk : i.k = .struct fs)
    (hf : fs[f]? = some (off, ft, nm)) (hfi : B.c.tt ft = some fi) (hz : Nat.beq fi.size 0 = false) (hx : evalA B.c env x = some (.d (.cptr (.agg l)))) (hl : Nat.beq (D.sizes (l.take f)) off = true) (hy : l[f]? = some y) (h : K (some (.d (.cptr y))) S) : OpsTo B N o env S K :=
  opsTo_pure h fun μ G a w st => by
    obtain ⟨b, o', c, e1, e2, e3⟩ := (evalA_sound st hx).vd.cptr_inv
    refine ⟨.pointer (some ⟨b, o' + off, none⟩), ?_, ?_⟩
    · simp only [execOp, ho, e1, Sem.run_bind, run_fieldAt (hc t i hi) hk hf (hc ft fi hfi) (by intro e; rw [e] at hz; cases hz), Result.andThen_ok, Sem.run_pure]
    · cases e2 with
      | agg g1 g2 =>
      cases g2
      obtain ⟨a', m, z, rfl, g3, g4⟩ := g1.get hy
      rw [List.append_nil] at e3
      have := e3.part
      rw [g3, beq_true hl] at this
      exact (VD.of_single (.cptr g4 this .nil) rfl).ra

end

end Go.Ab
