/-
  An own logic over the kit's 'Calls' (Ab11): calls, and a function's contract from its code.
-/
import Derived.Test.YtboohfijacjhjaaDoorAb10
namespace Go.Ab
open Go.RowKit

/-- An argument or a result as it is handed on: data, or a place. -/
def finA (k0 : Nat) (S : List Blk) (x : AV) : Option (AV × List Blk) :=
  match x with
  | .d x => some (.d x, S)
  | .ptr n p => some (.ptr n p, S)
  | .fn f caps => some (.fn f caps, S)
  | .tup _ => none
  | x => match x.toD k0 S with | some (y, S') => some (.d y, S') | none => none

theorem finA_sound {B : Base} {w : World} {S S' : List Blk} {μ G x y v} (h : finA B.k0 S x = some (y, S')) (st : St B S μ G w) (hv : VA μ S.length w G x v) :
    ∃ G', St B S' μ G' w ∧ Later S μ G w S' μ G' w ∧ VA μ S'.length w G' y v ∧ notTup y = true := by
  have gen : ∀ z, x.toD B.k0 S = some (z, S') → y = .d z → ∃ G', St B S' μ G' w ∧ Later S μ G w S' μ G' w ∧ VA μ S'.length w G' y v ∧ notTup y = true := by
    intro z hz hy
    obtain ⟨G', g1, g2, g3⟩ := toD_sound x hz st hv.1
    subst hy
    exact ⟨G', g1, g2, VA.d_iff.2 ⟨g3, by rw [hv.2]; exact (toD_isAgg hz).symm⟩, rfl⟩
  cases x with
  | d x => simp only [finA] at h; cases h; exact ⟨G, st, Later.refl _ _ _ _, hv, rfl⟩
  | ptr n p => simp only [finA] at h; cases h; exact ⟨G, st, Later.refl _ _ _ _, hv, rfl⟩
  | fn f c => simp only [finA] at h; cases h; exact ⟨G, st, Later.refl _ _ _ _, hv, rfl⟩
  | tup l => simp only [finA] at h; cases h
  | row n =>
    simp only [finA] at h
    split at h
    · rename_i z S1 hz; cases h; exact gen z hz rfl
    · cases h
  | vw =>
    simp only [finA] at h
    split at h
    · rename_i z S1 hz; cases h; exact gen z hz rfl
    · cases h
  | agg =>
    simp only [finA] at h
    split at h
    · rename_i z S1 hz; cases h; exact gen z hz rfl
    · cases h

def finL (k0 : Nat) (c : Ctx) (env : Env) : List Operand → List Blk → Option (List AV × List Blk)
  | [], S => some ([], S)
  | o :: r, S => match evalA c env o with
    | some x => match finA k0 S x with
      | some (y, S') => match finL k0 c env r S' with
        | some (ys, S'') => some (y :: ys, S'')
        | none => none
      | none => none
    | none => none

theorem finL_sound {B : Base} {N : Nat} {env : Env} {S0 μ G0 a w} (h0 : At1 B N env S0 μ G0 a w) : ∀ (l : List Operand) (S S' : List Blk) (G : Nat → Nat → Prop) (ys : List AV), finL B.k0 B.c env l S = some (ys, S') → St B S μ G w → Later S0 μ G0 w S μ G w →
    ∃ G', St B S' μ G' w ∧ Later S μ G w S' μ G' w ∧ VS μ S'.length w G' ys (l.map a.eval)
  | [], S, S', G, ys, h, st, _ => by simp only [finL] at h; cases h; exact ⟨G, st, Later.refl _ _ _ _, .nil⟩
  | o :: r, S, S', G, ys, h, st, lt => by
    simp only [finL] at h
    split at h
    case h_2 => cases h
    rename_i x hx
    split at h
    case h_2 => cases h
    rename_i y S1 h1
    split at h
    case h_2 => cases h
    rename_i ys1 S2 h2
    cases h
    have hra := lt.ra (evalA_sound h0 hx)
    have hnt : ∀ l, x ≠ .tup l := fun l e => by subst e; simp [finA] at h1
    obtain ⟨G1, g1, g2, g3, _⟩ := finA_sound h1 st (hra.va hnt)
    obtain ⟨G2, e1, e2, e3⟩ := finL_sound h0 r S1 _ G1 _ h2 g1 (lt.trans g2)
    exact ⟨G2, e1, g2.trans e2, .cons (g3.mono e2.k (fun i hi _ => e2.μ i hi) e2.g e2.cells) e3⟩

def capA (caps : List Nat) : List AV := caps.map fun n => AV.ptr n []

def addNew : List Nat → List Nat → List Nat
  | acc, [] => acc
  | acc, n :: l => match acc.any (Nat.beq n) with
    | true => addNew acc l
    | false => addNew (acc ++ [n]) l

/-- All names that can be reached, the first ones first. -/
def reach (S : List Blk) : Nat → List Nat → List Nat → List Nat
  | 0, acc, _ => acc
  | _, acc, [] => acc
  | fuel + 1, acc, n :: todo => match acc.any (Nat.beq n) with
    | true => reach S fuel acc todo
    | false => reach S fuel (acc ++ [n]) (todo ++ (match S[n]? with | some b => namesB b | none => []))

def into (S : List Blk) (ns : List Nat) (args : List AV) : Option (List AV × List Blk) :=
  match nodupB ns && allLt S.length ns with
  | true => match AV.rens (posOf ns) args with
    | some args' => match subStore S ns with
      | some m => match renBlks (posOf ns) m with
        | some S' => some (args', S')
        | none => none
      | none => none
    | none => none
  | false => none

theorem into_spec {S ns args args' S'} (h : into S ns args = some (args', S')) : Into S ns args args' S' := by
  unfold into at h
  split at h
  case h_2 => cases h
  rename_i hb
  simp only [Bool.and_eq_true] at hb
  split at h
  case h_2 => cases h
  rename_i a1 h1
  split at h
  case h_2 => cases h
  rename_i m hm
  split at h
  case h_2 => cases h
  rename_i s1 h2
  cases h
  exact ⟨hb.1, allLt_spec hb.2, h1, m, hm, h2⟩

def back (S : List Blk) (ns : List Nat) (S' : List Blk) (r : AV) : Option (AV × List Blk) :=
  match AV.ren (backOf ns S.length) r with
  | some r' => match renBlks (backOf ns S.length) S' with
    | some m => some (r', putBack S ns (m.take ns.length) ++ m.drop ns.length)
    | none => none
  | none => none

theorem back_spec {S ns S' r r' S''} (h : back S ns S' r = some (r', S'')) : Back S ns S' r r' S'' := by
  unfold back at h
  split at h
  case h_2 => cases h
  rename_i a1 h1
  split at h
  case h_2 => cases h
  rename_i m hm
  cases h
  exact ⟨h1, m, hm, rfl⟩

def allVars (S : List Blk) : List Nat → Bool
  | [] => true
  | n :: l => (match S[n]? with | some (.var _) => true | _ => false) && allVars S l

/-- Numbers, values and stores with nothing left to reckon in their outer form: the same, for proofs that reckon. -/
def fN (n : Nat) (K : Nat → Prop) : Prop := @Nat.rec (fun _ => (Nat → Prop) → Prop) (fun K => K 0) (fun _ ih K => ih fun k => K (k + 1)) n K

theorem fN_eq (n : Nat) : ∀ K, fN n K = K n := by
  induction n with
  | zero => intro K; rfl
  | succ n ih => intro K; exact ih fun k => K (k + 1)

mutual
def fA : AV → (AV → Prop) → Prop
  | .d x, K => K (.d x)
  | .ptr n p, K => fN n fun n => K (.ptr n p)
  | .row n, K => fN n fun n => K (.row n)
  | .vw n p lo len cnt sz, K => fN n fun n => K (.vw n p lo len cnt sz)
  | .fn f cs, K => K (.fn f cs)
  | .agg l, K => fAs l fun l => K (.agg l)
  | .tup l, K => fAs l fun l => K (.tup l)
def fAs : List AV → (List AV → Prop) → Prop
  | [], K => K []
  | x :: l, K => fA x fun x => fAs l fun l => K (x :: l)
end

mutual
theorem fA_eq : ∀ (x : AV) (K : AV → Prop), fA x K = K x
  | .d x, K => rfl
  | .ptr n p, K => by simp only [fA, fN_eq]
  | .row n, K => by simp only [fA, fN_eq]
  | .vw n p lo len cnt sz, K => by simp only [fA, fN_eq]
  | .fn f cs, K => rfl
  | .agg l, K => by simp only [fA]; exact fAs_eq l _
  | .tup l, K => by simp only [fA]; exact fAs_eq l _
theorem fAs_eq : ∀ (l : List AV) (K : List AV → Prop), fAs l K = K l
  | [], K => rfl
  | x :: l, K => by simp only [fAs]; rw [fA_eq x]; exact fAs_eq l _
end

def fB (b : Blk) (K : Blk → Prop) : Prop :=
  match b with
  | .var x => fA x fun x => K (.var x)
  | .row e sz xs => K (.row e sz xs)
  | .iter s p => K (.iter s p)
  | .sealed x => K (.sealed x)
  | .dead => K .dead

theorem fB_eq (b : Blk) (K : Blk → Prop) : fB b K = K b := by
  cases b with
  | var x => exact fA_eq x _
  | _ => rfl

def fS : List Blk → (List Blk → Prop) → Prop
  | [], K => K []
  | b :: l, K => fB b fun b => fS l fun l => K (b :: l)

theorem fS_eq : ∀ (S : List Blk) (K : List Blk → Prop), fS S K = K S
  | [], _ => rfl
  | b :: l, K => by simp only [fS]; rw [fB_eq]; exact fS_eq l _

def wCall (c : Ctx) (k0 : Nat) (env : Env) (S : List Blk) (fo : Operand) (args : List Operand) (K : AV → List Blk → Prop) : Prop :=
  match evalA c env fo with
  | some (.fn f caps) => match finL k0 c env args S with
    | some (ys, S1) => match allVars S1 caps with
      | true => match into S1 (reach S1 64 [] (namesVs (ys ++ capA caps))) (ys ++ capA caps) with
        | some (zs, Sc) => ∃ Post, CallR c f zs Sc Post ∧ ∀ r S', Post r S' →
          match back S1 (reach S1 64 [] (namesVs (ys ++ capA caps))) S' r with
          | some (r', S2) => fA r' fun r' => fS S2 fun S2 => K r' S2
          | none => False
        | none => False
      | false => False
    | none => False
  | _ => False

theorem VS.append {μ k w G l vs m us} (h : VS μ k w G l vs) (g : VS μ k w G m us) : VS μ k w G (l ++ m) (vs ++ us) := by
  induction h with
  | nil => exact g
  | cons h _ ih => exact .cons h ih

theorem caps_ok {B S μ G w} (st : St B S μ G w) : ∀ {caps : List Nat}, allVars S caps = true → VS μ S.length w G (capA caps) (caps.map μ)
  | [], _ => .nil
  | n :: l, h => by
    simp only [allVars, Bool.and_eq_true] at h
    obtain ⟨h1, h2⟩ := h
    split at h1
    · rename_i x hx
      obtain ⟨b, cs, T, l', s, e1, _⟩ := st.blks n _ hx
      refine .cons ?_ (caps_ok st h2)
      rw [e1]
      exact VA.of_single (.ptr (List.getElem?_eq_some_iff.1 hx).1 e1 (fun s hs => by cases hs) .nil) rfl
    · cases h1

section
variable {B : Base} {N : Nat} {o : Oper} {env : Env} {S : List Blk} {K : Option AV → List Blk → Prop}

theorem VA.fn_inv {μ k w G f caps v} (h : VA μ k w G (.fn f caps) v) : v = .func (.func f) #[] (caps.map μ).toArray := by
  rcases h.inv with ⟨h1, _⟩ | ⟨_, h1, _⟩
  · simp [AV.isAgg] at h1
  · cases h1; rfl

theorem rule_call {fo : Operand} {args : Array Operand} {ts : Array TypeId} (ho : o.op = .call { callee := .value fo, args := args, argTypes := ts }) (h : wCall B.c B.k0 env S fo args.toList fun r S' => K (some r) S') : OpsTo B N o env S K := by
  intro μ G a w st next Q hn
  unfold wCall at h
  split at h
  case h_2 => exact h.elim
  rename_i f caps hf
  split at h
  case h_2 => exact h.elim
  rename_i ys S1 hys
  split at h
  case h_2 => exact h.elim
  rename_i hcaps
  generalize reach S1 64 [] (namesVs (ys ++ capA caps)) = ns at h
  split at h
  case h_2 => exact h.elim
  rename_i zs Sc hinto
  obtain ⟨Post, hcall, hpost⟩ := h
  have hi := into_spec hinto
  obtain ⟨G1, g1, g2, g3⟩ := finL_sound st args.toList S S1 G ys hys st.st (Later.refl _ _ _ _)
  have hfv := ((evalA_sound st hf).va (fun l e => by cases e)).fn_inv
  have hvs : VS μ S1.length w G1 (ys ++ capA caps) (args.toList.map a.eval ++ caps.map μ) := g3.append (caps_ok g1 hcaps)
  have hrun : (execOp a.eval o).run B.c.P w = (callFunc f (args.toList.map a.eval ++ caps.map μ).toArray).run B.c.P w := by
    simp only [execOp, ho, resolve, hfv, Deferred.ofValue, Sem.run_bind, Sem.run_pure, Result.andThen_ok, invoke]
    congr 2
    apply Array.ext'
    simp
  have hct := hcall _ G1 w _ (hi.st g1) (hi.args_ok hvs)
  unfold Oper.wp
  rw [hrun]
  rcases hct with ⟨h1, h2⟩ | ⟨v, w', h1, v', r, S', μ', G', e1, e2, e3, e4⟩
  · rw [h1, Oper.upon_enter]
    refine h2.mono ?_
    rintro e w' ⟨v, r, S', μ', G', rfl, hp, st', hra⟩
    have hp' := hpost r S' hp
    split at hp'
    case h_2 => exact hp'.elim
    rename_i r' S2 hb
    rw [fA_eq, fS_eq] at hp'
    obtain ⟨μ'', a1, a2, a3⟩ := Back.st g1 hi (back_spec hb) st'
    exact hn (some r') S2 μ'' G' v w' hp' a1 (g2.trans a2) (fun y hy => by cases hy; exact a3 v hra)
  · rw [h1, Oper.upon_value]
    cases e1
    have hp' := hpost r S' e2
    split at hp'
    case h_2 => exact hp'.elim
    rename_i r' S2 hb
    rw [fA_eq, fS_eq] at hp'
    obtain ⟨μ'', a1, a2, a3⟩ := Back.st g1 hi (back_spec hb) e3
    exact hn (some r') S2 μ'' G' v w' hp' a1 (g2.trans a2) (fun y hy => by cases hy; exact a3 v e4)

end

end Go.Ab
