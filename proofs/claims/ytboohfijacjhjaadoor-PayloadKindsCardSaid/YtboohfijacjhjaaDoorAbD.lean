/-
  An own logic over the kit's 'Calls' (AbD): a statement whose operations may be carried out in several orders.
-/
import Derived.Test.YtboohfijacjhjaaDoorAb12
namespace Go.Ab
open Go.RowKit

/-- Places for blocks to come. -/
theorem St.reserve {B S μ G w} (st : St B S μ G w) (n : Nat) :
    ∃ μ', St B (S ++ List.replicate n .dead) μ' G w ∧ (∀ i, S.length ≤ i → i < S.length + n → μ' i = .nilFunc) ∧ Later S μ G w (S ++ List.replicate n .dead) μ' G w := by
  induction n with
  | zero => exact ⟨μ, by simpa using st, fun i h1 h2 => by omega, by simpa using Later.refl S μ G w⟩
  | succ n ih =>
    obtain ⟨μ1, h1, h2, h3⟩ := ih
    have hl : (S ++ List.replicate n Blk.dead).length = S.length + n := by simp
    have h4 := h1.push (w' := w) (G' := G) (v := .nilFunc) (b := .dead) ⟨rfl, rfl, rfl, Nat.le_refl _, fun _ _ _ => rfl⟩ (fun _ _ h => h) (fun _ _ h => .inl h)
      (fun h => by cases h) (fun h => by cases h) trivial
    rw [List.append_assoc, ← List.replicate_succ'] at h4
    refine ⟨_, h4, fun i hi hi' => ?_, ?_⟩
    · rw [hl]
      by_cases e : i = S.length + n
      · subst e; simp [upd]
      · simp only [upd, if_neg e]; exact h2 i hi (by omega)
    · refine ⟨by simp, fun i hi => ?_, h3.g, h3.cells⟩
      rw [hl]
      simp only [upd, if_neg (by omega : ¬ i = S.length + n)]
      exact h3.μ i hi

/-- As 'Later', but for places that were kept. -/
structure LaterD (S : List Blk) (μ : Nat → Value) (G : Nat → Nat → Prop) (w : World) (S' : List Blk) (μ' : Nat → Value) (G' : Nat → Nat → Prop) (w' : World) : Prop where
  k : S.length ≤ S'.length
  μ : ∀ i, i < S.length → solid (μ i) → μ' i = μ i
  g : ∀ b o, G b o → G' b o
  cells : ∀ b o v, G b o → w.cell? ⟨b, o, none⟩ = some v → w'.cell? ⟨b, o, none⟩ = some v

theorem Later.d {S μ G w S' μ' G' w'} (h : Later S μ G w S' μ' G' w') : LaterD S μ G w S' μ' G' w' := ⟨h.k, fun i hi _ => h.μ i hi, h.g, h.cells⟩

theorem LaterD.ra {S μ G w S' μ' G' w' x v} (h : LaterD S μ G w S' μ' G' w') (g : RA μ S.length w G x v) : RA μ' S'.length w' G' x v := g.mono h.k h.μ h.g h.cells

/-- A block for a place that was kept for it. -/
theorem St.allocAt {B S μ G w} (st : St B S μ G w) {t : TypeId} {x : AV} {v : Value} {n : Nat} (hx : VA μ S.length w G x v) (hn : S[n]? = some .dead) (hμn : μ n = .nilFunc) (hk : B.k0 ≤ n) :
    ∃ μ', (Go.newVar t v).run B.c.P w = .ok ⟨w.heap.size, 0, none⟩ (w.alloc (.cells v.cells t)) ∧ St B (S.set n (Blk.var x)) μ' G (w.alloc (.cells v.cells t)) ∧
      LaterD S μ G w (S.set n (Blk.var x)) μ' G (w.alloc (.cells v.cells t)) ∧ (∀ i, i ≠ n → μ' i = μ i) ∧
      VA μ' (S.set n (Blk.var x)).length (w.alloc (.cells v.cells t)) G (.ptr n []) (.pointer (some ⟨w.heap.size, 0, none⟩)) := by
  have hlt : n < S.length := (List.getElem?_eq_some_iff.1 hn).1
  have hnx : Next w (w.alloc (.cells v.cells t)) none := ⟨rfl, rfl, rfl, by show w.heap.size ≤ (w.heap.push _).size; simp, fun k hk _ => by
    show (w.heap.push _)[k]? = _
    rw [Array.getElem?_push, if_neg (by omega)]⟩
  have hc := hnx.cells st.gv (G := G) (fun k hk => by cases hk)
  have hnew : (w.alloc (.cells v.cells t)).heap[w.heap.size]? = some (.cells v.cells t (0, 0)) := by
    show (w.heap.push _)[w.heap.size]? = _
    simp
  have hother : ∀ i, i ≠ n → upd μ n (.pointer (some ⟨w.heap.size, 0, none⟩)) i = μ i := fun i hi => by simp [upd, hi]
  have hself : upd μ n (.pointer (some ⟨w.heap.size, 0, none⟩)) n = .pointer (some ⟨w.heap.size, 0, none⟩) := by simp [upd]
  have hμ : ∀ i, i < S.length → solid (μ i) → upd μ n (.pointer (some ⟨w.heap.size, 0, none⟩)) i = μ i := fun i _ hs => hother i (fun e => by subst e; rw [hμn] at hs; exact hs)
  have old : ∀ i d, (S.set n (Blk.var x))[i]? = some d → (i ≠ n ∧ S[i]? = some d) ∨ (i = n ∧ d = .var x) := by
    intro i d hd
    by_cases e : i = n
    · subst e; rw [List.getElem?_set_self hlt] at hd; exact .inr ⟨rfl, by simpa using hd.symm⟩
    · rw [List.getElem?_set_ne (Ne.symm e)] at hd; exact .inl ⟨e, hd⟩
  refine ⟨upd μ n (.pointer (some ⟨w.heap.size, 0, none⟩)), rfl, ?_, ⟨by simp, hμ, fun _ _ h => h, hc⟩, hother, ?_⟩
  · exact {
      blks := by
        intro i d hd
        rw [List.length_set]
        rcases old i d hd with ⟨hi, hs⟩ | ⟨rfl, rfl⟩
        · rw [hother i hi]
          exact (st.blks i d hs).mono (Nat.le_refl _) hμ (fun _ _ h => h) hc (fun hl m hm => hnx.heap m ((st.blks i d hs).bid_lt hl m hm) (by simp))
        · rw [hself]
          exact ⟨w.heap.size, v.cells, t, v.cells.toList, [], rfl, hnew, by simp, hx.1.mono (Nat.le_refl _) hμ (fun _ _ h => h) hc⟩
      apart := by
        intro i j d e hd he hl hl' hij m hm hm'
        rcases old i d hd with ⟨hi, hs⟩ | ⟨rfl, rfl⟩ <;> rcases old j e he with ⟨hj, hs'⟩ | ⟨rfl, rfl⟩
        · rw [hother i hi] at hm; rw [hother j hj] at hm'; exact st.apart i j d e hs hs' hl hl' hij m hm hm'
        · rw [hother i hi] at hm; rw [hself] at hm'
          have := (st.blks i d hs).bid_lt hl m hm
          simp [bid] at hm'; omega
        · rw [hother j hj] at hm'; rw [hself] at hm
          have := (st.blks j e hs').bid_lt hl' m hm'
          simp [bid] at hm; omega
        · exact hij rfl
      free := by
        intro i d m hd hl hm o ho hg
        rcases old i d hd with ⟨hi, hs⟩ | ⟨rfl, rfl⟩
        · rw [hother i hi] at hm; exact st.free i d m hs hl hm o ho hg
        · rw [hself] at hm; simp [bid] at hm; have := st.gv _ _ hg; omega
      gv := fun b o hg => Nat.lt_of_lt_of_le (st.gv b o hg) hnx.size
      k0 := by rw [List.length_set]; exact st.k0
      keep := fun i hi => by rw [hother i (by omega)]; exact st.keep i hi
      g0 := st.g0
      gn := st.gn
      new := by
        intro i d m hi hd hl hm
        rcases old i d hd with ⟨hi', hs⟩ | ⟨rfl, rfl⟩
        · rw [hother i hi'] at hm; exact st.new i d m hi hs hl hm
        · rw [hself] at hm; simp [bid] at hm; have := st.size; omega
      os := hnx.os.trans st.os
      tape := hnx.tape.trans st.tape
      output := hnx.output.trans st.output
      size := Nat.le_trans st.size hnx.size
      fr := fun k hk hx => (hnx.heap k (Nat.lt_of_lt_of_le hk st.size) (by simp)).trans (st.fr k hk hx)
      lv := by
        intro i d hi hd hl
        rcases old i d hd with ⟨_, hs⟩ | ⟨rfl, rfl⟩
        · exact st.lv i d hi hs hl
        · omega
      glob := fun g x hg => (st.glob g x hg).mono (fun _ _ h => h) hc
      gw := fun b o v h1 h2 => hc b o v (st.g0 b o h1) (st.gw b o v h1 h2) }
  · refine VA.of_single ?_ rfl
    exact .ptr (b := w.heap.size) (by simpa using hlt) hself (fun s hs => by cases hs) .nil

def app : List (Nat × Blk) → List Blk → List Blk
  | [], S => S
  | (n, b) :: δ, S => app δ (S.set n b)

theorem app_length : ∀ (δ : List (Nat × Blk)) (S : List Blk), (app δ S).length = S.length
  | [], _ => rfl
  | (n, b) :: δ, S => by simp only [app]; rw [app_length]; simp

theorem app_other : ∀ (δ : List (Nat × Blk)) (S : List Blk) (m : Nat), (∀ p ∈ δ, p.1 ≠ m) → (app δ S)[m]? = S[m]?
  | [], _, _, _ => rfl
  | (n, b) :: δ, S, m, h => by
    simp only [app]
    rw [app_other δ _ m (fun p hp => h p (by simp [hp])), List.getElem?_set_ne (h (n, b) (by simp))]

theorem app_set : ∀ (δ : List (Nat × Blk)) (S : List Blk) (m : Nat) (d : Blk), (∀ p ∈ δ, p.1 ≠ m) → app δ (S.set m d) = (app δ S).set m d
  | [], _, _, _, _ => rfl
  | (n, b) :: δ, S, m, d, h => by
    simp only [app]
    rw [List.set_comm _ _ (Ne.symm (h (n, b) (by simp))), app_set δ _ m d (fun p hp => h p (by simp [hp]))]

theorem app_comm : ∀ (δ ε : List (Nat × Blk)) (S : List Blk), (∀ p ∈ δ, ∀ q ∈ ε, p.1 ≠ q.1) → app δ (app ε S) = app ε (app δ S)
  | δ, [], _, _ => rfl
  | δ, (n, b) :: ε, S, h => by
    simp only [app]
    rw [app_comm δ ε _ (fun p hp q hq => h p hp q (by simp [hq])), app_set δ S n b (fun p hp => h p hp (n, b) (by simp))]

/-- A call's arguments, where they are data. -/
def onlyD (x : Option AV) : Option AV :=
  match x with
  | some (.d x) => some (.d x)
  | _ => none

/-- One operation, told by what it looks at alone. -/
inductive StepD (c : Ctx) (o : Oper) (ρ : Operand → Option AV) (S : List Blk) (tgt : Nat) : Option AV → List (Nat × Blk) → List Nat → Prop
  | quiet {x} : WOpQ c o ρ (fun y => y = x) → StepD c o ρ S tgt (some x) [] []
  | load {t a i n p X y} : o.op = .load t a → c.tt t = some i → ρ a = some (.ptr n p) → S[n]? = some (.var X) → AV.getP X p = some y → shapeB i y = true → notTup y = true →
      StepD c o ρ S tgt (some y) [] [n]
  | loadC {t a i X} : o.op = .load t a → c.tt t = some i → ρ a = some (.d (.cptr X)) → shapeB i (.d X) = true → StepD c o ρ S tgt (some (.d X)) [] []
  | store {t a b i n p X X' v} : o.op = .store t a b → c.tt t = some i → ρ a = some (.ptr n p) → S[n]? = some (.var X) → (AV.getP X p).isSome = true → ρ b = some v → notTup v = true → shapeB i v = true →
      AV.setP X p v = some X' → StepD c o ρ S tgt none [(n, .var X')] [n]
  | alloc {t i z} : o.op = .alloc t → c.tt t = some i → i.zero = some z → StepD c o ρ S tgt (some (.ptr tgt [])) [(tgt, .var (.d z))] [tgt]
  | box {t a v} : o.op = .box t a → ρ a = some v → notTup v = true → StepD c o ρ S tgt (some (.ptr tgt [])) [(tgt, .var v)] [tgt]
  | call {fo args ts f zs v} : o.op = .call { callee := .value fo, args, argTypes := ts } → ρ fo = some (.fn f []) → mapO (fun a => onlyD (ρ a)) args.toList = some zs →
      CallR c f zs [] (fun r S' => r = v ∧ S' = []) → namesV v = [] → StepD c o ρ S tgt (some v) [] []

/-- The temporaries that an operation looks at. -/
def tmpsOf : List Operand → List Nat
  | [] => []
  | .tmp t :: l => t :: tmpsOf l
  | _ :: l => tmpsOf l

def usesOf (ops : List Oper) (o : Oper) : List Nat :=
  tmpsOf o.op.operands.toList ++ (match o.guard with | some (j, _) => (match (ops[j]?).bind (·.dst) with | some t => [t] | none => []) | none => [])

theorem mem_tmpsOf {l : List Operand} {t : Nat} (h : Operand.tmp t ∈ l) : t ∈ tmpsOf l := by
  induction l with
  | nil => simp at h
  | cons x l ih =>
    rcases List.mem_cons.1 h with rfl | hm
    · simp [tmpsOf]
    · have := ih hm
      cases x <;> simp [tmpsOf, this]

theorem evalA_congr {c : Ctx} {env env' : Env} {l : List Operand} (h : ∀ t ∈ tmpsOf l, env t = env' t) : ∀ x ∈ l, evalA c env x = evalA c env' x := by
  intro x hx
  cases x with
  | tmp t => exact h t (mem_tmpsOf hx)
  | _ => rfl

theorem mapO_congr {α β : Type} {f g : α → Option β} : ∀ {l : List α}, (∀ x ∈ l, f x = g x) → mapO f l = mapO g l
  | [], _ => rfl
  | x :: l, h => by
    simp only [mapO]
    rw [h x (by simp), mapO_congr fun y hy => h y (by simp [hy])]

theorem fillA_congr {ρ ρ' : Operand → Option AV} {st : Nat → Option (Step × Nat)} : ∀ {l : List (Nat × Operand)} {x : AV}, (∀ p ∈ l, ρ p.2 = ρ' p.2) → fillA ρ st l x = fillA ρ' st l x
  | [], _, _ => rfl
  | (i, o) :: l, x, h => by
    have h1 := h (i, o) (by simp)
    simp only at h1
    simp only [fillA, h1]
    have ih : ∀ z, fillA ρ st l z = fillA ρ' st l z := fun z => fillA_congr fun p hp => h p (by simp [hp])
    simp only [ih]

theorem capNames_congr {ρ ρ' : Operand → Option AV} : ∀ {l : List Operand}, (∀ x ∈ l, ρ x = ρ' x) → capNames ρ l = capNames ρ' l
  | [], _ => rfl
  | x :: l, h => by
    simp only [capNames]
    rw [h x (by simp), capNames_congr (l := l) fun y hy => h y (by simp [hy])]

theorem wBnd_congr {ρ ρ' : Operand → Option AV} {x : Option Operand} {d : Int} (h : ∀ y, x = some y → ρ y = ρ' y) : wBnd ρ x d = wBnd ρ' x d := by
  cases x with
  | none => rfl
  | some y => simp only [wBnd]; rw [h y rfl]

theorem WOpQ_congr {c : Ctx} {o : Oper} {ρ ρ' : Operand → Option AV} {K : AV → Prop} (h : ∀ x ∈ o.op.operands.toList, ρ x = ρ' x) (hw : WOpQ c o ρ K) : WOpQ c o ρ' K := by
  unfold WOpQ at hw ⊢
  cases ho : o.op <;> rw [ho] at h <;> simp only [ho] at hw ⊢ <;> simp only [Op.operands] at h
  case move x => rw [← h x (by simp)]; exact hw
  case assign x => rw [← h x (by simp)]; exact hw
  case pick a b d => rw [← h a (by simp), ← h b (by simp), ← h d (by simp)]; exact hw
  case binOp op t x y yt => rw [← h x (by simp), ← h y (by simp)]; exact hw
  case unOp op t x => rw [← h x (by simp)]; exact hw
  case extract x i => rw [← h x (by simp)]; exact hw
  case fieldAddr t x f => rw [← h x (by simp)]; exact hw
  case indexAddr t x ix => rw [← h x (by simp), ← h ix (by simp)]; exact hw
  case call cl =>
    obtain ⟨callee, args, ats⟩ := cl
    cases callee with
    | builtin b =>
      cases b <;> simp only at hw ⊢ <;> try exact hw
      split at hw
      · rename_i t x e1 e2
        have hx : ρ x = ρ' x := h x (by simp [Call.operands, e2])
        rw [← hx]; exact hw
      · exact hw.elim
    | value f => exact hw.elim
    | invoke r m => exact hw.elim
  case convert src dst x => rw [← h x (by simp)]; exact hw
  case index t x ix => rw [← h x (by simp), ← h ix (by simp)]; exact hw
  case field t x f => rw [← h x (by simp)]; exact hw
  case makeInterface t x => rw [← h x (by simp)]; exact hw
  case typeAssert x xt t ok => rw [← h x (by simp)]; exact hw
  case nilCheck x => rw [← h x (by simp)]; exact hw
  case build t parts =>
    have e : ∀ st z, fillA ρ st parts.toList z = fillA ρ' st parts.toList z := fun st z => fillA_congr fun p hp => h p.2 (List.mem_map.2 ⟨p, hp, rfl⟩)
    unfold wBuild at hw ⊢
    simp only [← e]
    exact hw
  case makeFunc fn first cs =>
    have e : capNames ρ cs.toList = capNames ρ' cs.toList := capNames_congr fun x hx => h x (by simp only [Array.toList_append, List.mem_append]; exact .inr hx)
    rw [← e]; exact hw
  case slice t x lo hi mx =>
    cases mx with
    | some m => exact hw.elim
    | none =>
      have e1 : ∀ d, wBnd ρ lo d = wBnd ρ' lo d := fun d => wBnd_congr fun y hy => h y (by subst hy; simp)
      have e2 : ∀ d, wBnd ρ hi d = wBnd ρ' hi d := fun d => wBnd_congr fun y hy => h y (by subst hy; simp)
      have e3 := h x (by simp)
      rw [← e3]
      unfold wSlice at hw ⊢
      simp only [← e1, ← e2]
      exact hw
  all_goals exact hw.elim

theorem StepD.congr {c : Ctx} {o : Oper} {ρ ρ' : Operand → Option AV} {S S' : List Blk} {tgt : Nat} {x δ R} (h : StepD c o ρ S tgt x δ R) (hρ : ∀ y ∈ o.op.operands.toList, ρ y = ρ' y) (hS : ∀ n ∈ R, S[n]? = S'[n]?) :
    StepD c o ρ' S' tgt x δ R := by
  cases h with
  | quiet h => exact .quiet (WOpQ_congr hρ h)
  | load ho h1 h2 h3 h4 h5 h6 => exact .load ho h1 (by rw [← hρ _ (by rw [ho]; simp [Op.operands])]; exact h2) (by rw [← hS _ (by simp)]; exact h3) h4 h5 h6
  | loadC ho h1 h2 h3 => exact .loadC ho h1 (by rw [← hρ _ (by rw [ho]; simp [Op.operands])]; exact h2) h3
  | store ho h1 h2 h3 h4 h5 h6 h7 h8 =>
    exact .store ho h1 (by rw [← hρ _ (by rw [ho]; simp [Op.operands])]; exact h2) (by rw [← hS _ (by simp)]; exact h3) h4 (by rw [← hρ _ (by rw [ho]; simp [Op.operands])]; exact h5) h6 h7 h8
  | alloc ho h1 h2 => exact .alloc ho h1 h2
  | box ho h1 h2 => exact .box ho (by rw [← hρ _ (by rw [ho]; simp [Op.operands])]; exact h1) h2
  | call ho h1 h2 h3 h4 =>
    refine .call ho (by rw [← hρ _ (by rw [ho]; simp [Op.operands, Call.operands])]; exact h1) ?_ h3 h4
    rw [← h2]
    exact (mapO_congr fun a ha => by rw [hρ a (by rw [ho]; simp [Op.operands, Call.operands]; exact .inr (by simpa using ha))]).symm

def makesB (o : Oper) : Bool :=
  match o.op with
  | .alloc _ => true
  | .box .. => true
  | _ => false

mutual
theorem ren_none (f : Nat → Option Nat) : ∀ (x : AV), namesV x = [] → AV.ren f x = some x
  | .d x, _ => rfl
  | .ptr .., h => by simp [namesV] at h
  | .row _, h => by simp [namesV] at h
  | .vw .., h => by simp [namesV] at h
  | .fn g caps, h => by simp only [namesV] at h; subst h; simp [AV.ren, mapO]
  | .agg l, h => by simp only [namesV] at h; simp [AV.ren, rens_none f l h]
  | .tup l, h => by simp only [namesV] at h; simp [AV.ren, rens_none f l h]
theorem rens_none (f : Nat → Option Nat) : ∀ (l : List AV), namesVs l = [] → AV.rens f l = some l
  | [], _ => rfl
  | x :: l, h => by
    simp only [namesVs, List.append_eq_nil_iff] at h
    simp [AV.rens, ren_none f x h.1, rens_none f l h.2]
end

theorem onlyD_names {ρ : Operand → Option AV} : ∀ {l : List Operand} {zs : List AV}, mapO (fun a => onlyD (ρ a)) l = some zs → namesVs zs = [] ∧ ∀ {B : Base} {N : Nat} {env : Env} {S μ G a w}, ρ = evalA B.c env → At1 B N env S μ G a w → VS μ S.length w G zs (l.map a.eval)
  | [], zs, h => by simp only [mapO] at h; cases h; exact ⟨rfl, fun _ _ => .nil⟩
  | x :: l, zs, h => by
    simp only [mapO] at h
    split at h
    case h_2 => cases h
    rename_i y hy
    split at h
    case h_2 => cases h
    rename_i ys hys
    cases h
    obtain ⟨h1, h2⟩ := onlyD_names hys
    unfold onlyD at hy
    split at hy
    · rename_i x' hx
      cases hy
      exact ⟨by simp [namesVs, namesV, h1], fun e st => .cons (by rw [e] at hx; exact (evalA_sound st hx).va (fun l e => by cases e)) (h2 e st)⟩
    · cases hy

/-- What an operation of a statement comes to, in whatever order. -/
theorem StepD.sound {B : Base} {N : Nat} (hc : B.c.ok) {o : Oper} {env : Env} {S : List Blk} {tgt : Nat} {x δ R} (h : StepD B.c o (evalA B.c env) S tgt x δ R) {μ G a w} (st : At1 B N env S μ G a w)
    (hm : makesB o = true → S[tgt]? = some .dead ∧ μ tgt = .nilFunc ∧ B.k0 ≤ tgt) (next : Act → World → Prop) (Q : Exit → Act → World → Prop)
    (hn : ∀ μ' G' v w', St B (app δ S) μ' G' w' → LaterD S μ G w (app δ S) μ' G' w' → (∀ i, i < S.length → i ≠ tgt → μ' i = μ i) → (∀ y, x = some y → RA μ' (app δ S).length w' G' y v) → next (a.put o.dst v) w') : o.wp B.c.P a w next Q := by
  have seq : ∀ {K : Option AV → List Blk → Prop}, OpsTo B N o env S K → (∀ y S', K y S' → y = x ∧ S' = app δ S) → o.wp B.c.P a w next Q := by
    intro K hop hK
    refine hop μ G a w st next Q ?_
    intro y S' μ' G' v w' hk st' lt hy
    obtain ⟨rfl, rfl⟩ := hK y S' hk
    exact hn μ' G' v w' st' lt.d (fun i hi _ => lt.μ i hi) hy
  cases h with
  | quiet h =>
    rename_i y
    exact seq (K := fun z S' => z = some y ∧ S' = S) (wopQ_sound hc (h := by
      have : WOpQ B.c o (evalA B.c env) (fun z => (some z = some y) ∧ S = S) := by
        have e : (fun z => z = y) = (fun z => (some z = some y) ∧ S = S) := by funext z; simp
        rw [← e]; exact h
      exact this)) (fun _ _ h => h)
  | load ho h1 h2 h3 h4 h5 h6 => exact seq (K := fun z S' => z = some _ ∧ S' = S) (rule_load hc ho h1 h2 h3 h4 h5 h6 ⟨rfl, rfl⟩) (fun _ _ h => h)
  | loadC ho h1 h2 h3 => exact seq (K := fun z S' => z = some _ ∧ S' = S) (rule_loadC hc ho h1 h2 h3 ⟨rfl, rfl⟩) (fun _ _ h => h)
  | store ho h1 h2 h3 h4 h5 h6 h7 h8 => exact seq (K := fun z S' => z = none ∧ S' = S.set _ (.var _)) (rule_store hc ho h1 h2 h3 h4 h5 h6 h8 h7 ⟨rfl, rfl⟩) (fun _ _ h => h)
  | @alloc t i z ho h1 h2 =>
    obtain ⟨e1, e2, e3⟩ := hm (by simp [makesB, ho])
    obtain ⟨_, info, g3, g4, g5, g6⟩ := hc t i h1
    obtain ⟨v, g7, g8⟩ := g6 z h2
    obtain ⟨μ', f1, f2, f3, f4, f5⟩ := st.st.allocAt (t := t) (x := .d z) (v := v) (VA.d_iff.2 (g8 w G)) e1 e2 e3
    have hrun : (execOp a.eval o).run B.c.P w = .ok (.value (.pointer (some ⟨w.heap.size, 0, none⟩))) (w.alloc (.cells v.cells t)) := by
      simp only [execOp, ho, Sem.run_bind, Instr.alloc, zeroValue, typeInfo, run_program, Result.andThen_ok, g3, g7, Sem.run_pure, f1]
    unfold Oper.wp
    rw [hrun, Oper.upon_value]
    exact hn μ' G _ _ f2 f3 (fun i _ hi => f4 i hi) (fun y hy => by cases hy; exact f5.ra (fun l e => by cases e))
  | @box t b v ho h1 h2 =>
    obtain ⟨e1, e2, e3⟩ := hm (by simp [makesB, ho])
    have hva := (evalA_sound st h1).va (notTup_spec h2)
    obtain ⟨μ', f1, f2, f3, f4, f5⟩ := st.st.allocAt (t := t) hva e1 e2 e3
    have hrun : (execOp a.eval o).run B.c.P w = .ok (.value (.pointer (some ⟨w.heap.size, 0, none⟩))) (w.alloc (.cells (a.eval b).cells t)) := by
      simp only [execOp, ho, Sem.run_bind, Instr.box, Result.andThen_ok, Sem.run_pure, f1]
    unfold Oper.wp
    rw [hrun, Oper.upon_value]
    exact hn μ' G _ _ f2 f3 (fun i _ hi => f4 i hi) (fun y hy => by cases hy; exact f5.ra (fun l e => by cases e))
  | @call fo args ts f zs v ho h1 h2 h3 h4 =>
    obtain ⟨hz, hvs0⟩ := onlyD_names h2
    have hvs := hvs0 rfl st
    have hi : Into S [] zs zs [] := ⟨rfl, by simp, rens_none _ zs hz, [], rfl, rfl⟩
    have hfv := ((evalA_sound st h1).va (fun l e => by cases e)).fn_inv
    have hrun : (execOp a.eval o).run B.c.P w = (callFunc f (args.toList.map a.eval).toArray).run B.c.P w := by
      simp only [execOp, ho, resolve, hfv, Deferred.ofValue, Sem.run_bind, Sem.run_pure, Result.andThen_ok, invoke]
      congr 2
      apply Array.ext'
      simp
    have hb : Back S [] [] v v S := ⟨ren_none _ v h4, [], rfl, by simp [putBack]⟩
    have hct := h3 _ G w _ (hi.st st.st) (hi.args_ok hvs)
    unfold Oper.wp
    rw [hrun]
    rcases hct with ⟨g1, g2⟩ | ⟨u, w', g1, u', r, S', μ', G', e1, ⟨rfl, rfl⟩, e3, e4⟩
    · rw [g1, Oper.upon_enter]
      refine g2.mono ?_
      rintro e w' ⟨u, r, S', μ', G', rfl, ⟨rfl, rfl⟩, st', hra⟩
      obtain ⟨μ'', a1, a2, a3⟩ := Back.st st.st hi hb st'
      exact hn μ'' G' u w' a1 a2.d (fun i hi' _ => a2.μ i hi') (fun y hy => by cases hy; exact a3 u hra)
    · rw [g1, Oper.upon_value]
      cases e1
      obtain ⟨μ'', a1, a2, a3⟩ := Back.st st.st hi hb e3
      exact hn μ'' G' u w' a1 a2.d (fun i hi' _ => a2.μ i hi') (fun y hy => by cases hy; exact a3 u e4)

end Go.Ab
