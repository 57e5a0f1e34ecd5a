/-
  An own logic over the kit's 'Calls' (Ab4): the code's own steps: a predicate that is reckoned over the code, and that it is right.
-/
import Derived.Test.YtboohfijacjhjaaDoorAb3
namespace Go.Ab
open Go.RowKit

abbrev Env := Nat → Option AV

def EnvOk (μ : Nat → Value) (k : Nat) (w : World) (G : Nat → Nat → Prop) (env : Env) (tmps : Array Value) : Prop :=
  ∀ t x, env t = some x → ∃ v, tmps[t]? = some v ∧ RA μ k w G x v

def Env.put (d : Nat) (x : Option AV) (env : Env) : Env := fun t => match Nat.beq t d with | true => x | false => env t

def ofL : List (Nat × AV) → Env
  | [] => fun _ => none
  | (t, x) :: l => fun i => match Nat.beq i t with | true => some x | false => ofL l i

def Sub : List (Nat × AV) → Env → Prop
  | [], _ => True
  | (t, x) :: l, env => env t = some x ∧ Sub l env

theorem Sub.get {l env} (h : Sub l env) : ∀ t x, ofL l t = some x → env t = some x := by
  induction l with
  | nil => intro t x h; cases h
  | cons p l ih =>
    obtain ⟨t', x'⟩ := p
    intro t x hx
    simp only [ofL] at hx
    cases e : Nat.beq t t' with
    | true =>
      rw [e] at hx
      have := Nat.eq_of_beq_eq_true e
      subst this
      cases hx
      exact h.1
    | false => rw [e] at hx; exact ih h.2 t x hx

theorem EnvOk.sub {μ k w G l env tmps} (h : EnvOk μ k w G env tmps) (hs : Sub l env) : EnvOk μ k w G (ofL l) tmps :=
  fun t x hx => h t x (hs.get t x hx)

theorem Env.put_same (d : Nat) (x : Option AV) (env : Env) : env.put d x d = x := by simp [Env.put, Nat.beq_refl]
theorem Env.put_ne {t d : Nat} (x : Option AV) (env : Env) (h : t ≠ d) : env.put d x t = env t := by
  unfold Env.put
  cases e : Nat.beq t d with
  | true => exact absurd (Nat.eq_of_beq_eq_true e) h
  | false => rfl

theorem EnvOk.put {μ k w G env} {tmps : Array Value} (h : EnvOk μ k w G env tmps) {d : Nat} (hd : d < tmps.size) {x : AV} {v : Value} (hx : RA μ k w G x v) :
    EnvOk μ k w G (env.put d (some x)) (tmps.setIfInBounds d v) := by
  intro t y hy
  by_cases e : t = d
  · subst e
    rw [Env.put_same] at hy
    cases hy
    exact ⟨v, by simp [hd], hx⟩
  · rw [Env.put_ne _ _ e] at hy
    obtain ⟨u, h1, h2⟩ := h t y hy
    exact ⟨u, by rw [Array.getElem?_setIfInBounds_ne (Ne.symm e)]; exact h1, h2⟩

theorem EnvOk.unset {μ k w G env} {tmps : Array Value} (h : EnvOk μ k w G env tmps) (d : Nat) (v : Value) :
    EnvOk μ k w G (env.put d none) (tmps.setIfInBounds d v) := by
  intro t y hy
  by_cases e : t = d
  · subst e; rw [Env.put_same] at hy; cases hy
  · rw [Env.put_ne _ _ e] at hy
    obtain ⟨u, h1, h2⟩ := h t y hy
    exact ⟨u, by rw [Array.getElem?_setIfInBounds_ne (Ne.symm e)]; exact h1, h2⟩

theorem EnvOk.later {S μ G w S' μ' G' w' env tmps} (h : EnvOk μ S.length w G env tmps) (l : Later S μ G w S' μ' G' w') : EnvOk μ' S'.length w' G' env tmps :=
  fun t x hx => let ⟨v, h1, h2⟩ := h t x hx; ⟨v, h1, l.ra h2⟩

-- The names in values.
mutual
def namesV : AV → List Nat
  | .ptr n _ => [n]
  | .row n => [n]
  | .vw n .. => [n]
  | .fn _ caps => caps
  | .agg l => namesVs l
  | .tup l => namesVs l
  | .d _ => []
def namesVs : List AV → List Nat
  | [] => []
  | x :: l => namesV x ++ namesVs l
end

def namesB : Blk → List Nat
  | .var x => namesV x
  | _ => []

def allLt (k : Nat) : List Nat → Bool
  | [] => true
  | n :: l => Nat.blt n k && allLt k l

theorem allLt_spec {k} : ∀ {l : List Nat}, allLt k l = true → ∀ n ∈ l, n < k
  | [], _ => by simp
  | m :: l, h => by
    simp only [allLt, Bool.and_eq_true] at h
    intro n hn
    rcases List.mem_cons.1 hn with rfl | hn
    · exact Nat.le_of_ble_eq_true h.1
    · exact allLt_spec h.2 n hn

def blksBelow (k : Nat) : List Blk → Bool
  | [] => true
  | b :: l => allLt k (namesB b) && blksBelow k l

theorem CA.shrink {μ k k' w G l cs} (h : CA μ k w G l cs) : (∀ n ∈ namesVs l, n < k') → CA μ k' w G l cs := by
  induction h with
  | nil => intro _; exact .nil
  | d h _ ih => intro hn; exact .d h (ih fun n h => hn n (by simp [namesVs, h]))
  | ptr h1 h2 h3 _ ih => intro hn; exact .ptr (hn _ (by simp [namesVs, namesV])) h2 h3 (ih fun n h => hn n (by simp [namesVs, h]))
  | row h1 h2 _ ih => intro hn; exact .row (hn _ (by simp [namesVs, namesV])) h2 (ih fun n h => hn n (by simp [namesVs, h]))
  | vw h1 h2 h3 h4 h5 h6 _ ih => intro hn; exact .vw (hn _ (by simp [namesVs, namesV])) h2 h3 h4 h5 h6 (ih fun n h => hn n (by simp [namesVs, h]))
  | fn h1 _ ih => intro hn; exact .fn (fun m hm => ⟨hn m (by simp [namesVs, namesV, hm]), (h1 m hm).2⟩) (ih fun n h => hn n (by simp [namesVs, h]))
  | agg _ _ ih1 ih2 => intro hn; exact .agg (ih1 fun n h => hn n (by simp [namesVs, namesV, h])) (ih2 fun n h => hn n (by simp [namesVs, h]))

theorem VS.shrink {μ k k' w G l vs} (h : VS μ k w G l vs) : (∀ n ∈ namesVs l, n < k') → VS μ k' w G l vs := by
  induction h with
  | nil => intro _; exact .nil
  | cons h _ ih =>
    intro hn
    exact .cons ⟨h.1.shrink fun n hm => hn n (by simp [namesVs] at hm ⊢; exact .inl hm), h.2⟩ (ih fun n h => hn n (by simp [namesVs, h]))

theorem RA.shrink {μ k k' w G x v} (h : RA μ k w G x v) (hn : ∀ n ∈ namesV x, n < k') : RA μ k' w G x v := by
  cases x with
  | tup l => obtain ⟨vs, rfl, h⟩ := h; exact ⟨vs, rfl, h.shrink (by simpa [namesV] using hn)⟩
  | _ =>
    have h' : VA μ k w G _ v := h
    exact (⟨h'.1.shrink fun n hm => hn n (by simpa [namesVs] using hm), h'.2⟩ : VA μ k' w G _ v)

theorem blksBelow_spec {k} : ∀ {l : List Blk}, blksBelow k l = true → ∀ (i : Nat) (b : Blk), l[i]? = some b → ∀ n ∈ namesB b, n < k
  | [], _, i, b, h => by simp at h
  | d :: l, hb, i, b, h => by
    simp only [blksBelow, Bool.and_eq_true] at hb
    cases i with
    | zero => simp at h; subst h; exact allLt_spec hb.1
    | succ i => exact blksBelow_spec hb.2 i b (by simpa using h)

theorem St.trim {B S μ G w} (st : St B S μ G w) {k : Nat} (hk : B.k0 ≤ k) (hkS : k ≤ S.length) (hb : blksBelow k (S.take k) = true) : St B (S.take k) μ G w := by
  have hlen : (S.take k).length = k := by simp [Nat.min_eq_left hkS]
  have old : ∀ (i : Nat) (b : Blk), (S.take k)[i]? = some b → S[i]? = some b ∧ i < k := by
    intro i b h
    rw [List.getElem?_take] at h
    split at h
    · exact ⟨h, by assumption⟩
    · cases h
  exact {
    blks := by
      intro i b h
      obtain ⟨h1, h2⟩ := old i b h
      have hok := st.blks i b h1
      have hbl := blksBelow_spec hb i b h
      rw [hlen]
      cases b with
      | var x =>
        obtain ⟨b, cs, T, l, s, e1, e2, e3, e4⟩ := hok
        exact ⟨b, cs, T, l, s, e1, e2, e3, e4.shrink (by simpa [namesVs, namesB] using hbl)⟩
      | row | iter | sealed | dead => exact hok
    apart := fun i j b d h1 h2 => st.apart i j b d (old i b h1).1 (old j d h2).1
    free := fun i b n h1 => st.free i b n (old i b h1).1
    gv := st.gv
    k0 := by rw [hlen]; exact hk
    keep := st.keep
    g0 := st.g0
    gn := st.gn
    new := fun i b n hi h1 => st.new i b n hi (old i b h1).1
    os := st.os
    tape := st.tape
    output := st.output
    size := st.size
    fr := st.fr
    lv := fun i b hi h1 => st.lv i b hi (old i b h1).1
    glob := st.glob
    gw := st.gw }

/-- What a loop's head keeps. -/
def namesE : List (Nat × AV) → List Nat
  | [] => []
  | (_, x) :: l => namesV x ++ namesE l

def trimB (k0 k : Nat) (l : List (Nat × AV)) (S : List Blk) : Bool :=
  Nat.ble k0 k && (Nat.ble k S.length && (allLt k (namesE l) && blksBelow k (S.take k)))

theorem ofL_names {k : Nat} : ∀ {l : List (Nat × AV)}, (∀ n ∈ namesE l, n < k) → ∀ t x, ofL l t = some x → ∀ n ∈ namesV x, n < k
  | [], _, t, x, h => by cases h
  | (t', x') :: l, hn, t, x, h => by
    simp only [ofL] at h
    split at h
    · cases h; exact fun n hm => hn n (by simp [namesE, hm])
    · exact ofL_names (fun n hm => hn n (by simp [namesE, hm])) t x h

/-- A loop, by a number that every round makes less. -/
theorem wp_loopN {P : Program} {c : Code} {Q : Exit → Act → World → Prop} (I : Nat → Act → World → Prop) {n : Nat} {a : Act} {w : World} (h₀ : I n a w)
    (round : ∀ n a w, I n a w → c.wp P (Exit.then (fun a' w' => ∃ m, m < n ∧ I m a' w') Q) a w) : (Code.loop c).wp P Q a w := by
  intro b k cs
  have key : ∀ n a w, I n a w → ∃ e a' w', Q e a' w' ∧ Arrives P (lone (b.at a (.code c :: .inLoop c :: k)) cs w) b k cs e a' w' := by
    intro n
    induction n using Nat.strongRecOn with
    | _ n ih =>
      intro a w hI
      obtain ⟨e, a₁, w₁, hq, harr⟩ := round n a w hI b (.inLoop c :: k) cs
      cases e with
      | normal =>
        obtain ⟨m, hlt, hI₁⟩ := hq
        obtain ⟨e₂, a₂, w₂, hq₂, harr₂⟩ := ih m hlt a₁ w₁ hI₁
        exact ⟨e₂, a₂, w₂, hq₂, .of_steps (Steps.trans harr (.one step_inLoop)) harr₂⟩
      | exit id => exact ⟨_, a₁, w₁, hq, .pass (x := .inLoop c) rfl (fun _ _ => .inl (by simp)) harr⟩
      | goto l => exact ⟨_, a₁, w₁, hq, .pass (x := .inLoop c) rfl (fun _ _ => .inl (by simp)) harr⟩
      | ret => exact ⟨_, a₁, w₁, hq, .pass (x := .inLoop c) rfl (fun _ _ => .inl (by simp)) harr⟩
      | panic ch => exact ⟨_, a₁, w₁, hq, .pass (x := .inLoop c) rfl (fun _ _ => .inl (by simp)) harr⟩
      | outgrown => exact ⟨_, a₁, w₁, hq, .pass (x := .inLoop c) rfl (fun _ _ => .inl (by simp)) harr⟩
  obtain ⟨e, a', w', hq, harr⟩ := key n a w h₀
  exact ⟨e, a', w', hq, .of_steps (.one step_loop) harr⟩

/-- What holds of a frame and a world at a point of a call. -/
structure At1 (B : Base) (N : Nat) (env : Env) (S : List Blk) (μ : Nat → Value) (G : Nat → Nat → Prop) (a : Act) (w : World) : Prop where
  st : St B S μ G w
  env : EnvOk μ S.length w G env a.tmps
  n : a.tmps.size = N
  d : a.defers = []

def Here (B : Base) (N : Nat) (env : Env) (S : List Blk) (a : Act) (w : World) : Prop := ∃ μ G, At1 B N env S μ G a w

/-- What an operation comes to: K of what it hands back and of the store. -/
def OpsTo (B : Base) (N : Nat) (o : Oper) (env : Env) (S : List Blk) (K : Option AV → List Blk → Prop) : Prop :=
  ∀ (μ : Nat → Value) (G : Nat → Nat → Prop) (a : Act) (w : World), At1 B N env S μ G a w → ∀ (next : Act → World → Prop) (Q : Exit → Act → World → Prop),
    (∀ x S' μ' G' v w', K x S' → St B S' μ' G' w' → Later S μ G w S' μ' G' w' → (∀ y, x = some y → RA μ' S'.length w' G' y v) → next (a.put o.dst v) w') →
    o.wp B.c.P a w next Q

/-- The part of 'WP' for single operations; its definition and its proof come later. -/
structure OpRule where
  W : Ctx → Nat → Oper → Env → List Blk → (Option AV → List Blk → Prop) → Prop
  ok : ∀ (B : Base) (N : Nat) (o : Oper) (env : Env) (S : List Blk) (K : Option AV → List Blk → Prop), B.c.ok → W B.c B.k0 o env S K → OpsTo B N o env S K
  D : Ctx → Nat → Nat → Array Oper → Env → List Blk → (Env → List Blk → Prop) → Prop
  okD : ∀ (B : Base) (N id : Nat) (ops : Array Oper) (env : Env) (S : List Blk) (K : Env → List Blk → Prop), B.c.ok → D B.c B.k0 N ops env S K → ∀ μ G a w, At1 B N env S μ G a w →
    (Code.region id ops true).wp B.c.P (fun e a w => e = .normal ∧ ∃ env' S', K env' S' ∧ Here B N env' S' a w) a w

def putD (N : Nat) (d : Option Nat) (x : Option AV) (env : Env) (K : Env → Prop) : Prop :=
  match d with
  | none => K env
  | some d => match Nat.blt d N with | true => K (env.put d x) | false => False

def WOps (R : OpRule) (c : Ctx) (k0 N : Nat) (ops : List Oper) : List Oper → Env → List Blk → (Env → List Blk → Prop) → Prop
  | [], env, S, K => K env S
  | o :: r, env, S, K =>
    match o.guard with
    | none => R.W c k0 o env S fun x S' => putD N o.dst x env fun env' => WOps R c k0 N ops r env' S' K
    | some (j, want) =>
      match (ops[j]?).bind (·.dst) with
      | none => False
      | some t =>
        match env t with
        | some (.d (.bool b)) =>
          @Bool.rec (fun _ => Prop)
            (match want with
              | false => R.W c k0 o (env.put t (some (.d (.bool false)))) S fun x S' => putD N o.dst x (env.put t (some (.d (.bool false)))) fun env' => WOps R c k0 N ops r env' S' K
              | true => putD N o.dst (some (.tup [])) (env.put t (some (.d (.bool false)))) fun env' => WOps R c k0 N ops r env' S K)
            (match want with
              | true => R.W c k0 o (env.put t (some (.d (.bool true)))) S fun x S' => putD N o.dst x (env.put t (some (.d (.bool true)))) fun env' => WOps R c k0 N ops r env' S' K
              | false => putD N o.dst (some (.tup [])) (env.put t (some (.d (.bool true)))) fun env' => WOps R c k0 N ops r env' S K) b
        | some (.tup []) => putD N o.dst (some (.tup [])) env fun env' => WOps R c k0 N ops r env' S K
        | _ => False

def constAV : Value → Option AV
  | .bool b => some (.d (.bool b))
  | .int k n => some (.d (.int k n))
  | .string s => some (.d (.str s))
  | .pointer none => some (.d .nilP)
  | .slice none 0 0 => some (.d (.sl 0 []))
  | .nilIface => some (.d .nilI)
  | .nilFunc => some (.d .nilF)
  | _ => none

def evalA (c : Ctx) (env : Env) : Operand → Option AV
  | .tmp t => env t
  | .const v => constAV v
  | .global g => match c.glob g with | some x => some (.d (.cptr x)) | none => none
  | .func f => some (.fn f [])

def WP (R : OpRule) (c : Ctx) (k0 N : Nat) : Code → Env → List Blk → (Exit → Env → List Blk → Prop) → Prop
  | .skip, env, S, K => K .normal env S
  | .region _ ops draw, env, S, K =>
    match draw with
    | false => WOps R c k0 N ops.toList ops.toList env S (K .normal)
    | true => R.D c k0 N ops env S (K .normal)
  | .seq a b, env, S, K => WP R c k0 N a env S fun e env' S' =>
    match e with
    | .normal => WP R c k0 N b env' S' K
    | e => K e env' S'
  | .cond (.tmp t) a b, env, S, K =>
    match env t with
    | some (.d (.bool x)) =>
      @Bool.rec (fun _ => Prop) (WP R c k0 N b (env.put t (some (.d (.bool false)))) S K) (WP R c k0 N a (env.put t (some (.d (.bool true)))) S K) x
    | _ => False
  | .cond (.const (.bool x)) a b, env, S, K => @Bool.rec (fun _ => Prop) (WP R c k0 N b env S K) (WP R c k0 N a env S K) x
  | .block id body, env, S, K => WP R c k0 N body env S fun e env' S' =>
    match e with
    | .exit j => match Nat.beq j id with | true => K .normal env' S' | false => K (.exit j) env' S'
    | e => K e env' S'
  | .exit id, env, S, K => K (.exit id) env S
  | .ret, env, S, K => K .ret env S
  | .loop body, env, S, K =>
    ∃ I : Nat → List (Nat × AV) → List Blk → Prop, (∃ n l, I n l S ∧ Sub l env) ∧
      ∀ n l S, I n l S → WP R c k0 N body (ofL l) S fun e env' S' =>
        match e with
        | .normal => ∃ m l' k, m < n ∧ I m l' (S'.take k) ∧ Sub l' env' ∧ trimB k0 k l' S' = true
        | e => K e env' S'
  | _, _, _, _ => False

/-- The post that 'WP' proves. -/
def PostOf (B : Base) (N : Nat) (K : Exit → Env → List Blk → Prop) : Exit → Act → World → Prop :=
  fun e a w => ∃ env S, K e env S ∧ Here B N env S a w

theorem Act.put_size (a : Act) (d : Option Nat) (v : Value) : (a.put d v).tmps.size = a.tmps.size := by
  cases d <;> simp [Act.put]
theorem Act.put_defers' (a : Act) (d : Option Nat) (v : Value) : (a.put d v).defers = a.defers := by
  cases d <;> simp [Act.put]

theorem EnvOk.put_known {μ k w G env} {tmps : Array Value} (h : EnvOk μ k w G env tmps) {t : Nat} {b : Bool} (ht : env t = some (.d (.bool b))) :
    EnvOk μ k w G (env.put t (some (.d (.bool b)))) tmps := by
  intro s x hs
  by_cases e : s = t
  · subst e; rw [Env.put_same] at hs; cases hs; exact h s _ ht
  · rw [Env.put_ne _ _ e] at hs; exact h s x hs

theorem ra_bool {μ k w G b v} (h : RA μ k w G (.d (.bool b)) v) : v = .bool b := by
  simp only [RA] at h
  rw [VA.d_iff] at h
  rcases h.inv with ⟨h1, _⟩ | ⟨_, h1, _⟩
  · simp [D.isAgg] at h1
  · cases h1; rfl

theorem At1.put {B N env S μ G a w} (h : At1 B N env S μ G a w) {S' μ' G' w'} (st : St B S' μ' G' w') (l : Later S μ G w S' μ' G' w')
    {dst : Option Nat} {x : Option AV} {v : Value} (hx : ∀ y, x = some y → RA μ' S'.length w' G' y v) {K : Env → Prop} (hk : putD N dst x env K) :
    ∃ env', K env' ∧ At1 B N env' S' μ' G' (a.put dst v) w' := by
  unfold putD at hk
  cases dst with
  | none => exact ⟨env, hk, ⟨st, h.env.later l, h.n, h.d⟩⟩
  | some d =>
    simp only at hk
    cases e : Nat.blt d N with
    | false => rw [e] at hk; exact hk.elim
    | true =>
      rw [e] at hk
      have hd : d < a.tmps.size := by rw [h.n]; exact Nat.le_of_ble_eq_true e
      refine ⟨_, hk, ⟨st, ?_, by rw [Act.put_size]; exact h.n, by rw [Act.put_defers']; exact h.d⟩⟩
      cases x with
      | none => exact (h.env.later l).unset d v
      | some y => exact (h.env.later l).put hd (hx y rfl)

section
variable {B : Base} {N : Nat} {R : OpRule} (hc : B.c.ok)
include hc

theorem wops_sound (ops : List Oper) (K : Exit → Env → List Blk → Prop) : ∀ (l : List Oper) (env : Env) (S : List Blk) (μ : Nat → Value) (G : Nat → Nat → Prop) (a : Act) (w : World),
    WOps R B.c B.k0 N ops l env S (K .normal) → At1 B N env S μ G a w → wpList B.c.P ops.toArray (PostOf B N K) l a w
  | [], env, S, μ, G, a, w, h, st => ⟨env, S, h, μ, G, st⟩
  | o :: r, env, S, μ, G, a, w, h, st => by
    unfold WOps at h
    unfold wpList
    cases hg : o.guard with
    | none =>
      rw [hg] at h
      simp only at h
      rw [if_pos (by simp [Region.wanted, hg])]
      left
      refine R.ok B N o env S _ hc h μ G a w st _ _ ?_
      intro x S' μ' G' v w' hK st' lt hx
      obtain ⟨env', h1, h2⟩ := st.put st' lt hx hK
      exact wops_sound ops K r env' S' μ' G' _ _ h1 h2
    | some jw =>
      obtain ⟨j, want⟩ := jw
      rw [hg] at h
      simp only at h
      cases hj : (ops[j]?).bind (·.dst) with
      | none => rw [hj] at h; exact h.elim
      | some t =>
        rw [hj] at h
        simp only at h
        split at h
        · rename_i b hb
          obtain ⟨v, hv, hra⟩ := st.env t _ hb
          have hvb := ra_bool hra
          subst hvb
          have hy : yielded ops.toArray a.tmps j = some b := by
            simp only [yielded, List.getElem?_toArray, hj, Option.bind_some, hv]
          have hwt : Region.wanted o (yielded ops.toArray a.tmps) = (b == want) := by
            simp [Region.wanted, hg, hy]
          have st1 : ∀ b', b' = b → At1 B N (env.put t (some (.d (.bool b')))) S μ G a w := fun b' e => by
            subst e; exact ⟨st.st, st.env.put_known hb, st.n, st.d⟩
          rw [hwt]
          cases b <;> cases want <;> simp only at h
          · rw [if_pos (by decide)]
            left
            refine R.ok B N o _ S _ hc h μ G a w (st1 false rfl) _ _ ?_
            intro x S' μ' G' v w' hK st' lt hx
            obtain ⟨env', h1, h2⟩ := (st1 false rfl).put st' lt hx hK
            exact wops_sound ops K r env' S' μ' G' _ _ h1 h2
          · rw [if_neg (by simp)]
            obtain ⟨env', h1, h2⟩ := (st1 false rfl).put st.st (Later.refl _ _ _ _) (v := undef) (x := some (.tup [])) (fun y hy => by cases hy; exact ⟨[], rfl, .nil⟩) h
            exact wops_sound ops K r env' S μ G _ _ h1 h2
          · rw [if_neg (by simp)]
            obtain ⟨env', h1, h2⟩ := (st1 true rfl).put st.st (Later.refl _ _ _ _) (v := undef) (x := some (.tup [])) (fun y hy => by cases hy; exact ⟨[], rfl, .nil⟩) h
            exact wops_sound ops K r env' S μ G _ _ h1 h2
          · rw [if_pos (by decide)]
            left
            refine R.ok B N o _ S _ hc h μ G a w (st1 true rfl) _ _ ?_
            intro x S' μ' G' v w' hK st' lt hx
            obtain ⟨env', h1, h2⟩ := (st1 true rfl).put st' lt hx hK
            exact wops_sound ops K r env' S' μ' G' _ _ h1 h2
        · rename_i hb
          obtain ⟨v, hv, hra⟩ := st.env t _ hb
          obtain ⟨vs, rfl, hvs⟩ := hra
          cases hvs
          have hy : yielded ops.toArray a.tmps j = none := by
            simp only [yielded, List.getElem?_toArray, hj, Option.bind_some, hv]
          rw [if_neg (by simp [Region.wanted, hg, hy])]
          obtain ⟨env', h1, h2⟩ := st.put st.st (Later.refl _ _ _ _) (v := undef) (x := some (.tup [])) (fun y hy => by cases hy; exact ⟨[], rfl, .nil⟩) h
          exact wops_sound ops K r env' S μ G _ _ h1 h2
        · exact h.elim

theorem wp_sound : ∀ (c : Code) (K : Exit → Env → List Blk → Prop) (env : Env) (S : List Blk) (μ : Nat → Value) (G : Nat → Nat → Prop) (a : Act) (w : World),
    WP R B.c B.k0 N c env S K → At1 B N env S μ G a w → c.wp B.c.P (PostOf B N K) a w := by
  intro c
  induction c with
  | skip => intro K env S μ G a w h st; exact wp_skip ⟨env, S, h, μ, G, st⟩
  | region id ops draw =>
    intro K env S μ G a w h st
    cases draw with
    | false =>
      simp only [WP] at h
      have := wops_sound hc ops.toList K _ env S μ G a w h st
      rw [Array.toArray_toList] at this
      exact wp_region_list this
    | true =>
      simp only [WP] at h
      refine wp_mono (R.okD B N id ops env S (K .normal) hc h μ G a w st) ?_
      rintro e a' w' ⟨rfl, env', S', hk, hh⟩
      exact ⟨env', S', hk, hh⟩
  | seq x y ihx ihy =>
    intro K env S μ G a w h st
    simp only [WP] at h
    refine wp_seq (wp_mono (ihx _ env S μ G a w h st) ?_)
    rintro e a' w' ⟨env', S', hk, μ', G', st'⟩
    cases e with
    | normal => exact ihy K env' S' μ' G' a' w' hk st'
    | _ => exact ⟨env', S', hk, μ', G', st'⟩
  | cond x p q ihp ihq =>
    intro K env S μ G a w h st
    cases x with
    | tmp t =>
      simp only [WP] at h
      split at h
      · rename_i b hb
        obtain ⟨v, hv, hra⟩ := st.env t _ hb
        have hvb := ra_bool hra
        subst hvb
        have he : a.eval (.tmp t) = .bool b := by
          obtain ⟨h1, h2⟩ := Array.getElem?_eq_some_iff.1 hv
          simp [Act.eval, Array.getD, h1, h2]
        have st1 : At1 B N (env.put t (some (.d (.bool b)))) S μ G a w := ⟨st.st, st.env.put_known hb, st.n, st.d⟩
        cases b with
        | false => exact wp_cond_false he (ihq K _ S μ G a w h st1)
        | true => exact wp_cond_true he (ihp K _ S μ G a w h st1)
      · exact h.elim
    | const v =>
      cases v with
      | bool b =>
        simp only [WP] at h
        cases b with
        | false => exact wp_cond_false rfl (ihq K _ S μ G a w h st)
        | true => exact wp_cond_true rfl (ihp K _ S μ G a w h st)
      | _ => exact h.elim
    | global g => exact h.elim
    | func f => exact h.elim
  | block id body ih =>
    intro K env S μ G a w h st
    simp only [WP] at h
    refine wp_block (wp_mono (ih _ env S μ G a w h st) ?_)
    rintro e a' w' ⟨env', S', hk, μ', G', st'⟩
    cases e with
    | exit j =>
      simp only at hk
      simp only [Exit.inBlock]
      by_cases e : j = id
      · subst e
        rw [Nat.beq_refl] at hk
        rw [if_pos rfl]
        exact ⟨env', S', hk, μ', G', st'⟩
      · rw [if_neg e]
        have : Nat.beq j id = false := by
          cases hb : Nat.beq j id with
          | true => exact absurd (Nat.eq_of_beq_eq_true hb) e
          | false => rfl
        rw [this] at hk
        exact ⟨env', S', hk, μ', G', st'⟩
    | _ => exact ⟨env', S', hk, μ', G', st'⟩
  | exit id => intro K env S μ G a w h st; exact wp_exit ⟨env, S, h, μ, G, st⟩
  | ret => intro K env S μ G a w h st; exact wp_ret ⟨env, S, h, μ, G, st⟩
  | loop body ih =>
    intro K env S μ G a w h st
    simp only [WP] at h
    obtain ⟨I, ⟨n, l, h0, hs⟩, round⟩ := h
    refine wp_loopN (fun n a w => ∃ l S μ G, I n l S ∧ At1 B N (ofL l) S μ G a w) (n := n) ⟨l, S, μ, G, h0, st.st, st.env.sub hs, st.n, st.d⟩ ?_
    rintro n a w ⟨l, S, μ, G, hI, st1⟩
    refine wp_mono (ih _ (ofL l) S μ G a w (round n l S hI) st1) ?_
    rintro e a' w' ⟨env', S', hk, μ', G', st'⟩
    cases e with
    | normal =>
      obtain ⟨m, l', k, hm, hI', hs', ht⟩ := hk
      simp only [trimB, Bool.and_eq_true] at ht
      have hk0 := Nat.le_of_ble_eq_true ht.1
      have hkS := Nat.le_of_ble_eq_true ht.2.1
      refine ⟨m, hm, l', S'.take k, μ', G', hI', st'.st.trim hk0 hkS ht.2.2.2, fun t x hx => ?_, st'.n, st'.d⟩
      obtain ⟨v, h1, h2⟩ := st'.env.sub hs' t x hx
      have hlen : (S'.take k).length = k := by simp [Nat.min_eq_left hkS]
      rw [hlen]
      exact ⟨v, h1, h2.shrink (ofL_names (allLt_spec ht.2.2.1) t x hx)⟩
    | _ => exact ⟨env', S', hk, μ', G', st'⟩
  | _ => intro K env S μ G a w h st; exact (by simp only [WP] at h)

end

end Go.Ab
