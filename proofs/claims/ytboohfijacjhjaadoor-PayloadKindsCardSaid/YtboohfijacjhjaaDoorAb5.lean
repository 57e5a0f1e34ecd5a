/-
  An own logic over the kit's 'Calls' (Ab5): contracts of calls, and how a call's store lies in the caller's.
-/
import Derived.Test.YtboohfijacjhjaaDoorAb4
namespace Go.Ab
open Go.RowKit

def mapO {α β : Type} (f : α → Option β) : List α → Option (List β)
  | [] => some []
  | x :: l => match f x with
    | some y => match mapO f l with
      | some m => some (y :: m)
      | none => none
    | none => none

mutual
def AV.ren (f : Nat → Option Nat) : AV → Option AV
  | .d x => some (.d x)
  | .ptr n p => match f n with | some m => some (.ptr m p) | none => none
  | .row n => match f n with | some m => some (.row m) | none => none
  | .vw n p lo len cnt sz => match f n with | some m => some (.vw m p lo len cnt sz) | none => none
  | .fn g caps => match mapO f caps with | some ms => some (.fn g ms) | none => none
  | .agg l => match AV.rens f l with | some m => some (.agg m) | none => none
  | .tup l => match AV.rens f l with | some m => some (.tup m) | none => none
def AV.rens (f : Nat → Option Nat) : List AV → Option (List AV)
  | [] => some []
  | x :: l => match x.ren f with
    | some y => match AV.rens f l with
      | some m => some (y :: m)
      | none => none
    | none => none
end

def Fits (f : Nat → Option Nat) (μ : Nat → Value) (k : Nat) (μ' : Nat → Value) (k' : Nat) : Prop := ∀ n m, n < k → f n = some m → m < k' ∧ μ' m = μ n

theorem mapO_fits {f μ k μ' k'} (hf : Fits f μ k μ' k') : ∀ {caps ms}, mapO f caps = some ms → (∀ n ∈ caps, n < k ∧ solid (μ n)) → (∀ m ∈ ms, m < k' ∧ solid (μ' m)) ∧ ms.map μ' = caps.map μ
  | [], ms, h, _ => by cases h; simp
  | n :: l, ms, h, hk => by
    simp only [mapO] at h
    split at h
    · rename_i m hm
      split at h
      · rename_i ms' hms
        cases h
        obtain ⟨h1, h2⟩ := mapO_fits hf hms fun x hx => hk x (by simp [hx])
        obtain ⟨h3, h4⟩ := hf n m (hk n (by simp)).1 hm
        exact ⟨fun x hx => by
          rcases List.mem_cons.1 hx with rfl | hx
          · exact ⟨h3, by rw [h4]; exact (hk n (by simp)).2⟩
          · exact h1 _ hx, by simp [h2, h4]⟩
      · cases h
    · cases h

theorem CA.ren {f μ k μ' k' w G} (hf : Fits f μ k μ' k') {l cs} (h : CA μ k w G l cs) : ∀ {m}, AV.rens f l = some m → CA μ' k' w G m cs := by
  induction h with
  | nil => intro m hm; simp only [AV.rens] at hm; cases hm; exact .nil
  | d h _ ih =>
    intro m hm
    simp only [AV.rens, AV.ren] at hm
    split at hm
    · rename_i l' hl; cases hm; exact .d h (ih hl)
    · cases hm
  | ptr h1 h2 h3 _ ih =>
    intro m hm
    rename_i n p b r cs _
    simp only [AV.rens, AV.ren] at hm
    cases e : f n with
    | none => rw [e] at hm; cases hm
    | some j =>
      rw [e] at hm
      simp only at hm
      obtain ⟨h4, h5⟩ := hf n j h1 e
      split at hm
      · rename_i l' hl; cases hm; exact .ptr h4 (by rw [h5, h2]) h3 (ih hl)
      · cases hm
  | row h1 h2 _ ih =>
    intro m hm
    rename_i n a len cap r cs _
    simp only [AV.rens, AV.ren] at hm
    cases e : f n with
    | none => rw [e] at hm; cases hm
    | some j =>
      rw [e] at hm
      simp only at hm
      obtain ⟨h4, h5⟩ := hf n j h1 e
      split at hm
      · rename_i l' hl; cases hm; exact .row h4 (by rw [h5, h2]) (ih hl)
      · cases hm
  | vw h1 h2 h3 h4 h5 h6 _ ih =>
    intro m hm
    rename_i n p b lo len cnt sz cap r cs _
    simp only [AV.rens, AV.ren] at hm
    cases e : f n with
    | none => rw [e] at hm; cases hm
    | some j =>
      rw [e] at hm
      simp only at hm
      obtain ⟨g4, g5⟩ := hf n j h1 e
      split at hm
      · rename_i l' hl; cases hm; exact .vw g4 (by rw [g5, h2]) h3 h4 h5 h6 (ih hl)
      · cases hm
  | fn h1 _ ih =>
    intro m hm
    rename_i g caps r cs _
    simp only [AV.rens, AV.ren] at hm
    cases e : mapO f caps with
    | none => rw [e] at hm; cases hm
    | some ms =>
      rw [e] at hm
      simp only at hm
      obtain ⟨g1, g2⟩ := mapO_fits hf e h1
      split at hm
      · rename_i l' hl; cases hm; rw [← g2]; exact .fn g1 (ih hl)
      · cases hm
  | agg _ _ ih1 ih2 =>
    intro m hm
    rename_i l' c r cs _ _
    simp only [AV.rens, AV.ren] at hm
    cases e : AV.rens f l' with
    | none => rw [e] at hm; cases hm
    | some ms =>
      rw [e] at hm
      simp only at hm
      split at hm
      · rename_i l'' hl; cases hm; exact .agg (ih1 e) (ih2 hl)
      · cases hm

theorem rens_single {f x y} (h : AV.ren f x = some y) : AV.rens f [x] = some [y] := by simp [AV.rens, h]

theorem ren_isAgg {f x y} (h : AV.ren f x = some y) : y.isAgg = x.isAgg := by
  cases x <;> simp only [AV.ren] at h
  · cases h; rfl
  all_goals (split at h <;> cases h; rfl)

theorem VA.ren {f μ k μ' k' w G x y v} (hf : Fits f μ k μ' k') (h : VA μ k w G x v) (e : AV.ren f x = some y) : VA μ' k' w G y v :=
  ⟨h.1.ren hf (rens_single e), by rw [ren_isAgg e]; exact h.2⟩

theorem VS.ren {f μ k μ' k' w G} (hf : Fits f μ k μ' k') {l vs} (h : VS μ k w G l vs) : ∀ {m}, AV.rens f l = some m → VS μ' k' w G m vs := by
  induction h with
  | nil => intro m hm; simp only [AV.rens] at hm; cases hm; exact .nil
  | cons h _ ih =>
    intro m hm
    simp only [AV.rens] at hm
    split at hm
    · rename_i y hy
      split at hm
      · rename_i l' hl; cases hm; exact .cons (h.ren hf hy) (ih hl)
      · cases hm
    · cases hm

theorem RA.ren {f μ k μ' k' w G x y v} (hf : Fits f μ k μ' k') (h : RA μ k w G x v) (e : AV.ren f x = some y) : RA μ' k' w G y v := by
  cases x with
  | tup l =>
    obtain ⟨vs, rfl, hv⟩ := h
    simp only [AV.ren] at e
    split at e
    · rename_i m hm; cases e; exact ⟨vs, rfl, hv.ren hf hm⟩
    · cases e
  | _ =>
    have h' : VA μ k w G _ v := h
    have h2 := h'.ren hf e
    cases y with
    | tup l => simp only [AV.ren] at e; first | (cases e; done) | (split at e <;> cases e)
    | _ => exact h2

def Blk.ren (f : Nat → Option Nat) : Blk → Option Blk
  | .var x => match x.ren f with | some y => some (.var y) | none => none
  | b => some b

theorem Blk.ren_live {f b d} (h : Blk.ren f b = some d) : d.live = b.live ∧ d.fixed = b.fixed := by
  cases b <;> simp only [Blk.ren] at h
  · split at h <;> cases h; exact ⟨rfl, rfl⟩
  all_goals (cases h; exact ⟨rfl, rfl⟩)

theorem BlkOk.ren {f μ k μ' k' w G v b d} (hf : Fits f μ k μ' k') (h : BlkOk μ k w G v b) (e : Blk.ren f b = some d) : BlkOk μ' k' w G v d := by
  cases b with
  | var x =>
    simp only [Blk.ren] at e
    split at e
    · rename_i y hy
      cases e
      obtain ⟨b, cs, T, l, s, h1, h2, h3, h4⟩ := h
      exact ⟨b, cs, T, l, s, h1, h2, h3, h4.ren hf (rens_single hy)⟩
    · cases e
  | row | iter | sealed | dead => simp only [Blk.ren] at e; cases e; exact h

/-- A call's own beginning. -/
def base (c : Ctx) (S : List Blk) (μ : Nat → Value) (G : Nat → Nat → Prop) (w : World) : Base :=
  { c, k0 := S.length, μ0 := μ, G0 := G, w0 := w, L0 := fun i => ∃ b, S[i]? = some b ∧ b.live = true }

/-- A function is called: it is entered, or it answers at once. -/
def CallsTo (P : Program) (f : FuncId) (args : Array Value) (w : World) (R : Ending → World → Prop) : Prop :=
  ((callFunc f args).run P w = .ok (.enter f args) w ∧ Calls P f args w R) ∨ ∃ v w', (callFunc f args).run P w = .ok (.value v) w' ∧ R (.returned v) w'

theorem CallsTo.mono {P f args w R R'} (h : CallsTo P f args w R) (hr : ∀ e w', R e w' → R' e w') : CallsTo P f args w R' := by
  rcases h with ⟨h1, h2⟩ | ⟨v, w', h1, h2⟩
  · exact .inl ⟨h1, h2.mono hr⟩
  · exact .inr ⟨v, w', h1, hr _ _ h2⟩

/-- The contract of a call: from abstract arguments and a store to what comes back. -/
def CallR (c : Ctx) (f : FuncId) (args : List AV) (S : List Blk) (Post : AV → List Blk → Prop) : Prop :=
  ∀ (μ : Nat → Value) (G : Nat → Nat → Prop) (w : World) (vals : List Value), St (base c S μ G w) S μ G w → VS μ S.length w G args vals →
    CallsTo c.P f vals.toArray w fun e w' => ∃ v r S' μ' G', e = .returned v ∧ Post r S' ∧ St (base c S μ G w) S' μ' G' w' ∧ RA μ' S'.length w' G' r v

theorem CallR.mono {c f args S Post Post'} (h : CallR c f args S Post) (hp : ∀ r S', Post r S' → Post' r S') : CallR c f args S Post' :=
  fun μ G w vals st hv => (h μ G w vals st hv).mono fun _ _ ⟨v, r, S', μ', G', h1, h2, h3, h4⟩ => ⟨v, r, S', μ', G', h1, hp _ _ h2, h3, h4⟩

/-- The names that are handed on, in the order in which the callee counts them: the place of a name. -/
def posOf : List Nat → Nat → Option Nat
  | [], _ => none
  | m :: l, n => match Nat.beq n m with
    | true => some 0
    | false => match posOf l n with | some i => some (i + 1) | none => none

theorem posOf_spec : ∀ {ns : List Nat} {n i}, posOf ns n = some i → ns[i]? = some n
  | [], _, _, h => by cases h
  | m :: l, n, i, h => by
    simp only [posOf] at h
    cases e : Nat.beq n m with
    | true => rw [e] at h; cases h; simp [Nat.eq_of_beq_eq_true e]
    | false =>
      rw [e] at h
      simp only at h
      split at h
      · rename_i j hj; cases h; simpa using posOf_spec hj
      · cases h

/-- Back: the caller's name of a callee's. -/
def backOf (ns : List Nat) (k : Nat) (i : Nat) : Option Nat :=
  match Nat.blt i ns.length with
  | true => ns[i]?
  | false => some (k + (i - ns.length))

def subStore (S : List Blk) : List Nat → Option (List Blk)
  | [] => some []
  | n :: l => match S[n]? with
    | some b => match subStore S l with | some r => some (b :: r) | none => none
    | none => none

def renBlks (f : Nat → Option Nat) : List Blk → Option (List Blk)
  | [] => some []
  | b :: l => match b.ren f with
    | some d => match renBlks f l with | some r => some (d :: r) | none => none
    | none => none

theorem renBlks_get {f} : ∀ {l m : List Blk}, renBlks f l = some m → m.length = l.length ∧ (∀ (i : Nat) (d : Blk), m[i]? = some d → ∃ b : Blk, l[i]? = some b ∧ b.ren f = some d) ∧ (∀ (i : Nat) (b : Blk), l[i]? = some b → ∃ d : Blk, m[i]? = some d ∧ b.ren f = some d)
  | [], m, h => by cases h; simp
  | b :: l, m, h => by
    simp only [renBlks] at h
    split at h
    · rename_i d hd
      split at h
      · rename_i r hr
        cases h
        obtain ⟨h1, h2, h3⟩ := renBlks_get hr
        refine ⟨by simp [h1], fun i x hx => ?_, fun i x hx => ?_⟩
        · cases i with
          | zero => simp at hx; exact ⟨b, by simp, by rw [hd, hx]⟩
          | succ i => simpa using h2 i x (by simpa using hx)
        · cases i with
          | zero => simp at hx; exact ⟨d, by simp, by rw [← hx, hd]⟩
          | succ i => simpa using h3 i x (by simpa using hx)
      · cases h
    · cases h

theorem subStore_get {S : List Blk} : ∀ {ns : List Nat} {m : List Blk}, subStore S ns = some m → m.length = ns.length ∧ ∀ (i : Nat) (d : Blk), m[i]? = some d → ∃ n : Nat, ns[i]? = some n ∧ S[n]? = some d
  | [], m, h => by cases h; simp
  | n :: l, m, h => by
    simp only [subStore] at h
    split at h
    · rename_i b hb
      split at h
      · rename_i r hr
        cases h
        obtain ⟨h1, h2⟩ := subStore_get hr
        refine ⟨by simp [h1], fun i x hx => ?_⟩
        cases i with
        | zero => simp at hx; exact ⟨n, by simp, by rw [hb, hx]⟩
        | succ i => simpa using h2 i x (by simpa using hx)
      · cases h
    · cases h

/-- Writes the callee's first blocks back into the caller's store. -/
def putBack (S : List Blk) : List Nat → List Blk → List Blk
  | n :: l, b :: r => putBack (S.set n b) l r
  | _, _ => S

def nodupB : List Nat → Bool
  | [] => true
  | n :: l => !(l.any fun m => Nat.beq n m) && nodupB l

theorem nodupB_spec : ∀ {l : List Nat}, nodupB l = true → ∀ (i j n : Nat), l[i]? = some n → l[j]? = some n → i = j
  | [], _, i, j, n, h, _ => by simp at h
  | m :: l, hd, i, j, n, hi, hj => by
    simp only [nodupB, Bool.and_eq_true, Bool.not_eq_true', List.any_eq_false] at hd
    obtain ⟨h1, h2⟩ := hd
    have no : ∀ q, l[q]? = some m → False := fun q hq => by
      have := h1 m (List.mem_of_getElem? hq)
      exact this (Nat.beq_refl m)
    cases i <;> cases j
    · rfl
    · simp at hi hj; subst hi; exact (no _ hj).elim
    · simp at hi hj; subst hj; exact (no _ hi).elim
    · simp at hi hj; have := nodupB_spec h2 _ _ n hi hj; omega

theorem putBack_length (S : List Blk) : ∀ (ns : List Nat) (l : List Blk), (putBack S ns l).length = S.length
  | [], _ => by simp [putBack]
  | n :: ns, [] => by simp [putBack]
  | n :: ns, b :: l => by simp only [putBack]; rw [putBack_length _ ns l]; simp

theorem putBack_other : ∀ (ns : List Nat) (l : List Blk) (S : List Blk) (i : Nat), (∀ n ∈ ns, n ≠ i) → (putBack S ns l)[i]? = S[i]?
  | [], _, _, _, _ => by simp [putBack]
  | n :: ns, [], _, _, _ => by simp [putBack]
  | n :: ns, b :: l, S, i, h => by
    simp only [putBack]
    rw [putBack_other ns l _ i (fun m hm => h m (by simp [hm])), List.getElem?_set_ne (h n (by simp))]

theorem putBack_at : ∀ (ns : List Nat) (l : List Blk) (S : List Blk) (q n : Nat) (b : Blk), nodupB ns = true → ns[q]? = some n → l[q]? = some b → n < S.length → (putBack S ns l)[n]? = some b
  | [], _, _, q, _, _, _, h, _, _ => by simp at h
  | m :: ns, [], _, q, _, _, _, _, h, _ => by simp at h
  | m :: ns, d :: l, S, q, n, b, hd, hq, hb, hn => by
    simp only [putBack]
    have hd' := hd
    simp only [nodupB, Bool.and_eq_true, Bool.not_eq_true', List.any_eq_false] at hd
    obtain ⟨h1, h2⟩ := hd
    cases q with
    | zero =>
      simp at hq hb
      subst hq; subst hb
      rw [putBack_other ns l _ m (fun x hx e => h1 x hx (by rw [e]; exact Nat.beq_refl m)), List.getElem?_set_self hn]
    | succ q =>
      simp at hq hb
      exact putBack_at ns l _ q n b h2 hq hb (by simpa using hn)

/-- A call's arguments and store as the callee sees them. -/
structure Into (S : List Blk) (ns : List Nat) (args : List AV) (args' : List AV) (S' : List Blk) : Prop where
  nd : nodupB ns = true
  lt : ∀ n ∈ ns, n < S.length
  args : AV.rens (posOf ns) args = some args'
  sub : ∃ m, subStore S ns = some m ∧ renBlks (posOf ns) m = some S'

theorem posOf_fits {ns : List Nat} {μ k} : Fits (posOf ns) μ k (fun i => μ (ns.getD i 0)) ns.length := by
  intro n m _ h
  have := posOf_spec h
  obtain ⟨h1, h2⟩ := List.getElem?_eq_some_iff.1 this
  exact ⟨h1, by simp [List.getD_eq_getElem?_getD, this]⟩

theorem Into.st {B S μ G w ns args args' S'} (hi : Into S ns args args' S') (st : St B S μ G w) :
    St (base B.c S' (fun i => μ (ns.getD i 0)) G w) S' (fun i => μ (ns.getD i 0)) G w := by
  obtain ⟨m, hm, hr⟩ := hi.sub
  obtain ⟨hm1, hm2⟩ := subStore_get hm
  obtain ⟨hr1, hr2, _⟩ := renBlks_get hr
  have hlen : S'.length = ns.length := by rw [hr1, hm1]
  have key : ∀ i d, S'[i]? = some d → ∃ n b, ns[i]? = some n ∧ S[n]? = some b ∧ b.ren (posOf ns) = some d ∧ μ (ns.getD i 0) = μ n := by
    intro i d hd
    obtain ⟨b, h1, h2⟩ := hr2 i d hd
    obtain ⟨n, h3, h4⟩ := hm2 i b h1
    exact ⟨n, b, h3, h4, h2, by simp [List.getD_eq_getElem?_getD, h3]⟩
  exact {
    blks := by
      intro i d hd
      obtain ⟨n, b, h1, h2, h3, h4⟩ := key i d hd
      rw [h4, hlen]
      exact (st.blks n b h2).ren posOf_fits h3
    apart := by
      intro i j d e hd he hl hl' hij q hq hq'
      obtain ⟨n, b, h1, h2, h3, h4⟩ := key i d hd
      obtain ⟨n', b', h1', h2', h3', h4'⟩ := key j e he
      rw [h4] at hq; rw [h4'] at hq'
      refine st.apart n n' b b' h2 h2' (by rw [← (Blk.ren_live h3).1]; exact hl) (by rw [← (Blk.ren_live h3').1]; exact hl') ?_ q hq hq'
      intro e'
      subst e'
      exact hij (nodupB_spec hi.nd i j n h1 h1')
    free := by
      intro i d q hd hl hq o ho
      obtain ⟨n, b, h1, h2, h3, h4⟩ := key i d hd
      rw [h4] at hq
      rw [(Blk.ren_live h3).2] at ho
      exact st.free n b q h2 (by rw [← (Blk.ren_live h3).1]; exact hl) hq o ho
    gv := st.gv
    k0 := Nat.le_refl _
    keep := fun _ _ => rfl
    g0 := fun _ _ h => h
    gn := fun _ _ h => .inl h
    new := by
      intro i d q hi' hd
      have : i < S'.length := (List.getElem?_eq_some_iff.1 hd).1
      simp only [base] at hi'
      omega
    os := rfl
    tape := rfl
    output := rfl
    size := Nat.le_refl _
    fr := fun _ _ _ => rfl
    lv := fun i d _ hd hl => ⟨d, hd, hl⟩
    glob := st.glob
    gw := fun _ _ _ _ h => h }

theorem Into.args_ok {S μ G w ns args args' S' vals} (hi : Into S ns args args' S') (h : VS μ S.length w G args vals) :
    VS (fun i => μ (ns.getD i 0)) S'.length w G args' vals := by
  obtain ⟨m, hm, hr⟩ := hi.sub
  have hlen : S'.length = ns.length := by rw [(renBlks_get hr).1, (subStore_get hm).1]
  rw [hlen]
  exact h.ren posOf_fits hi.args

/-- Behind a call: what the caller's store is. -/
structure Back (S : List Blk) (ns : List Nat) (S' : List Blk) (r : AV) (r' : AV) (S'' : List Blk) : Prop where
  res : AV.ren (backOf ns S.length) r = some r'
  sto : ∃ m, renBlks (backOf ns S.length) S' = some m ∧ S'' = putBack S ns (m.take ns.length) ++ m.drop ns.length

theorem Back.st {B S μ G w ns args args' S0 S' r r' S'' μ' G' w'} (st : St B S μ G w) (hi : Into S ns args args' S0)
    (hb : Back S ns S' r r' S'') (st' : St (base B.c S0 (fun i => μ (ns.getD i 0)) G w) S' μ' G' w') :
    ∃ μ'', St B S'' μ'' G' w' ∧ Later S μ G w S'' μ'' G' w' ∧ ∀ v, RA μ' S'.length w' G' r v → RA μ'' S''.length w' G' r' v := by
  obtain ⟨m0, hm0, hr0⟩ := hi.sub
  have hlen0 : S0.length = ns.length := by rw [(renBlks_get hr0).1, (subStore_get hm0).1]
  obtain ⟨hm01, hm02⟩ := subStore_get hm0
  obtain ⟨_, hr02, hr03⟩ := renBlks_get hr0
  obtain ⟨m, hm, rfl⟩ := hb.sto
  obtain ⟨hm1, hm2, hm3⟩ := renBlks_get hm
  have hk : ns.length ≤ S'.length := by have := st'.k0; simp only [base] at this; omega
  have hSl : (putBack S ns (m.take ns.length) ++ m.drop ns.length).length = S.length + (S'.length - ns.length) := by
    simp [putBack_length, hm1]
  -- the names
  let μ'' : Nat → Value := fun i => if i < S.length then μ i else μ' (i - S.length + ns.length)
  have hold : ∀ i, i < S.length → μ'' i = μ i := fun i hi => by simp [μ'', hi]
  have hkeep : ∀ q n, ns[q]? = some n → μ' q = μ n := by
    intro q n hq
    have hq' : q < ns.length := (List.getElem?_eq_some_iff.1 hq).1
    have := st'.keep q (by simp only [base]; omega)
    rw [this]
    simp [base, List.getD_eq_getElem?_getD, hq]
  have hfit : Fits (backOf ns S.length) μ' S'.length μ'' (S.length + (S'.length - ns.length)) := by
    intro n j hn hj
    unfold backOf at hj
    cases e : Nat.blt n ns.length with
    | true =>
      rw [e] at hj
      have h1 := hi.lt j (List.mem_of_getElem? hj)
      exact ⟨by omega, by rw [hold j h1]; exact (hkeep n j hj).symm⟩
    | false =>
      rw [e] at hj
      have h1 : ¬ n < ns.length := fun h => by have : Nat.blt n ns.length = true := Nat.ble_eq_true_of_le h; rw [this] at e; cases e
      cases hj
      refine ⟨by omega, ?_⟩
      simp only [μ'']
      rw [if_neg (by omega)]
      congr 1
      omega
  have hG : ∀ b o, G b o → G' b o := st'.g0
  have hN : ∀ b o, G' b o → G b o ∨ w.heap.size ≤ b := st'.gn
  have hcell : ∀ b o v, G b o → w.cell? ⟨b, o, none⟩ = some v → w'.cell? ⟨b, o, none⟩ = some v := st'.gw
  have hXn : ∀ q, (base B.c S0 (fun i => μ (ns.getD i 0)) G w).X q → ∃ n b, n ∈ ns ∧ S[n]? = some b ∧ b.live = true ∧ bid (μ n) = some q := by
    rintro q ⟨i, _, ⟨d, hd, hl⟩, hq⟩
    simp only [base] at hq
    obtain ⟨b0, hb0, hb1⟩ := hr02 i d hd
    obtain ⟨n, hn1, hn2⟩ := hm02 i b0 hb0
    exact ⟨n, b0, List.mem_of_getElem? hn1, hn2, by rw [← (Blk.ren_live hb1).1]; exact hl, by simpa [List.getD_eq_getElem?_getD, hn1] using hq⟩
  -- where a block of the new store comes from
  have from_ : ∀ i d, (putBack S ns (m.take ns.length) ++ m.drop ns.length)[i]? = some d →
      (i < S.length ∧ i ∉ ns ∧ S[i]? = some d ∧ μ'' i = μ i) ∨
      (∃ q b, S'[q]? = some b ∧ b.ren (backOf ns S.length) = some d ∧ μ'' i = μ' q ∧ ((q < ns.length ∧ ns[q]? = some i ∧ i < S.length) ∨ (ns.length ≤ q ∧ i = S.length + (q - ns.length)))) := by
    intro i d hd
    by_cases h1 : i < S.length
    · rw [List.getElem?_append_left (by rw [putBack_length]; exact h1)] at hd
      by_cases h2 : i ∈ ns
      · right
        obtain ⟨q, hq1, hq2⟩ := List.getElem_of_mem h2
        have hq3 : ns[q]? = some i := by rw [List.getElem?_eq_getElem hq1, hq2]
        have hq4 : q < m.length := by omega
        have hmq : (m.take ns.length)[q]? = some m[q] := by rw [List.getElem?_take, if_pos hq1, List.getElem?_eq_getElem hq4]
        have := putBack_at ns (m.take ns.length) S q i _ hi.nd hq3 hmq h1
        rw [this] at hd
        cases hd
        obtain ⟨b, hb1, hb2⟩ := hm2 q m[q] (List.getElem?_eq_getElem hq4)
        exact ⟨q, b, hb1, hb2, by rw [hold i h1, hkeep q i hq3], .inl ⟨hq1, hq3, h1⟩⟩
      · left
        rw [putBack_other ns _ S i (fun n hn e => h2 (by rw [← e]; exact hn))] at hd
        exact ⟨h1, h2, hd, hold i h1⟩
    · right
      rw [List.getElem?_append_right (by rw [putBack_length]; omega), putBack_length, List.getElem?_drop] at hd
      obtain ⟨b, hb1, hb2⟩ := hm2 _ d hd
      refine ⟨ns.length + (i - S.length), b, hb1, hb2, ?_, .inr ⟨by omega, by omega⟩⟩
      simp only [μ'']
      rw [if_neg h1]
      congr 1
      omega
  have wasLive : ∀ q i b, q < ns.length → ns[q]? = some i → S'[q]? = some b → b.live = true → ∃ bi, S[i]? = some bi ∧ bi.live = true := by
    intro q i b hq hqi hb hl
    obtain ⟨d, hd, hdl⟩ := st'.lv q b (by simp only [base]; omega) hb hl
    obtain ⟨b0, hb0, hb1⟩ := hr02 q d hd
    obtain ⟨n, hn1, hn2⟩ := hm02 q b0 hb0
    rw [hqi] at hn1
    cases hn1
    exact ⟨b0, hn2, by rw [← (Blk.ren_live hb1).1]; exact hdl⟩
  have newq : ∀ q b n, ns.length ≤ q → S'[q]? = some b → b.live = true → bid (μ' q) = some n → w.heap.size ≤ n :=
    fun q b n hq hb hl hn => st'.new q b n (by simp only [base]; omega) hb hl hn
  refine ⟨μ'', ?_, ⟨by rw [hSl]; omega, hold, hG, hcell⟩, fun v hv => by rw [hSl]; exact hv.ren hfit hb.res⟩
  have hheap : ∀ k, k < w.heap.size → ¬ (base B.c S0 (fun i => μ (ns.getD i 0)) G w).X k → w'.heap[k]? = w.heap[k]? := st'.fr
  have hsize : w.heap.size ≤ w'.heap.size := st'.size
  exact {
    blks := by
      intro i d hd
      rw [hSl]
      rcases from_ i d hd with ⟨h1, h2, h3, h4⟩ | ⟨q, b, h1, h2, h3, _⟩
      · rw [h4]
        refine (st.blks i d h3).mono (by omega) (fun i hi _ => hold i hi) hG hcell (fun hl n hn => hheap n ((st.blks i d h3).bid_lt hl n hn) ?_)
        intro hx
        obtain ⟨n', b', e1, e2, e3, e4⟩ := hXn n hx
        exact st.apart i n' d b' h3 e2 hl e3 (fun e => h2 (by rw [e]; exact e1)) n hn e4
      · rw [h3]; exact (st'.blks q b h1).ren hfit h2
    apart := by
      intro i j d e hd he hl hl' hij n hn hn'
      rcases from_ i d hd with ⟨h1, h2, h3, h4⟩ | ⟨q, b, h1, h2, h3, h4⟩ <;> rcases from_ j e he with ⟨g1, g2, g3, g4⟩ | ⟨q', b', g1, g2, g3, g4⟩
      · rw [h4] at hn; rw [g4] at hn'; exact st.apart i j d e h3 g3 hl hl' hij n hn hn'
      · rw [h4] at hn; rw [g3] at hn'
        have hlt := (st.blks i d h3).bid_lt hl n hn
        rcases g4 with ⟨g5, g6, g7⟩ | ⟨g5, _⟩
        · rw [hkeep q' j g6] at hn'
          have hx : (base B.c S0 (fun i => μ (ns.getD i 0)) G w).X n := st'.xx (i := q') (b := b') (by simp only [base]; omega) g1 (by rw [← (Blk.ren_live g2).1]; exact hl') (by rw [hkeep q' j g6]; exact hn')
          obtain ⟨n', b'', e1, e2, e3, e4⟩ := hXn n hx
          exact st.apart i n' d b'' h3 e2 hl e3 (fun e => h2 (by rw [e]; exact e1)) n hn e4
        · have := newq q' b' n g5 g1 (by rw [← (Blk.ren_live g2).1]; exact hl') hn'; omega
      · rw [h3] at hn; rw [g4] at hn'
        have hlt := (st.blks j e g3).bid_lt hl' n hn'
        rcases h4 with ⟨g5, g6, g7⟩ | ⟨g5, _⟩
        · have hx : (base B.c S0 (fun i => μ (ns.getD i 0)) G w).X n := st'.xx (i := q) (b := b) (by simp only [base]; omega) h1 (by rw [← (Blk.ren_live h2).1]; exact hl) hn
          obtain ⟨n', b'', e1, e2, e3, e4⟩ := hXn n hx
          exact st.apart j n' e b'' g3 e2 hl' e3 (fun e => g2 (by rw [e]; exact e1)) n hn' e4
        · have := newq q b n g5 h1 (by rw [← (Blk.ren_live h2).1]; exact hl) hn; omega
      · rw [h3] at hn; rw [g3] at hn'
        refine st'.apart q q' b b' h1 g1 (by rw [← (Blk.ren_live h2).1]; exact hl) (by rw [← (Blk.ren_live g2).1]; exact hl') ?_ n hn hn'
        intro e'
        subst e'
        rcases h4 with ⟨a1, a2, _⟩ | ⟨a1, a2⟩ <;> rcases g4 with ⟨c1, c2, _⟩ | ⟨c1, c2⟩
        · rw [a2] at c2; cases c2; exact hij rfl
        · omega
        · omega
        · exact hij (by omega)
    free := by
      intro i d n hd hl hn o ho hg
      rcases from_ i d hd with ⟨h1, h2, h3, h4⟩ | ⟨q, b, h1, h2, h3, _⟩
      · rw [h4] at hn
        rcases hN n o hg with h | h
        · exact st.free i d n h3 hl hn o ho h
        · have := (st.blks i d h3).bid_lt hl n hn; omega
      · rw [h3] at hn
        rw [(Blk.ren_live h2).2] at ho
        exact st'.free q b n h1 (by rw [← (Blk.ren_live h2).1]; exact hl) hn o ho hg
    gv := st'.gv
    k0 := by rw [hSl]; have := st.k0; omega
    keep := fun i hi' => by rw [hold i (by have := st.k0; omega)]; exact st.keep i hi'
    g0 := fun b o h => hG b o (st.g0 b o h)
    gn := fun b o h => by
      rcases hN b o h with h | h
      · exact st.gn b o h
      · right; have := st.size; omega
    new := by
      intro i d n hi' hd hl hn
      rcases from_ i d hd with ⟨h1, h2, h3, h4⟩ | ⟨q, b, h1, h2, h3, h4⟩
      · rw [h4] at hn; exact st.new i d n hi' h3 hl hn
      · rw [h3] at hn
        rcases h4 with ⟨a1, a2, a3⟩ | ⟨a1, a2⟩
        · rw [hkeep q i a2] at hn
          obtain ⟨bi, h5, h6⟩ := wasLive q i b a1 a2 h1 (by rw [← (Blk.ren_live h2).1]; exact hl)
          exact st.new i bi n hi' h5 h6 hn
        · have := newq q b n a1 h1 (by rw [← (Blk.ren_live h2).1]; exact hl) hn; have := st.size; omega
    os := st'.os.trans st.os
    tape := st'.tape.trans st.tape
    output := st'.output.trans st.output
    size := Nat.le_trans st.size hsize
    fr := by
      intro k hk hx
      refine (hheap k (Nat.lt_of_lt_of_le hk st.size) ?_).trans (st.fr k hk hx)
      intro hx'
      obtain ⟨n', b', e1, e2, e3, e4⟩ := hXn k hx'
      by_cases hi' : n' < B.k0
      · exact hx (st.xx hi' e2 e3 e4)
      · have := st.new n' b' k (by omega) e2 e3 e4; omega
    lv := by
      intro i d hi' hd hl
      rcases from_ i d hd with ⟨h1, h2, h3, h4⟩ | ⟨q, b, h1, h2, h3, h4⟩
      · exact st.lv i d hi' h3 hl
      · rcases h4 with ⟨a1, a2, a3⟩ | ⟨a1, a2⟩
        · obtain ⟨bi, h5, h6⟩ := wasLive q i b a1 a2 h1 (by rw [← (Blk.ren_live h2).1]; exact hl)
          exact st.lv i bi hi' h5 h6
        · have := st.k0; omega
    glob := st'.glob
    gw := fun b o v h1 h2 => hcell b o v (st.g0 b o h1) (st.gw b o v h1 h2) }

end Go.Ab
