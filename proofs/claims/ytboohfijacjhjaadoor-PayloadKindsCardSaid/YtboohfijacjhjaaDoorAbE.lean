/-
  An own logic over the kit's 'Calls' (AbE): all orders of a statement's operations come to one state.
-/
import Derived.Test.YtboohfijacjhjaaDoorAbD
namespace Go.Ab
open Go.RowKit

structure Ent where
  x : Option AV
  δ : List (Nat × Blk)
  R : List Nat

def putO (d : Option Nat) (x : Option AV) (env : Env) : Env :=
  match d with
  | none => env
  | some d => env.put d x

def act (o : Oper) (e : Ent) (s : Env × List Blk) : Env × List Blk := (putO o.dst e.x s.1, app e.δ s.2)

def foldE (E : Nat → Bool) : Nat → List (Oper × Ent) → Env × List Blk → Env × List Blk
  | _, [], s => s
  | i, (o, e) :: l, s => foldE E (i + 1) l (if E i then act o e s else s)

def wr (e : Ent) (n : Nat) : Prop := ∃ b, (n, b) ∈ e.δ

theorem put_comm (env : Env) {d d' : Nat} (x x' : Option AV) (h : d ≠ d') : (env.put d x).put d' x' = (env.put d' x').put d x := by
  funext t
  by_cases h1 : t = d
  · subst h1
    rw [Env.put_ne _ _ h, Env.put_same, Env.put_same]
  · by_cases h2 : t = d'
    · subst h2
      rw [Env.put_same, Env.put_ne _ _ h1, Env.put_same]
    · rw [Env.put_ne _ _ h2, Env.put_ne _ _ h1, Env.put_ne _ _ h1, Env.put_ne _ _ h2]

/-- Two operations that do not touch each other. -/
def Free (o o' : Oper) (e e' : Ent) : Prop := (∀ d, o.dst = some d → o'.dst ≠ some d) ∧ ∀ n, wr e n → ¬ wr e' n

theorem act_comm {o o' : Oper} {e e' : Ent} (h : Free o o' e e') (s : Env × List Blk) : act o e (act o' e' s) = act o' e' (act o e s) := by
  obtain ⟨h1, h2⟩ := h
  simp only [act]
  congr 1
  · cases hd : o.dst with
    | none => rfl
    | some d =>
      cases hd' : o'.dst with
      | none => rfl
      | some d' =>
        simp only [putO]
        exact (put_comm _ _ _ (fun e => h1 d hd (by rw [hd', e]))).symm
  · exact app_comm _ _ _ (fun p hp q hq e => h2 p.1 ⟨p.2, hp⟩ ⟨q.2, by rw [e]; exact hq⟩)

theorem foldE_act (E : Nat → Bool) {o : Oper} {e : Ent} : ∀ (l : List (Oper × Ent)) (i : Nat) (s : Env × List Blk), (∀ (j : Nat) o' e', l[j]? = some (o', e') → E (i + j) = true → Free o o' e e') →
    foldE E i l (act o e s) = act o e (foldE E i l s)
  | [], _, _, _ => rfl
  | (o', e') :: l, i, s, h => by
    simp only [foldE]
    by_cases hE : E i = true
    · rw [if_pos hE, if_pos hE, ← act_comm (h 0 o' e' (by simp) (by simpa using hE))]
      exact foldE_act E l (i + 1) _ (fun j o2 e2 hj hE' => h (j + 1) o2 e2 (by simpa using hj) (by rw [Nat.add_assoc, Nat.add_comm 1 j] at hE'; exact hE'))
    · rw [if_neg hE, if_neg hE]
      exact foldE_act E l (i + 1) _ (fun j o2 e2 hj hE' => h (j + 1) o2 e2 (by simpa using hj) (by rw [Nat.add_assoc, Nat.add_comm 1 j] at hE'; exact hE'))

def with1 (E : Nat → Bool) (i : Nat) : Nat → Bool := fun j => if j = i then true else E j

theorem foldE_ext {E E' : Nat → Bool} : ∀ (l : List (Oper × Ent)) (i : Nat) (s : Env × List Blk), (∀ j, i ≤ j → j < i + l.length → E j = E' j) → foldE E i l s = foldE E' i l s
  | [], _, _, _ => rfl
  | (o, e) :: l, i, s, h => by
    simp only [foldE]
    rw [h i (Nat.le_refl _) (by simp), foldE_ext l (i + 1) _ (fun j h1 h2 => h j (by omega) (by simp; omega))]

/-- One more operation done. -/
theorem foldE_with (E : Nat → Bool) {o : Oper} {e : Ent} {k : Nat} : ∀ (l : List (Oper × Ent)) (i : Nat) (s : Env × List Blk), i ≤ k → l[k - i]? = some (o, e) → E k = false →
    (∀ (j : Nat) o' e', l[j]? = some (o', e') → k < i + j → E (i + j) = true → Free o o' e e') → foldE (with1 E k) i l s = act o e (foldE E i l s)
  | [], _, _, _, h, _, _ => by simp at h
  | (o', e') :: l, i, s, hik, hk, hE, hf => by
    simp only [foldE]
    by_cases hi : i = k
    · subst hi
      simp at hk
      obtain ⟨rfl, rfl⟩ := hk
      rw [if_pos (by simp [with1]), if_neg (by simp [hE])]
      rw [foldE_ext (E' := E) l (i + 1) _ (fun j h1 h2 => by simp [with1]; omega)]
      exact foldE_act E l (i + 1) s (fun j o2 e2 hj hE' => hf (j + 1) o2 e2 (by simpa using hj) (by omega) (by rw [Nat.add_assoc, Nat.add_comm 1 j] at hE'; exact hE'))
    · have e1 : with1 E k i = E i := by simp [with1, hi]
      rw [e1]
      exact foldE_with E l (i + 1) _ (by omega) (by rw [← hk]; have : k - i = (k - (i + 1)) + 1 := by omega
                                                    rw [this]; simp) hE (fun j o2 e2 hj hlt hE' => hf (j + 1) o2 e2 (by simpa using hj) (by omega) (by rw [Nat.add_assoc, Nat.add_comm 1 j] at hE'; exact hE'))

/-- A slot depends on those alone that write it. -/
theorem foldE_slot {E E' : Nat → Bool} (t : Nat) : ∀ (l : List (Oper × Ent)) (i : Nat) (s s' : Env × List Blk), s.1 t = s'.1 t → (∀ (j : Nat) o e, l[j]? = some (o, e) → o.dst = some t → E (i + j) = E' (i + j)) →
    (foldE E i l s).1 t = (foldE E' i l s').1 t
  | [], _, _, _, h, _ => h
  | (o, e) :: l, i, s, s', h, hw => by
    simp only [foldE]
    refine foldE_slot t l (i + 1) _ _ ?_ (fun j o2 e2 hj hd => by have := hw (j + 1) o2 e2 (by simpa using hj) hd; rw [Nat.add_assoc, Nat.add_comm 1 j]; exact this)
    by_cases hd : o.dst = some t
    · have := hw 0 o e (by simp) hd
      simp only [Nat.add_zero] at this
      rw [this]
      by_cases hE : E' i = true
      · rw [if_pos hE, if_pos hE]; simp [act, putO, hd, Env.put_same]
      · rw [if_neg hE, if_neg hE]; exact h
    · have keep : ∀ (b : Bool) (u : Env × List Blk), (if b then act o e u else u).1 t = u.1 t := by
        intro b u
        cases b with
        | false => rfl
        | true =>
          simp only [if_true, act]
          cases hd2 : o.dst with
          | none => rfl
          | some d => simp only [putO]; exact Env.put_ne _ _ (fun e => hd (by rw [hd2, e]))
      rw [keep, keep]; exact h

/-- A block depends on those alone that write it. -/
theorem foldE_blk {E E' : Nat → Bool} (n : Nat) : ∀ (l : List (Oper × Ent)) (i : Nat) (s s' : Env × List Blk), s.2[n]? = s'.2[n]? → s.2.length = s'.2.length → (∀ (j : Nat) o e, l[j]? = some (o, e) → wr e n → E (i + j) = E' (i + j)) →
    (foldE E i l s).2[n]? = (foldE E' i l s').2[n]?
  | [], _, _, _, h, _, _ => h
  | (o, e) :: l, i, s, s', h, hl, hw => by
    simp only [foldE]
    have len : ∀ (b : Bool) (u : Env × List Blk), (if b then act o e u else u).2.length = u.2.length := by
      intro b u; cases b <;> simp [act, app_length]
    refine foldE_blk n l (i + 1) _ _ ?_ (by rw [len, len]; exact hl) (fun j o2 e2 hj hd => by have := hw (j + 1) o2 e2 (by simpa using hj) hd; rw [Nat.add_assoc, Nat.add_comm 1 j]; exact this)
    by_cases hd : wr e n
    · have := hw 0 o e (by simp) hd
      simp only [Nat.add_zero] at this
      rw [this]
      by_cases hE : E' i = true
      · rw [if_pos hE, if_pos hE]
        simp only [act]
        have key : ∀ (δ : List (Nat × Blk)) (A B : List Blk), A[n]? = B[n]? → A.length = B.length → (app δ A)[n]? = (app δ B)[n]? := by
          intro δ
          induction δ with
          | nil => intro A B h _; exact h
          | cons p δ ih =>
            intro A B h hl
            obtain ⟨m, b⟩ := p
            simp only [app]
            refine ih _ _ ?_ (by simp [hl])
            by_cases e : m = n
            · subst e; simp [List.getElem?_set, hl]
            · rw [List.getElem?_set_ne e, List.getElem?_set_ne e]; exact h
        exact key _ _ _ h hl
      · rw [if_neg hE, if_neg hE]; exact h
    · have keep : ∀ (b : Bool) (u : Env × List Blk), (if b then act o e u else u).2[n]? = u.2[n]? := by
        intro b u
        cases b with
        | false => rfl
        | true =>
          simp only [if_true, act]
          exact app_other _ _ _ (fun p hp e => hd ⟨p.2, by rw [← e]; exact hp⟩)
      rw [keep, keep]; exact h

theorem foldE_len (E : Nat → Bool) : ∀ (l : List (Oper × Ent)) (i : Nat) (s : Env × List Blk), (foldE E i l s).2.length = s.2.length
  | [], _, _ => rfl
  | (o, e) :: l, i, s => by
    simp only [foldE]
    rw [foldE_len E l]
    split <;> simp [act, app_length]

theorem foldE_none : ∀ (l : List (Oper × Ent)) (i : Nat) (s : Env × List Blk), foldE (fun _ => false) i l s = s
  | [], _, _ => rfl
  | (o, e) :: l, i, s => by simp only [foldE]; exact foldE_none l (i + 1) s

/-- What an operation comes to in the text's own order. -/
def StepAt (c : Ctx) (ops : List Oper) (base : Nat) (i : Nat) (o : Oper) (e : Ent) (s : Env × List Blk) : Prop :=
  match o.guard with
  | none => StepD c o (evalA c s.1) s.2 (base + i) e.x e.δ e.R
  | some (j, want) => ∃ t, (ops[j]?).bind (·.dst) = some t ∧ ((∃ b, s.1 t = some (.d (.bool b)) ∧
    if b = want then StepD c o (evalA c s.1) s.2 (base + i) e.x e.δ e.R else e.x = some (.tup []) ∧ e.δ = [] ∧ e.R = []) ∨
    (s.1 t = some (.tup []) ∧ e.x = some (.tup []) ∧ e.δ = [] ∧ e.R = []))

def boundO (N : Nat) (d : Option Nat) : Bool :=
  match d with
  | none => true
  | some d => Nat.blt d N

def SeqOk (c : Ctx) (N : Nat) (ops : List Oper) (base : Nat) : Nat → List (Oper × Ent) → Env × List Blk → Prop
  | _, [], _ => True
  | i, (o, e) :: l, s => StepAt c ops base i o e s ∧ boundO N o.dst = true ∧ SeqOk c N ops base (i + 1) l (act o e s)

theorem SeqOk.get {c N ops base} : ∀ {l : List (Oper × Ent)} {i : Nat} {s : Env × List Blk}, SeqOk c N ops base i l s → ∀ (j : Nat) o e, l[j]? = some (o, e) →
    StepAt c ops base (i + j) o e (foldE (fun k => decide (k < i + j)) i l s) ∧ boundO N o.dst = true
  | [], _, _, _, j, o, e, h => by simp at h
  | (o', e') :: l, i, s, h, j, o, e, hj => by
    obtain ⟨h1, h2, h3⟩ := h
    cases j with
    | zero =>
      simp at hj
      obtain ⟨rfl, rfl⟩ := hj
      simp only [Nat.add_zero, foldE, Nat.lt_irrefl, decide_false, Bool.false_eq_true, if_false]
      rw [foldE_ext (E' := fun _ => false) l (i + 1) s (fun k hk _ => by simp; omega), foldE_none]
      exact ⟨h1, h2⟩
    | succ j =>
      have := SeqOk.get h3 j o e (by simpa using hj)
      have e1 : i + 1 + j = i + (j + 1) := by omega
      rw [e1] at this
      simp only [foldE]
      rw [if_pos (by simp)]
      exact this

/-- The operations that stand ahead of one by its edges. -/
def predsOf (o : Oper) : List Nat := (o.after.toList.filter fun e => Region.binds .any e).map (·.on)

def addAll (acc : List Nat) : List Nat → List Nat
  | [] => acc
  | n :: l => match acc.any (Nat.beq n) with
    | true => addAll acc l
    | false => addAll (n :: acc) l

def clos (acc : List (List Nat)) : List Nat → List Nat → List Nat
  | [], s => s
  | p :: l, s => clos acc l (addAll (addAll s [p]) (acc.getD p []))

def allClos : List Oper → List (List Nat) → List (List Nat)
  | [], acc => acc
  | o :: l, acc => allClos l (acc ++ [clos acc (predsOf o) []])

/-- Done with an operation, done with all ahead of it. -/
def Down (ops : List Oper) (E : Nat → Bool) : Prop := ∀ (j : Nat) o, ops[j]? = some o → E j = true → ∀ p ∈ predsOf o, E p = true

theorem mem_addAll {x : Nat} : ∀ {l acc : List Nat}, x ∈ addAll acc l → x ∈ acc ∨ x ∈ l
  | [], _, h => .inl h
  | n :: l, acc, h => by
    simp only [addAll] at h
    split at h
    · rcases mem_addAll h with h | h
      · exact .inl h
      · exact .inr (by simp [h])
    · rcases mem_addAll h with h | h
      · rcases List.mem_cons.1 h with rfl | h
        · exact .inr (by simp)
        · exact .inl h
      · exact .inr (by simp [h])

theorem clos_down {E : Nat → Bool} {acc : List (List Nat)} (hacc : ∀ (p : Nat), E p = true → ∀ x ∈ acc.getD p [], E x = true) : ∀ {l s : List Nat}, (∀ x ∈ s, E x = true) → (∀ p ∈ l, E p = true) → ∀ x ∈ clos acc l s, E x = true
  | [], _, hs, _ => hs
  | p :: l, s, hs, hl => by
    simp only [clos]
    refine clos_down hacc (fun x hx => ?_) (fun q hq => hl q (by simp [hq]))
    rcases mem_addAll hx with h | h
    · rcases mem_addAll h with h | h
      · exact hs x h
      · simp at h; subst h; exact hl x (by simp)
    · exact hacc p (hl p (by simp)) x h

theorem allClos_down {ops : List Oper} {E : Nat → Bool} (hd : Down ops E) : ∀ (l : List Oper) (acc : List (List Nat)), (∀ (j : Nat) o, l[j]? = some o → ops[acc.length + j]? = some o) →
    (∀ (p : Nat), E p = true → ∀ x ∈ acc.getD p [], E x = true) → ∀ (p : Nat), E p = true → ∀ x ∈ (allClos l acc).getD p [], E x = true
  | [], acc, _, h => h
  | o :: l, acc, hl, h => by
    simp only [allClos]
    refine allClos_down hd l _ (fun j o' hj => by have := hl (j + 1) o' (by simpa using hj); rw [List.length_append, List.length_singleton]; rw [Nat.add_assoc, Nat.add_comm 1 j]; exact this) (fun p hp x hx => ?_)
    by_cases h1 : p < acc.length
    · rw [List.getD_eq_getElem?_getD, List.getElem?_append_left h1, ← List.getD_eq_getElem?_getD] at hx
      exact h p hp x hx
    · by_cases h2 : p = acc.length
      · subst h2
        simp [List.getD_eq_getElem?_getD] at hx
        exact clos_down h (by simp) (hd acc.length o (by simpa using hl 0 o (by simp)) hp) x hx
      · rw [List.getD_eq_getElem?_getD, List.getElem?_eq_none (by simp; omega)] at hx
        simp at hx

def memB (n : Nat) (l : List Nat) : Bool := l.any (Nat.beq n)
theorem memB_false {n : Nat} {l : List Nat} (h : memB n l = false) : n ∉ l := fun hm => by
  have : memB n l = true := List.any_eq_true.2 ⟨n, hm, Nat.beq_refl n⟩
  rw [this] at h; cases h
theorem memB_true {n : Nat} {l : List Nat} (h : memB n l = true) : n ∈ l := by
  obtain ⟨x, h1, h2⟩ := List.any_eq_true.1 h
  rw [beq_true h2]; exact h1

def apartL (l m : List Nat) : Bool := l.all fun n => !memB n m
theorem apartL_spec {l m : List Nat} (h : apartL l m = true) : ∀ n ∈ l, n ∉ m := fun n hn => by
  have := List.all_eq_true.1 h n hn
  simp at this
  exact memB_false this

def dstL (o : Oper) : List Nat := match o.dst with | some d => [d] | none => []

/-- Two operations of which the edges do not tell which is first. -/
def indepB (ops : List Oper) (o o' : Oper) (e e' : Ent) : Bool :=
  apartL (dstL o) (usesOf ops o' ++ dstL o') && apartL (dstL o') (usesOf ops o) &&
  apartL (e.δ.map (·.1)) (e'.R ++ e'.δ.map (·.1)) && apartL (e'.δ.map (·.1)) e.R

def pairsFrom (ops : List Oper) (i : Nat) (o : Oper) (e : Ent) (base : Nat) : Nat → List (Oper × Ent) → List (List Nat) → Bool
  | _, [], _ => true
  | j, (o', e') :: l, cl => (memB i (cl.getD j []) || indepB ops o o' e e') && !memB (base + j) (e.δ.map (·.1)) && pairsFrom ops i o e base (j + 1) l cl

def pairsOk (ops : List Oper) (base : Nat) (cl : List (List Nat)) : Nat → List (Oper × Ent) → Bool
  | _, [] => true
  | i, (o, e) :: l => (predsOf o).all (fun p => Nat.blt p i) && pairsFrom ops i o e base (i + 1) l cl && pairsOk ops base cl (i + 1) l

theorem pairsFrom_get {ops i o e base cl} : ∀ {l : List (Oper × Ent)} {j : Nat}, pairsFrom ops i o e base j l cl = true → ∀ (m : Nat) o' e', l[m]? = some (o', e') →
    (i ∈ cl.getD (j + m) [] ∨ indepB ops o o' e e' = true) ∧ base + (j + m) ∉ e.δ.map (·.1)
  | [], _, _, m, o', e', h => by simp at h
  | (o2, e2) :: l, j, hb, m, o', e', h => by
    simp only [pairsFrom, Bool.and_eq_true, Bool.or_eq_true, Bool.not_eq_true'] at hb
    cases m with
    | zero =>
      simp at h
      obtain ⟨rfl, rfl⟩ := h
      exact ⟨hb.1.1.imp memB_true id, memB_false hb.1.2⟩
    | succ m =>
      have := pairsFrom_get hb.2 m o' e' (by simpa using h)
      have e1 : j + 1 + m = j + (m + 1) := by omega
      rw [e1] at this
      exact this

theorem pairsOk_get {ops base cl} : ∀ {l : List (Oper × Ent)} {i : Nat}, pairsOk ops base cl i l = true → ∀ (a b : Nat) o e o' e', l[a]? = some (o, e) → l[b]? = some (o', e') → a < b →
    (i + a ∈ cl.getD (i + b) [] ∨ indepB ops o o' e e' = true) ∧ base + (i + b) ∉ e.δ.map (·.1)
  | [], _, _, a, b, o, e, o', e', h, _, _ => by simp at h
  | (o2, e2) :: l, i, hb, a, b, o, e, o', e', ha, hb', hab => by
    simp only [pairsOk, Bool.and_eq_true] at hb
    cases b with
    | zero => omega
    | succ b =>
      cases a with
      | zero =>
        simp at ha
        obtain ⟨rfl, rfl⟩ := ha
        have := pairsFrom_get hb.1.2 b o' e' (by simpa using hb')
        have e1 : i + 1 + b = i + (b + 1) := by omega
        rw [e1] at this
        simpa using this
      | succ a =>
        have := pairsOk_get hb.2 a b o e o' e' (by simpa using ha) (by simpa using hb') (by omega)
        have e1 : i + 1 + a = i + (a + 1) := by omega
        have e2 : i + 1 + b = i + (b + 1) := by omega
        rw [e1, e2] at this
        exact this

theorem pairsOk_preds {ops base cl} : ∀ {l : List (Oper × Ent)} {i : Nat}, pairsOk ops base cl i l = true → ∀ (a : Nat) o e, l[a]? = some (o, e) → ∀ p ∈ predsOf o, p < i + a
  | [], _, _, a, o, e, h => by simp at h
  | (o2, e2) :: l, i, hb, a, o, e, ha => by
    simp only [pairsOk, Bool.and_eq_true] at hb
    cases a with
    | zero =>
      simp at ha
      obtain ⟨rfl, rfl⟩ := ha
      intro p hp
      exact Nat.le_of_ble_eq_true (List.all_eq_true.1 hb.1.1 p hp)
    | succ a =>
      have := pairsOk_preds hb.2 a o e (by simpa using ha)
      intro p hp
      have := this p hp
      omega

/-- The operation i stands, in whatever order, as it stands in the text's. -/
theorem stepAt_any {c : Ctx} {N base : Nat} {L : List (Oper × Ent)} {s : Env × List Blk} {E : Nat → Bool} (hseq : SeqOk c N (L.map (·.1)) base 0 L s) (hp : pairsOk (L.map (·.1)) base (allClos (L.map (·.1)) []) 0 L = true)
    (hd : Down (L.map (·.1)) E) {i : Nat} {o : Oper} {e : Ent} (hi : L[i]? = some (o, e)) (hE : E i = false) (hpre : ∀ p ∈ predsOf o, E p = true) :
    StepAt c (L.map (·.1)) base i o e (foldE E 0 L s) ∧ boundO N o.dst = true ∧ foldE (with1 E i) 0 L s = act o e (foldE E 0 L s) ∧ (makesB o = true → base + i ∈ e.R → (foldE E 0 L s).2[base + i]? = s.2[base + i]?) := by
  have cl : ∀ (p : Nat), E p = true → ∀ x ∈ (allClos (L.map (·.1)) []).getD p [], E x = true := allClos_down hd _ [] (fun j o hj => by simpa using hj) (by simp)
  have cli : ∀ x ∈ (allClos (L.map (·.1)) []).getD i [], E x = true := by
    have hd' : Down (L.map (·.1)) (with1 E i) := by
      intro j o' hj hj' p hp'
      by_cases e1 : j = i
      · subst e1
        have : o' = o := by rw [List.getElem?_map, hi] at hj; simpa using hj.symm
        subst this
        have := hpre p hp'
        simp [with1, this]
      · simp only [with1, if_neg e1] at hj'
        have := hd j o' hj hj' p hp'
        simp [with1, this]
    intro x hx
    have h1 := allClos_down hd' _ [] (fun j o hj => by simpa using hj) (by simp) i (by simp [with1]) x hx
    by_cases e1 : x = i
    · -- an operation is not ahead of itself
      exfalso
      -- the set of all up to i, without i as a member of its own closure
      have h4 : ∀ x ∈ (allClos (L.map (·.1)) []).getD i [], decide (x < i) = true := by
        have hlen : ∀ (l : List Oper) (acc : List (List Nat)), (∀ (j : Nat) o', l[j]? = some o' → (L.map (·.1))[acc.length + j]? = some o') → (∀ q, q < acc.length → ∀ x ∈ acc.getD q [], x < q) →
            ∀ q, ∀ x ∈ (allClos l acc).getD q [], x < q := by
          intro l
          induction l with
          | nil =>
            intro acc _ ha q x hx
            simp only [allClos] at hx
            by_cases hq : q < acc.length
            · exact ha q hq x hx
            · rw [List.getD_eq_getElem?_getD, List.getElem?_eq_none (by omega)] at hx; simp at hx
          | cons o' l ih =>
            intro acc hl ha
            simp only [allClos]
            refine ih _ (fun j o2 hj => by have := hl (j + 1) o2 (by simpa using hj); rw [List.length_append, List.length_singleton, Nat.add_assoc, Nat.add_comm 1 j]; exact this) ?_
            intro q hq x hx
            rw [List.length_append, List.length_singleton] at hq
            by_cases h1 : q < acc.length
            · rw [List.getD_eq_getElem?_getD, List.getElem?_append_left h1, ← List.getD_eq_getElem?_getD] at hx
              exact ha q h1 x hx
            · have hq2 : q = acc.length := by omega
              subst hq2
              simp [List.getD_eq_getElem?_getD] at hx
              have hop := hl 0 o' (by simp)
              obtain ⟨le, hle, hle2⟩ : ∃ le, L[acc.length]? = some le ∧ le.1 = o' := by rw [List.getElem?_map] at hop; simpa using hop
              have := clos_down (E := fun k => decide (k < acc.length)) (acc := acc) (l := predsOf o') (s := []) (fun p hp x hx => by
                simp only [decide_eq_true_eq] at hp ⊢
                have := ha p hp x hx; omega) (by simp) (fun p hp' => by
                have := pairsOk_preds hp acc.length le.1 le.2 hle p (by rw [hle2]; exact hp')
                simpa using this) x hx
              simpa using this
        intro x hx
        simpa using hlen _ [] (fun j o hj => by simpa using hj) (by simp) i x hx
      have := h4 x hx
      simp at this
      omega
    · simpa [with1, e1] using h1
  obtain ⟨h1, h2⟩ := hseq.get i o e hi
  simp only [Nat.zero_add] at h1
  -- whoever is not told apart by the edges touches nothing of it
  have before : ∀ (j : Nat) o' e', L[j]? = some (o', e') → j < i → E j = false → indepB (L.map (·.1)) o' o e' e = true := by
    intro j o' e' hj hji hEj
    have := (pairsOk_get hp j i o' e' o e hj hi hji).1
    simp only [Nat.zero_add] at this
    rcases this with h | h
    · have := cli j h; rw [hEj] at this; cases this
    · exact h
  have after : ∀ (j : Nat) o' e', L[j]? = some (o', e') → i < j → E j = true → indepB (L.map (·.1)) o o' e e' = true := by
    intro j o' e' hj hji hEj
    have := (pairsOk_get hp i j o e o' e' hi hj hji).1
    simp only [Nat.zero_add] at this
    rcases this with h | h
    · have := cl j hEj i h; rw [hE] at this; cases this
    · exact h
  have slot : ∀ t ∈ usesOf (L.map (·.1)) o, (foldE E 0 L s).1 t = (foldE (fun k => decide (k < i)) 0 L s).1 t := by
    intro t ht
    refine foldE_slot t L 0 s s rfl (fun j o' e' hj hdst => ?_)
    simp only [Nat.zero_add]
    have hdl : t ∈ dstL o' := by simp [dstL, hdst]
    rcases Nat.lt_trichotomy j i with h | h | h
    · rw [decide_eq_true h]
      cases hEj : E j with
      | true => rfl
      | false =>
        have hb := before j o' e' hj h hEj
        simp only [indepB, Bool.and_eq_true] at hb
        exact absurd (List.mem_append.2 (.inl ht)) (apartL_spec hb.1.1.1 t hdl)
    · subst h; rw [hE]; simp
    · rw [decide_eq_false (by omega)]
      cases hEj : E j with
      | false => rfl
      | true =>
        have hb := after j o' e' hj h hEj
        simp only [indepB, Bool.and_eq_true] at hb
        exact absurd ht (apartL_spec hb.1.1.2 t hdl)
  have blk : ∀ n ∈ e.R, (foldE E 0 L s).2[n]? = (foldE (fun k => decide (k < i)) 0 L s).2[n]? := by
    intro n hn
    refine foldE_blk n L 0 s s rfl rfl (fun j o' e' hj hw => ?_)
    simp only [Nat.zero_add]
    have hwl : n ∈ e'.δ.map (·.1) := by obtain ⟨b, hb⟩ := hw; exact List.mem_map.2 ⟨(n, b), hb, rfl⟩
    rcases Nat.lt_trichotomy j i with h | h | h
    · rw [decide_eq_true h]
      cases hEj : E j with
      | true => rfl
      | false =>
        have hb := before j o' e' hj h hEj
        simp only [indepB, Bool.and_eq_true] at hb
        exact absurd (List.mem_append.2 (.inl hn)) (apartL_spec hb.1.2 n hwl)
    · subst h; rw [hE]; simp
    · rw [decide_eq_false (by omega)]
      cases hEj : E j with
      | false => rfl
      | true =>
        have hb := after j o' e' hj h hEj
        simp only [indepB, Bool.and_eq_true] at hb
        exact absurd hn (apartL_spec hb.2 n hwl)
  have hρ : ∀ y ∈ o.op.operands.toList, evalA c (foldE (fun k => decide (k < i)) 0 L s).1 y = evalA c (foldE E 0 L s).1 y :=
    evalA_congr fun t ht => (slot t (List.mem_append.2 (.inl ht))).symm
  refine ⟨?_, h2, foldE_with E L 0 s (Nat.zero_le _) (by simpa using hi) hE (fun j o' e' hj hlt hEj => ?_), fun _ hR => ?_⟩
  · unfold StepAt at h1 ⊢
    cases hg : o.guard with
    | none => rw [hg] at h1; simp only at h1 ⊢; exact h1.congr hρ (fun n hn => (blk n hn).symm)
    | some jw =>
      obtain ⟨j, want⟩ := jw
      rw [hg] at h1
      simp only at h1 ⊢
      obtain ⟨t, e1, e2⟩ := h1
      have es : (foldE E 0 L s).1 t = (foldE (fun k => decide (k < i)) 0 L s).1 t := slot t (List.mem_append.2 (.inr (by rw [hg]; simp only; rw [e1]; simp)))
      refine ⟨t, e1, ?_⟩
      rcases e2 with ⟨b, e2, e3⟩ | ⟨e2, e3⟩
      · refine .inl ⟨b, by rw [es]; exact e2, ?_⟩
        split
        · rename_i hb; rw [if_pos hb] at e3; exact e3.congr hρ (fun n hn => (blk n hn).symm)
        · rename_i hb; rw [if_neg hb] at e3; exact e3
      · exact .inr ⟨by rw [es]; exact e2, e3⟩
  · rw [Nat.zero_add] at hlt hEj
    have hb := after j o' e' hj hlt hEj
    simp only [indepB, Bool.and_eq_true] at hb
    refine ⟨fun d hdd hd' => ?_, fun n hw hw' => ?_⟩
    · exact apartL_spec hb.1.1.1 d (by simp [dstL, hdd]) (List.mem_append.2 (.inr (by simp [dstL, hd'])))
    · obtain ⟨b1, hb1⟩ := hw
      obtain ⟨b2, hb2⟩ := hw'
      exact apartL_spec hb.1.2 n (List.mem_map.2 ⟨(n, b1), hb1, rfl⟩) (List.mem_append.2 (.inr (List.mem_map.2 ⟨(n, b2), hb2, rfl⟩)))
  · -- nobody has written the place that is kept for it
    rw [blk _ hR]
    have := foldE_blk (E := fun k => decide (k < i)) (E' := fun _ => false) (base + i) L 0 s s rfl rfl (fun j o' e' hj hw => ?_)
    · rw [this, foldE_none]
    · simp only [Nat.zero_add, decide_eq_false_iff_not, Nat.not_lt]
      rcases Nat.lt_or_ge j i with h | h
      · exfalso
        have := (pairsOk_get hp j i o' e' o e hj hi h).2
        simp only [Nat.zero_add] at this
        obtain ⟨b, hb⟩ := hw
        exact this (List.mem_map.2 ⟨(_, b), hb, rfl⟩)
      · exact h

/-- How many are not yet done. -/
def undone (n : Nat) (listed : Array Bool) : Nat := ((List.range n).filter fun i => !listed.getD i true).length

theorem undone_lt {n i : Nat} {listed : Array Bool} (hi : listed.getD i true = false) (hn : i < n) : undone n (listed.setIfInBounds i true) < undone n listed := by
  have hlt : i < listed.size := by
    rcases Nat.lt_or_ge i listed.size with h | h
    · exact h
    · simp [Array.getD, Nat.not_lt.2 h] at hi
  have gen : ∀ l : List Nat, i ∈ l → (l.filter fun k => !(listed.setIfInBounds i true).getD k true).length < (l.filter fun k => !listed.getD k true).length := by
    intro l
    have le : ∀ l : List Nat, (l.filter fun k => !(listed.setIfInBounds i true).getD k true).length ≤ (l.filter fun k => !listed.getD k true).length := by
      intro l
      induction l with
      | nil => simp
      | cons k l ih =>
        by_cases hk : k = i
        · subst hk
          have e1 : (listed.setIfInBounds k true).getD k true = true := by simp [hlt]
          simp only [List.filter_cons, e1, hi, Bool.not_true, Bool.not_false, if_true, Bool.false_eq_true, if_false, List.length_cons]
          omega
        · have e1 : (listed.setIfInBounds i true).getD k true = listed.getD k true := getD_set_ne true (Ne.symm hk)
          simp only [List.filter_cons, e1]
          split
          · simp only [List.length_cons]; omega
          · exact ih
    induction l with
    | nil => intro h; simp at h
    | cons k l ih =>
      intro hm
      by_cases hk : k = i
      · subst hk
        have e1 : (listed.setIfInBounds k true).getD k true = true := by simp [hlt]
        simp only [List.filter_cons, e1, hi, Bool.not_true, Bool.not_false, if_true, Bool.false_eq_true, if_false, List.length_cons]
        have := le l
        omega
      · have e1 : (listed.setIfInBounds i true).getD k true = listed.getD k true := getD_set_ne true (Ne.symm hk)
        have hm' : i ∈ l := by
          rcases List.mem_cons.1 hm with h | h
          · exact absurd h.symm hk
          · exact h
        simp only [List.filter_cons, e1]
        have := ih hm'
        split
        · simp only [List.length_cons]; omega
        · exact this
  exact gen (List.range n) (by simpa using hn)

theorem undone_zero {n : Nat} {listed : Array Bool} (h : undone n listed = 0) {i : Nat} (hi : i < n) : listed.getD i true = true := by
  have : ((List.range n).filter fun i => !listed.getD i true) = [] := List.eq_nil_of_length_eq_zero h
  rw [List.filter_eq_nil_iff] at this
  have := this i (by simpa using hi)
  simpa using this

theorem StepD.makes {c : Ctx} {o : Oper} {ρ : Operand → Option AV} {S : List Blk} {tgt : Nat} {x δ R} (h : StepD c o ρ S tgt x δ R) (hm : makesB o = true) : δ ≠ [] := by
  intro h0
  cases h with
  | quiet hq =>
    unfold makesB at hm
    split at hm
    · rename_i ho; unfold WOpQ at hq; rw [ho] at hq; exact hq.elim
    · rename_i ho; unfold WOpQ at hq; rw [ho] at hq; exact hq.elim
    · cases hm
  | load ho => simp [makesB, ho] at hm
  | loadC ho => simp [makesB, ho] at hm
  | store ho => simp at h0
  | alloc => simp at h0
  | box => simp at h0
  | call ho => simp [makesB, ho] at hm

/-- All orders of a statement. -/
theorem anyOrder {B : Base} {N : Nat} (hc : B.c.ok) {L : List (Oper × Ent)} {env0 : Env} {S0 : List Blk} {base : Nat} (hseq : SeqOk B.c N (L.map (·.1)) base 0 L (env0, S0))
    (hp : pairsOk (L.map (·.1)) base (allClos (L.map (·.1)) []) 0 L = true) (hk : B.k0 ≤ base) (hdead : ∀ (i : Nat) o e, L[i]? = some (o, e) → makesB o = true → S0[base + i]? = some .dead) (hRm : ∀ (i : Nat) o e, L[i]? = some (o, e) → makesB o = true → e.δ ≠ [] → base + i ∈ e.R)
    (Q : Exit → Act → World → Prop) (hQ : ∀ a w, Here B N (foldE (fun _ => true) 0 L (env0, S0)).1 (foldE (fun _ => true) 0 L (env0, S0)).2 a w → Q .normal a w) :
    ∀ (fuel : Nat) (listed : Array Bool) (a : Act) (w : World) (μ : Nat → Value) (G : Nat → Nat → Prop), listed.size = L.length → undone L.length listed ≤ fuel → Down (L.map (·.1)) (fun i => listed.getD i false) →
      At1 B N (foldE (fun i => listed.getD i false) 0 L (env0, S0)).1 (foldE (fun i => listed.getD i false) 0 L (env0, S0)).2 μ G a w → (∀ (i : Nat) o e, L[i]? = some (o, e) → makesB o = true → listed.getD i false = false → μ (base + i) = .nilFunc) →
      wpAny B.c.P .any (L.map (·.1)).toArray Q fuel listed a w := by
  have fin : ∀ (listed : Array Bool) (a : Act) (w : World) (μ : Nat → Value) (G : Nat → Nat → Prop), listed.size = L.length → Region.ready .any (L.map (·.1)).toArray listed = [] → 
      At1 B N (foldE (fun i => listed.getD i false) 0 L (env0, S0)).1 (foldE (fun i => listed.getD i false) 0 L (env0, S0)).2 μ G a w → Q .normal a w := by
    intro listed a w μ G hsz hr st
    have all : ∀ n, n < L.length → listed.getD n false = true := by
      intro n
      induction n using Nat.strongRecOn with
      | _ n ih =>
        intro hn
        cases hb : listed.getD n false with
        | true => rfl
        | false =>
          exfalso
          have : n ∈ Region.ready .any (L.map (·.1)).toArray listed := by
            rw [mem_ready]
            refine ⟨?_, (L[n]).1, by simp [hn], fun e he hb2 => ?_⟩
            · have hlt : n < listed.size := by omega
              simpa [Array.getD, hlt] using hb
            · have hpm : e.on ∈ predsOf (L[n]).1 := by
                simp only [predsOf, List.mem_map, List.mem_filter]
                exact ⟨e, ⟨by simpa using he, hb2⟩, rfl⟩
              have := pairsOk_preds hp n (L[n]).1 (L[n]).2 (by rw [List.getElem?_eq_getElem hn]) e.on hpm
              exact ih e.on (by omega) (by omega)
          rw [hr] at this
          cases this
    apply hQ
    have e : foldE (fun i => listed.getD i false) 0 L (env0, S0) = foldE (fun _ => true) 0 L (env0, S0) := foldE_ext L 0 _ (fun j _ hj => all j (by omega))
    rw [e] at st
    exact ⟨μ, G, st⟩
  intro fuel
  induction fuel with
  | zero =>
    intro listed a w μ G hsz hu hd st hv
    have hr : Region.ready .any (L.map (·.1)).toArray listed = [] := by
      cases h : Region.ready .any (L.map (·.1)).toArray listed with
      | nil => rfl
      | cons i r =>
        have hi : i ∈ Region.ready .any (L.map (·.1)).toArray listed := by rw [h]; simp
        rw [mem_ready] at hi
        obtain ⟨h1, o, h2, _⟩ := hi
        have hlt : i < L.length := by have := (Array.getElem?_eq_some_iff.1 h2).1; simpa using this
        have := undone_zero (Nat.le_zero.1 hu) hlt
        rw [h1] at this
        cases this
    exact ⟨hr, fin listed a w μ G hsz hr st⟩
  | succ fuel ih =>
    intro listed a w μ G hsz hu hd st hv
    refine ⟨fun hr => fin listed a w μ G hsz hr st, fun i hi => ?_⟩
    rw [mem_ready] at hi
    obtain ⟨h1, o, h2, h3⟩ := hi
    have hlt : i < L.length := by have := (Array.getElem?_eq_some_iff.1 h2).1; simpa using this
    have hlt' : i < listed.size := by omega
    have hEi : listed.getD i false = false := by simpa [Array.getD, hlt'] using h1
    obtain ⟨e, hLi⟩ : ∃ e, L[i]? = some (o, e) := by
      have : (L.map (·.1))[i]? = some o := by simpa using h2
      rw [List.getElem?_map] at this
      obtain ⟨le, hle1, hle2⟩ := Option.map_eq_some_iff.1 this
      exact ⟨le.2, by rw [hle1, ← hle2]⟩
    have hpre : ∀ p ∈ predsOf o, listed.getD p false = true := by
      intro p hp'
      simp only [predsOf, List.mem_map, List.mem_filter] at hp'
      obtain ⟨ed, ⟨he1, he2⟩, rfl⟩ := hp'
      exact h3 ed (by simpa using he1) he2
    obtain ⟨hstep, hbnd, hfold, hres⟩ := stepAt_any hseq hp hd hLi hEi hpre
    have hset : (fun j => (listed.setIfInBounds i true).getD j false) = with1 (fun j => listed.getD j false) i := by
      funext j
      by_cases hj : j = i
      · subst hj; simp [with1, hlt']
      · simp only [with1, if_neg hj]; exact getD_set_ne false (Ne.symm hj)
    have hd' : Down (L.map (·.1)) (fun j => (listed.setIfInBounds i true).getD j false) := by
      rw [hset]
      intro j o' hj hj' p hp'
      by_cases e1 : j = i
      · subst e1
        have : o' = o := by
          have : (L.map (·.1))[j]? = some o := by simpa using h2
          rw [this] at hj; simpa using hj.symm
        subst this
        have := hpre p hp'
        simp only [with1]; split; rfl; exact this
      · simp only [with1, if_neg e1] at hj'
        have := hd j o' hj hj' p hp'
        simp only [with1]; split; rfl; exact this
    have hu' : undone L.length (listed.setIfInBounds i true) ≤ fuel := by have := undone_lt h1 hlt; omega
    have go : ∀ (v : Value) (μ' : Nat → Value) (G' : Nat → Nat → Prop) (w' : World), At1 B N (act o e (foldE (fun j => listed.getD j false) 0 L (env0, S0))).1 (act o e (foldE (fun j => listed.getD j false) 0 L (env0, S0))).2 μ' G' (a.put o.dst v) w' →
        (∀ (j : Nat) o' e', L[j]? = some (o', e') → makesB o' = true → j ≠ i → listed.getD j false = false → μ' (base + j) = .nilFunc) →
        wpAny B.c.P .any (L.map (·.1)).toArray Q fuel (listed.setIfInBounds i true) (a.put o.dst v) w' := by
      intro v μ' G' w' st' hv'
      refine ih _ _ _ μ' G' (by simp [hsz]) hu' hd' ?_ (fun j o' e' hj hm' hj' => ?_)
      · rw [hset, hfold]; exact st'
      · by_cases e1 : j = i
        · subst e1; simp [hlt'] at hj'
        · rw [getD_set_ne false (Ne.symm e1)] at hj'; exact hv' j o' e' hj hm' e1 hj'
    have hflen : (foldE (fun j => listed.getD j false) 0 L (env0, S0)).2.length = S0.length := foldE_len _ _ _ _
    have dst_put : ∀ (x : Option AV) (v : Value) (S' : List Blk) (μ' : Nat → Value) (G' : Nat → Nat → Prop) (w' : World), x = e.x → S' = (act o e (foldE (fun j => listed.getD j false) 0 L (env0, S0))).2 → St B S' μ' G' w' → LaterD (foldE (fun j => listed.getD j false) 0 L (env0, S0)).2 μ G w S' μ' G' w' →
        (∀ y, x = some y → RA μ' S'.length w' G' y v) → At1 B N (act o e (foldE (fun j => listed.getD j false) 0 L (env0, S0))).1 S' μ' G' (a.put o.dst v) w' := by
      intro x v S' μ' G' w' hx hS st' lt hy
      subst hx
      refine ⟨st', ?_, by rw [Act.put_size]; exact st.n, by rw [Act.put_defers']; exact st.d⟩
      have henv : EnvOk μ' S'.length w' G' (foldE (fun j => listed.getD j false) 0 L (env0, S0)).1 a.tmps := fun t z hz => let ⟨u, u1, u2⟩ := st.env t z hz; ⟨u, u1, lt.ra u2⟩
      simp only [act, putO]
      cases hdst : o.dst with
      | none => exact henv
      | some d =>
        have hdn : d < a.tmps.size := by rw [st.n]; rw [hdst] at hbnd; exact Nat.le_of_ble_eq_true hbnd
        simp only [Act.put]
        cases hex : e.x with
        | none => exact henv.unset d v
        | some y => exact henv.put hdn (hy y hex)
    have skip : e.x = some (.tup []) → e.δ = [] → At1 B N (act o e (foldE (fun j => listed.getD j false) 0 L (env0, S0))).1 (act o e (foldE (fun j => listed.getD j false) 0 L (env0, S0))).2 μ G (a.put o.dst undef) w := by
      intro hx hδ
      have hS : (act o e (foldE (fun j => listed.getD j false) 0 L (env0, S0))).2 = (foldE (fun j => listed.getD j false) 0 L (env0, S0)).2 := by simp [act, hδ, app]
      refine dst_put (some (.tup [])) undef _ μ G w hx.symm rfl (by rw [hS]; exact st.st) (by rw [hS]; exact (Later.refl _ _ _ _).d) (fun y hy => by cases hy; exact ⟨[], rfl, .nil⟩)
    have run : StepD B.c o (evalA B.c (foldE (fun j => listed.getD j false) 0 L (env0, S0)).1) (foldE (fun j => listed.getD j false) 0 L (env0, S0)).2 (base + i) e.x e.δ e.R →
        o.wp B.c.P a w (wpAny B.c.P .any (L.map (·.1)).toArray Q fuel (listed.setIfInBounds i true)) Q := by
      intro hst
      refine hst.sound hc st (fun hm => ?_) _ Q (fun μ' G' v w' st' lt hμ hy => ?_)
      · have hne : e.δ ≠ [] := hst.makes hm
        exact ⟨by rw [hres hm (hRm i o e hLi hm hne)]; exact hdead i o e hLi hm, hv i o e hLi hm hEi, by omega⟩
      · refine go v μ' G' w' (dst_put e.x v _ μ' G' w' rfl rfl st' lt hy) (fun j o' e' hj hm' hne hj' => ?_)
        rw [hμ (base + j) ?_ (by omega)]
        · exact hv j o' e' hj hm' hj'
        · rw [hflen]
          have := hdead j o' e' hj hm'
          exact (List.getElem?_eq_some_iff.1 this).1
    unfold wpOp
    rw [h2]
    simp only
    unfold StepAt at hstep
    cases hg : o.guard with
    | none =>
      rw [hg] at hstep
      simp only at hstep
      rw [if_pos (by simp [Region.wanted, hg])]
      exact .inl (run hstep)
    | some jw =>
      obtain ⟨j, want⟩ := jw
      rw [hg] at hstep
      simp only at hstep
      obtain ⟨t, e1, e2⟩ := hstep
      rcases e2 with ⟨b, e2, e3⟩ | ⟨e2, e3⟩
      · obtain ⟨u, u1, u2⟩ := st.env t _ e2
        have hub := ra_bool u2
        subst hub
        have hy : yielded (L.map (·.1)).toArray a.tmps j = some b := by
          simp only [yielded, List.getElem?_toArray, e1, Option.bind_some, u1]
        have hwt : Region.wanted o (yielded (L.map (·.1)).toArray a.tmps) = (b == want) := by simp [Region.wanted, hg, hy]
        rw [hwt]
        by_cases hbw : b = want
        · rw [if_pos hbw] at e3
          rw [if_pos (by simp [hbw])]
          exact .inl (run e3)
        · rw [if_neg hbw] at e3
          rw [if_neg (by simpa using hbw)]
          exact go undef μ G w (skip e3.1 e3.2.1) (fun j' o' e' hj' hm' _ hj2 => hv j' o' e' hj' hm' hj2)
      · obtain ⟨u, u1, u2⟩ := st.env t _ e2
        obtain ⟨vs, rfl, hvs⟩ := u2
        cases hvs
        have hy : yielded (L.map (·.1)).toArray a.tmps j = none := by
          simp only [yielded, List.getElem?_toArray, e1, Option.bind_some, u1]
        rw [if_neg (by simp [Region.wanted, hg, hy])]
        exact go undef μ G w (skip e3.1 e3.2.1) (fun j' o' e' hj' hm' _ hj2 => hv j' o' e' hj' hm' hj2)

end Go.Ab
