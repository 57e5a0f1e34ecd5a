/-
  An own logic over the kit's 'Calls' (Ab3): stores, the state that holds at each point of a call, and how memory's steps keep it.
-/
import Derived.Test.YtboohfijacjhjaaDoorAb2
import Derived.Laws.CopyRow
namespace Go.Ab
open Go.RowKit

inductive TK where
  | bool
  | int (k : IntKind)
  | str
  | struct (fs : List (Nat × Nat × Bool))
  | arr (n e : Nat)
  | slice (e : Nat)
  | ptr (e : Nat)
  | iface (none : Bool)
  | func
  | other
  deriving Inhabited

def tkOf : TypeDesc → TK
  | .bool => .bool
  | .int k => .int k
  | .string => .str
  | .struct fs => .struct (fs.toList.map fun f => (f.offset, f.type, f.name == "_"))
  | .array n e => .arr n e
  | .slice e => .slice e
  | .pointer e => .ptr e
  | .interface ms => .iface ms.isEmpty
  | .func .. => .func
  | _ => .other

structure TI where
  k : TK
  size : Nat
  bytes : Nat
  zero : Option D
  eq : Bool
  cmp : Bool
  deriving Inhabited

def TK.agg : TK → Bool
  | .struct _ => true
  | .arr .. => true
  | _ => false

def descAgg : TypeDesc → Bool
  | .struct _ => true
  | .array _ _ => true
  | _ => false

theorem tkOf_agg (d : TypeDesc) : (tkOf d).agg = descAgg d := by cases d <;> rfl

structure Ctx where
  P : Program
  tt : Nat → Option TI
  glob : Nat → Option D

def TI.fits (P : Program) (t : Nat) (i : TI) : Prop :=
  (∃ d, P.underlying t = some d ∧ tkOf d = i.k) ∧ ∃ info, P.info? t = some info ∧ info.size = i.size ∧ info.bytes = i.bytes ∧
    ∀ z, i.zero = some z → ∃ v, info.zero = some v ∧ ∀ w G, VD w G z v

/-- What is said of a type beside its shape: its values can be compared. -/
def TI.flags (P : Program) (t : Nat) (i : TI) : Prop :=
  (i.eq = true → P.stoodInHeld t = false ∧ P.eqGuardType P.depth t = false) ∧ (i.cmp = true → ∃ info, P.info? t = some info ∧ info.comparable = true)

structure Ctx.ok (c : Ctx) : Prop where
  fits : ∀ t i, c.tt t = some i → i.fits c.P t
  flags : ∀ t i, c.tt t = some i → i.flags c.P t

instance {c : Ctx} : CoeFun c.ok (fun _ => ∀ t i, c.tt t = some i → i.fits c.P t) := ⟨Ctx.ok.fits⟩

def bid : Value → Option Nat
  | .pointer (some a) => some a.block
  | .slice (some a) _ _ => some a.block
  | _ => none

def Blk.fixed : Blk → Nat
  | .row _ sz xs => xs.length * sz
  | _ => 0

def BlkOk (μ : Nat → Value) (k : Nat) (w : World) (G : Nat → Nat → Prop) (v : Value) : Blk → Prop
  | .var x => ∃ b cs T l s, v = .pointer (some ⟨b, 0, none⟩) ∧ w.heap[b]? = some (.cells cs T (0, 0)) ∧ cs.toList = l ++ s ∧ CA μ k w G [x] l
  | .row e sz xs => ∃ cs, w.ownsRow 0 e sz v xs.length cs ∧ CL w G xs cs ∧ (∀ x ∈ xs, x.size = sz) ∧ ∀ n, bid v = some n → ∀ o, o < cs.length → G n o
  | .iter s pos => ∃ b, v = .pointer (some ⟨b, 0, none⟩) ∧ w.heap[b]? = some (.stringIter s pos)
  | .sealed x => VD w G x v
  | .dead => True

structure Base where
  c : Ctx
  k0 : Nat
  μ0 : Nat → Value
  G0 : Nat → Nat → Prop
  w0 : World
  L0 : Nat → Prop

def Base.X (B : Base) (n : Nat) : Prop := ∃ i, i < B.k0 ∧ B.L0 i ∧ bid (B.μ0 i) = some n

structure St (B : Base) (S : List Blk) (μ : Nat → Value) (G : Nat → Nat → Prop) (w : World) : Prop where
  blks : ∀ i b, S[i]? = some b → BlkOk μ S.length w G (μ i) b
  apart : ∀ i j b d, S[i]? = some b → S[j]? = some d → b.live = true → d.live = true → i ≠ j → ∀ n, bid (μ i) = some n → bid (μ j) ≠ some n
  free : ∀ i b n, S[i]? = some b → b.live = true → bid (μ i) = some n → ∀ o, b.fixed ≤ o → ¬ G n o
  gv : ∀ b o, G b o → b < w.heap.size
  k0 : B.k0 ≤ S.length
  keep : ∀ i, i < B.k0 → μ i = B.μ0 i
  g0 : ∀ b o, B.G0 b o → G b o
  gn : ∀ b o, G b o → B.G0 b o ∨ B.w0.heap.size ≤ b
  new : ∀ i b n, B.k0 ≤ i → S[i]? = some b → b.live = true → bid (μ i) = some n → B.w0.heap.size ≤ n
  os : w.os = B.w0.os
  tape : w.tape = B.w0.tape
  output : w.output = B.w0.output
  size : B.w0.heap.size ≤ w.heap.size
  fr : ∀ k, k < B.w0.heap.size → ¬ B.X k → w.heap[k]? = B.w0.heap[k]?
  lv : ∀ i b, i < B.k0 → S[i]? = some b → b.live = true → B.L0 i
  glob : ∀ g x, B.c.glob g = some x → VD w G (.cptr x) (.pointer (some ⟨g, 0, none⟩))
  gw : ∀ b o v, B.G0 b o → B.w0.cell? ⟨b, o, none⟩ = some v → w.cell? ⟨b, o, none⟩ = some v

theorem St.xx {B S μ G w} (st : St B S μ G w) {i : Nat} {b : Blk} {n : Nat} (h1 : i < B.k0) (h2 : S[i]? = some b) (h3 : b.live = true) (h4 : bid (μ i) = some n) : B.X n :=
  ⟨i, h1, st.lv i b h1 h2 h3, by rw [← st.keep i h1]; exact h4⟩

theorem cell?_heap {w w' : World} {b o : Nat} (h : w'.heap[b]? = w.heap[b]?) : w'.cell? ⟨b, o, none⟩ = w.cell? ⟨b, o, none⟩ := by simp [World.cell?, h]

theorem ownsRow_heap {w w' : World} {e sz v n xs} (h : w.ownsRow 0 e sz v n xs) (hw : ∀ b, bid v = some b → w'.heap[b]? = w.heap[b]?) : w'.ownsRow 0 e sz v n xs := by
  obtain ⟨h1, h2⟩ := h
  refine ⟨h1, ?_⟩
  rcases h2 with h2 | ⟨g, cap, cur, hv, hg, hh, r⟩
  · exact .inl h2
  · exact .inr ⟨g, cap, cur, hv, hg, by rw [hw g (by rw [hv]; rfl)]; exact hh, r⟩

theorem BlkOk.mono {μ μ' k k' w w' G G' v b} (h : BlkOk μ k w G v b) (hk : k ≤ k') (hμ : ∀ i, i < k → solid (μ i) → μ' i = μ i) (hG : ∀ b o, G b o → G' b o)
    (hw : ∀ b o v, G b o → w.cell? ⟨b, o, none⟩ = some v → w'.cell? ⟨b, o, none⟩ = some v)
    (hb : b.live = true → ∀ n, bid v = some n → w'.heap[n]? = w.heap[n]?) : BlkOk μ' k' w' G' v b := by
  cases b with
  | var x =>
    obtain ⟨b, cs, T, l, s, rfl, h1, h2, h3⟩ := h
    exact ⟨b, cs, T, l, s, rfl, by rw [hb rfl b rfl]; exact h1, h2, h3.mono hk hμ hG hw⟩
  | row e sz xs =>
    obtain ⟨cs, h1, h2, h3, h4⟩ := h
    exact ⟨cs, ownsRow_heap h1 (hb rfl), h2.mono hG hw, h3, fun n hn o ho => hG _ _ (h4 n hn o ho)⟩
  | iter s pos =>
    obtain ⟨b, rfl, h1⟩ := h
    exact ⟨b, rfl, by rw [hb rfl b rfl]; exact h1⟩
  | sealed x => exact VD.mono h hG hw
  | dead => trivial

/-- The heap has turned outside of what is known at most. -/
structure Next (w w' : World) (n : Option Nat) : Prop where
  os : w'.os = w.os
  tape : w'.tape = w.tape
  output : w'.output = w.output
  size : w.heap.size ≤ w'.heap.size
  heap : ∀ k, k < w.heap.size → n ≠ some k → w'.heap[k]? = w.heap[k]?

theorem Next.cells {w w' : World} {n : Option Nat} (h : Next w w' n) {G : Nat → Nat → Prop} (gv : ∀ b o, G b o → b < w.heap.size)
    (hn : ∀ k, n = some k → ∀ o v, G k o → w.cell? ⟨k, o, none⟩ = some v → w'.cell? ⟨k, o, none⟩ = some v) :
    ∀ b o v, G b o → w.cell? ⟨b, o, none⟩ = some v → w'.cell? ⟨b, o, none⟩ = some v := by
  intro b o v hg hv
  by_cases e : n = some b
  · exact hn b e o v hg hv
  · rw [cell?_heap (h.heap b (gv _ _ hg) e)]; exact hv

theorem BlkOk.bid_lt {μ k w G v b} (h : BlkOk μ k w G v b) (hl : b.live = true) : ∀ n, bid v = some n → n < w.heap.size := by
  intro n hn
  cases b with
  | var x =>
    obtain ⟨b, cs, T, l, s, rfl, h1, _⟩ := h
    simp only [bid, Option.some.injEq] at hn
    subst hn
    exact (Array.getElem?_eq_some_iff.1 h1).1
  | row e sz xs =>
    obtain ⟨cs, ⟨_, h1⟩, _⟩ := h
    rcases h1 with ⟨rfl, _⟩ | ⟨g, cap, cur, rfl, _, h1, _⟩
    · simp [bid] at hn
    · simp only [bid, Option.some.injEq] at hn
      subst hn
      exact (Array.getElem?_eq_some_iff.1 h1).1
  | iter s pos =>
    obtain ⟨b, rfl, h1⟩ := h
    simp only [bid, Option.some.injEq] at hn
    subst hn
    exact (Array.getElem?_eq_some_iff.1 h1).1
  | sealed | dead => simp [Blk.live] at hl

/-- Nothing but new blocks, and cells that nobody knows. -/
theorem St.quiet {B S μ G w w'} (st : St B S μ G w) (h : Next w w' none) : St B S μ G w' := by
  have hc := h.cells st.gv (fun k hk => by cases hk)
  exact {
    blks := fun i b hb => (st.blks i b hb).mono (Nat.le_refl _) (fun _ _ _ => rfl) (fun _ _ h => h) hc (fun hl n hn => h.heap n ((st.blks i b hb).bid_lt hl n hn) (by simp))
    apart := st.apart
    free := st.free
    gv := fun b o hg => Nat.lt_of_lt_of_le (st.gv b o hg) h.size
    k0 := st.k0
    keep := st.keep
    g0 := st.g0
    gn := st.gn
    new := st.new
    os := h.os.trans st.os
    tape := h.tape.trans st.tape
    output := h.output.trans st.output
    size := Nat.le_trans st.size h.size
    fr := fun k hk hx => (h.heap k (Nat.lt_of_lt_of_le hk st.size) (by simp)).trans (st.fr k hk hx)
    lv := st.lv
    glob := fun g x hg => (st.glob g x hg).mono (fun _ _ h => h) hc
    gw := fun b o v h1 h2 => hc b o v (st.g0 b o h1) (st.gw b o v h1 h2) }

def upd (μ : Nat → Value) (n : Nat) (v : Value) : Nat → Value := fun i => if i = n then v else μ i

/-- A name more, whose block lies in new memory (or nowhere). -/
theorem St.push {B S μ G w} (st : St B S μ G w) {w' : World} {G' : Nat → Nat → Prop} {v : Value} {b : Blk} (h : Next w w' none)
    (hG : ∀ b o, G b o → G' b o) (hN : ∀ b o, G' b o → G b o ∨ (w.heap.size ≤ b ∧ b < w'.heap.size))
    (hv : b.live = true → ∀ n, bid v = some n → w.heap.size ≤ n)
    (hf : b.live = true → ∀ n, bid v = some n → ∀ o, b.fixed ≤ o → ¬ G' n o)
    (hb : BlkOk (upd μ S.length v) (S.length + 1) w' G' v b) : St B (S ++ [b]) (upd μ S.length v) G' w' := by
  have hc := h.cells st.gv (fun k hk => by cases hk)
  have hμ : ∀ i, i < S.length → upd μ S.length v i = μ i := fun i hi => by simp [upd, Nat.ne_of_lt hi]
  have hn : upd μ S.length v S.length = v := by simp [upd]
  have old : ∀ i d, (S ++ [b])[i]? = some d → (i < S.length ∧ S[i]? = some d ∧ upd μ S.length v i = μ i) ∨ (i = S.length ∧ d = b ∧ upd μ S.length v i = v) := by
    intro i d hd
    by_cases hi : i < S.length
    · exact .inl ⟨hi, by rw [List.getElem?_append_left hi] at hd; exact hd, hμ i hi⟩
    · rw [List.getElem?_append_right (by omega)] at hd
      have : i - S.length = 0 := by
        rcases Nat.eq_zero_or_pos (i - S.length) with h | h
        · exact h
        · rw [List.getElem?_eq_none (by simp; omega)] at hd; cases hd
      rw [this] at hd
      have hi' : i = S.length := by omega
      exact .inr ⟨hi', by simpa using hd.symm, by rw [hi']; exact hn⟩
  exact {
    blks := by
      intro i d hd
      rw [List.length_append]
      rcases old i d hd with ⟨hi, hs, e⟩ | ⟨hi, rfl, e⟩
      · rw [e]
        exact (st.blks i d hs).mono (by simp) (fun i hi _ => hμ i hi) hG hc (fun hl n hn => h.heap n ((st.blks i d hs).bid_lt hl n hn) (by simp))
      · rw [e]; exact hb
    apart := by
      intro i j d f hd hf' hl hm hij n hn hn'
      rcases old i d hd with ⟨hi, hs, e⟩ | ⟨hi, rfl, e⟩ <;> rcases old j f hf' with ⟨hj, hs', e'⟩ | ⟨hj, rfl, e'⟩
      · rw [e] at hn; rw [e'] at hn'; exact st.apart i j d f hs hs' hl hm hij n hn hn'
      · rw [e] at hn; rw [e'] at hn'
        have := (st.blks i d hs).bid_lt hl n hn
        have := hv hm n hn'
        omega
      · rw [e] at hn; rw [e'] at hn'
        have := (st.blks j f hs').bid_lt hm n hn'
        have := hv hl n hn
        omega
      · omega
    free := by
      intro i d n hd hl hn o ho hg
      rcases old i d hd with ⟨hi, hs, e⟩ | ⟨hi, rfl, e⟩
      · rw [e] at hn
        rcases hN n o hg with h1 | h1
        · exact st.free i d n hs hl hn o ho h1
        · have := (st.blks i d hs).bid_lt hl n hn; omega
      · rw [e] at hn; exact hf hl n hn o ho hg
    gv := fun b o hg => by
      rcases hN b o hg with h1 | h1
      · exact Nat.lt_of_lt_of_le (st.gv b o h1) h.size
      · exact h1.2
    k0 := by have := st.k0; simp; omega
    keep := fun i hi => by rw [hμ i (by have := st.k0; omega)]; exact st.keep i hi
    g0 := fun b o hg => hG _ _ (st.g0 b o hg)
    gn := fun b o hg => by
      rcases hN b o hg with h1 | h1
      · exact st.gn b o h1
      · right; have := st.size; omega
    new := by
      intro i d n hi hd hl hn
      rcases old i d hd with ⟨hi', hs, e⟩ | ⟨hi', rfl, e⟩
      · rw [e] at hn; exact st.new i d n hi hs hl hn
      · rw [e] at hn; have := hv hl n hn; have := st.size; omega
    os := h.os.trans st.os
    tape := h.tape.trans st.tape
    output := h.output.trans st.output
    size := Nat.le_trans st.size h.size
    fr := fun k hk hx => (h.heap k (Nat.lt_of_lt_of_le hk st.size) (by simp)).trans (st.fr k hk hx)
    lv := by
      intro i d hi hd hl
      have hi' : i < S.length := by have := st.k0; omega
      rcases old i d hd with ⟨_, hs, _⟩ | ⟨hi'', _⟩
      · exact st.lv i d hi hs hl
      · omega
    glob := fun g x hg => (st.glob g x hg).mono hG hc
    gw := fun b o v h1 h2 => hc b o v (st.g0 b o h1) (st.gw b o v h1 h2) }

/-- A live block that has no fixed part is written. -/
theorem St.write {B S μ G w} (st : St B S μ G w) {w' : World} {n g : Nat} {b b' : Blk} (hn : S[n]? = some b) (hl : b.live = true) (hfx : b.fixed = 0) (hl' : b'.live = true) (hfx' : b'.fixed = 0)
    (hg : bid (μ n) = some g) (h : Next w w' (some g)) (hb : BlkOk μ S.length w' G (μ n) b') : St B (S.set n b') μ G w' := by
  have hlt : n < S.length := by
    rcases Nat.lt_or_ge n S.length with h | h
    · exact h
    · simp [List.getElem?_eq_none h] at hn
  have hfree : ∀ o, ¬ G g o := fun o => st.free n b g hn hl hg o (by omega)
  have hc := h.cells st.gv (fun k hk o v hG _ => by cases hk; exact absurd hG (hfree o))
  have old : ∀ i d, (S.set n b')[i]? = some d → (i ≠ n ∧ S[i]? = some d) ∨ (i = n ∧ d = b') := by
    intro i d hd
    by_cases e : i = n
    · subst e; rw [List.getElem?_set_self hlt] at hd; exact .inr ⟨rfl, by simpa using hd.symm⟩
    · rw [List.getElem?_set_ne (Ne.symm e)] at hd; exact .inl ⟨e, hd⟩
  exact {
    blks := by
      intro i d hd
      rw [List.length_set]
      rcases old i d hd with ⟨hi, hs⟩ | ⟨rfl, rfl⟩
      · refine (st.blks i d hs).mono (Nat.le_refl _) (fun _ _ _ => rfl) (fun _ _ h => h) hc (fun hl1 m hm => h.heap m ((st.blks i d hs).bid_lt hl1 m hm) ?_)
        intro e
        cases e
        exact st.apart n i b d hn hs hl hl1 (Ne.symm hi) g hg hm
      · exact hb
    apart := by
      intro i j d f hd hf hl1 hl2 hij m hm hm'
      rcases old i d hd with ⟨hi, hs⟩ | ⟨rfl, rfl⟩ <;> rcases old j f hf with ⟨hj, hs'⟩ | ⟨rfl, rfl⟩
      · exact st.apart i j d f hs hs' hl1 hl2 hij m hm hm'
      · exact st.apart i j d b hs hn hl1 hl hij m hm hm'
      · exact st.apart i j b f hn hs' hl hl2 hij m hm hm'
      · exact hij rfl
    free := by
      intro i d m hd hl1 hm o ho hG
      rcases old i d hd with ⟨hi, hs⟩ | ⟨rfl, rfl⟩
      · exact st.free i d m hs hl1 hm o ho hG
      · rw [hg] at hm; cases hm; exact hfree o hG
    gv := fun b o hG => Nat.lt_of_lt_of_le (st.gv b o hG) h.size
    k0 := by rw [List.length_set]; exact st.k0
    keep := st.keep
    g0 := st.g0
    gn := st.gn
    new := by
      intro i d m hi hd hl1 hm
      rcases old i d hd with ⟨_, hs⟩ | ⟨rfl, rfl⟩
      · exact st.new i d m hi hs hl1 hm
      · exact st.new i b m hi hn hl hm
    os := h.os.trans st.os
    tape := h.tape.trans st.tape
    output := h.output.trans st.output
    size := Nat.le_trans st.size h.size
    fr := by
      intro k hk hx
      refine (h.heap k (Nat.lt_of_lt_of_le hk st.size) ?_).trans (st.fr k hk hx)
      intro e
      cases e
      by_cases hi : n < B.k0
      · exact hx (st.xx hi hn hl hg)
      · have := st.new n b g (by omega) hn hl hg; omega
    lv := by
      intro i d hi hd hl1
      rcases old i d hd with ⟨_, hs⟩ | ⟨rfl, rfl⟩
      · exact st.lv i d hi hs hl1
      · exact st.lv i b hi hn hl
    glob := fun g x hg => (st.glob g x hg).mono (fun _ _ h => h) hc
    gw := fun b o v h1 h2 => hc b o v (st.g0 b o h1) (st.gw b o v h1 h2) }

/-- A name is given up, or what it named stays as it is from now on. -/
theorem St.drop {B S μ G w} (st : St B S μ G w) {n : Nat} {b : Blk} (hn : n < S.length) {G' : Nat → Nat → Prop} (hl : b.live = false)
    (hG : ∀ b o, G b o → G' b o) (hN : ∀ k o, G' k o → G k o ∨ (∃ d, S[n]? = some d ∧ d.live = true ∧ bid (μ n) = some k ∧ B.k0 ≤ n ∧ k < w.heap.size))
    (hb : BlkOk μ S.length w G' (μ n) b) : St B (S.set n b) μ G' w := by
  have old : ∀ i d, (S.set n b)[i]? = some d → (i ≠ n ∧ S[i]? = some d) ∨ (i = n ∧ d = b) := by
    intro i d hd
    by_cases e : i = n
    · subst e; rw [List.getElem?_set_self hn] at hd; exact .inr ⟨rfl, by simpa using hd.symm⟩
    · rw [List.getElem?_set_ne (Ne.symm e)] at hd; exact .inl ⟨e, hd⟩
  have livd : ∀ i d, (S.set n b)[i]? = some d → d.live = true → i ≠ n ∧ S[i]? = some d := by
    intro i d hd hl1
    rcases old i d hd with h | ⟨_, rfl⟩
    · exact h
    · rw [hl] at hl1; cases hl1
  exact {
    blks := by
      intro i d hd
      rw [List.length_set]
      rcases old i d hd with ⟨hi, hs⟩ | ⟨rfl, rfl⟩
      · exact (st.blks i d hs).mono (Nat.le_refl _) (fun _ _ _ => rfl) hG (fun _ _ _ _ h => h) (fun _ _ _ => rfl)
      · exact hb
    apart := fun i j d f hd hf hl1 hl2 hij => st.apart i j d f (livd i d hd hl1).2 (livd j f hf hl2).2 hl1 hl2 hij
    free := by
      intro i d m hd hl1 hm o ho hg
      obtain ⟨hi, hs⟩ := livd i d hd hl1
      rcases hN m o hg with h | ⟨d', h1, h2, h3, _⟩
      · exact st.free i d m hs hl1 hm o ho h
      · exact st.apart i n d d' hs h1 hl1 h2 hi m hm h3
    gv := by
      intro k o hg
      rcases hN k o hg with h | ⟨d', h1, h2, h3, _, h4⟩
      · exact st.gv k o h
      · exact h4
    k0 := by rw [List.length_set]; exact st.k0
    keep := st.keep
    g0 := fun b o h => hG _ _ (st.g0 b o h)
    gn := by
      intro k o hg
      rcases hN k o hg with h | ⟨d', h1, h2, h3, h5, h4⟩
      · exact st.gn k o h
      · exact .inr (st.new n d' k h5 h1 h2 h3)
    new := fun i d m hi hd hl1 hm => st.new i d m hi (livd i d hd hl1).2 hl1 hm
    os := st.os
    tape := st.tape
    output := st.output
    size := st.size
    fr := st.fr
    lv := fun i d hi hd hl1 => st.lv i d hi (livd i d hd hl1).2 hl1
    glob := fun g x hg => (st.glob g x hg).mono hG (fun _ _ _ _ h => h)
    gw := st.gw }

/-- What is kept of slots from one state to a later one. -/
structure Later (S : List Blk) (μ : Nat → Value) (G : Nat → Nat → Prop) (w : World) (S' : List Blk) (μ' : Nat → Value) (G' : Nat → Nat → Prop) (w' : World) : Prop where
  k : S.length ≤ S'.length
  μ : ∀ i, i < S.length → μ' i = μ i
  g : ∀ b o, G b o → G' b o
  cells : ∀ b o v, G b o → w.cell? ⟨b, o, none⟩ = some v → w'.cell? ⟨b, o, none⟩ = some v

theorem Later.refl (S μ G w) : Later S μ G w S μ G w := ⟨Nat.le_refl _, fun _ _ => rfl, fun _ _ h => h, fun _ _ _ _ h => h⟩
theorem Later.trans {S μ G w S' μ' G' w' S'' μ'' G'' w''} (h : Later S μ G w S' μ' G' w') (g : Later S' μ' G' w' S'' μ'' G'' w'') : Later S μ G w S'' μ'' G'' w'' :=
  ⟨Nat.le_trans h.k g.k, fun i hi => (g.μ i (Nat.lt_of_lt_of_le hi h.k)).trans (h.μ i hi), fun _ _ x => g.g _ _ (h.g _ _ x), fun _ _ _ x y => g.cells _ _ _ (h.g _ _ x) (h.cells _ _ _ x y)⟩

theorem Later.ra {S μ G w S' μ' G' w' x v} (h : Later S μ G w S' μ' G' w') (g : RA μ S.length w G x v) : RA μ' S'.length w' G' x v := g.mono h.k (fun i hi _ => h.μ i hi) h.g h.cells

theorem VD.later {S μ G w S' μ' G' w' x v} (h : Later S μ G w S' μ' G' w') (g : VD w G x v) : VD w' G' x v := g.mono h.g h.cells

end Go.Ab
