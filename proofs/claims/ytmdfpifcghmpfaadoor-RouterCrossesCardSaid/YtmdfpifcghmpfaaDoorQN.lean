/- Purses: what is locked is unlocked again, what is minted burned. No program in sight. Purses: the law PurseBack. -/
import Derived.Test.YtmdfpifcghmpfaaDoorQA
set_option linter.unusedVariables false
namespace Go.Proofs.YtmdfpifcghmpfaaDoor
open Go.Ab Go.RowKit

theorem ord_turn (a b : ByteArray) : ordN a b = - ordN b a := ordL_turn _ _
theorem ord_zero {a b : ByteArray} : ordN a b = 0 ↔ a = b := (ordL_zero _ _).trans keysAt_inj
theorem ord_trans {a b c : ByteArray} (h1 : ordN a b < 0) (h2 : ordN b c < 0) : ordN a c < 0 := by
  have h3 : ordN a c ≤ 0 := ordL_goes _ _ _ (Int.le_of_lt h1) (Int.le_of_lt h2)
  rcases Int.lt_or_eq_of_le h3 with h | h
  · exact h
  · have := ord_zero.1 h
    subst this
    have := ord_turn a b
    omega

theorem ltH_iff {g h : Hd} : ltH g h = true ↔ g.org < h.org ∨ (g.org = h.org ∧ (ordN g.token h.token < 0 ∨ (g.token = h.token ∧ ordN g.owner h.owner < 0))) := by
  unfold ltH bef same2
  simp only [Bool.or_eq_true, Bool.and_eq_true, decide_eq_true_eq]
  constructor
  · rintro ((h | ⟨h1, h2⟩) | ⟨⟨h1, h2⟩, h3⟩)
    · exact .inl h
    · exact .inr ⟨h1, .inl h2⟩
    · exact .inr ⟨h1, .inr ⟨h2, h3⟩⟩
  · rintro (h | ⟨h1, h2 | ⟨h2, h3⟩⟩)
    · exact .inl (.inl h)
    · exact .inl (.inr ⟨h1, h2⟩)
    · exact .inr ⟨⟨h1, h2⟩, h3⟩

theorem ltH_trans {a b c : Hd} (h1 : ltH a b = true) (h2 : ltH b c = true) : ltH a c = true := by
  rw [ltH_iff] at *
  rcases h1 with h1 | ⟨h1, h1'⟩ <;> rcases h2 with h2 | ⟨h2, h2'⟩
  · exact .inl (by omega)
  · exact .inl (by omega)
  · exact .inl (by omega)
  · refine .inr ⟨by omega, ?_⟩
    rcases h1' with h3 | ⟨h3, h3'⟩ <;> rcases h2' with h4 | ⟨h4, h4'⟩
    · exact .inl (ord_trans h3 h4)
    · rw [← h4]; exact .inl h3
    · rw [h3]; exact .inl h4
    · exact .inr ⟨h3.trans h4, ord_trans h3' h4'⟩
theorem ltH_asymm {a b : Hd} (h1 : ltH a b = true) : ltH b a = false := by
  cases h : ltH b a with
  | false => rfl
  | true =>
    exfalso
    rw [ltH_iff] at h1 h
    have t1 := ord_turn a.token b.token
    have t2 := ord_turn a.owner b.owner
    rcases h1 with h1 | ⟨h1, h1'⟩ <;> rcases h with h2 | ⟨h2, h2'⟩
    · omega
    · omega
    · omega
    · rcases h1' with h3 | ⟨h3, h3'⟩ <;> rcases h2' with h4 | ⟨h4, h4'⟩
      · omega
      · have := ord_zero.2 h4; omega
      · have := ord_zero.2 h3; omega
      · omega
theorem hdP_iff {o : Int} {n w : ByteArray} {h : Hd} : hdP o n w h = true ↔ h.org = o ∧ h.token = n ∧ h.owner = w := by
  unfold hdP same2
  simp only [Bool.and_eq_true, decide_eq_true_eq]
  exact ⟨fun ⟨⟨a, b⟩, c⟩ => ⟨a, b, c⟩, fun ⟨a, b, c⟩ => ⟨⟨a, b⟩, c⟩⟩
/-- Two of one key stand not one behind the other. -/
theorem ltH_same {a b : Hd} {o : Int} {n w : ByteArray} (ha : hdP o n w a = true) (hb : hdP o n w b = true) : ltH a b = false := by
  cases h : ltH a b with
  | false => rfl
  | true =>
    exfalso
    rw [hdP_iff] at ha hb
    rw [ltH_iff, ha.1, ha.2.1, ha.2.2, hb.1, hb.2.1, hb.2.2] at h
    have h1 := ord_zero.2 (rfl : n = n)
    have h2 := ord_zero.2 (rfl : w = w)
    omega
theorem hbP_lt {o : Int} {n w : ByteArray} {x : Hd} (hx : hdP o n w x = true) (h : Hd) : hbP o n w h = ltH x h := by
  obtain ⟨h1, h2, h3⟩ := hdP_iff.1 hx
  unfold hbP ltH
  rw [h1, h2, h3]

/-- One behind the other. -/
def srtH : Option Hd → List Hd → Prop
  | _, [] => True
  | none, a :: l => srtH (some a) l
  | some p, a :: l => ltH p a = true ∧ srtH (some a) l
theorem srtH_tail {p : Option Hd} {a : Hd} {l : List Hd} (h : srtH p (a :: l)) : srtH (some a) l := by
  cases p with
  | none => exact h
  | some q => exact h.2
theorem srtH_lt : ∀ {l : List Hd} {q : Hd}, srtH (some q) l → ∀ x ∈ l, ltH q x = true
  | [], _, _, _, hx => by cases hx
  | a :: l, q, h, x, hx => by
    rcases List.mem_cons.1 hx with rfl | hx
    · exact h.1
    · exact ltH_trans h.1 (srtH_lt h.2 x hx)

theorem hold_iff (ts : List Tk) (al : List Hd) : ∀ (l : List Hd) (j : Nat), al.drop j = l → holdB ts al j l = true →
    (∀ h ∈ l, h.amount ≠ 0 ∧ rightT h.owner = true ∧ (lookP (tkP h.org h.token) ts).isSome = true) ∧ srtH (if j = 0 then none else al[j - 1]?) l
  | [], j, _, _ => ⟨by simp, by split <;> (first | exact trivial | (cases al[j - 1]? <;> exact trivial))⟩
  | a :: l, j, h, hb => by
    have hlt : j < al.length := by
      rcases Nat.lt_or_ge j al.length with q | q
      · exact q
      · rw [List.drop_eq_nil_of_le q] at h; cases h
    rw [List.drop_eq_getElem_cons hlt] at h
    injection h with h1 h2
    rw [holdB] at hb
    simp only [Bool.and_eq_true, Bool.not_eq_true', decide_eq_false_iff_not, Bool.or_eq_true, beq_iff_eq] at hb
    obtain ⟨b1, b2, b3, b4, b5⟩ := hb
    obtain ⟨ih1, ih2⟩ := hold_iff ts al l (j + 1) h2 b5
    rw [if_neg (by omega), Nat.add_sub_cancel, List.getElem?_eq_getElem hlt, h1] at ih2
    refine ⟨fun x hx => ?_, ?_⟩
    · rcases List.mem_cons.1 hx with rfl | hx
      · exact ⟨b1, b2, b3⟩
      · exact ih1 x hx
    · by_cases hj : j = 0
      · rw [if_pos hj]; exact ih2
      · have hj1 : j - 1 < al.length := by omega
        have hg : al.getD (j - 1) hdE = al[j - 1]'hj1 := by rw [List.getD_eq_getElem?_getD, List.getElem?_eq_getElem hj1]; rfl
        rw [if_neg hj, List.getElem?_eq_getElem hj1]
        rw [hg] at b4
        exact ⟨b4.resolve_left hj, ih2⟩

theorem tok_iff (al : List Tk) : ∀ (l : List Tk) (j : Nat), tokB al j l = true → ∀ t ∈ l, rightT t.name = true ∧ t.burned ≤ t.minted ∧ t.unlocked ≤ t.locked
  | [], _, _, _, ht => by cases ht
  | a :: l, j, h, t, ht => by
    rw [tokB] at h
    simp only [Bool.and_eq_true, Bool.not_eq_true', decide_eq_false_iff_not] at h
    obtain ⟨h1, h2, h3, _, h5⟩ := h
    rcases List.mem_cons.1 ht with rfl | ht
    · exact ⟨h1, by omega, by omega⟩
    · exact tok_iff al l (j + 1) h5 t ht

structure Pu.right (p : Pu) : Prop where
  t : ∀ t ∈ p.toks, t.burned ≤ t.minted ∧ t.unlocked ≤ t.locked
  h : ∀ h ∈ p.holds, h.amount ≠ 0
  s : srtH none p.holds
theorem right_of {p : Pu} (h : rightPu p = true) : p.right := by
  unfold rightPu at h
  simp only [Bool.and_eq_true] at h
  obtain ⟨h1, h2, _⟩ := h
  obtain ⟨g1, g2⟩ := hold_iff p.toks p.holds p.holds 0 rfl h2
  exact ⟨fun t ht => (tok_iff p.toks p.toks 0 h1 t ht).2, fun x hx => (g1 x hx).1, by simpa using g2⟩

theorem lookP_none {α : Type} {p : α → Bool} : ∀ {l : List α}, (∀ y ∈ l, p y = false) → lookP p l = none
  | [], _ => rfl
  | a :: l, h => by rw [lookP, if_neg (by rw [h a (by simp)]; decide)]; exact lookP_none fun y hy => h y (by simp [hy])
theorem look_putP {α : Type} {p : α → Bool} : ∀ {l : List α} {a b : α}, lookP p l = some a → p b = true → lookP p (putP p l b) = some b
  | [], _, _, h, _ => by cases h
  | c :: l, a, b, h, hb => by
    rw [lookP] at h
    rw [putP]
    by_cases e : p c = true
    · rw [if_pos e, lookP, if_pos hb]
    · rw [if_neg e] at h ⊢
      rw [lookP, if_neg e]
      exact look_putP h hb
theorem put_putP {α : Type} {p : α → Bool} : ∀ {l : List α} {a b : α}, lookP p l = some a → p b = true → putP p (putP p l b) a = l
  | [], _, _, h, _ => by cases h
  | c :: l, a, b, h, hb => by
    rw [lookP] at h
    rw [putP]
    by_cases e : p c = true
    · rw [if_pos e] at h ⊢
      cases h
      rw [putP, if_pos hb]
    · rw [if_neg e] at h ⊢
      rw [putP, if_neg e, put_putP h hb]
theorem look_ins {α : Type} {p q : α → Bool} : ∀ {l : List α} {b : α}, lookP p l = none → p b = true → lookP p (insP q l b) = some b ∧ delP p (insP q l b) = l
  | [], b, _, hb => by rw [insP, lookP, if_pos hb, delP, if_pos hb]; exact ⟨rfl, rfl⟩
  | a :: l, b, h, hb => by
    rw [lookP] at h
    split at h
    · cases h
    rename_i e
    rw [insP]
    split
    · rw [lookP, if_pos hb, delP, if_pos hb]; exact ⟨rfl, rfl⟩
    · obtain ⟨h1, h2⟩ := look_ins (q := q) h hb
      rw [lookP, if_neg e, delP, if_neg e, h1, h2]; exact ⟨rfl, rfl⟩

/-- Of those one behind the other one is put back at its place. -/
theorem del_ins {o : Int} {n w : ByteArray} : ∀ {l : List Hd} {p : Option Hd} {x : Hd}, srtH p l → lookP (hdP o n w) l = some x → lookP (hdP o n w) (delP (hdP o n w) l) = none ∧ insP (hbP o n w) (delP (hdP o n w) l) x = l
  | [], _, _, _, h => by cases h
  | a :: l, p, x, hs, h => by
    have ht := srtH_tail hs
    rw [lookP] at h
    rw [delP]
    by_cases e : hdP o n w a = true
    · rw [if_pos e] at h ⊢
      cases h
      refine ⟨lookP_none fun y hy => ?_, ?_⟩
      · cases hh : hdP o n w y with
        | false => rfl
        | true =>
          have h1 := srtH_lt ht y hy
          rw [ltH_same e hh] at h1
          cases h1
      · cases l with
        | nil => rfl
        | cons b l =>
          rw [insP, if_pos (by rw [hbP_lt e]; exact ht.1)]
    · rw [if_neg e] at h ⊢
      obtain ⟨h1, h2⟩ := del_ins ht h
      have hx := lookP_mem h
      have hax := srtH_lt ht x hx.1
      rw [lookP, if_neg e, insP, if_neg (by rw [hbP_lt hx.2, ltH_asymm hax]; decide), h2]
      exact ⟨h1, rfl⟩

def heldL (l : List Hd) (o : Int) (n w : ByteArray) : Int := match lookP (hdP o n w) l with
  | none => 0
  | some h => h.amount
theorem heldV_L (p : Pu) (o : Int) (n w : ByteArray) : heldV p o n w = heldL p.holds o n w := rfl

theorem hd_eta {o : Int} {n w : ByteArray} {x : Hd} (hx : hdP o n w x = true) : x = ⟨o, n, w, x.amount⟩ := by
  obtain ⟨h1, h2, h3⟩ := hdP_iff.1 hx
  obtain ⟨a, b, c, d⟩ := x
  simp only at h1 h2 h3
  subst h1; subst h2; subst h3
  rfl

/-- What is held once so much was put. -/
theorem held_put {l : List Hd} {o k : Int} {n w : ByteArray} (hs : srtH none l) (hk : 0 ≤ k) : heldL (putH l o n w k) o n w = k := by
  unfold putH heldL
  cases h : lookP (hdP o n w) l with
  | some x =>
    simp only
    by_cases c : k = 0
    · rw [if_pos c, (del_ins hs h).1, c]
    · rw [if_neg c, look_putP h (by rw [hdP_iff]; exact hdP_iff.1 (lookP_mem h).2)]
  | none =>
    simp only
    by_cases c : k > 0
    · rw [if_pos c, (look_ins h (by rw [hdP_iff]; exact ⟨rfl, rfl, rfl⟩)).1]
    · rw [if_neg c, h]
      simp only
      omega

/-- Another amount put, and the old one again. -/
theorem put_back2 {l : List Hd} {o k : Int} {n w : ByteArray} (hs : srtH none l) (ha : ∀ h ∈ l, h.amount ≠ 0) (hv : 0 ≤ heldL l o n w) (hk : 0 ≤ k) : putH (putH l o n w k) o n w (heldL l o n w) = l := by
  cases h : lookP (hdP o n w) l with
  | some x =>
    have hx := lookP_mem h
    have hne := ha x hx.1
    have hl : heldL l o n w = x.amount := by unfold heldL; rw [h]
    rw [hl] at hv ⊢
    have hkey := hdP_iff.1 hx.2
    by_cases c : k = 0
    · have e1 : putH l o n w k = delP (hdP o n w) l := by unfold putH; rw [h]; simp only; rw [if_pos c]
      obtain ⟨d1, d2⟩ := del_ins hs h
      rw [e1]
      unfold putH
      rw [d1]
      simp only
      rw [if_pos (by omega), ← hd_eta hx.2, d2]
    · have e1 : putH l o n w k = putP (hdP o n w) l { x with amount := k } := by unfold putH; rw [h]; simp only; rw [if_neg c]
      have hp : hdP o n w { x with amount := k } = true := hdP_iff.2 hkey
      rw [e1]
      unfold putH
      rw [look_putP h hp]
      simp only
      rw [if_neg hne]
      exact put_putP h hp
  | none =>
    have hl : heldL l o n w = 0 := by unfold heldL; rw [h]
    rw [hl]
    by_cases c : k > 0
    · have e1 : putH l o n w k = insP (hbP o n w) l ⟨o, n, w, k⟩ := by unfold putH; rw [h]; simp only; rw [if_pos c]
      obtain ⟨d1, d2⟩ := look_ins (q := hbP o n w) h (b := ⟨o, n, w, k⟩) (by rw [hdP_iff]; exact ⟨rfl, rfl, rfl⟩)
      rw [e1]
      unfold putH
      rw [d1]
      simp only
      rw [if_pos trivial, d2]
    · have e1 : putH l o n w k = l := by unfold putH; rw [h]; simp only; rw [if_neg c]
      rw [e1]
      unfold putH
      rw [h]
      simp only
      rw [if_neg (by omega)]

theorem tkP_iff {o : Int} {n : ByteArray} {t : Tk} : tkP o n t = true ↔ t.org = o ∧ t.name = n := by
  unfold tkP same2
  simp only [Bool.and_eq_true, decide_eq_true_eq]

theorem lock_back {p : Pu} {o k : Int} {n w : ByteArray} (hp : p.ok) (hr : p.right) (hk : U k) (h : (lockP p o n w k).2 = 0) :
    ((unlockP (lockP p o n w k).1 o n w k).2 = 0 → (unlockP (lockP p o n w k).1 o n w k).1.holds = p.holds) ∧
      ((unlockP (lockP p o n w k).1 o n w k).2 = 0 ∨ (unlockP (lockP p o n w k).1 o n w k).2 = 10 ∨ (unlockP (lockP p o n w k).1 o n w k).2 = 7) := by
  have hU := heldV_U hp o n w
  rw [heldV_L] at hU
  unfold U at hU hk
  cases ht : lookP (tkP o n) p.toks with
  | none =>
    have : (takeP p o n w k).2 = 40 := by unfold takeP; rw [ht]
    unfold lockP at h
    rw [if_pos (by rw [this]; decide)] at h
    simp [this] at h
  | some t =>
    by_cases c1 : heldV p o n w < k
    · have e : takeP p o n w k = (p, 11) := by unfold takeP; rw [ht]; simp only; rw [if_pos c1]
      unfold lockP at h
      simp [e] at h
    have e : takeP p o n w k = (⟨p.toks, putH p.holds o n w (heldV p o n w - k)⟩, 0) := by unfold takeP; rw [ht]; simp only; rw [if_neg c1]
    by_cases c2 : t.locked + k < 18446744073709551616
    · have e2 : lockP p o n w k = (⟨putP (tkP o n) p.toks { t with locked := t.locked + k }, putH p.holds o n w (heldV p o n w - k)⟩, 0) := by
        unfold lockP
        simp only [e, ht]
        rw [if_neg (by simp), if_pos c2]
      rw [e2]
      simp only
      rw [heldV_L] at c1 ⊢
      have hl := look_putP (b := { t with locked := t.locked + k }) ht (tkP_iff.2 (tkP_iff.1 (lookP_mem ht).2))
      have hto := (hr.t t (lookP_mem ht).1).2
      have hg := held_put (l := p.holds) (o := o) (n := n) (w := w) (k := heldL p.holds o n w - k) hr.s (by omega)
      have hb := put_back2 (l := p.holds) (o := o) (n := n) (w := w) (k := heldL p.holds o n w - k) hr.s hr.h (by omega) (by omega)
      have ho : ¬ outL { t with locked := t.locked + k } < k := by unfold outL; simp only; rw [if_neg (by omega)]; omega
      have e3 : (rightT w = false → grantP ⟨putP (tkP o n) p.toks { t with locked := t.locked + k }, putH p.holds o n w (heldL p.holds o n w - k)⟩ o n w k = (⟨putP (tkP o n) p.toks { t with locked := t.locked + k }, putH p.holds o n w (heldL p.holds o n w - k)⟩, 7)) ∧
          (rightT w = true → grantP ⟨putP (tkP o n) p.toks { t with locked := t.locked + k }, putH p.holds o n w (heldL p.holds o n w - k)⟩ o n w k = (⟨putP (tkP o n) p.toks { t with locked := t.locked + k }, p.holds⟩, 0)) := by
        unfold grantP
        simp only [heldV_L, hl, hg]
        refine ⟨fun h => by rw [if_pos h], fun h => ?_⟩
        rw [if_neg (by rw [h]; decide), if_pos (by omega), show heldL p.holds o n w - k + k = heldL p.holds o n w by omega, hb]
      generalize hQ : (⟨putP (tkP o n) p.toks { t with locked := t.locked + k }, putH p.holds o n w (heldL p.holds o n w - k)⟩ : Pu) = Q at *
      have hQt : Q.toks = putP (tkP o n) p.toks { t with locked := t.locked + k } := by rw [← hQ]
      unfold unlockP
      simp only [hQt, hl]
      rw [if_neg ho]
      by_cases c3 : t.unlocked + k < 18446744073709551616
      · rw [if_pos c3]
        cases hrt : rightT w with
        | false =>
          have := e3.1 hrt
          simp [this]
        | true =>
          have := e3.2 hrt
          simp [this]
      · rw [if_neg c3]
        simp
    · have e2 : (lockP p o n w k).2 = 10 := by
        unfold lockP
        simp only [e, ht]
        rw [if_neg (by simp), if_neg c2]
      rw [e2] at h
      exact absurd h (by decide)

theorem mint_back {p : Pu} {o k : Int} {n w : ByteArray} (hp : p.ok) (hr : p.right) (hk : U k) (h : (mintP p o n w k).2 = 0) :
    ((burnP (mintP p o n w k).1 o n w k).2 = 0 → (burnP (mintP p o n w k).1 o n w k).1.holds = p.holds) ∧
      ((burnP (mintP p o n w k).1 o n w k).2 = 0 ∨ (burnP (mintP p o n w k).1 o n w k).2 = 10) := by
  have hU := heldV_U hp o n w
  rw [heldV_L] at hU
  unfold U at hU hk
  cases ht : lookP (tkP o n) p.toks with
  | none => unfold mintP at h; rw [ht] at h; simp at h
  | some t =>
    unfold mintP at h
    rw [ht] at h
    simp only at h
    by_cases c1 : t.minted + k < 18446744073709551616
    · rw [if_pos c1] at h
      by_cases c2 : outM t + k < 18446744073709551616
      · rw [if_pos c2] at h
        by_cases c3 : outM t + k > t.cap
        · rw [if_pos c3] at h; simp at h
        rw [if_neg c3] at h
        by_cases c4 : (grantP p o n w k).2 = 0
        · have e0 : grantP p o n w k = (⟨p.toks, putH p.holds o n w (heldV p o n w + k)⟩, 0) ∧ heldV p o n w + k < 18446744073709551616 := by
            unfold grantP at c4 ⊢
            simp only [ht] at c4 ⊢
            cases hrt : rightT w with
            | false => rw [hrt, if_pos rfl] at c4; simp at c4
            | true =>
              rw [hrt, if_neg (by decide)] at c4
              rw [if_neg (by decide)]
              by_cases c5 : heldV p o n w + k < 18446744073709551616
              · rw [if_pos c5]; exact ⟨rfl, c5⟩
              · rw [if_neg c5] at c4; simp at c4
          rw [heldV_L] at e0
          obtain ⟨e0, c5⟩ := e0
          have e2 : mintP p o n w k = (⟨putP (tkP o n) p.toks { t with minted := t.minted + k }, putH p.holds o n w (heldL p.holds o n w + k)⟩, 0) := by
            unfold mintP
            simp only [ht, e0]
            rw [if_pos c1, if_pos c2, if_neg c3, if_neg (by simp)]
          rw [e2]
          simp only
          have hl := look_putP (b := { t with minted := t.minted + k }) ht (tkP_iff.2 (tkP_iff.1 (lookP_mem ht).2))
          have hg := held_put (l := p.holds) (o := o) (n := n) (w := w) (k := heldL p.holds o n w + k) hr.s (by omega)
          have hb := put_back2 (l := p.holds) (o := o) (n := n) (w := w) (k := heldL p.holds o n w + k) hr.s hr.h (by omega) (by omega)
          have tk : takeP ⟨putP (tkP o n) p.toks { t with minted := t.minted + k }, putH p.holds o n w (heldL p.holds o n w + k)⟩ o n w k = (⟨putP (tkP o n) p.toks { t with minted := t.minted + k }, p.holds⟩, 0) := by
            have hV : heldV ⟨putP (tkP o n) p.toks { t with minted := t.minted + k }, putH p.holds o n w (heldL p.holds o n w + k)⟩ o n w = heldL p.holds o n w + k := hg
            unfold takeP
            simp only [hl, hV]
            rw [if_neg (by omega), show heldL p.holds o n w + k - k = heldL p.holds o n w by omega, hb]
          unfold burnP
          simp only [tk, hl]
          rw [if_neg (by simp)]
          by_cases c6 : t.burned + k < 18446744073709551616
          · rw [if_pos c6]; exact ⟨fun _ => rfl, .inl rfl⟩
          · rw [if_neg c6]; simp
        · rw [if_pos c4] at h; exact absurd h c4
      · rw [if_neg c2] at h; simp at h
    · rw [if_neg c1] at h; simp at h
end Go.Proofs.YtmdfpifcghmpfaaDoor

set_option linter.unusedVariables false
namespace Go.Proofs.YtmdfpifcghmpfaaDoor
open Go.Ab Go.RowKit

/-- An act. -/
def actP (d o : Int) (n a b : ByteArray) (k : Int) : D := .agg [.int .i64 d, .int .u32 o, .str n, .str a, .str b, .int .u64 k]

theorem short_c {d o k : Int} {n a b : ByteArray} : CallR cx 30 [.d (actP d o n a b k)] [] fun r S => ∃ x, r = bo x ∧ (x = true → n.size ≤ 1000 ∧ a.size ≤ 1000 ∧ b.size ≤ 1000) ∧ S = [] := by
  refine callR_of (R := R1) cx_ok Tryd.func30 (by kernel_rfl) rfl ?_
  conv => whnf
  by_cases c1 : (n.size : Int) ≤ 200
  · refine brT (decide_eq_true c1) ?_
    conv => whnf
    by_cases c2 : (a.size : Int) ≤ 200
    · refine brT (decide_eq_true c2) ?_
      conv => whnf
      exact ⟨_, rfl, fun h => ⟨by omega, by omega, by have q : (b.size : Int) ≤ 200 := of_decide_eq_true h; omega⟩, rfl⟩
    · refine brF (decide_eq_false c2) ?_
      conv => whnf
      exact ⟨false, rfl, by simp, rfl⟩
  · refine brF (decide_eq_false c1) ?_
    conv => whnf
    exact ⟨false, rfl, by simp, rfl⟩

theorem heldCl_c {p : Pu} : CallR cx 32 [.d p.d] [] fun r S => r = .d (Pu.d ⟨[], p.holds⟩) ∧ S = [] := by
  obtain ⟨ts, hs⟩ := p
  refine callR_of (R := R1) cx_ok Tryd.func32 (by kernel_rfl) rfl ?_
  conv => whnf
  exact ⟨rfl, rfl⟩

theorem lockP_fine {p : Pu} {N : Nat} {o k : Int} {n w : ByteArray} (hp : p.fine N) (hN : N ≤ 100000) (hn : n.size ≤ 1000) (hw : w.size ≤ 1000) (hk : U k) : (lockP p o n w k).1.fine (N + 1) := by
  have ht := takeP_fine (o := o) (n := n) (w := w) (k := k) hp hN hn hw hk
  have hq := takeP_toks p o n w k
  unfold lockP
  split
  · exact hp.mono (by omega)
  split
  · exact hp.mono (by omega)
  rename_i t h
  split
  · obtain ⟨a1, a2, a3, a4, a5, a6⟩ := hp.t t (lookP_mem h).1
    refine set_fine hp ⟨a1, ?_, a3, a4, a5, a6⟩ ?_
    · unfold U at *; simp only; omega
    · rw [← hq]; exact ht
  · exact hp.mono (by omega)
theorem burnP_fine {p : Pu} {N : Nat} {o k : Int} {n w : ByteArray} (hp : p.fine N) (hN : N ≤ 100000) (hn : n.size ≤ 1000) (hw : w.size ≤ 1000) (hk : U k) : (burnP p o n w k).1.fine (N + 1) := by
  have ht := takeP_fine (o := o) (n := n) (w := w) (k := k) hp hN hn hw hk
  have hq := takeP_toks p o n w k
  unfold burnP
  split
  · exact hp.mono (by omega)
  split
  · exact hp.mono (by omega)
  rename_i t h
  split
  · obtain ⟨a1, a2, a3, a4, a5, a6⟩ := hp.t t (lookP_mem h).1
    refine set_fine hp ⟨a1, a2, a3, a4, ?_, a6⟩ ?_
    · unfold U at *; simp only; omega
    · rw [← hq]; exact ht
  · exact hp.mono (by omega)
theorem mintP_fine {p : Pu} {N : Nat} {o k : Int} {n w : ByteArray} (hp : p.fine N) (hN : N ≤ 100000) (hn : n.size ≤ 1000) (hw : w.size ≤ 1000) (hk : U k) : (mintP p o n w k).1.fine (N + 1) := by
  have ht := grantP_fine (o := o) (n := n) (w := w) (k := k) hp hN hn hw hk
  have hq := grantP_toks p o n w k
  unfold mintP
  split
  · exact hp.mono (by omega)
  rename_i t h
  split
  · split
    · split
      · exact hp.mono (by omega)
      split
      · exact hp.mono (by omega)
      · obtain ⟨a1, a2, a3, a4, a5, a6⟩ := hp.t t (lookP_mem h).1
        refine set_fine hp ⟨a1, a2, a3, ?_, a5, a6⟩ ?_
        · unfold U at *; simp only; omega
        · rw [← hq]; exact ht
    · exact hp.mono (by omega)
  · exact hp.mono (by omega)
theorem unlockP_fine {p : Pu} {N : Nat} {o k : Int} {n w : ByteArray} (hp : p.fine N) (hN : N ≤ 100000) (hn : n.size ≤ 1000) (hw : w.size ≤ 1000) (hk : U k) : (unlockP p o n w k).1.fine (N + 1) := by
  have ht := grantP_fine (o := o) (n := n) (w := w) (k := k) hp hN hn hw hk
  have hq := grantP_toks p o n w k
  unfold unlockP
  split
  · exact hp.mono (by omega)
  rename_i t h
  split
  · exact hp.mono (by omega)
  split
  · split
    · exact hp.mono (by omega)
    · obtain ⟨a1, a2, a3, a4, a5, a6⟩ := hp.t t (lookP_mem h).1
      refine set_fine hp ⟨a1, a2, ?_, a4, a5, a6⟩ ?_
      · unfold U at *; simp only; omega
      · rw [← hq]; exact ht
  · exact hp.mono (by omega)

/-- What comes in of a purse. -/
structure Pu.fits (p : Pu) : Prop where
  t : ∀ t ∈ p.toks, U t.cap ∧ U t.locked ∧ U t.unlocked ∧ U t.minted ∧ U t.burned
  h : ∀ h ∈ p.holds, U h.amount
theorem fine_of {p : Pu} (h : p.fits) (hf : pfewP p) : p.fine 100 := by
  obtain ⟨f1, f2, f3, f4⟩ := hf
  exact ⟨fun t ht => let ⟨a, b, c, d, e⟩ := h.t t ht; ⟨a, b, c, d, e, by have := f3 t ht; omega⟩, fun x hx => ⟨h.h x hx, by have := f4 x hx; omega, by have := f4 x hx; omega⟩, by omega, f2⟩

theorem pback_c {p : Pu} (hf : p.fits) {d o k : Int} {n a b : ByteArray} (hk : U k) : CallR cx 7 [.d p.d, .d (actP d o n a b k)] [] fun r S => r = bo true ∧ S = [] := by
  have fc := pfew_c (p := p)
  have sc := short_c (d := d) (o := o) (k := k) (n := n) (a := a) (b := b)
  refine callR_of (R := R1) cx_ok Tryd.func7 (by kernel_rfl) rfl ?_
  conv => whnf
  refine ⟨_, pawake_c, ?_⟩
  rintro _ _ ⟨rfl, rfl⟩
  conv => whnf
  refine ⟨_, fc, ?_⟩
  rintro _ _ ⟨x, rfl, hx, rfl⟩
  cases x with
  | false =>
    conv => whnf
    exact ⟨rfl, rfl⟩
  | true =>
    have hfi := fine_of hf (hx rfl)
    have hpo := hfi.ok (by omega)
    have rc := prightL_c hpo
    conv => whnf
    refine ⟨_, sc, ?_⟩
    rintro _ _ ⟨y, rfl, hy, rfl⟩
    cases y with
    | false =>
      conv => whnf
      exact ⟨rfl, rfl⟩
    | true =>
      obtain ⟨hn, ha, hb⟩ := hy rfl
      conv => whnf
      refine ⟨_, rc, ?_⟩
      rintro _ _ ⟨rfl, rfl⟩
      cases hr : rightPu p with
      | false =>
        conv => whnf
        exact ⟨rfl, rfl⟩
      | true =>
        have hri := right_of hr
        have lk := lock_cc (o := o) (n := n) (w := a) (k := k) hfi (by omega) hn ha hk
        have hlf := lockP_fine (o := o) (n := n) (w := a) (k := k) hfi (by omega) hn ha hk
        have ul := unlock_cc (o := o) (n := n) (w := a) (k := k) hlf (by omega) hn ha hk
        have lb := lock_back (o := o) (n := n) (w := a) (k := k) hpo hri hk
        have mt := mint_cc (o := o) (n := n) (w := a) (k := k) hfi (by omega) hn ha hk
        have hmf := mintP_fine (o := o) (n := n) (w := a) (k := k) hfi (by omega) hn ha hk
        have bu := burn_cc (o := o) (n := n) (w := a) (k := k) hmf (by omega) hn ha hk
        have mb := mint_back (o := o) (n := n) (w := a) (k := k) hpo hri hk
        have hp0 := heldCl_c (p := p)
        have sm := psame_c (p := ⟨[], p.holds⟩) ⟨by simp, hpo.h, by simp, hpo.nh⟩
        generalize lockP p o n a k = L at *
        obtain ⟨l, e⟩ := L
        simp only at lk hlf ul lb
        generalize unlockP l o n a k = L2 at *
        obtain ⟨l2, f⟩ := L2
        simp only at ul lb
        have hl2 := heldCl_c (p := l2)
        generalize mintP p o n a k = M at *
        obtain ⟨m, g⟩ := M
        simp only at mt hmf bu mb
        generalize burnP m o n a k = M2 at *
        obtain ⟨m2, q⟩ := M2
        simp only at bu mb
        have hm2 := heldCl_c (p := m2)
        conv => whnf
        refine ⟨_, lk, ?_⟩
        rintro _ _ ⟨rfl, rfl⟩
        conv => whnf
        by_cases he : e = 0
        · subst he
          obtain ⟨a1, a2⟩ := lb rfl
          conv => whnf
          refine ⟨_, ul, ?_⟩
          rintro _ _ ⟨rfl, rfl⟩
          conv => whnf
          rcases a2 with rfl | rfl | rfl
          · have a3 := a1 rfl
            rw [a3] at hl2
            conv => whnf
            refine ⟨by kernel_rfl, ?_⟩
            conv => whnf
            refine ⟨_, hl2, ?_⟩
            conv => whnf
            refine ⟨_, hp0, ?_⟩
            conv => whnf
            refine ⟨_, sm, ?_⟩
            conv => whnf
            refine ⟨by kernel_rfl, ?_⟩
            conv => whnf
            refine ⟨_, mt, ?_⟩
            rintro _ _ ⟨rfl, rfl⟩
            conv => whnf
            by_cases hg : g = 0
            · subst hg
              obtain ⟨b1, b2⟩ := mb rfl
              conv => whnf
              refine ⟨_, bu, ?_⟩
              rintro _ _ ⟨rfl, rfl⟩
              conv => whnf
              rcases b2 with rfl | rfl
              · have b3 := b1 rfl
                rw [b3] at hm2
                conv => whnf
                refine ⟨by kernel_rfl, ?_⟩
                conv => whnf
                refine ⟨_, hm2, ?_⟩
                conv => whnf
                refine ⟨_, hp0, ?_⟩
                conv => whnf
                refine ⟨_, sm, ?_⟩
                conv => whnf
                refine ⟨by kernel_rfl, ?_⟩
                conv => whnf
                exact ⟨rfl, rfl⟩
              · conv => whnf
                refine ⟨by kernel_rfl, ?_⟩
                conv => whnf
                refine ⟨by kernel_rfl, ?_⟩
                conv => whnf
                exact ⟨rfl, rfl⟩
            · refine brF (beq_eq_false_iff_ne.2 hg) ?_
              conv => whnf
              exact ⟨rfl, rfl⟩
          · conv => whnf
            refine ⟨by kernel_rfl, ?_⟩
            conv => whnf
            refine ⟨by kernel_rfl, ?_⟩
            conv => whnf
            refine ⟨_, mt, ?_⟩
            rintro _ _ ⟨rfl, rfl⟩
            conv => whnf
            by_cases hg : g = 0
            · subst hg
              obtain ⟨b1, b2⟩ := mb rfl
              conv => whnf
              refine ⟨_, bu, ?_⟩
              rintro _ _ ⟨rfl, rfl⟩
              conv => whnf
              rcases b2 with rfl | rfl
              · have b3 := b1 rfl
                rw [b3] at hm2
                conv => whnf
                refine ⟨by kernel_rfl, ?_⟩
                conv => whnf
                refine ⟨_, hm2, ?_⟩
                conv => whnf
                refine ⟨_, hp0, ?_⟩
                conv => whnf
                refine ⟨_, sm, ?_⟩
                conv => whnf
                refine ⟨by kernel_rfl, ?_⟩
                conv => whnf
                exact ⟨rfl, rfl⟩
              · conv => whnf
                refine ⟨by kernel_rfl, ?_⟩
                conv => whnf
                refine ⟨by kernel_rfl, ?_⟩
                conv => whnf
                exact ⟨rfl, rfl⟩
            · refine brF (beq_eq_false_iff_ne.2 hg) ?_
              conv => whnf
              exact ⟨rfl, rfl⟩
          · conv => whnf
            refine ⟨by kernel_rfl, ?_⟩
            conv => whnf
            refine ⟨by kernel_rfl, ?_⟩
            conv => whnf
            refine ⟨_, mt, ?_⟩
            rintro _ _ ⟨rfl, rfl⟩
            conv => whnf
            by_cases hg : g = 0
            · subst hg
              obtain ⟨b1, b2⟩ := mb rfl
              conv => whnf
              refine ⟨_, bu, ?_⟩
              rintro _ _ ⟨rfl, rfl⟩
              conv => whnf
              rcases b2 with rfl | rfl
              · have b3 := b1 rfl
                rw [b3] at hm2
                conv => whnf
                refine ⟨by kernel_rfl, ?_⟩
                conv => whnf
                refine ⟨_, hm2, ?_⟩
                conv => whnf
                refine ⟨_, hp0, ?_⟩
                conv => whnf
                refine ⟨_, sm, ?_⟩
                conv => whnf
                refine ⟨by kernel_rfl, ?_⟩
                conv => whnf
                exact ⟨rfl, rfl⟩
              · conv => whnf
                refine ⟨by kernel_rfl, ?_⟩
                conv => whnf
                refine ⟨by kernel_rfl, ?_⟩
                conv => whnf
                exact ⟨rfl, rfl⟩
            · refine brF (beq_eq_false_iff_ne.2 hg) ?_
              conv => whnf
              exact ⟨rfl, rfl⟩
        · refine brF (beq_eq_false_iff_ne.2 he) ?_
          conv => whnf
          refine ⟨_, mt, ?_⟩
          rintro _ _ ⟨rfl, rfl⟩
          conv => whnf
          by_cases hg : g = 0
          · subst hg
            obtain ⟨b1, b2⟩ := mb rfl
            conv => whnf
            refine ⟨_, bu, ?_⟩
            rintro _ _ ⟨rfl, rfl⟩
            conv => whnf
            rcases b2 with rfl | rfl
            · have b3 := b1 rfl
              rw [b3] at hm2
              conv => whnf
              refine ⟨by kernel_rfl, ?_⟩
              conv => whnf
              refine ⟨_, hm2, ?_⟩
              conv => whnf
              refine ⟨_, hp0, ?_⟩
              conv => whnf
              refine ⟨_, sm, ?_⟩
              conv => whnf
              refine ⟨by kernel_rfl, ?_⟩
              conv => whnf
              exact ⟨rfl, rfl⟩
            · conv => whnf
              refine ⟨by kernel_rfl, ?_⟩
              conv => whnf
              refine ⟨by kernel_rfl, ?_⟩
              conv => whnf
              exact ⟨rfl, rfl⟩
          · refine brF (beq_eq_false_iff_ne.2 hg) ?_
            conv => whnf
            exact ⟨rfl, rfl⟩

abbrev tyTk : Ty := .st [.int .u32, .str, .int .u64, .int .u64, .int .u64, .int .u64, .int .u64]
abbrev tyHd : Ty := .st [.int .u32, .str, .str, .int .u64]
abbrev tyPu : Ty := .st [.sl 7 tyTk, .sl 4 tyHd]
abbrev tyActP : Ty := .st [.int .i64, .int .u32, .str, .str, .str, .int .u64]
theorem toks_of : ∀ {ys : List D}, (∀ y ∈ ys, tyTk.has y) → ∃ l : List Tk, ys = tks l ∧ ∀ t ∈ l, U t.cap ∧ U t.locked ∧ U t.unlocked ∧ U t.minted ∧ U t.burned
  | [], _ => ⟨[], rfl, by simp⟩
  | y :: ys, h => by
    obtain ⟨l, rfl, h2⟩ := toks_of fun z hz => h z (List.mem_cons_of_mem _ hz)
    obtain ⟨_, rfl, _, _, rfl, ⟨o, rfl, _⟩, _, _, rfl, ⟨n, rfl, _⟩, _, _, rfl, ⟨a, rfl, wa⟩, _, _, rfl, ⟨b, rfl, wb⟩, _, _, rfl, ⟨c, rfl, wc⟩, _, _, rfl, ⟨d, rfl, wd⟩, _, _, rfl, ⟨e, rfl, we⟩, rfl⟩ := h y (by simp)
    refine ⟨⟨o, n, a, b, c, d, e⟩ :: l, rfl, fun x hx => ?_⟩
    rcases List.mem_cons.1 hx with rfl | hx
    · exact ⟨U.of_wf wa, U.of_wf wb, U.of_wf wc, U.of_wf wd, U.of_wf we⟩
    · exact h2 x hx
theorem holds_of : ∀ {ys : List D}, (∀ y ∈ ys, tyHd.has y) → ∃ l : List Hd, ys = hds l ∧ ∀ h ∈ l, U h.amount
  | [], _ => ⟨[], rfl, by simp⟩
  | y :: ys, h => by
    obtain ⟨l, rfl, h2⟩ := holds_of fun z hz => h z (List.mem_cons_of_mem _ hz)
    obtain ⟨_, rfl, _, _, rfl, ⟨o, rfl, _⟩, _, _, rfl, ⟨n, rfl, _⟩, _, _, rfl, ⟨a, rfl, _⟩, _, _, rfl, ⟨b, rfl, wb⟩, rfl⟩ := h y (by simp)
    refine ⟨⟨o, n, a, b⟩ :: l, rfl, fun x hx => ?_⟩
    rcases List.mem_cons.1 hx with rfl | hx
    · exact U.of_wf wb
    · exact h2 x hx
theorem pu_of {x : D} (h : tyPu.has x) : ∃ p : Pu, x = p.d ∧ p.fits := by
  obtain ⟨_, rfl, _, _, rfl, ⟨ts, rfl, _, h4⟩, _, _, rfl, ⟨hs, rfl, _, h5⟩, rfl⟩ := h
  obtain ⟨l, rfl, h6⟩ := toks_of h4
  obtain ⟨m, rfl, h7⟩ := holds_of h5
  exact ⟨⟨l, m⟩, rfl, ⟨h6, h7⟩⟩
theorem purseBack_c (ys : List D) (hy : Ty.hass [tyPu, tyActP] ys) : CallR cx 7 (ys.map AV.d) [] fun r S => r = .d (.bool true) ∧ S = [] := by
  obtain ⟨_, _, rfl, hl, _, _, rfl, ⟨_, rfl, _, _, rfl, ⟨d, rfl, _⟩, _, _, rfl, ⟨o, rfl, _⟩, _, _, rfl, ⟨n, rfl, _⟩, _, _, rfl, ⟨a, rfl, _⟩, _, _, rfl, ⟨b, rfl, _⟩, _, _, rfl, ⟨k, rfl, wk⟩, rfl⟩, rfl⟩ := hy
  obtain ⟨p, rfl, hf⟩ := pu_of hl
  exact pback_c hf (U.of_wf wk)
end Go.Proofs.YtmdfpifcghmpfaaDoor
