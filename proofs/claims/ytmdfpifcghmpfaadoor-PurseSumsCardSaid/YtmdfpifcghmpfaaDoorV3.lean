/- Purses: what comes of a right purse is right, but for what is burned. No program in sight. Purses: the law PursePlays. -/
import Derived.Test.YtmdfpifcghmpfaaDoorV2
set_option linter.unusedVariables false
namespace Go.Proofs.YtmdfpifcghmpfaaDoor
open Go.Ab Go.RowKit

section
variable {α : Type} {lt : α → α → Bool}
theorem insP_in {q : α → Bool} : ∀ {l : List α} {b x : α}, x ∈ insP q l b → x = b ∨ x ∈ l
  | [], b, x, h => by rw [insP] at h; exact .inl (List.mem_singleton.1 h)
  | a :: l, b, x, h => by
    rw [insP] at h
    split at h
    · rcases List.mem_cons.1 h with rfl | h
      · exact .inl rfl
      · exact .inr h
    · rcases List.mem_cons.1 h with rfl | h
      · exact .inr (by simp)
      · rcases insP_in h with h | h
        · exact .inl h
        · exact .inr (by simp [h])
theorem insP_pw (tr : ∀ {a b c}, lt a b = true → lt b c = true → lt a c = true) {b : α} {q : α → Bool} (hq : ∀ y, q y = lt b y) : ∀ {l : List α}, l.Pairwise (fun x y => lt x y = true) → (∀ y ∈ l, lt b y = false → lt y b = true) → (insP q l b).Pairwise (fun x y => lt x y = true)
  | [], _, _ => by rw [insP]; simp
  | a :: l, h, ht => by
    rw [insP, hq]
    rw [List.pairwise_cons] at h
    split
    · rename_i h1
      rw [List.pairwise_cons, List.pairwise_cons]
      refine ⟨fun x hx => ?_, h⟩
      rcases List.mem_cons.1 hx with rfl | hx
      · exact h1
      · exact tr h1 (h.1 x hx)
    · rename_i h1
      rw [List.pairwise_cons]
      refine ⟨fun x hx => ?_, insP_pw tr hq h.2 (fun y hy => ht y (by simp [hy]))⟩
      rcases insP_in hx with rfl | hx
      · exact ht a (by simp) (by simpa using h1)
      · exact h.1 x hx
theorem putP_in {p : α → Bool} : ∀ {l : List α} {b x : α}, x ∈ putP p l b → x = b ∨ x ∈ l
  | [], b, x, h => by cases h
  | a :: l, b, x, h => by
    rw [putP] at h
    split at h
    · rcases List.mem_cons.1 h with rfl | h
      · exact .inl rfl
      · exact .inr (by simp [h])
    · rcases List.mem_cons.1 h with rfl | h
      · exact .inr (by simp)
      · rcases putP_in h with h | h
        · exact .inl h
        · exact .inr (by simp [h])
theorem putP_pw {p : α → Bool} {b : α} (hb : ∀ a, p a = true → ∀ y, lt b y = lt a y ∧ lt y b = lt y a) : ∀ {l : List α}, l.Pairwise (fun x y => lt x y = true) → (putP p l b).Pairwise (fun x y => lt x y = true)
  | [], _ => by rw [putP]; exact List.Pairwise.nil
  | a :: l, h => by
    rw [putP]
    rw [List.pairwise_cons] at h
    split
    · rename_i h1
      rw [List.pairwise_cons]
      exact ⟨fun x hx => by rw [(hb a h1 x).1]; exact h.1 x hx, h.2⟩
    · rw [List.pairwise_cons]
      have hin : ∀ {l : List α}, ∀ x ∈ putP p l b, (∀ y ∈ l, lt a y = true) → lt a x = true := by
        intro l
        induction l with
        | nil => intro x hx; cases hx
        | cons c l ih =>
          intro x hx hl
          rw [putP] at hx
          split at hx
          · rename_i h2
            rcases List.mem_cons.1 hx with rfl | hx
            · rw [(hb c h2 a).2]; exact hl c (by simp)
            · exact hl x (by simp [hx])
          · rcases List.mem_cons.1 hx with rfl | hx
            · exact hl _ (by simp)
            · exact ih x hx (fun y hy => hl y (by simp [hy]))
      exact ⟨fun x hx => hin x hx h.1, putP_pw hb h.2⟩
theorem delP_in {p : α → Bool} : ∀ {l : List α} {x : α}, x ∈ delP p l → x ∈ l
  | [], x, h => by cases h
  | a :: l, x, h => by
    rw [delP] at h
    split at h
    · simp [h]
    · rcases List.mem_cons.1 h with rfl | h
      · simp
      · simp [delP_in h]
theorem delP_pw {p : α → Bool} : ∀ {l : List α}, l.Pairwise (fun x y => lt x y = true) → (delP p l).Pairwise (fun x y => lt x y = true)
  | [], _ => by rw [delP]; exact List.Pairwise.nil
  | a :: l, h => by
    rw [delP]
    rw [List.pairwise_cons] at h
    split
    · exact h.2
    · rw [List.pairwise_cons]
      exact ⟨fun x hx => h.1 x (delP_in hx), delP_pw h.2⟩
theorem lookP_no {p : α → Bool} : ∀ {l : List α}, lookP p l = none → ∀ y ∈ l, p y = false
  | [], _, y, hy => by cases hy
  | a :: l, h, y, hy => by
    rw [lookP] at h
    split at h
    · cases h
    · rename_i h1
      rcases List.mem_cons.1 hy with rfl | hy
      · simpa using h1
      · exact lookP_no h y hy
theorem lookP_is {p : α → Bool} : ∀ {l : List α} {y : α}, y ∈ l → p y = true → (lookP p l).isSome = true
  | a :: l, y, hy, h => by
    rw [lookP]
    split
    · rfl
    · rename_i h1
      rcases List.mem_cons.1 hy with rfl | hy
      · exact absurd h h1
      · exact lookP_is hy h
theorem insP_has {q : α → Bool} : ∀ {l : List α} {b : α}, b ∈ insP q l b ∧ ∀ y ∈ l, y ∈ insP q l b
  | [], b => by rw [insP]; simp
  | a :: l, b => by
    rw [insP]
    split
    · simp +contextual
    · have := insP_has (q := q) (l := l) (b := b)
      refine ⟨by simp [this.1], fun y hy => ?_⟩
      rcases List.mem_cons.1 hy with rfl | hy
      · simp
      · simp [this.2 y hy]
end

def ltT (a b : Tk) : Bool := bef a.org a.name b.org b.name
theorem bef_iff {o o' : Int} {n n' : ByteArray} : bef o n o' n' = true ↔ o < o' ∨ (o = o' ∧ ordN n n' < 0) := by
  unfold bef
  simp only [Bool.or_eq_true, Bool.and_eq_true, decide_eq_true_eq]
theorem ltT_trans {a b c : Tk} (h1 : ltT a b = true) (h2 : ltT b c = true) : ltT a c = true := by
  unfold ltT at *
  rw [bef_iff] at *
  rcases h1 with h1 | ⟨h1, h1'⟩ <;> rcases h2 with h2 | ⟨h2, h2'⟩
  · exact .inl (by omega)
  · exact .inl (by omega)
  · exact .inl (by omega)
  · exact .inr ⟨by omega, ord_trans h1' h2'⟩
theorem ltT_tot {a b : Tk} (h : ltT a b = false) (hne : ¬ (a.org = b.org ∧ a.name = b.name)) : ltT b a = true := by
  unfold ltT at *
  rw [← Bool.not_eq_true, bef_iff] at h
  rw [bef_iff]
  have t := ord_turn a.name b.name
  rcases Int.lt_or_le b.org a.org with q | q
  · exact .inl q
  · have : a.org = b.org := by omega
    refine .inr ⟨this.symm, ?_⟩
    have hz : ordN a.name b.name ≠ 0 := fun z => hne ⟨this, ord_zero.1 z⟩
    omega
theorem ltH_tot {a b : Hd} (h : ltH a b = false) (hne : ¬ (a.org = b.org ∧ a.token = b.token ∧ a.owner = b.owner)) : ltH b a = true := by
  rw [← Bool.not_eq_true, ltH_iff] at h
  rw [ltH_iff]
  have t := ord_turn a.token b.token
  have t2 := ord_turn a.owner b.owner
  rcases Int.lt_or_le b.org a.org with q | q
  · exact .inl q
  · have h1 : a.org = b.org := by omega
    refine .inr ⟨h1.symm, ?_⟩
    by_cases z : ordN a.token b.token = 0
    · have h2 := ord_zero.1 z
      refine .inr ⟨h2.symm, ?_⟩
      have z2 : ordN a.owner b.owner ≠ 0 := fun z => hne ⟨h1, h2, ord_zero.1 z⟩
      have z3 : ¬ ordN a.owner b.owner < 0 := fun q => h (.inr ⟨h1, .inr ⟨h2, q⟩⟩)
      omega
    · exact .inl (by omega)

/-- Right, but for what is burned. -/
structure Pu.good (p : Pu) : Prop where
  t : ∀ t ∈ p.toks, rightT t.name = true ∧ t.unlocked ≤ t.locked
  o : p.toks.Pairwise (fun x y => ltT x y = true)
  n : p.toks.length ≤ 32
  h : ∀ h ∈ p.holds, h.amount ≠ 0 ∧ rightT h.owner = true ∧ (lookP (tkP h.org h.token) p.toks).isSome = true
  s : p.holds.Pairwise (fun x y => ltH x y = true)

theorem tokB_of {al : List Tk} (ho : al.Pairwise (fun x y => ltT x y = true)) (ht : ∀ t ∈ al, rightT t.name = true ∧ t.burned ≤ t.minted ∧ t.unlocked ≤ t.locked) : ∀ (l : List Tk) (j : Nat), al.drop j = l → tokB al j l = true
  | [], _, _ => rfl
  | a :: l, j, h => by
    have hlt : j < al.length := by
      rcases Nat.lt_or_ge j al.length with q | q
      · exact q
      · rw [List.drop_eq_nil_of_le q] at h; cases h
    rw [List.drop_eq_getElem_cons hlt] at h
    injection h with h1 h2
    obtain ⟨t1, t2, t3⟩ := ht a (by rw [← h1]; exact List.getElem_mem hlt)
    rw [tokB, t1, decide_eq_false (by omega), decide_eq_false (by omega), tokB_of ho ht l (j + 1) h2]
    by_cases hj : j = 0
    · simp [hj]
    · have hj1 : j - 1 < al.length := by omega
      have hg : al.getD (j - 1) tkE = al[j - 1]'hj1 := by rw [List.getD_eq_getElem?_getD, List.getElem?_eq_getElem hj1]; rfl
      have := List.pairwise_iff_getElem.1 ho (j - 1) j hj1 hlt (by omega)
      rw [h1] at this
      unfold ltT at this
      rw [hg, this]
      simp
theorem holdB_of {ts : List Tk} {al : List Hd} (ho : al.Pairwise (fun x y => ltH x y = true)) (ht : ∀ h ∈ al, h.amount ≠ 0 ∧ rightT h.owner = true ∧ (lookP (tkP h.org h.token) ts).isSome = true) : ∀ (l : List Hd) (j : Nat), al.drop j = l → holdB ts al j l = true
  | [], _, _ => rfl
  | a :: l, j, h => by
    have hlt : j < al.length := by
      rcases Nat.lt_or_ge j al.length with q | q
      · exact q
      · rw [List.drop_eq_nil_of_le q] at h; cases h
    rw [List.drop_eq_getElem_cons hlt] at h
    injection h with h1 h2
    obtain ⟨t1, t2, t3⟩ := ht a (by rw [← h1]; exact List.getElem_mem hlt)
    rw [holdB, t2, t3, decide_eq_false t1, holdB_of ho ht l (j + 1) h2]
    by_cases hj : j = 0
    · simp [hj]
    · have hj1 : j - 1 < al.length := by omega
      have hg : al.getD (j - 1) hdE = al[j - 1]'hj1 := by rw [List.getD_eq_getElem?_getD, List.getElem?_eq_getElem hj1]; rfl
      have := List.pairwise_iff_getElem.1 ho (j - 1) j hj1 hlt (by omega)
      rw [h1] at this
      rw [hg, this]
      simp
theorem good_right {p : Pu} (h : p.good) (hb : ∀ t ∈ p.toks, t.burned ≤ t.minted) : rightPu p = true := by
  unfold rightPu
  rw [tokB_of h.o (fun t ht => ⟨(h.t t ht).1, hb t ht, (h.t t ht).2⟩) p.toks 0 rfl, holdB_of h.s h.h p.holds 0 rfl, decide_eq_true h.n]
  rfl

theorem putH_good {ts : List Tk} {l : List Hd} {o k : Int} {n w : ByteArray} (h : ∀ h ∈ l, h.amount ≠ 0 ∧ rightT h.owner = true ∧ (lookP (tkP h.org h.token) ts).isSome = true) (hs : l.Pairwise (fun x y => ltH x y = true))
    (hw : k ≠ 0 → rightT w = true) (ht : (lookP (tkP o n) ts).isSome = true) : (∀ h ∈ putH l o n w k, h.amount ≠ 0 ∧ rightT h.owner = true ∧ (lookP (tkP h.org h.token) ts).isSome = true) ∧ (putH l o n w k).Pairwise (fun x y => ltH x y = true) := by
  constructor
  · by_cases hk : k = 0
    · subst hk
      unfold putH
      split
      · rw [if_pos rfl]; exact fun x hx => h x (delP_in hx)
      · rw [if_neg (by decide)]; exact h
    · exact putH_mem h ⟨hk, hw hk, ht⟩ (fun x hx => ⟨hk, (h x hx).2⟩)
  · unfold putH
    cases hx : lookP (hdP o n w) l with
    | some a =>
      simp only
      have ha := (lookP_mem hx).2
      split
      · exact delP_pw hs
      · refine putP_pw (fun c hc y => ?_) hs
        obtain ⟨a1, a2, a3⟩ := hdP_iff.1 ha
        obtain ⟨c1, c2, c3⟩ := hdP_iff.1 hc
        unfold ltH
        simp only [a1, a2, a3, c1, c2, c3, and_self]
    | none =>
      simp only
      split
      · refine insP_pw (lt := ltH) ltH_trans (fun y => hbP_lt (x := ⟨o, n, w, k⟩) (hdP_iff.2 ⟨rfl, rfl, rfl⟩) y) hs (fun y hy hf => ltH_tot hf (fun ⟨e1, e2, e3⟩ => ?_))
        have := lookP_no hx y hy
        rw [← Bool.not_eq_true, hdP_iff] at this
        exact this ⟨e1.symm, e2.symm, e3.symm⟩
      · exact hs

theorem takeP_good {p : Pu} {o k : Int} {n w : ByteArray} (hp : p.good) (hk : 0 ≤ k) : (takeP p o n w k).1.good := by
  unfold takeP
  split
  · exact hp
  rename_i t ht
  split
  · exact hp
  rename_i hc
  have := putH_good (o := o) (n := n) (w := w) (k := heldV p o n w - k) hp.h hp.s (fun hne => ?_) (by rw [ht]; rfl)
  · exact ⟨hp.t, hp.o, hp.n, this.1, this.2⟩
  · unfold heldV at hne hc
    cases hx : lookP (hdP o n w) p.holds with
    | none => rw [hx] at hne hc; simp only at hne hc; exact absurd hk (by omega)
    | some a =>
      have ha := lookP_mem hx
      rw [← (hdP_iff.1 ha.2).2.2]
      exact (hp.h a ha.1).2.1
theorem grantP_good {p : Pu} {o k : Int} {n w : ByteArray} (hp : p.good) : (grantP p o n w k).1.good := by
  unfold grantP
  split
  · exact hp
  rename_i t ht
  split
  · exact hp
  rename_i hr
  split
  · have := putH_good (o := o) (n := n) (w := w) (k := heldV p o n w + k) hp.h hp.s (fun _ => by simpa using hr) (by rw [ht]; rfl)
    exact ⟨hp.t, hp.o, hp.n, this.1, this.2⟩
  · exact hp
theorem set_look {ts : List Tk} {o : Int} {n : ByteArray} {t : Tk} (ht : t.org = o ∧ t.name = n) {o' : Int} {n' : ByteArray} (h : (lookP (tkP o' n') ts).isSome = true) : (lookP (tkP o' n') (putP (tkP o n) ts t)).isSome = true := by
  induction ts with
  | nil => cases h
  | cons a l ih =>
    rw [lookP] at h
    rw [putP]
    split
    · rename_i h1
      rw [lookP]
      have : tkP o' n' t = tkP o' n' a := by
        obtain ⟨e1, e2⟩ := tkP_iff.1 h1
        unfold tkP
        rw [ht.1, ht.2, e1, e2]
      rw [this]
      split
      · rfl
      · rename_i h2; rw [if_neg h2] at h; exact h
    · rw [lookP]
      split
      · rfl
      · rename_i h2; rw [if_neg h2] at h; exact ih h
theorem set_good {p : Pu} {hs : List Hd} {o : Int} {n : ByteArray} {t : Tk} (hp : Pu.good ⟨p.toks, hs⟩) (ht : t.org = o ∧ t.name = n) (h1 : rightT n = true) (h2 : t.unlocked ≤ t.locked) : Pu.good ⟨putP (tkP o n) p.toks t, hs⟩ := by
  refine ⟨fun x hx => ?_, putP_pw (fun a ha y => ?_) hp.o, by rw [putP_len]; exact hp.n, fun x hx => ?_, hp.s⟩
  · rcases putP_in hx with rfl | hx
    · exact ⟨by rw [ht.2]; exact h1, h2⟩
    · exact hp.t x hx
  · obtain ⟨e1, e2⟩ := tkP_iff.1 ha
    unfold ltT
    rw [ht.1, ht.2, e1, e2]
    exact ⟨rfl, rfl⟩
  · obtain ⟨q1, q2, q3⟩ := hp.h x hx
    exact ⟨q1, q2, set_look ht q3⟩
theorem lockP_good {p : Pu} {o k : Int} {n w : ByteArray} (hp : p.good) (hk : 0 ≤ k) : (lockP p o n w k).1.good := by
  have hq := takeP_good (o := o) (n := n) (w := w) hp hk
  have hqt := takeP_toks p o n w k
  unfold lockP
  split
  · exact hp
  split
  · exact hp
  rename_i t h
  split
  · obtain ⟨m1, m2⟩ := lookP_mem h
    have := hp.t t m1
    refine set_good (by rw [← hqt]; exact hq) (tkP_iff.1 m2) (by rw [← (tkP_iff.1 m2).2]; exact this.1) (by simp only; omega)
  · exact hp
theorem burnP_good {p : Pu} {o k : Int} {n w : ByteArray} (hp : p.good) (hk : 0 ≤ k) : (burnP p o n w k).1.good := by
  have hq := takeP_good (o := o) (n := n) (w := w) hp hk
  have hqt := takeP_toks p o n w k
  unfold burnP
  split
  · exact hp
  split
  · exact hp
  rename_i t h
  split
  · obtain ⟨m1, m2⟩ := lookP_mem h
    have := hp.t t m1
    refine set_good (by rw [← hqt]; exact hq) (tkP_iff.1 m2) (by rw [← (tkP_iff.1 m2).2]; exact this.1) this.2
  · exact hp
theorem unlockP_good {p : Pu} {o k : Int} {n w : ByteArray} (hp : p.good) (hk : 0 ≤ k) : (unlockP p o n w k).1.good := by
  have hq := grantP_good (o := o) (n := n) (w := w) (k := k) hp
  have hqt := grantP_toks p o n w k
  unfold unlockP
  split
  · exact hp
  rename_i t h
  split
  · exact hp
  rename_i ho
  split
  · split
    · exact hp
    · obtain ⟨m1, m2⟩ := lookP_mem h
      have := hp.t t m1
      refine set_good (by rw [← hqt]; exact hq) (tkP_iff.1 m2) (by rw [← (tkP_iff.1 m2).2]; exact this.1) ?_
      unfold outL at ho
      rw [if_neg (by omega)] at ho
      simp only
      omega
  · exact hp
theorem mintP_good {p : Pu} {o k : Int} {n w : ByteArray} (hp : p.good) : (mintP p o n w k).1.good := by
  have hq := grantP_good (o := o) (n := n) (w := w) (k := k) hp
  have hqt := grantP_toks p o n w k
  unfold mintP
  split
  · exact hp
  rename_i t h
  split
  · split
    · split
      · exact hp
      split
      · exact hp
      · obtain ⟨m1, m2⟩ := lookP_mem h
        have := hp.t t m1
        exact set_good (by rw [← hqt]; exact hq) (tkP_iff.1 m2) (by rw [← (tkP_iff.1 m2).2]; exact this.1) this.2
    · exact hp
  · exact hp
theorem moveP_good {p : Pu} {o k : Int} {n a b : ByteArray} (hp : p.good) (hk : 0 ≤ k) : (moveP p o n a b k).1.good := by
  unfold moveP
  split
  · exact hp
  split
  · exact hp
  split
  · exact hp
  · exact grantP_good (takeP_good hp hk)
theorem enlistP_good {p : Pu} {o k : Int} {n : ByteArray} (hp : p.good) : (enlistP p o n k).1.good := by
  unfold enlistP
  split
  · exact hp
  rename_i hr
  split
  · exact hp
  rename_i hx
  split
  · exact hp
  rename_i hl
  refine ⟨fun x hx => ?_, insP_pw (lt := ltT) (b := ⟨o, n, k, 0, 0, 0, 0⟩) ltT_trans (fun y => rfl) hp.o (fun y hy hf => ltT_tot hf (fun ⟨e1, e2⟩ => ?_)), by rw [insP_len]; omega, fun x hx => ?_, hp.s⟩
  · rcases insP_in hx with rfl | hx
    · exact ⟨by simpa using hr, Int.le_refl _⟩
    · exact hp.t x hx
  · have := lookP_no hx y hy
    rw [← Bool.not_eq_true, tkP_iff] at this
    exact this ⟨e1.symm, e2.symm⟩
  · obtain ⟨q1, q2, q3⟩ := hp.h x hx
    refine ⟨q1, q2, ?_⟩
    cases hy : lookP (tkP x.org x.token) p.toks with
    | none => rw [hy] at q3; cases q3
    | some y => exact lookP_is (insP_has.2 y (lookP_mem hy).1) (lookP_mem hy).2
theorem doP_good {p : Pu} {q o k : Int} {n a b : ByteArray} (hp : p.good) (hk : 0 ≤ k) : (doP p q o n a b k).1.good := by
  unfold doP
  repeat' split
  · exact enlistP_good hp
  · exact grantP_good hp
  · exact moveP_good hp hk
  · exact lockP_good hp hk
  · exact unlockP_good hp hk
  · exact mintP_good hp
  · exact burnP_good hp hk
  · exact hp

section
variable {p : Pu} {N : Nat} {o k : Int} {n w : ByteArray} (hp : p.fine N) (hN : N ≤ 99999) (hn : n.size ≤ 200) (hw : w.size ≤ 200) (hk : U k)
include hp hN hn hw hk
theorem moveP_fine {b : ByteArray} (hb : b.size ≤ 200) : (moveP p o n w b k).1.fine (N + 2) := by
  unfold moveP
  split
  · exact hp.mono (by omega)
  split
  · exact hp.mono (by omega)
  split
  · exact hp.mono (by omega)
  · exact grantP_fine (takeP_fine hp (by omega) hn hw hk) (by omega) hn hb hk
omit hw hN in
theorem enlistP_fine : (enlistP p o n k).1.fine (N + 1) := by
  unfold enlistP
  split
  · exact hp.mono (by omega)
  split
  · exact hp.mono (by omega)
  split
  · exact hp.mono (by omega)
  · refine ⟨fun x hx => ?_, hp.h, by rw [insP_len]; have := hp.nt; omega, by have := hp.nh; simp only; omega⟩
    rcases insP_in hx with rfl | hx
    · refine ⟨hk, ?_, ?_, ?_, ?_, hn⟩ <;> (unfold U; simp only; omega)
    · exact hp.t x hx
theorem doP_fine {b : ByteArray} {q : Int} (hb : b.size ≤ 200) : (doP p q o n w b k).1.fine (N + 2) := by
  unfold doP
  repeat' split
  · exact (enlistP_fine hp hn hk).mono (by omega)
  · exact (grantP_fine hp (by omega) hn hw hk).mono (by omega)
  · exact moveP_fine hp hN hn hw hk hb
  · exact (lockP_fine hp (by omega) hn hw hk).mono (by omega)
  · exact (unlockP_fine hp (by omega) hn hw hk).mono (by omega)
  · exact (mintP_fine hp (by omega) hn hw hk).mono (by omega)
  · exact (burnP_fine hp (by omega) hn hw hk).mono (by omega)
  · exact hp.mono (by omega)
end
end Go.Proofs.YtmdfpifcghmpfaaDoor

set_option linter.unusedVariables false
namespace Go.Proofs.YtmdfpifcghmpfaaDoor
open Go.Ab Go.RowKit

structure ActQ where
  d : Int
  o : Int
  n : ByteArray
  a : ByteArray
  b : ByteArray
  k : Int
def ActQ.d' (x : ActQ) : D := actP x.d x.o x.n x.a x.b x.k

def puE : Pu := ⟨[], []⟩
theorem goodE : puE.good := ⟨by simp [puE], List.Pairwise.nil, by decide, by simp [puE], List.Pairwise.nil⟩
theorem pfineE : puE.fine 0 := ⟨by simp [puE], by simp [puE], by decide, by decide⟩

def burnt (l : List Tk) : Bool := l.any fun t => decide (t.burned > t.minted)
theorem burnt_take {l : List Tk} {j : Nat} (h : j < l.length) : burnt (l.take (j + 1)) = (burnt (l.take j) || decide ((l[j]'h).burned > (l[j]'h).minted)) := by
  unfold burnt
  rw [List.take_succ_eq_append_getElem h, List.any_append]
  simp
theorem burnt_no {l : List Tk} (h : burnt l = false) : ∀ t ∈ l, t.burned ≤ t.minted := by
  unfold burnt at h
  intro t ht
  have := List.any_eq_false.1 h t ht
  simp only [decide_eq_true_eq] at this
  omega

theorem pplays_c {L : List ActQ} (hL : ∀ a ∈ L, U a.k) : CallR cx 8 [.d (.sl 6 (L.map ActQ.d'))] [] fun r S => r = bo true ∧ S = [] := by
  have hlen : (L.map ActQ.d').length = L.length := List.length_map _
  refine callR_of (R := R1) cx_ok Tryd.func8 (by kernel_rfl) rfl ?_
  conv => whnf
  refine ⟨_, pawake_c, ?_⟩
  rintro _ _ ⟨rfl, rfl⟩
  conv => whnf
  refine brec (fun h0 => ?_) (fun h0 => ?_)
  · conv => whnf
    exact ⟨rfl, rfl⟩
  conv => whnf
  have h0 := of_decide_eq_false h0
  rw [hlen] at h0
  refine .inl ⟨fun m Ls S => ∃ (j : Nat) (x : Pu), j ≤ L.length ∧ x.fine (2 * j) ∧ x.good ∧ m = L.length - j ∧
      Ls = [(3, .ptr 0 []), (4, .ptr 1 []), (16, .d (.sl 6 (L.map ActQ.d'))), (17, i64 (((L.map ActQ.d').length : Nat) : Int)), (18, i64 (j : Int))] ∧ S = [.var (.d x.d), .var (.d x.d)],
    ⟨_, _, ⟨0, puE, Nat.zero_le _, pfineE, goodE, rfl, rfl, rfl⟩, ⟨rfl, rfl, rfl, rfl, rfl, trivial⟩⟩, ?_⟩
  rintro _ _ _ ⟨j, x, hj, hx, hg, rfl, rfl, rfl⟩
  conv => whnf
  refine brec (fun h4 => ?_) (fun h4 => ?_)
  · have h4 := of_decide_eq_true h4
    rw [hlen] at h4
    have hlt : j < L.length := by omega
    have hgd : (L.map ActQ.d').getD (j : Int).toNat .nilP = (L[j]'hlt).d' := by
      rw [Int.toNat_natCast, List.getD_eq_getElem?_getD, List.getElem?_map, List.getElem?_eq_getElem hlt]; rfl
    have hU := hL _ (List.getElem_mem hlt)
    conv => whnf
    refine ⟨⟨by omega, by rw [hlen]; omega⟩, ?_⟩
    rw [hgd]
    generalize L[j]'hlt = y at *
    obtain ⟨d, o, n, a, b, k⟩ := y
    simp only at hU
    unfold ActQ.d'
    simp only
    conv => whnf
    refine ⟨_, short_c, ?_⟩
    rintro _ _ ⟨sh, rfl, hsh, rfl⟩
    cases sh with
    | false =>
      conv => whnf
      exact ⟨rfl, rfl⟩
    | true =>
    obtain ⟨s1, s2, s3⟩ := hsh rfl
    have dc := pdo_c hx (by omega) s1 s2 s3 hU (d := d) (o := o)
    have hz := doP_fine hx (by omega) s1 s2 hU s3 (q := Int.tmod d 8) (o := o)
    have hzg := doP_good hg hU.1 (q := Int.tmod d 8) (o := o) (n := n) (a := a) (b := b)
    generalize doP x (Int.tmod d 8) o n a b k = Z at *
    obtain ⟨z, e⟩ := Z
    simp only at dc hz hzg
    have hzo := hz.ok (by omega)
    have sz := psame_c hzo
    have rz := prightL_c hzo
    have hgr := good_right hzg
    have hzt := hzo.nt
    generalize rightPu z = RB at *
    obtain ⟨ts, hs⟩ := z
    simp only at hzt hgr
    have e3 : IntKind.i64.wrap ((j : Int) + 1) = ((j + 1 : Nat) : Int) := by rw [w64 (by omega)]; omega
    have hlt' : (tks ts).length = ts.length := List.length_map _
    conv => whnf
    refine ⟨_, dc, ?_⟩
    rintro _ _ ⟨rfl, rfl⟩
    conv => whnf
    refine ⟨_, sz, ?_⟩
    rintro _ _ ⟨rfl, rfl⟩
    conv => whnf
    refine .inl ⟨fun m Ls S => ∃ (i : Nat), i ≤ ts.length ∧ m = ts.length - i ∧
        Ls = [(3, .ptr 0 []), (4, .ptr 1 []), (8, bo (burnt (ts.take i))), (16, .d (.sl 6 (L.map ActQ.d'))), (17, i64 (((L.map ActQ.d').length : Nat) : Int)), (18, i64 (j : Int)), (43, .d (.sl 7 (tks ts))), (44, i64 (((tks ts).length : Nat) : Int)), (45, i64 (i : Int))] ∧
        S = [.var (.d (Pu.d ⟨ts, hs⟩)), .var (.d (Pu.d ⟨ts, hs⟩)), .var (.d (actP d o n a b k))],
      ⟨_, _, ⟨0, Nat.zero_le _, rfl, rfl, rfl⟩, ⟨rfl, rfl, rfl, rfl, rfl, rfl, rfl, rfl, rfl, trivial⟩⟩, ?_⟩
    rintro _ _ _ ⟨i, hi, rfl, rfl, rfl⟩
    conv => whnf
    refine brec (fun h5 => ?_) (fun h5 => ?_)
    · have h5 := of_decide_eq_true h5
      rw [hlt'] at h5
      have hli : i < ts.length := by omega
      conv => whnf
      refine ⟨⟨by omega, by rw [hlt']; omega⟩, ?_⟩
      rw [tks_getD hli]
      have hb := burnt_take hli
      generalize ts[i]'hli = t at *
      have e4 : IntKind.i64.wrap ((i : Int) + 1) = ((i + 1 : Nat) : Int) := by rw [w64 (by omega)]; omega
      obtain ⟨to, nm, ta, tb, tc, td, te⟩ := t
      simp only at hb
      generalize hB : burnt (ts.take i) = B at *
      conv => whnf
      cases B with
      | true =>
        rw [Bool.true_or] at hb
        conv => whnf
        refine ⟨_, _, 3, (by omega : ts.length - (i + 1) < ts.length - i), ⟨i + 1, by omega, rfl, rfl, rfl⟩, ⟨rfl, rfl, congrArg (fun z => some (bo z)) hb.symm, rfl, rfl, rfl, rfl, rfl, congrArg (fun z => some (i64 z)) e4, trivial⟩, rfl⟩
      | false =>
        rw [Bool.false_or] at hb
        conv => whnf
        refine ⟨_, _, 3, (by omega : ts.length - (i + 1) < ts.length - i), ⟨i + 1, by omega, rfl, rfl, rfl⟩, ⟨rfl, rfl, congrArg (fun z => some (bo z)) hb.symm, rfl, rfl, rfl, rfl, rfl, congrArg (fun z => some (i64 z)) e4, trivial⟩, rfl⟩
    · have h5 := of_decide_eq_false h5
      rw [hlt'] at h5
      obtain rfl : i = ts.length := by omega
      rw [List.take_length]
      have hbn := fun q => hgr (burnt_no (l := ts) q)
      generalize burnt ts = B at *
      conv => whnf
      cases B with
      | true =>
        conv => whnf
        exact ⟨_, _, 2, (by omega : L.length - (j + 1) < L.length - j), ⟨j + 1, _, by omega, hz, hzg, rfl, rfl, rfl⟩, ⟨rfl, rfl, rfl, rfl, congrArg (fun z => some (i64 z)) e3, trivial⟩, rfl⟩
      | false =>
        obtain rfl := hbn rfl
        conv => whnf
        refine ⟨_, rz, ?_⟩
        rintro _ _ ⟨rfl, rfl⟩
        conv => whnf
        exact ⟨_, _, 2, (by omega : L.length - (j + 1) < L.length - j), ⟨j + 1, _, by omega, hz, hzg, rfl, rfl, rfl⟩, ⟨rfl, rfl, rfl, rfl, congrArg (fun z => some (i64 z)) e3, trivial⟩, rfl⟩
  · conv => whnf
    exact ⟨rfl, rfl⟩

theorem actQs_of : ∀ {ys : List D}, (∀ y ∈ ys, tyActP.has y) → ∃ l : List ActQ, ys = l.map ActQ.d' ∧ ∀ a ∈ l, U a.k
  | [], _ => ⟨[], rfl, by simp⟩
  | y :: ys, h => by
    obtain ⟨l, rfl, h2⟩ := actQs_of fun z hz => h z (List.mem_cons_of_mem _ hz)
    obtain ⟨_, rfl, _, _, rfl, ⟨d, rfl, _⟩, _, _, rfl, ⟨o, rfl, _⟩, _, _, rfl, ⟨n, rfl, _⟩, _, _, rfl, ⟨a, rfl, _⟩, _, _, rfl, ⟨b, rfl, _⟩, _, _, rfl, ⟨k, rfl, wk⟩, rfl⟩ := h y (by simp)
    refine ⟨⟨d, o, n, a, b, k⟩ :: l, rfl, fun x hx => ?_⟩
    rcases List.mem_cons.1 hx with rfl | hx
    · exact U.of_wf wk
    · exact h2 x hx
theorem pursePlays_c (ys : List D) (hy : Ty.hass [.sl 6 tyActP] ys) : CallR cx 8 (ys.map AV.d) [] fun r S => r = .d (.bool true) ∧ S = [] := by
  obtain ⟨_, _, rfl, ⟨al, rfl, _, h⟩, rfl⟩ := hy
  obtain ⟨L, rfl, hL⟩ := actQs_of h
  exact pplays_c hL
end Go.Proofs.YtmdfpifcghmpfaaDoor
