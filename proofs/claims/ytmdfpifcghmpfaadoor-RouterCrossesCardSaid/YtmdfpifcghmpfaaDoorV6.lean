/- Purses: what each act does to the sums. No program in sight. -/
import Derived.Test.YtmdfpifcghmpfaaDoorV4
set_option linter.unusedVariables false
namespace Go.Proofs.YtmdfpifcghmpfaaDoor
open Go.Ab Go.RowKit

def sumP (p : Pu) (o : Int) (n : ByteArray) : Int := (amtsL o n p.holds).sum
def one (o : Int) (n : ByteArray) (o' : Int) (n' : ByteArray) (k : Int) : Int := if same2 o n o' n' = true then k else 0
theorem one_self {o k : Int} {n : ByteArray} : one o n o n k = k := by unfold one same2; simp
theorem one_add {o o' a b : Int} {n n' : ByteArray} : one o n o' n' (a + b) = one o n o' n' a + one o n o' n' b := by unfold one; split <;> omega
theorem one_sub {o o' a b : Int} {n n' : ByteArray} : one o n o' n' (a - b) = one o n o' n' a - one o n o' n' b := by unfold one; split <;> omega
theorem one_ne {o o' k : Int} {n n' : ByteArray} (h : o' ≠ o ∨ n' ≠ n) : one o n o' n' k = 0 := by
  unfold one
  rw [if_neg]
  unfold same2
  simp only [Bool.and_eq_true, decide_eq_true_eq]
  rintro ⟨rfl, rfl⟩
  rcases h with h | h <;> exact h rfl
theorem amts_cons {o : Int} {n : ByteArray} {h : Hd} {l : List Hd} : (amtsL o n (h :: l)).sum = one h.org h.token o n h.amount + (amtsL o n l).sum := by
  rw [amtsL]
  unfold one
  split
  · rw [List.sum_cons]
  · omega
theorem del_sum {o o' : Int} {n w n' : ByteArray} : ∀ {l : List Hd} {a : Hd}, lookP (hdP o n w) l = some a → (amtsL o' n' (delP (hdP o n w) l)).sum = (amtsL o' n' l).sum - one o n o' n' a.amount
  | [], _, h => by cases h
  | c :: l, a, h => by
    rw [lookP] at h
    rw [delP, amts_cons]
    split at h
    · rename_i h1
      injection h with h; subst h
      rw [if_pos h1, (hdP_iff.1 h1).1, (hdP_iff.1 h1).2.1]
      omega
    · rename_i h1
      rw [if_neg h1, amts_cons, del_sum h]
      omega
theorem put_sum {o o' : Int} {n w n' : ByteArray} {b : Hd} (hb : b.org = o ∧ b.token = n) : ∀ {l : List Hd} {a : Hd}, lookP (hdP o n w) l = some a → (amtsL o' n' (putP (hdP o n w) l b)).sum = (amtsL o' n' l).sum - one o n o' n' a.amount + one o n o' n' b.amount
  | [], _, h => by cases h
  | c :: l, a, h => by
    rw [lookP] at h
    rw [putP, amts_cons]
    split at h
    · rename_i h1
      injection h with h; subst h
      rw [if_pos h1, amts_cons, (hdP_iff.1 h1).1, (hdP_iff.1 h1).2.1, hb.1, hb.2]
      omega
    · rename_i h1
      rw [if_neg h1, amts_cons, put_sum hb h]
      omega
theorem ins_sum {o' : Int} {n' : ByteArray} {q : Hd → Bool} {b : Hd} : ∀ {l : List Hd}, (amtsL o' n' (insP q l b)).sum = (amtsL o' n' l).sum + one b.org b.token o' n' b.amount
  | [] => by rw [insP, amts_cons]; simp [amtsL]
  | c :: l => by
    rw [insP]
    split
    · rw [amts_cons, amts_cons]; omega
    · rw [amts_cons, amts_cons, ins_sum]; omega
theorem putH_sum {l : List Hd} {o o' k : Int} {n w n' : ByteArray} (hk : 0 ≤ k) : (amtsL o' n' (putH l o n w k)).sum = (amtsL o' n' l).sum - one o n o' n' (heldL l o n w) + one o n o' n' k := by
  unfold putH heldL
  cases hx : lookP (hdP o n w) l with
  | some a =>
    simp only
    split
    · rename_i h0
      subst h0
      rw [del_sum hx]
      unfold one
      split <;> omega
    · rw [put_sum (b := { a with amount := k }) ⟨(hdP_iff.1 (lookP_mem hx).2).1, (hdP_iff.1 (lookP_mem hx).2).2.1⟩ hx]
  | none =>
    simp only
    split
    · rw [ins_sum]
      simp only
      unfold one
      split <;> omega
    · rw [show k = 0 by omega]
      unfold one
      split <;> omega

theorem takeP_err {p : Pu} {o k : Int} {n w : ByteArray} (h : (takeP p o n w k).2 ≠ 0) : (takeP p o n w k).1 = p := by
  unfold takeP at *
  split
  · rfl
  rename_i t ht
  rw [ht] at h
  simp only at h
  split
  · rfl
  · rename_i hc; rw [if_neg hc] at h; exact absurd rfl h
theorem takeP_sum {p : Pu} {o k : Int} {n w : ByteArray} (h : (takeP p o n w k).2 = 0) (o' : Int) (n' : ByteArray) : sumP (takeP p o n w k).1 o' n' = sumP p o' n' - one o n o' n' k ∧ ∃ t, lookP (tkP o n) p.toks = some t := by
  unfold takeP at *
  cases ht : lookP (tkP o n) p.toks with
  | none => rw [ht] at h; cases h
  | some t =>
    rw [ht] at h
    simp only at h ⊢
    split
    · rename_i hc; rw [if_pos hc] at h; cases h
    · rename_i hc
      refine ⟨?_, t, rfl⟩
      unfold sumP
      simp only
      rw [putH_sum (by omega), heldV_L, one_sub]
      omega
theorem grantP_sum {p : Pu} {o k : Int} {n w : ByteArray} (hv : 0 ≤ heldV p o n w) (hk : 0 ≤ k) (h : (grantP p o n w k).2 = 0) (o' : Int) (n' : ByteArray) : sumP (grantP p o n w k).1 o' n' = sumP p o' n' + one o n o' n' k ∧ ∃ t, lookP (tkP o n) p.toks = some t := by
  unfold grantP at *
  cases ht : lookP (tkP o n) p.toks with
  | none => rw [ht] at h; cases h
  | some t =>
    rw [ht] at h
    simp only at h ⊢
    split
    · rename_i hc; rw [if_pos hc] at h; cases h
    rename_i hc
    rw [if_neg hc] at h
    split
    · refine ⟨?_, t, rfl⟩
      unfold sumP
      simp only
      rw [putH_sum (by omega), ← heldV_L, one_add]
      omega
    · rename_i hc2; rw [if_neg hc2] at h; cases h

theorem lockP_sum {p : Pu} {o k : Int} {n w : ByteArray} (h : (lockP p o n w k).2 = 0) : (∀ o' n', sumP (lockP p o n w k).1 o' n' = sumP p o' n' - one o n o' n' k) ∧
    ∃ t, lookP (tkP o n) p.toks = some t ∧ lookP (tkP o n) (lockP p o n w k).1.toks = some { t with locked := t.locked + k } := by
  unfold lockP at *
  by_cases he : (takeP p o n w k).2 ≠ 0
  · rw [if_pos he] at h; exact absurd h he
  rw [if_neg he] at h ⊢
  have he : (takeP p o n w k).2 = 0 := by omega
  obtain ⟨t, ht⟩ := (takeP_sum he 0 .empty).2
  rw [ht] at h ⊢
  simp only at h ⊢
  split
  · refine ⟨fun o' n' => (takeP_sum he o' n').1, t, rfl, ?_⟩
    exact look_putP ht (tkP_iff.2 (tkP_iff.1 (lookP_mem ht).2))
  · rename_i hc; rw [if_neg hc] at h; cases h
theorem burnP_sum {p : Pu} {o k : Int} {n w : ByteArray} (h : (burnP p o n w k).2 = 0) : (∀ o' n', sumP (burnP p o n w k).1 o' n' = sumP p o' n' - one o n o' n' k) ∧
    ∃ t, lookP (tkP o n) p.toks = some t ∧ lookP (tkP o n) (burnP p o n w k).1.toks = some { t with burned := t.burned + k } := by
  unfold burnP at *
  by_cases he : (takeP p o n w k).2 ≠ 0
  · rw [if_pos he] at h; exact absurd h he
  rw [if_neg he] at h ⊢
  have he : (takeP p o n w k).2 = 0 := by omega
  obtain ⟨t, ht⟩ := (takeP_sum he 0 .empty).2
  rw [ht] at h ⊢
  simp only at h ⊢
  split
  · refine ⟨fun o' n' => (takeP_sum he o' n').1, t, rfl, ?_⟩
    exact look_putP ht (tkP_iff.2 (tkP_iff.1 (lookP_mem ht).2))
  · rename_i hc; rw [if_neg hc] at h; cases h
theorem unlockP_sum {p : Pu} {o k : Int} {n w : ByteArray} (hv : 0 ≤ heldV p o n w) (hk : 0 ≤ k) (h : (unlockP p o n w k).2 = 0) : (∀ o' n', sumP (unlockP p o n w k).1 o' n' = sumP p o' n' + one o n o' n' k) ∧
    ∃ t, lookP (tkP o n) p.toks = some t ∧ lookP (tkP o n) (unlockP p o n w k).1.toks = some { t with unlocked := t.unlocked + k } ∧ k ≤ outL t := by
  unfold unlockP at *
  cases ht : lookP (tkP o n) p.toks with
  | none => rw [ht] at h; cases h
  | some t =>
    rw [ht] at h
    simp only at h ⊢
    by_cases h1 : outL t < k
    · rw [if_pos h1] at h; cases h
    rw [if_neg h1] at h ⊢
    by_cases h2 : t.unlocked + k < 18446744073709551616
    · rw [if_pos h2] at h ⊢
      by_cases he : (grantP p o n w k).2 ≠ 0
      · rw [if_pos he] at h; exact absurd h he
      rw [if_neg he] at h ⊢
      have he : (grantP p o n w k).2 = 0 := by omega
      exact ⟨fun o' n' => (grantP_sum hv hk he o' n').1, t, rfl, look_putP ht (tkP_iff.2 (tkP_iff.1 (lookP_mem ht).2)), by omega⟩
    · rw [if_neg h2] at h; cases h
theorem mintP_sum {p : Pu} {o k : Int} {n w : ByteArray} (hv : 0 ≤ heldV p o n w) (hk : 0 ≤ k) (h : (mintP p o n w k).2 = 0) : (∀ o' n', sumP (mintP p o n w k).1 o' n' = sumP p o' n' + one o n o' n' k) ∧
    ∃ t, lookP (tkP o n) p.toks = some t ∧ lookP (tkP o n) (mintP p o n w k).1.toks = some { t with minted := t.minted + k } ∧ outM t + k ≤ t.cap := by
  unfold mintP at *
  cases ht : lookP (tkP o n) p.toks with
  | none => rw [ht] at h; cases h
  | some t =>
    rw [ht] at h
    simp only at h ⊢
    by_cases h1 : t.minted + k < 18446744073709551616
    · rw [if_pos h1] at h ⊢
      by_cases h2 : outM t + k < 18446744073709551616
      · rw [if_pos h2] at h ⊢
        by_cases h3 : outM t + k > t.cap
        · rw [if_pos h3] at h; cases h
        rw [if_neg h3] at h ⊢
        by_cases he : (grantP p o n w k).2 ≠ 0
        · rw [if_pos he] at h; exact absurd h he
        rw [if_neg he] at h ⊢
        have he : (grantP p o n w k).2 = 0 := by omega
        exact ⟨fun o' n' => (grantP_sum hv hk he o' n').1, t, rfl, look_putP ht (tkP_iff.2 (tkP_iff.1 (lookP_mem ht).2)), by omega⟩
      · rw [if_neg h2] at h; cases h
    · rw [if_neg h1] at h; cases h
theorem enlistP_sum {p : Pu} {o k : Int} {n : ByteArray} : (enlistP p o n k).1.holds = p.holds := by
  unfold enlistP
  split
  · rfl
  split
  · rfl
  split <;> rfl
theorem grantP_err {p : Pu} {o k : Int} {n w : ByteArray} (h : (grantP p o n w k).2 ≠ 0) : (grantP p o n w k).1 = p := by
  unfold grantP at *
  split
  · rfl
  rename_i t ht
  rw [ht] at h
  simp only at h
  split
  · rfl
  rename_i hc
  rw [if_neg hc] at h
  split
  · rename_i hc2; rw [if_pos hc2] at h; exact absurd rfl h
  · rfl
end Go.Proofs.YtmdfpifcghmpfaaDoor
