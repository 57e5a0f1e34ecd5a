/- Ledgers: coins moved; gas, blocks. -/
import Derived.Test.YtmdfpifcghmpfaaDoorL4
namespace Go.Proofs.YtmdfpifcghmpfaaDoor
open Go.Ab Go.RowKit

theorem putA_len : ∀ (l : List Ac) (b : Ac), (putA l b).length = l.length
  | [], _ => rfl
  | a :: l, b => by
    rw [putA]
    split
    · rfl
    · rw [List.length_cons, List.length_cons, putA_len l b]
theorem putA_ok : ∀ {l : List Ac} {b : Ac}, (∀ a ∈ l, a.ok) → b.ok → ∀ a ∈ putA l b, a.ok
  | [], _, _, _, _, ha => by cases ha
  | c :: l, b, h, hb, a, ha => by
    rw [putA] at ha
    split at ha
    · rcases List.mem_cons.1 ha with rfl | ha
      · exact hb
      · exact h a (by simp [ha])
    · rcases List.mem_cons.1 ha with rfl | ha
      · exact h _ (by simp)
      · exact putA_ok (fun x hx => h x (by simp [hx])) hb a ha

theorem put_ok {l : Lg} {b : Ac} (hl : l.ok) (hb : b.ok) : Lg.ok { l with accs := putA l.accs b } :=
  ⟨hl.1, putA_ok hl.2.1 hb, by show (putA l.accs b).length ≤ _; rw [putA_len]; exact hl.2.2⟩

theorem giveL_ok {l : Lg} {who : ByteArray} {n : Int} (hl : l.ok) (hn : U n) : (giveL l who n).1.ok := by
  unfold giveL
  cases h : look l.accs who with
  | none => exact hl
  | some a =>
    have ha := hl.2.1 a (look_mem h).1
    simp only
    split
    · exact put_ok hl ⟨ha.1, by have := ha.2; unfold U at *; simp only; omega⟩
    · exact hl
theorem takeL_ok {l : Lg} {who : ByteArray} {n : Int} (hl : l.ok) (hn : U n) : (takeL l who n).1.ok := by
  unfold takeL
  cases h : look l.accs who with
  | none => exact hl
  | some a =>
    have ha := hl.2.1 a (look_mem h).1
    simp only
    split
    · exact hl
    · exact put_ok hl ⟨ha.1, by have := ha.2; unfold U at *; simp only; omega⟩
theorem bumpL_ok {l : Lg} {who : ByteArray} {n : Int} (hl : l.ok) (hn : U n) : (bumpL l who n).1.ok := by
  unfold bumpL
  cases h : look l.accs who with
  | none => exact hl
  | some a =>
    have ha := hl.2.1 a (look_mem h).1
    simp only
    split
    · exact hl
    split
    · exact hl
    · exact put_ok hl ⟨by unfold U at *; simp only; omega, ha.2⟩

def moveL (l : Lg) (fr to : ByteArray) (n : Int) : Lg × Int :=
  if (takeL l fr n).2 ≠ 0 then (l, (takeL l fr n).2) else if (giveL (takeL l fr n).1 to n).2 ≠ 0 then (l, (giveL (takeL l fr n).1 to n).2) else ((giveL (takeL l fr n).1 to n).1, 0)

theorem move_c {l : Lg} {fr to : ByteArray} {n : Int} (hl : l.ok) (hn : U n) : CallR cx 22 [.d l.d, st fr, st to, u64 n] [] fun r S => r = .tup [.d (moveL l fr to n).1.d, i64 (moveL l fr to n).2] ∧ S = [] := by
  have tk := take_c (who := fr) hl hn
  have gv := give_c (l := (takeL l fr n).1) (who := to) (takeL_ok hl hn) hn
  unfold moveL
  generalize takeL l fr n = T at *
  obtain ⟨m, e⟩ := T
  simp only at tk gv ⊢
  generalize giveL m to n = Q at *
  obtain ⟨k, f⟩ := Q
  simp only at gv ⊢
  obtain ⟨h1, t1, g1, a1, e1⟩ := l
  obtain ⟨h2, t2, g2, a2, e2⟩ := m
  obtain ⟨h3, t3, g3, a3, e3⟩ := k
  refine callR_of (R := R1) cx_ok Tryd.func22 (by kernel_rfl) rfl ?_
  conv => whnf
  refine ⟨_, tk, ?_⟩
  rintro _ _ ⟨rfl, rfl⟩
  conv => whnf
  by_cases c : e = 0
  · subst c
    rw [if_neg (by simp)]
    conv => whnf
    refine ⟨_, gv, ?_⟩
    rintro _ _ ⟨rfl, rfl⟩
    conv => whnf
    by_cases c2 : f = 0
    · subst c2
      rw [if_neg (by simp)]
      conv => whnf
      exact ⟨rfl, rfl⟩
    · rw [if_pos c2]
      refine brT (bne_iff_ne.2 c2) ?_
      conv => whnf
      exact ⟨rfl, rfl⟩
  · rw [if_pos c]
    refine brT (bne_iff_ne.2 c) ?_
    conv => whnf
    exact ⟨rfl, rfl⟩

def spendL (l : Lg) (n : Int) : Lg × Int := if l.gas + n ≤ 40 then ({ l with gas := l.gas + n }, 0) else (l, 23)

theorem spend_c {l : Lg} {n : Int} (hl : l.ok) (hn : U n) : CallR cx 64 [.d l.d, u64 n] [] fun r S => r = .tup [.d (spendL l n).1.d, i64 (spendL l n).2] ∧ S = [] := by
  have ad := add_c hl.1.2.2 hn
  have h0 := hl.1.2.2
  obtain ⟨h, t, g, al, es⟩ := l
  simp only at ad h0
  unfold spendL
  simp only
  unfold U at h0 hn
  refine callR_of (R := R1) cx_ok Tryd.func64 (by kernel_rfl) rfl ?_
  conv => whnf
  refine ⟨_, ad, ?_⟩
  rintro _ _ ⟨rfl, rfl⟩
  by_cases c : g + n ≤ 40
  · rw [if_pos c, if_pos (by omega), if_pos (by omega)]
    conv => whnf
    refine brF (decide_eq_false (by omega)) ?_
    conv => whnf
    exact ⟨rfl, rfl⟩
  · rw [if_neg c]
    by_cases c2 : g + n < 18446744073709551616
    · rw [if_pos c2, if_pos c2]
      conv => whnf
      refine brT (decide_eq_true (by omega)) ?_
      conv => whnf
      exact ⟨rfl, rfl⟩
    · rw [if_neg c2, if_neg c2]
      conv => whnf
      exact ⟨rfl, rfl⟩
end Go.Proofs.YtmdfpifcghmpfaaDoor
