/- Ledgers, the model's: what is given, taken, moved; nonces, gas. -/
import Derived.Test.YtmdfpifcghmpfaaDoorL6
namespace Go.Proofs.YtmdfpifcghmpfaaDoor
open Go.Ab Go.RowKit

theorem rgive_c {l : Lg} {who : ByteArray} {n : Int} (hl : l.ok) (hn : U n) : CallR cx 59 [.d l.d, st who, u64 n] [] fun r S => r = .tup [.d (giveL l who n).1.d, i64 (giveL l who n).2] ∧ S = [] := by
  have fd := rfind_c (who := who) hl
  have sc := fun b => set_c (b := b) hl
  have hok := hl.2.1
  have hlk := fun a => look_mem (l := l.accs) (who := who) (a := a)
  obtain ⟨h, t, g, al, es⟩ := l
  simp only at hok hlk sc
  unfold findL at fd
  unfold giveL
  simp only at fd ⊢
  cases hx : look al who with
  | none =>
    rw [hx] at fd
    simp only at fd ⊢
    refine callR_of (R := R1) cx_ok Tryd.func59 (by kernel_rfl) rfl ?_
    conv => whnf
    refine ⟨_, fd, ?_⟩
    rintro _ _ ⟨rfl, rfl⟩
    conv => whnf
    exact ⟨rfl, rfl⟩
  | some a =>
    rw [hx] at fd
    have ha := hok _ (hlk _ hx).1
    obtain ⟨nm, ky, nn, cn⟩ := a
    simp only at fd ⊢
    have ha1 := ha.1
    have ha2 := ha.2
    simp only at ha1 ha2
    have ad := radd_c ha2 hn
    refine callR_of (R := R1) cx_ok Tryd.func59 (by kernel_rfl) rfl ?_
    conv => whnf
    refine ⟨_, fd, ?_⟩
    rintro _ _ ⟨rfl, rfl⟩
    conv => whnf
    by_cases c : cn + n < 18446744073709551616
    · rw [if_pos c, if_pos c] at ad
      rw [if_pos c]
      refine ⟨_, ad, ?_⟩
      rintro _ _ ⟨rfl, rfl⟩
      conv => whnf
      refine ⟨_, sc ⟨nm, ky, nn, cn + n⟩, ?_⟩
      rintro _ _ ⟨rfl, rfl⟩
      conv => whnf
      exact ⟨rfl, rfl⟩
    · rw [if_neg c, if_neg c] at ad
      rw [if_neg c]
      refine ⟨_, ad, ?_⟩
      rintro _ _ ⟨rfl, rfl⟩
      conv => whnf
      exact ⟨rfl, rfl⟩


theorem rtake_c {l : Lg} {who : ByteArray} {n : Int} (hl : l.ok) (hn : U n) : CallR cx 60 [.d l.d, st who, u64 n] [] fun r S => r = .tup [.d (takeL l who n).1.d, i64 (takeL l who n).2] ∧ S = [] := by
  have fd := rfind_c (who := who) hl
  have sc := fun b => set_c (b := b) hl
  have hok := hl.2.1
  have hlk := fun a => look_mem (l := l.accs) (who := who) (a := a)
  obtain ⟨h, t, g, al, es⟩ := l
  simp only at hok hlk sc
  unfold findL at fd
  unfold takeL
  simp only at fd ⊢
  cases hx : look al who with
  | none =>
    rw [hx] at fd
    simp only at fd ⊢
    refine callR_of (R := R1) cx_ok Tryd.func60 (by kernel_rfl) rfl ?_
    conv => whnf
    refine ⟨_, fd, ?_⟩
    rintro _ _ ⟨rfl, rfl⟩
    conv => whnf
    exact ⟨rfl, rfl⟩
  | some a =>
    rw [hx] at fd
    have ha := hok _ (hlk _ hx).1
    obtain ⟨nm, ky, nn, cn⟩ := a
    simp only at fd ⊢
    have ha1 := ha.1
    have ha2 := ha.2
    simp only at ha1 ha2
    refine callR_of (R := R1) cx_ok Tryd.func60 (by kernel_rfl) rfl ?_
    conv => whnf
    refine ⟨_, fd, ?_⟩
    rintro _ _ ⟨rfl, rfl⟩
    conv => whnf
    unfold U at ha2 hn
    by_cases c : cn < n
    · rw [if_pos c]
      refine brT (decide_eq_true c) ?_
      conv => whnf
      exact ⟨rfl, rfl⟩
    · rw [if_neg c]
      have e : IntKind.u64.wrap (cn - n) = cn - n := by rw [Go.Ab.wrap64]; omega
      refine brF (decide_eq_false c) ?_
      conv => whnf
      rw [e]
      refine ⟨_, sc ⟨nm, ky, nn, cn - n⟩, ?_⟩
      rintro _ _ ⟨rfl, rfl⟩
      conv => whnf
      exact ⟨rfl, rfl⟩


theorem rbump_c {l : Lg} {who : ByteArray} {n : Int} (hl : l.ok) (hn : U n) : CallR cx 63 [.d l.d, st who, u64 n] [] fun r S => r = .tup [.d (bumpL l who n).1.d, i64 (bumpL l who n).2] ∧ S = [] := by
  have fd := rfind_c (who := who) hl
  have sc := fun b => set_c (b := b) hl
  have hok := hl.2.1
  have hlk := fun a => look_mem (l := l.accs) (who := who) (a := a)
  obtain ⟨h, t, g, al, es⟩ := l
  simp only at hok hlk sc
  unfold findL at fd
  unfold bumpL
  simp only at fd ⊢
  cases hx : look al who with
  | none =>
    rw [hx] at fd
    simp only at fd ⊢
    refine callR_of (R := R1) cx_ok Tryd.func63 (by kernel_rfl) rfl ?_
    conv => whnf
    refine ⟨_, fd, ?_⟩
    rintro _ _ ⟨rfl, rfl⟩
    conv => whnf
    exact ⟨rfl, rfl⟩
  | some a =>
    rw [hx] at fd
    have ha := hok _ (hlk _ hx).1
    obtain ⟨nm, ky, nn, cn⟩ := a
    simp only at fd ⊢
    have ha1 := ha.1
    have ha2 := ha.2
    simp only at ha1 ha2
    refine callR_of (R := R1) cx_ok Tryd.func63 (by kernel_rfl) rfl ?_
    conv => whnf
    refine ⟨_, fd, ?_⟩
    rintro _ _ ⟨rfl, rfl⟩
    conv => whnf
    unfold U at ha1 hn
    obtain ⟨C, hC⟩ : ∃ C : Int, C = 18446744073709551615 := ⟨_, rfl⟩
    rw [← hC]
    by_cases c : nn = n
    · subst c
      rw [if_neg (by simp)]
      refine brF (bne_eq_false_iff_eq.2 rfl) ?_
      conv => whnf
      by_cases c2 : nn = C
      · rw [if_pos c2]
        refine brT (beq_iff_eq.2 c2) ?_
        conv => whnf
        exact ⟨rfl, rfl⟩
      · rw [if_neg c2]
        have e : IntKind.u64.wrap (nn + 1) = nn + 1 := by rw [Go.Ab.wrap64]; omega
        refine brF (beq_eq_false_iff_ne.2 c2) ?_
        conv => whnf
        rw [e]
        refine ⟨_, sc ⟨nm, ky, nn + 1, cn⟩, ?_⟩
        rintro _ _ ⟨rfl, rfl⟩
        conv => whnf
        exact ⟨rfl, rfl⟩
    · rw [if_pos c]
      refine brT (bne_iff_ne.2 c) ?_
      conv => whnf
      exact ⟨rfl, rfl⟩


theorem rmove_c {l : Lg} {fr to : ByteArray} {n : Int} (hl : l.ok) (hn : U n) : CallR cx 61 [.d l.d, st fr, st to, u64 n] [] fun r S => r = .tup [.d (moveL l fr to n).1.d, i64 (moveL l fr to n).2] ∧ S = [] := by
  have tk := rtake_c (who := fr) hl hn
  have gv := rgive_c (l := (takeL l fr n).1) (who := to) (takeL_ok hl hn) hn
  unfold moveL
  generalize takeL l fr n = T at *
  obtain ⟨m, e⟩ := T
  simp only at tk gv ⊢
  generalize giveL m to n = Q at *
  obtain ⟨k, f⟩ := Q
  simp only at gv ⊢
  obtain ⟨h1, t1, g1, a1, e1⟩ := l
  obtain ⟨h2, t2, g2, a2, e2⟩ := m
  obtain ⟨h3, t3, g3, a3, e3⟩ := k
  refine callR_of (R := R1) cx_ok Tryd.func61 (by kernel_rfl) rfl ?_
  conv => whnf
  refine ⟨_, tk, ?_⟩
  rintro _ _ ⟨rfl, rfl⟩
  conv => whnf
  by_cases c : e = 0
  · subst c
    rw [if_neg (by simp)]
    conv => whnf
    refine ⟨_, gv, ?_⟩
    rintro _ _ ⟨rfl, rfl⟩
    conv => whnf
    by_cases c2 : f = 0
    · subst c2
      rw [if_neg (by simp)]
      conv => whnf
      exact ⟨rfl, rfl⟩
    · rw [if_pos c2]
      refine brT (bne_iff_ne.2 c2) ?_
      conv => whnf
      exact ⟨rfl, rfl⟩
  · rw [if_pos c]
    refine brT (bne_iff_ne.2 c) ?_
    conv => whnf
    exact ⟨rfl, rfl⟩


theorem rspend_c {l : Lg} {n : Int} (hl : l.ok) (hn : U n) : CallR cx 65 [.d l.d, u64 n] [] fun r S => r = .tup [.d (spendL l n).1.d, i64 (spendL l n).2] ∧ S = [] := by
  have h0 := hl.1.2.2
  obtain ⟨h, t, g, al, es⟩ := l
  simp only at h0
  unfold spendL
  simp only
  unfold U at h0 hn
  refine callR_of (R := R1) cx_ok Tryd.func65 (by kernel_rfl) rfl ?_
  conv => whnf
  by_cases c0 : g > 40
  · rw [if_neg (by omega)]
    refine brT (decide_eq_true c0) ?_
    conv => whnf
    exact ⟨rfl, rfl⟩
  have e : IntKind.u64.wrap (40 - g) = 40 - g := by rw [Go.Ab.wrap64]; omega
  refine brF (decide_eq_false c0) ?_
  conv => whnf
  rw [e]
  by_cases c : g + n ≤ 40
  · rw [if_pos c]
    have e2 : IntKind.u64.wrap (g + n) = g + n := by rw [Go.Ab.wrap64]; omega
    refine brF (decide_eq_false (by omega)) ?_
    conv => whnf
    rw [e2]
    exact ⟨rfl, rfl⟩
  · rw [if_neg c]
    refine brT (decide_eq_true (by omega)) ?_
    conv => whnf
    exact ⟨rfl, rfl⟩
end Go.Proofs.YtmdfpifcghmpfaaDoor
