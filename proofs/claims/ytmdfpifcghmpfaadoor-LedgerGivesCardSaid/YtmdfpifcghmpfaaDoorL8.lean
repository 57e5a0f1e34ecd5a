/- Ledgers: a block more. -/
import Derived.Test.YtmdfpifcghmpfaaDoorL7
namespace Go.Proofs.YtmdfpifcghmpfaaDoor
open Go.Ab Go.RowKit

def tickL (l : Lg) (n : Int) : Lg × Int := if n > 1000000 then (l, 2) else if l.time + n > 1099511627776 then (l, 10) else if l.height = 18446744073709551615 then (l, 10) else ({ l with height := l.height + 1, time := l.time + n, gas := 0 }, 0)

theorem tick_c {l : Lg} {n : Int} (hl : l.ok) (hn : U n) : CallR cx 66 [.d l.d, u64 n] [] fun r S => r = .tup [.d (tickL l n).1.d, i64 (tickL l n).2] ∧ S = [] := by
  have ad := add_c hl.1.2.1 hn
  have h0 := hl.1.1
  have h1 := hl.1.2.1
  obtain ⟨h, t, g, al, es⟩ := l
  simp only at ad h0 h1
  unfold tickL
  simp only
  unfold U at h0 h1 hn
  obtain ⟨A, hA⟩ : ∃ A : Int, A = 1000000 := ⟨_, rfl⟩
  obtain ⟨B, hB⟩ : ∃ B : Int, B = 1099511627776 := ⟨_, rfl⟩
  obtain ⟨C, hC⟩ : ∃ C : Int, C = 18446744073709551615 := ⟨_, rfl⟩
  rw [← hA, ← hB, ← hC]
  refine callR_of (R := R1) cx_ok Tryd.func66 (by kernel_rfl) rfl ?_
  conv => whnf
  rw [← hA]
  by_cases c0 : n > A
  · rw [if_pos c0]
    refine brT (decide_eq_true c0) ?_
    conv => whnf
    exact ⟨rfl, rfl⟩
  rw [if_neg c0]
  refine brF (decide_eq_false c0) ?_
  conv => whnf
  by_cases c9 : t + n < 18446744073709551616
  rotate_left
  · rw [if_neg c9, if_neg c9] at ad
    rw [if_pos (by omega)]
    refine ⟨_, ad, ?_⟩
    rintro _ _ ⟨rfl, rfl⟩
    conv => whnf
    exact ⟨rfl, rfl⟩
  rw [if_pos c9, if_pos c9] at ad
  refine ⟨_, ad, ?_⟩
  rintro _ _ ⟨rfl, rfl⟩
  conv => whnf
  rw [← hB]
  by_cases c : t + n > B
  · rw [if_pos c]
    refine brT (decide_eq_true c) ?_
    conv => whnf
    exact ⟨rfl, rfl⟩
  rw [if_neg c]
  refine brF (decide_eq_false c) ?_
  conv => whnf
  rw [← hC]
  by_cases c2 : h = C
  · rw [if_pos c2]
    refine brT (beq_iff_eq.2 c2) ?_
    conv => whnf
    exact ⟨rfl, rfl⟩
  rw [if_neg c2]
  have e : IntKind.u64.wrap (h + 1) = h + 1 := by rw [Go.Ab.wrap64]; omega
  refine brF (beq_eq_false_iff_ne.2 c2) ?_
  conv => whnf
  rw [e]
  exact ⟨rfl, rfl⟩

theorem rtick_c {l : Lg} {n : Int} (hl : l.ok) (hn : U n) : CallR cx 67 [.d l.d, u64 n] [] fun r S => r = .tup [.d (tickL l n).1.d, i64 (tickL l n).2] ∧ S = [] := by
  have h0 := hl.1.1
  have h1 := hl.1.2.1
  obtain ⟨h, t, g, al, es⟩ := l
  simp only at h0 h1
  unfold tickL
  simp only
  unfold U at h0 h1 hn
  obtain ⟨A, hA⟩ : ∃ A : Int, A = 1000000 := ⟨_, rfl⟩
  obtain ⟨B, hB⟩ : ∃ B : Int, B = 1099511627776 := ⟨_, rfl⟩
  obtain ⟨C, hC⟩ : ∃ C : Int, C = 18446744073709551615 := ⟨_, rfl⟩
  rw [← hA, ← hB, ← hC]
  refine callR_of (R := R1) cx_ok Tryd.func67 (by kernel_rfl) rfl ?_
  conv => whnf
  rw [← hA]
  by_cases c0 : n > A
  · rw [if_pos c0]
    refine brT (decide_eq_true c0) ?_
    conv => whnf
    exact ⟨rfl, rfl⟩
  rw [if_neg c0]
  refine brF (decide_eq_false c0) ?_
  conv => whnf
  rw [← hB]
  by_cases c1 : t > B
  · rw [if_pos (by omega)]
    refine brT (decide_eq_true c1) ?_
    conv => whnf
    exact ⟨rfl, rfl⟩
  have e0 : IntKind.u64.wrap (B - t) = B - t := by rw [Go.Ab.wrap64]; omega
  refine brF (decide_eq_false c1) ?_
  conv => whnf
  rw [e0]
  by_cases c : t + n > B
  · rw [if_pos c]
    refine brT (decide_eq_true (by omega)) ?_
    conv => whnf
    exact ⟨rfl, rfl⟩
  rw [if_neg c]
  refine brF (decide_eq_false (by omega)) ?_
  conv => whnf
  rw [← hC]
  by_cases c2 : h = C
  · rw [if_pos c2]
    refine brT (beq_iff_eq.2 c2) ?_
    conv => whnf
    exact ⟨rfl, rfl⟩
  rw [if_neg c2]
  have e : IntKind.u64.wrap (h + 1) = h + 1 := by rw [Go.Ab.wrap64]; omega
  have e2 : IntKind.u64.wrap (t + n) = t + n := by rw [Go.Ab.wrap64]; omega
  refine brF (beq_eq_false_iff_ne.2 c2) ?_
  conv => whnf
  rw [e, e2]
  exact ⟨rfl, rfl⟩
end Go.Proofs.YtmdfpifcghmpfaaDoor
