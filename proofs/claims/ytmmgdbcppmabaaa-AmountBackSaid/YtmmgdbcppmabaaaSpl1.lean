/- What the two 'Split's compute: a part of a number, and the rest. -/
import Derived.Test.YtmmgdbcppmabaaaDiv4
namespace Go.Proofs.Ytmmgdbcppmabaaa
open Go.Ab

/-- The part. -/
def part (n p w : Nat) : Nat := if w ≤ p then n else n * p / w

theorem part_le (n p w : Nat) : part n p w ≤ n := by
  unfold part
  split
  · exact Nat.le_refl _
  · rename_i h
    refine Nat.div_le_of_le_mul ?_
    rw [Nat.mul_comm w]
    exact Nat.mul_le_mul_left _ (by omega)

theorem divs_c {hi lo y : Nat} (hh : hi < y) (hy : y < 18446744073709551616) (hl : lo < 18446744073709551616) :
    CallR cx 24 [u64 hi, u64 lo, u64 y] [] fun r S => r = .tup [u64 (((hi * 18446744073709551616 + lo) / y : Nat) : Int), u64 (((hi * 18446744073709551616 + lo) % y : Nat) : Int)] ∧ S = [] := by
  by_cases h : hi = 0
  · subst h
    rw [Nat.zero_mul, Nat.zero_add]
    exact div_small hl hy (by omega)
  · exact div_c (by omega) hh hy hl

theorem rest_n {n q : Nat} (h : q ≤ n) (hn : n < 18446744073709551616) : IntKind.u64.wrap ((n : Int) - (q : Int)) = ((n - q : Nat) : Int) := by
  rw [wrapU ⟨by omega, by omega⟩]; omega

theorem split_c {n p w : Nat} (hn : n < 18446744073709551616) (hp : p < 18446744073709551616) (hw : w < 18446744073709551616) :
    CallR cx 9 [u64 n, u64 p, u64 w] [] fun r S => r = .tup [u64 ((part n p w : Nat) : Int), u64 ((n - part n p w : Nat) : Int)] ∧ S = [] := by
  have hle := part_le n p w
  refine callR_of (R := R1) cx_ok Try.func9 (by kernel_rfl) rfl ?_
  conv => whnf
  refine brec (fun h => ?_) (fun h => ?_)
  · conv => whnf
    have h := of_decide_eq_true h
    have e : part n p w = n := by unfold part; rw [if_pos (by omega)]
    rw [e, Nat.sub_self]
    exact ⟨rfl, rfl⟩
  · conv => whnf
    have h := of_decide_eq_false h
    have e : part n p w = n * p / w := by unfold part; rw [if_neg (by omega)]
    refine ⟨_, mul_c hn hp, ?_⟩
    rintro _ _ ⟨rfl, rfl⟩
    conv => whnf
    have hlt : n * p / 18446744073709551616 < w := by
      rw [Nat.div_lt_iff_lt_mul (by decide)]
      have h1 : n * p ≤ n * w := Nat.mul_le_mul_left _ (by omega)
      have h2 : n * w < 18446744073709551616 * w := Nat.mul_lt_mul_of_pos_right hn (by omega)
      rw [Nat.mul_comm w]
      omega
    refine ⟨_, divs_c hlt hw (Nat.mod_lt _ (by decide)), ?_⟩
    rintro _ _ ⟨rfl, rfl⟩
    have e2 : n * p / 18446744073709551616 * 18446744073709551616 + n * p % 18446744073709551616 = n * p := by
      rw [Nat.mul_comm]; exact Nat.div_add_mod _ _
    rw [e2, ← e]
    conv => whnf
    have e3 := rest_n hle hn
    refine ⟨?_, rfl⟩
    rw [← e3]
    rfl

/-- So far 'q' times, and 'r'. -/
structure Sp (p w m q r : Nat) : Prop where
  eq : q * w + r = m * p
  lt : r < w

variable {p w m q r : Nat}

theorem Sp.le (h : Sp p w m q r) (hp : p < w) : q ≤ m := by
  obtain ⟨e, lt⟩ := h
  rcases Nat.lt_or_ge m q with g | g
  · have h1 : (m + 1) * w ≤ q * w := Nat.mul_le_mul_right _ g
    have h2 : m * p ≤ m * w := Nat.mul_le_mul_left _ (by omega)
    rw [Nat.add_mul, Nat.one_mul] at h1
    omega
  · exact g

theorem Sp.double1 (h : Sp p w m q r) (c : w - r ≤ r) : Sp p w (2 * m) (2 * q + 1) (r - (w - r)) := by
  obtain ⟨e, lt⟩ := h
  refine ⟨?_, by omega⟩
  rw [Nat.add_mul, Nat.mul_assoc, Nat.mul_assoc, ← e]
  omega

theorem Sp.double0 (h : Sp p w m q r) (c : r < w - r) : Sp p w (2 * m) (2 * q) (2 * r) := by
  obtain ⟨e, lt⟩ := h
  refine ⟨?_, by omega⟩
  rw [Nat.mul_assoc, Nat.mul_assoc, ← e]
  omega

theorem Sp.add1 (h : Sp p w m q r) (hp : p < w) (c : w - p ≤ r) : Sp p w (m + 1) (q + 1) (r - (w - p)) := by
  obtain ⟨e, lt⟩ := h
  refine ⟨?_, by omega⟩
  rw [Nat.add_mul, Nat.add_mul, ← e]
  omega

theorem Sp.add0 (h : Sp p w m q r) (c : r < w - p) : Sp p w (m + 1) q (r + p) := by
  obtain ⟨e, lt⟩ := h
  refine ⟨?_, by omega⟩
  rw [Nat.add_mul, ← e]
  omega

theorem half_n (n i : Nat) : n / 2 ^ i = 2 * (n / 2 ^ (i + 1)) + n / 2 ^ i % 2 := by
  rw [Nat.pow_succ, ← Nat.div_div_eq_div_mul]
  omega

set_option maxHeartbeats 4000000 in
theorem rsplit_c {n p w : Nat} (hn : n < 18446744073709551616) (hp : p < 18446744073709551616) (hw : w < 18446744073709551616) :
    CallR cx 10 [u64 n, u64 p, u64 w] [] fun r S => r = .tup [u64 ((part n p w : Nat) : Int), u64 ((n - part n p w : Nat) : Int)] ∧ S = [] := by
  have hle := part_le n p w
  refine callR_of (R := R1) cx_ok Try.func10 (by kernel_rfl) rfl ?_
  conv => whnf
  refine brec (fun h => ?_) (fun h => ?_)
  · conv => whnf
    have h := of_decide_eq_true h
    have e : part n p w = n := by unfold part; rw [if_pos (by omega)]
    rw [e, Nat.sub_self]
    exact ⟨rfl, rfl⟩
  conv => whnf
  have h := of_decide_eq_false h
  have hpw : p < w := by omega
  have e : part n p w = n * p / w := by unfold part; rw [if_neg (by omega)]
  clear h
  refine ⟨fun k l S => ∃ j q r : Nat, j ≤ 64 ∧ Sp p w (n / 2 ^ j) q r ∧ k = j ∧ l = [(0, u64 n), (1, u64 p), (2, u64 w), (8, u64 q), (9, u64 r), (10, i64 ((j : Int) - 1))] ∧ S = [],
    ⟨_, _, ⟨64, 0, 0, by decide, ⟨by rw [Nat.div_eq_of_lt hn]; simp, by omega⟩, rfl, rfl, rfl⟩, ⟨rfl, rfl, rfl, rfl, rfl, rfl, trivial⟩⟩, ?_⟩
  rintro j _ _ ⟨_, q, r, hj, sp, rfl, rfl, rfl⟩
  conv => whnf
  refine brec (fun h => ?_) (fun h => ?_)
  rotate_left
  · have h := of_decide_eq_false h
    obtain rfl : j = 0 := by omega
    rw [Nat.pow_zero, Nat.div_one] at sp
    conv => whnf
    have eq : q = part n p w := by
      rw [e, ← sp.eq, Nat.add_comm, Nat.add_mul_div_right _ _ (by omega), Nat.div_eq_of_lt sp.lt, Nat.zero_add]
    rw [← eq] at hle ⊢
    refine ⟨?_, rfl⟩
    rw [← rest_n hle hn]
    rfl
  have h := of_decide_eq_true h
  obtain ⟨i, rfl⟩ : ∃ i, j = i + 1 := ⟨j - 1, by omega⟩
  have hm : 2 * (n / 2 ^ (i + 1)) + 1 ≤ n / 2 ^ i + 1 := by have := half_n n i; omega
  have hm2 := Nat.div_le_self n (2 ^ i)
  have hb := half_n n i
  have e10 : IntKind.i64.wrap (((i + 1 : Nat) : Int) - 1 - 1) = (i : Int) - 1 := by rw [IntKind.wrap_i64]; omega
  have ebit : ((n : Int).fdiv (2 ^ min (IntKind.u64.wrap (((i + 1 : Nat) : Int) - 1)).toNat IntKind.u64.bits)).tmod 2 = ((n / 2 ^ i % 2 : Nat) : Int) := by
    have : (((i + 1 : Nat) : Int) - 1) = (i : Int) := by omega
    rw [this, shr_n (by omega)]
    rfl
  have e8 := sp.le hpw
  generalize n / 2 ^ (i + 1) = m at *
  generalize hm' : n / 2 ^ i = m' at *
  conv => whnf
  have e1 : IntKind.u64.wrap (2 * (q : Int)) = ((2 * q : Nat) : Int) := by rw [wrapU ⟨by omega, by omega⟩]; omega
  have e2 : IntKind.u64.wrap ((w : Int) - r) = ((w - r : Nat) : Int) := rest_n (by have := sp.lt; omega) hw
  refine brec (fun c => ?_) (fun c => ?_)
  · have c := of_decide_eq_true c
    rw [e2] at c
    have sp' := sp.double1 (by omega)
    have e3 : IntKind.u64.wrap (IntKind.u64.wrap (2 * (q : Int)) + 1) = ((2 * q + 1 : Nat) : Int) := by
      have := sp'.le hpw
      rw [e1, wrapU ⟨by omega, by omega⟩]; omega
    have e4 : IntKind.u64.wrap ((r : Int) - IntKind.u64.wrap ((w : Int) - r)) = ((r - (w - r) : Nat) : Int) := by
      rw [e2]; exact rest_n (by omega) (by have := sp.lt; omega)
    conv => whnf
    rw [e3, e4]
    clear e3 e4 e1 e2 e8 c
    generalize 2 * q + 1 = q1 at sp' ⊢
    generalize r - (w - r) = r1 at sp' ⊢
    refine ⟨wrap_nonneg _, ?_⟩
    conv => whnf
    refine ⟨by decide, ?_⟩
    conv => whnf
    refine brec (fun b => ?_) (fun b => ?_)
    · have b := eq_of_beq b
      rw [ebit] at b
      have hmm : m' = 2 * m + 1 := by omega
      have e5 : IntKind.u64.wrap ((w : Int) - p) = ((w - p : Nat) : Int) := rest_n (by omega) hw
      conv => whnf
      refine brec (fun c => ?_) (fun c => ?_)
      · have c := of_decide_eq_true c
        rw [e5] at c
        have sp2 := sp'.add1 hpw (by omega)
        have l2 := sp2.le hpw
        have e6 : IntKind.u64.wrap ((q1 : Int) + 1) = ((q1 + 1 : Nat) : Int) := by rw [wrapU ⟨by omega, by omega⟩]; omega
        have e7 : IntKind.u64.wrap ((r1 : Int) - IntKind.u64.wrap ((w : Int) - p)) = ((r1 - (w - p) : Nat) : Int) := by
          rw [e5]; exact rest_n (by omega) (by have := sp'.lt; omega)
        conv => whnf
        exact ⟨_, _, 0, Nat.lt_succ_self i, ⟨i, q1 + 1, r1 - (w - p), by omega, by rw [hm', hmm]; exact sp2, rfl, rfl, rfl⟩,
          ⟨rfl, rfl, rfl, congrArg (fun z => some (u64 z)) e6, congrArg (fun z => some (u64 z)) e7, congrArg (fun z => some (i64 z)) e10, trivial⟩, rfl⟩
      · have c := of_decide_eq_false c
        rw [e5] at c
        have sp2 := sp'.add0 (by omega)
        have e7 : IntKind.u64.wrap ((r1 : Int) + p) = ((r1 + p : Nat) : Int) := by
          have := sp2.lt
          rw [wrapU ⟨by omega, by omega⟩]; omega
        conv => whnf
        exact ⟨_, _, 0, Nat.lt_succ_self i, ⟨i, q1, r1 + p, by omega, by rw [hm', hmm]; exact sp2, rfl, rfl, rfl⟩,
          ⟨rfl, rfl, rfl, rfl, congrArg (fun z => some (u64 z)) e7, congrArg (fun z => some (i64 z)) e10, trivial⟩, rfl⟩
    · have b := ne_of_beq_false b
      rw [ebit] at b
      have hmm : m' = 2 * m := by omega
      conv => whnf
      exact ⟨_, _, 0, Nat.lt_succ_self i, ⟨i, q1, r1, by omega, by rw [hm', hmm]; exact sp', rfl, rfl, rfl⟩,
        ⟨rfl, rfl, rfl, rfl, rfl, congrArg (fun z => some (i64 z)) e10, trivial⟩, rfl⟩
  · have c := of_decide_eq_false c
    rw [e2] at c
    have sp' := sp.double0 (by omega)
    have e4 : IntKind.u64.wrap (2 * (r : Int)) = ((2 * r : Nat) : Int) := by
      have := sp.lt
      rw [wrapU ⟨by omega, by omega⟩]; omega
    conv => whnf
    rw [e1, e4]
    clear e4 e1 e2 e8 c
    generalize 2 * q = q1 at sp' ⊢
    generalize 2 * r = r1 at sp' ⊢
    refine ⟨wrap_nonneg _, ?_⟩
    conv => whnf
    refine ⟨by decide, ?_⟩
    conv => whnf
    refine brec (fun b => ?_) (fun b => ?_)
    · have b := eq_of_beq b
      rw [ebit] at b
      have hmm : m' = 2 * m + 1 := by omega
      have e5 : IntKind.u64.wrap ((w : Int) - p) = ((w - p : Nat) : Int) := rest_n (by omega) hw
      conv => whnf
      refine brec (fun c => ?_) (fun c => ?_)
      · have c := of_decide_eq_true c
        rw [e5] at c
        have sp2 := sp'.add1 hpw (by omega)
        have l2 := sp2.le hpw
        have e6 : IntKind.u64.wrap ((q1 : Int) + 1) = ((q1 + 1 : Nat) : Int) := by rw [wrapU ⟨by omega, by omega⟩]; omega
        have e7 : IntKind.u64.wrap ((r1 : Int) - IntKind.u64.wrap ((w : Int) - p)) = ((r1 - (w - p) : Nat) : Int) := by
          rw [e5]; exact rest_n (by omega) (by have := sp'.lt; omega)
        conv => whnf
        exact ⟨_, _, 0, Nat.lt_succ_self i, ⟨i, q1 + 1, r1 - (w - p), by omega, by rw [hm', hmm]; exact sp2, rfl, rfl, rfl⟩,
          ⟨rfl, rfl, rfl, congrArg (fun z => some (u64 z)) e6, congrArg (fun z => some (u64 z)) e7, congrArg (fun z => some (i64 z)) e10, trivial⟩, rfl⟩
      · have c := of_decide_eq_false c
        rw [e5] at c
        have sp2 := sp'.add0 (by omega)
        have e7 : IntKind.u64.wrap ((r1 : Int) + p) = ((r1 + p : Nat) : Int) := by
          have := sp2.lt
          rw [wrapU ⟨by omega, by omega⟩]; omega
        conv => whnf
        exact ⟨_, _, 0, Nat.lt_succ_self i, ⟨i, q1, r1 + p, by omega, by rw [hm', hmm]; exact sp2, rfl, rfl, rfl⟩,
          ⟨rfl, rfl, rfl, rfl, congrArg (fun z => some (u64 z)) e7, congrArg (fun z => some (i64 z)) e10, trivial⟩, rfl⟩
    · have b := ne_of_beq_false b
      rw [ebit] at b
      have hmm : m' = 2 * m := by omega
      conv => whnf
      exact ⟨_, _, 0, Nat.lt_succ_self i, ⟨i, q1, r1, by omega, by rw [hm', hmm]; exact sp', rfl, rfl, rfl⟩,
        ⟨rfl, rfl, rfl, rfl, rfl, congrArg (fun z => some (i64 z)) e10, trivial⟩, rfl⟩
end Go.Proofs.Ytmmgdbcppmabaaa
