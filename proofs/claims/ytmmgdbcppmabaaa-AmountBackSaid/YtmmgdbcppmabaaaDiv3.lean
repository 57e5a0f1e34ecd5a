/- What 'Div64' computes: quotient and rest of 128 bits by 64. -/
import Derived.Test.YtmmgdbcppmabaaaDiv2
namespace Go.Proofs.Ytmmgdbcppmabaaa
open Go.Ab

theorem wrap_nonneg (z : Int) : 0 ≤ IntKind.u64.wrap z := (U_wrap z).1
theorem wrapN {n : Nat} (h : n < 18446744073709551616) : IntKind.u64.wrap (n : Int) = n := wrapU ⟨by omega, by omega⟩

theorem sh_amount {s : Nat} (h : s ≤ 64) : min (IntKind.u64.wrap (s : Int)).toNat IntKind.u64.bits = s := by
  rw [wrapN (by omega), Int.toNat_natCast]
  exact Nat.min_eq_left h

theorem cast_mul_pow (a s : Nat) : (a : Int) * 2 ^ s = ((a * 2 ^ s : Nat) : Int) := by
  rw [Int.natCast_mul, Int.natCast_pow]; rfl

theorem shl_n {a s : Nat} (h : s ≤ 64) : IntKind.u64.wrap ((a : Int) * 2 ^ min (IntKind.u64.wrap (s : Int)).toNat IntKind.u64.bits) = ((a * 2 ^ s % 18446744073709551616 : Nat) : Int) := by
  rw [sh_amount h, cast_mul_pow, wrap64]; omega

theorem shr_n {a s : Nat} (h : s ≤ 64) : (a : Int).fdiv (2 ^ min (IntKind.u64.wrap (s : Int)).toNat IntKind.u64.bits) = ((a / 2 ^ s : Nat) : Int) := by
  rw [sh_amount h, Int.fdiv_eq_ediv_of_nonneg _ (by exact Int.le_of_lt (Int.pow_pos (by decide)))]
  rw [Int.natCast_ediv, Int.natCast_pow]; rfl

theorem shr_m {a s : Nat} (h : s ≤ 64) : (a : Int).fdiv (2 ^ min (IntKind.u64.wrap (64 - IntKind.u64.wrap (s : Int))).toNat IntKind.u64.bits) = ((a / 2 ^ (64 - s) : Nat) : Int) := by
  have e : (64 - IntKind.u64.wrap (s : Int)) = ((64 - s : Nat) : Int) := by rw [wrapN (by omega)]; omega
  rw [e]
  exact shr_n (by omega)

theorem or_sum {a b s : Nat} (hb : b < 2 ^ s) : a * 2 ^ s ||| b = a * 2 ^ s + b := by
  rw [← Nat.shiftLeft_eq, ← Nat.shiftLeft_add_eq_or_of_lt hb]

theorem or_n {a b : Nat} (ha : a < 18446744073709551616) (hb : b < 18446744073709551616) : IntKind.u64.wrap ((BitVec.ofInt IntKind.u64.bits (a : Int) ||| BitVec.ofInt IntKind.u64.bits (b : Int)).toNat : Int) = ((a ||| b : Nat) : Int) := by
  have e : (BitVec.ofInt IntKind.u64.bits (a : Int) ||| BitVec.ofInt IntKind.u64.bits (b : Int)).toNat = a ||| b := by
    show (BitVec.ofInt 64 (a : Int) ||| BitVec.ofInt 64 (b : Int)).toNat = _
    rw [BitVec.toNat_or, BitVec.toNat_ofInt, BitVec.toNat_ofInt]
    have e1 : ((a : Int) % ((2 ^ 64 : Nat) : Int)).toNat = a := by omega
    have e2 : ((b : Int) % ((2 ^ 64 : Nat) : Int)).toNat = b := by omega
    rw [e1, e2]
  rw [e]
  exact wrapN (Nat.or_lt_two_pow (n := 64) ha hb)

/-- The divisor with its highest bit, and what is divided by as much. -/
theorem div_norm {hi lo y s : Nat} (h0 : 0 < y) (hh : hi < y) (hy : y < 18446744073709551616) (hl : lo < 18446744073709551616) (hs : s = 64 - bl y) :
    s ≤ 64 ∧ 9223372036854775808 ≤ y * 2 ^ s ∧ y * 2 ^ s < 18446744073709551616 ∧ lo / 2 ^ (64 - s) < 2 ^ s ∧ hi * 2 ^ s + lo / 2 ^ (64 - s) < y * 2 ^ s ∧
      (hi * 2 ^ s + lo / 2 ^ (64 - s)) * 18446744073709551616 + lo * 2 ^ s % 18446744073709551616 = (hi * 18446744073709551616 + lo) * 2 ^ s := by
  obtain ⟨g1, g2⟩ := bl_spec (x := y) (by omega)
  have gb := bl_le (x := y) (k := 64) hy
  have g0 : 0 < bl y := by unfold bl; rw [if_neg (by omega)]; omega
  have es : 64 - s = bl y := by omega
  have e1 : 2 ^ (bl y - 1) * 2 ^ s = 9223372036854775808 := by
    rw [← Nat.pow_add]; have : bl y - 1 + s = 63 := by omega
    rw [this]
  have e2 : 2 ^ bl y * 2 ^ s = 18446744073709551616 := by
    rw [← Nat.pow_add]; have : bl y + s = 64 := by omega
    rw [this]
  have hp : 0 < 2 ^ s := Nat.two_pow_pos _
  have hq : 0 < 2 ^ bl y := Nat.two_pow_pos _
  have a1 := Nat.mul_le_mul_right (2 ^ s) g1
  have a2 := Nat.mul_lt_mul_of_pos_right g2 hp
  rw [es]
  have a3 : lo / 2 ^ bl y < 2 ^ s := by
    rw [Nat.div_lt_iff_lt_mul hq, Nat.mul_comm, e2]; exact hl
  have a4 : lo * 2 ^ s / 18446744073709551616 = lo / 2 ^ bl y := by
    rw [← e2, Nat.mul_comm (2 ^ bl y), Nat.mul_comm lo, Nat.mul_div_mul_left _ _ hp]
  have a5 : (hi * 2 ^ s + lo / 2 ^ bl y) * 18446744073709551616 + lo * 2 ^ s % 18446744073709551616 = (hi * 18446744073709551616 + lo) * 2 ^ s := by
    have h1 := Nat.div_add_mod (lo * 2 ^ s) 18446744073709551616
    rw [a4] at h1
    rw [Nat.add_mul, Nat.add_mul, Nat.mul_right_comm hi]
    generalize lo / 2 ^ bl y = z1 at *
    generalize lo * 2 ^ s = z2 at *
    generalize hi * 18446744073709551616 * 2 ^ s = z3 at *
    generalize hi * 2 ^ s = z4 at *
    omega
  have a6 : (hi + 1) * 2 ^ s ≤ y * 2 ^ s := Nat.mul_le_mul_right _ hh
  rw [Nat.add_mul, Nat.one_mul] at a6
  exact ⟨by omega, by omega, by omega, a3, by omega, a5⟩

theorem div_end {N y s q1 q0 r : Nat} (hy : 0 < y) (he : N * 2 ^ s = (q1 * 4294967296 + q0) * (y * 2 ^ s) + r) (hr : r < y * 2 ^ s) : q1 * 4294967296 + q0 = N / y ∧ r / 2 ^ s = N % y := by
  have hp : 0 < 2 ^ s := Nat.two_pow_pos _
  have hd : N * 2 ^ s / (y * 2 ^ s) = q1 * 4294967296 + q0 := by
    rw [he, Nat.mul_comm _ (y * 2 ^ s), Nat.mul_add_div (by omega), Nat.div_eq_of_lt hr, Nat.add_zero]
  have hm : N * 2 ^ s % (y * 2 ^ s) = r := by
    rw [he, Nat.mul_comm _ (y * 2 ^ s), Nat.mul_add_mod, Nat.mod_eq_of_lt hr]
  rw [Nat.mul_div_mul_right _ _ hp] at hd
  rw [Nat.mul_mod_mul_right] at hm
  exact ⟨hd.symm, by rw [← hm, Nat.mul_div_cancel _ hp]⟩
end Go.Proofs.Ytmmgdbcppmabaaa
