/- Division of 128 bits by 64, digit by digit of base 2^32: the plain facts of each step. -/
import Derived.Test.YtmmgdbcppmabaaaDiv1
namespace Go.Proofs.Ytmmgdbcppmabaaa
open Go.Ab

/-- A guess of a digit and its rest: of 'u' and the digit 'd' behind it, by 'yh' and 'yl'. -/
structure Kn (yh yl u d q r : Int) : Prop where
  eq : q * yh + r = u
  r0 : 0 ≤ r
  q0 : 0 ≤ q
  qb : q ≤ 4294967297
  lt : d + 4294967296 * r < q * yl + (yh * 4294967296 + yl)

/-- What the divisor and what is divided are. -/
structure Kd (yh yl u d : Int) : Prop where
  h0 : 2147483648 ≤ yh
  h1 : yh < 4294967296
  l0 : 0 ≤ yl
  l1 : yl < 4294967296
  u0 : 0 ≤ u
  u1 : u < yh * 4294967296 + yl
  d0 : 0 ≤ d
  d1 : d < 4294967296

variable {yh yl u d q r : Int}

theorem Kd.start (h : Kd yh yl u d) : Kn yh yl u d (u / yh) (u % yh) ∧ u % yh < 4294967296 := by
  obtain ⟨h0, h1, l0, l1, u0, u1, d0, d1⟩ := h
  have e := Int.mul_ediv_add_emod u yh
  rw [Int.mul_comm] at e
  have r0 := Int.emod_nonneg u (b := yh) (by omega)
  have r1 := Int.emod_lt_of_pos u (b := yh) (by omega)
  have q0 : 0 ≤ u / yh := Int.ediv_nonneg u0 (by omega)
  have p0 : 0 ≤ u / yh * yl := Int.mul_nonneg q0 l0
  refine ⟨⟨e, r0, q0, ?_, by omega⟩, by omega⟩
  have : u / yh < 4294967298 := by
    refine Int.ediv_lt_of_lt_mul (by omega) ?_
    omega
  omega

/-- The guess is too great. -/
theorem Kn.great (h : Kd yh yl u d) (k : Kn yh yl u d q r) (hc : 4294967296 ≤ q ∨ 4294967296 * r + d < q * yl) : 4294967296 * r + d < q * yl ∧ 1 ≤ q := by
  obtain ⟨h0, h1, l0, l1, u0, u1, d0, d1⟩ := h
  obtain ⟨e, r0, q0, qb, lt⟩ := k
  rcases hc with hc | hc
  · have g := Int.mul_nonneg (a := q - 4294967296) (b := yh * 4294967296 + yl) (by omega) (by omega)
    rw [Int.sub_mul, Int.mul_add q, ← Int.mul_assoc q] at g
    omega
  · refine ⟨hc, ?_⟩
    by_cases g : 0 < q
    · omega
    · have : q = 0 := by omega
      subst this
      rw [Int.zero_mul] at hc
      omega

theorem Kn.next (_h : Kd yh yl u d) (k : Kn yh yl u d q r) (hc : 4294967296 * r + d < q * yl) (hq : 1 ≤ q) (h0 : 2147483648 ≤ yh) : Kn yh yl u d (q - 1) (r + yh) := by
  obtain ⟨e, r0, q0, qb, lt⟩ := k
  refine ⟨?_, by omega, by omega, by omega, ?_⟩
  · rw [Int.sub_mul]; omega
  · rw [Int.sub_mul]; omega

/-- The guess is right: of its rest and it. -/
theorem Kn.right (h : Kd yh yl u d) (k : Kn yh yl u d q r) (hc : q * yl ≤ 4294967296 * r + d) : u * 4294967296 + d = q * (yh * 4294967296 + yl) + (4294967296 * r + d - q * yl) ∧
    0 ≤ 4294967296 * r + d - q * yl ∧ 4294967296 * r + d - q * yl < yh * 4294967296 + yl := by
  obtain ⟨e, r0, q0, qb, lt⟩ := k
  refine ⟨?_, by omega, by omega⟩
  rw [Int.mul_add, ← Int.mul_assoc]
  omega

theorem Kn.broken (h : Kd yh yl u d) (k : Kn yh yl u d q r) (hq : q ≤ 4294967296) (hr : 4294967296 ≤ r) : q * yl ≤ 4294967296 * r + d := by
  obtain ⟨h0, h1, l0, l1, u0, u1, d0, d1⟩ := h
  have := Int.mul_le_mul_of_nonneg_right hq l0
  omega

/-- A digit is less than the base. -/
theorem Kn.small (h : Kd yh yl u d) {x : Int} (he : u * 4294967296 + d = q * (yh * 4294967296 + yl) + x) (hx : 0 ≤ x) : q < 4294967296 := by
  obtain ⟨h0, h1, l0, l1, u0, u1, d0, d1⟩ := h
  by_cases g : q < 4294967296
  · exact g
  · have := Int.mul_le_mul_of_nonneg_right (a := 4294967296) (b := q) (c := yh * 4294967296 + yl) (by omega) (by omega)
    omega

/-- The products of a guess that is small are small. -/
theorem Kn.prod (h : Kd yh yl u d) (k : Kn yh yl u d q r) (hq : q < 4294967296) : 0 ≤ q * yl ∧ q * yl < 18446744073709551616 := by
  obtain ⟨h0, h1, l0, l1, u0, u1, d0, d1⟩ := h
  obtain ⟨e, r0, q0, qb, lt⟩ := k
  have := Int.mul_le_mul_of_nonneg_right (a := q) (b := 4294967295) (c := yl) (by omega) l0
  have := Int.mul_nonneg q0 l0
  omega

theorem wrap_rest (a b c : Int) : IntKind.u64.wrap (IntKind.u64.wrap (IntKind.u64.wrap (a * 4294967296) + b) - IntKind.u64.wrap c) = (a * 4294967296 + b - c) % 18446744073709551616 := by
  simp only [wrap64]; omega
end Go.Proofs.Ytmmgdbcppmabaaa
