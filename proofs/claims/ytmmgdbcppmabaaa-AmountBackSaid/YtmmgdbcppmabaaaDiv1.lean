/- How many bits a number has: 'Len64', 'LeadingZeros64'. -/
import Derived.Test.YtmmgdbcppmabaaaAmt2
namespace Go.Proofs.Ytmmgdbcppmabaaa
open Go.Ab

/-- How many bits. -/
def bl (x : Nat) : Nat := if x = 0 then 0 else Nat.log2 x + 1

theorem bl_spec {x : Nat} (h : x ≠ 0) : 2 ^ (bl x - 1) ≤ x ∧ x < 2 ^ bl x := by
  unfold bl
  rw [if_neg h]
  exact ⟨Nat.log2_self_le h, Nat.lt_log2_self⟩

theorem bl_unique {x n : Nat} (h0 : 0 < n) (h1 : 2 ^ (n - 1) ≤ x) (h2 : x < 2 ^ n) : bl x = n := by
  have hx : x ≠ 0 := by
    have : 0 < 2 ^ (n - 1) := Nat.two_pow_pos _
    omega
  obtain ⟨g1, g2⟩ := bl_spec hx
  have gp : 0 < bl x := by unfold bl; rw [if_neg hx]; omega
  rcases Nat.lt_trichotomy (bl x) n with h | h | h
  · have : 2 ^ bl x ≤ 2 ^ (n - 1) := Nat.pow_le_pow_right (by decide) (by omega)
    omega
  · exact h
  · have : 2 ^ n ≤ 2 ^ (bl x - 1) := Nat.pow_le_pow_right (by decide) (by omega)
    omega

theorem bl_div {x k : Nat} (h : 2 ^ k ≤ x) : bl x = k + bl (x / 2 ^ k) := by
  have hp : 0 < 2 ^ k := Nat.two_pow_pos _
  have hd : x / 2 ^ k ≠ 0 := by
    have := Nat.div_pos h hp
    omega
  obtain ⟨g1, g2⟩ := bl_spec hd
  have gp : 0 < bl (x / 2 ^ k) := by unfold bl; rw [if_neg hd]; omega
  refine bl_unique (by omega) ?_ ?_
  · have e : k + bl (x / 2 ^ k) - 1 = (bl (x / 2 ^ k) - 1) + k := by omega
    rw [e, Nat.pow_add]
    exact Nat.le_trans (Nat.mul_le_mul_right _ g1) (Nat.div_mul_le_self x (2 ^ k))
  · rw [Nat.add_comm, Nat.pow_add]
    exact (Nat.div_lt_iff_lt_mul hp).1 g2

theorem shr16 (a : Nat) : (a : Int).fdiv (2 ^ min (16 : Int).toNat IntKind.u64.bits) = ((a / 65536 : Nat) : Int) := by
  show (a : Int).fdiv (2 ^ 16) = _
  rw [Int.fdiv_eq_ediv_of_nonneg _ (by decide)]
  omega
theorem shr8 (a : Nat) : (a : Int).fdiv (2 ^ min (8 : Int).toNat IntKind.u64.bits) = ((a / 256 : Nat) : Int) := by
  show (a : Int).fdiv (2 ^ 8) = _
  rw [Int.fdiv_eq_ediv_of_nonneg _ (by decide)]
  omega

def tabB (T : ByteArray) : Bool := (List.range 256).all fun z => byteAt T z == (bl z : Int)

theorem bl_le {x k : Nat} (h : x < 2 ^ k) : bl x ≤ k := by
  by_cases hx : x = 0
  · subst hx; simp [bl]
  · obtain ⟨g1, _⟩ := bl_spec hx
    rcases Nat.lt_or_ge k (bl x) with g | g
    · have : 2 ^ k ≤ 2 ^ (bl x - 1) := Nat.pow_le_pow_right (by decide) (by omega)
      omega
    · exact g

theorem u8_ok (z : Int) : 0 ≤ IntKind.u8.wrap z ∧ IntKind.u8.wrap z < 256 := by
  have e : IntKind.u8.wrap z = z % 256 := by simp [IntKind.wrap, IntKind.bits, IntKind.signed]
  rw [e]; omega

theorem idx_ok {T : ByteArray} (h : Nat.beq T.size 256 = true) (z : Int) : 0 ≤ IntKind.u8.wrap z ∧ IntKind.u8.wrap z < T.size := by
  have := Nat.eq_of_beq_eq_true h
  have := u8_ok z
  omega

theorem wrap_i64 {n : Int} (h : 0 ≤ n ∧ n < 9223372036854775808) : IntKind.i64.wrap n = n := by
  rw [IntKind.wrap_i64]; omega

theorem len_end {T : ByteArray} (hT : tabB T = true) {n z x : Nat} (hz : z < 256) (hn : n ≤ 56) (hx : bl x = n + bl z) :
    IntKind.i64.wrap ((n : Int) + IntKind.i64.wrap (byteAt T (IntKind.u8.wrap (z : Int)).toNat)) = ((bl x : Nat) : Int) := by
  have e : IntKind.u8.wrap (z : Int) = z := by
    have e : IntKind.u8.wrap (z : Int) = (z : Int) % 256 := by simp [IntKind.wrap, IntKind.bits, IntKind.signed]
    rw [e]; omega
  have h := eq_of_beq (List.all_eq_true.1 hT z (List.mem_range.2 hz))
  have hb := bl_le (x := z) (k := 8) hz
  have e2 : IntKind.i64.wrap ((bl z : Nat) : Int) = (bl z : Nat) := wrap_i64 (by omega)
  rw [e, Int.toNat_natCast, h, e2, wrap_i64 (by omega), hx]
  omega

theorem bl32 {x : Nat} (h : 4294967296 ≤ x) : bl x = 32 + bl (x / 4294967296) := bl_div (k := 32) h
theorem bl16 {x : Nat} (h : 65536 ≤ x) : bl x = 16 + bl (x / 65536) := bl_div (k := 16) h
theorem bl8 {x : Nat} (h : 256 ≤ x) : bl x = 8 + bl (x / 256) := bl_div (k := 8) h

theorem len64_c {x : Nat} (hx : x < 18446744073709551616) : CallR cx 29 [u64 x] [] fun r S => r = i64 (bl x) ∧ S = [] := by
  refine callR_of (R := R1) cx_ok Try.func29 (by kernel_rfl) rfl ?_
  conv => whnf
  refine brec (fun h => ?_) (fun h => ?_)
  all_goals
    conv => whnf
    try (refine ⟨by decide, ?_⟩; conv => whnf)
    refine brec (fun g => ?_) (fun g => ?_)
  all_goals
    conv => whnf
    try (refine ⟨by decide, ?_⟩; conv => whnf)
    refine brec (fun k => ?_) (fun k => ?_)
  all_goals
    conv => whnf
    try (refine ⟨by decide, ?_⟩; conv => whnf)
    refine ⟨idx_ok (by kernel_rfl) _, ?_⟩
    conv => whnf
    try simp only [shr32, shr16, shr8, decide_eq_true_eq, decide_eq_false_iff_not] at h g k
    try simp only [shr32, shr16, shr8]
  · exact ⟨congrArg i64 (len_end (n := 56) (x := x) (by kernel_rfl) (by omega) (by decide) (by rw [bl32 (x := x) (by omega), bl16 (by omega), bl8 (by omega)]; omega)), rfl⟩
  · exact ⟨congrArg i64 (len_end (n := 48) (x := x) (by kernel_rfl) (by omega) (by decide) (by rw [bl32 (x := x) (by omega), bl16 (by omega)]; omega)), rfl⟩
  · exact ⟨congrArg i64 (len_end (n := 40) (x := x) (by kernel_rfl) (by omega) (by decide) (by rw [bl32 (x := x) (by omega), bl8 (by omega)]; omega)), rfl⟩
  · exact ⟨congrArg i64 (len_end (n := 32) (x := x) (by kernel_rfl) (by omega) (by decide) (by rw [bl32 (x := x) (by omega)])), rfl⟩
  · exact ⟨congrArg i64 (len_end (n := 24) (x := x) (by kernel_rfl) (by omega) (by decide) (by rw [bl16 (x := x) (by omega), bl8 (by omega)]; omega)), rfl⟩
  · exact ⟨congrArg i64 (len_end (n := 16) (x := x) (by kernel_rfl) (by omega) (by decide) (by rw [bl16 (x := x) (by omega)])), rfl⟩
  · exact ⟨congrArg i64 (len_end (n := 8) (x := x) (by kernel_rfl) (by omega) (by decide) (by rw [bl8 (x := x) (by omega)])), rfl⟩
  · exact ⟨congrArg i64 (len_end (n := 0) (x := x) (by kernel_rfl) (by omega) (by decide) (by simp)), rfl⟩

theorem lead_c {x : Nat} (hx : x < 18446744073709551616) : CallR cx 28 [u64 x] [] fun r S => r = i64 ((64 - bl x : Nat) : Int) ∧ S = [] := by
  have hb := bl_le (x := x) (k := 64) hx
  refine callR_of (R := R1) cx_ok Try.func28 (by kernel_rfl) rfl ?_
  conv => whnf
  refine ⟨_, len64_c hx, ?_⟩
  rintro _ _ ⟨rfl, rfl⟩
  conv => whnf
  refine ⟨congrArg i64 ?_, rfl⟩
  rw [wrap_i64 (by omega)]
  omega
end Go.Proofs.Ytmmgdbcppmabaaa
