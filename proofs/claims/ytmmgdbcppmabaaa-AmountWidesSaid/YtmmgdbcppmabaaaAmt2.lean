/- What 'Mul64' and 'Div64' with a high half of zero compute; the chapter's examples ('awake'). -/
import Derived.Test.YtmmgdbcppmabaaaAmt1
import Derived.Lib.Mul64
namespace Go.Proofs.Ytmmgdbcppmabaaa
open Go.Ab

theorem andMask (a : Nat) (ha : a < 18446744073709551616) : IntKind.u64.wrap ((BitVec.ofInt IntKind.u64.bits (a : Int) &&& BitVec.ofInt IntKind.u64.bits 4294967295).toNat : Int) = ((a % 4294967296 : Nat) : Int) := by
  have e : (BitVec.ofInt IntKind.u64.bits (a : Int) &&& BitVec.ofInt IntKind.u64.bits 4294967295).toNat = a % 4294967296 := by
    show (BitVec.ofInt 64 (a : Int) &&& BitVec.ofInt 64 4294967295).toNat = a % 4294967296
    rw [BitVec.toNat_and, BitVec.toNat_ofInt, BitVec.toNat_ofInt]
    have e1 : ((a : Int) % ((2 ^ 64 : Nat) : Int)).toNat = a := by omega
    have e2 : ((4294967295 : Int) % ((2 ^ 64 : Nat) : Int)).toNat = 2 ^ 32 - 1 := by decide
    rw [e1, e2, Nat.and_two_pow_sub_one_eq_mod]
  rw [e, wrap64]; omega
theorem shr32 (a : Nat) : (a : Int).fdiv (2 ^ min (32 : Int).toNat IntKind.u64.bits) = ((a / 4294967296 : Nat) : Int) := by
  show (a : Int).fdiv (2 ^ 32) = _
  rw [Int.fdiv_eq_ediv_of_nonneg _ (by decide)]
  omega
theorem mul_c {a b : Nat} (ha : a < 18446744073709551616) (hb : b < 18446744073709551616) :
    CallR cx 23 [u64 a, u64 b] [] fun r S => r = .tup [u64 ((a * b / 18446744073709551616 : Nat) : Int), u64 ((a * b % 18446744073709551616 : Nat) : Int)] ∧ S = [] := by
  refine callR_of (R := R1) cx_ok Try.func23 (by kernel_rfl) rfl ?_
  conv => whnf
  iterate 5 (refine ⟨by decide, ?_⟩; conv => whnf)
  obtain ⟨bd, bt, bw, hhi⟩ := Lib.mul64_hi a b ha hb
  have ba := Lib.half_mul_le (a := a / 4294967296) (b := b / 4294967296) (by omega) (by omega)
  have bb := Lib.half_mul_le (a := a / 4294967296) (b := b % 4294967296) (by omega) (by omega)
  have bc := Lib.half_mul_le (a := a % 4294967296) (b := b / 4294967296) (by omega) (by omega)
  have wn : ∀ n : Nat, n < 18446744073709551616 → IntKind.u64.wrap (n : Int) = n := fun n h => wrapU ⟨by omega, by omega⟩
  have mm : ∀ m n : Nat, (m : Int) * (n : Int) = ((m * n : Nat) : Int) := fun m n => (Int.natCast_mul m n).symm
  have aa : ∀ m n : Nat, (m : Int) + (n : Int) = ((m + n : Nat) : Int) := fun m n => (Int.natCast_add m n).symm
  have wm : ∀ n : Nat, IntKind.u64.wrap (n : Int) = ((n % 18446744073709551616 : Nat) : Int) := fun n => by rw [wrap64]; omega
  simp only [andMask a ha, andMask b hb, shr32, mm, aa, wn _ bd, wn (a / 4294967296 * (b % 4294967296)) (by omega), wn _ bt, andMask _ bt, wn (a % 4294967296 * (b / 4294967296)) (by omega), wn _ bw, wn (a / 4294967296 * (b / 4294967296)) (by omega)]
  rw [wn (a / 4294967296 * (b / 4294967296) + _) (by omega)]
  simp only [aa]
  rw [wn (_ + _) (by omega), hhi, wm]
  exact ⟨rfl, rfl⟩

theorem div_small {a b : Nat} (ha : a < 18446744073709551616) (hb : b < 18446744073709551616) (hb0 : 0 < b) :
    CallR cx 24 [u64 0, u64 a, u64 b] [] fun r S => r = .tup [u64 ((a / b : Nat) : Int), u64 ((a % b : Nat) : Int)] ∧ S = [] := by
  refine callR_of (R := R1) cx_ok Try.func24 (by kernel_rfl) rfl ?_
  conv => whnf
  refine brec (fun h => absurd (eq_of_beq h) (by omega)) (fun h => ?_)
  conv => whnf
  refine brec (fun h => absurd (of_decide_eq_true h) (by omega)) (fun h => ?_)
  conv => whnf
  refine ⟨by kernel_rfl, ?_⟩
  conv => whnf
  refine ⟨by omega, ?_⟩
  conv => whnf
  refine ⟨by omega, ?_⟩
  conv => whnf
  refine ⟨by kernel_rfl, ?_⟩
  conv => whnf
  have e1 : IntKind.u64.wrap ((a : Int).tdiv b) = ((a / b : Nat) : Int) := by
    rw [← Int.ofNat_tdiv]
    have := Nat.div_le_self a b
    generalize a / b = q at *
    exact wrapU ⟨by omega, by omega⟩
  have e2 : ((a : Int).tmod b) = ((a % b : Nat) : Int) := (Int.ofNat_tmod a b).symm
  rw [e1, e2]
  exact ⟨rfl, rfl⟩

theorem split_100 : CallR cx 9 [u64 100, u64 1, u64 3] [] fun r S => r = .tup [u64 33, u64 67] ∧ S = [] := by
  refine callR_of (R := R1) cx_ok Try.func9 (by kernel_rfl) rfl ?_
  conv => whnf
  refine ⟨_, mul_c (a := 100) (b := 1) (by decide) (by decide), ?_⟩
  rintro _ _ ⟨rfl, rfl⟩
  conv => whnf
  refine ⟨_, div_small (a := 100) (b := 3) (by decide) (by decide) (by decide), ?_⟩
  rintro _ _ ⟨rfl, rfl⟩
  conv => whnf
  exact ⟨rfl, rfl⟩

theorem awake_c : CallR cx 8 [] [] fun r S => r = bo true ∧ S = [] := by
  refine callR_of (R := R1) cx_ok Try.func8 (by kernel_rfl) rfl ?_
  conv => whnf
  refine ⟨_, add_c (a := 18446744073709551615) (b := 1) ⟨by decide, by decide⟩ ⟨by decide, by decide⟩, ?_⟩
  rintro _ _ ⟨rfl, rfl⟩
  conv => whnf
  refine ⟨_, split_100, ?_⟩
  rintro _ _ ⟨rfl, rfl⟩
  conv => whnf
  exact ⟨rfl, rfl⟩

end Go.Proofs.Ytmmgdbcppmabaaa
