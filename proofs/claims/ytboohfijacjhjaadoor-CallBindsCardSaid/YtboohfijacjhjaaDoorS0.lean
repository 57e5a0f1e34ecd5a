/- sha-256, in plain Lean; words of 32 bits as the logic's numbers. -/
import Derived.Test.YtboohfijacjhjaaDoorP3
set_option linter.unusedVariables false
namespace Go.Proofs.YtboohfijacjhjaaDoor
open Go.Ab

abbrev W32 := BitVec 32
def wi (x : W32) : Int := (x.toNat : Int)
abbrev wD (x : W32) : D := .int .u32 (wi x)
abbrev w32 (x : W32) : AV := .d (wD x)
def rotr (x : W32) (k : Nat) : W32 := x >>> k ||| x <<< (32 - k)

theorem wi_lt (x : W32) : wi x < 4294967296 := by unfold wi; have := x.isLt; omega
theorem wi_nn (x : W32) : 0 ≤ wi x := by unfold wi; omega
theorem wrap_lt {n : Nat} (h : n < 4294967296) : IntKind.u32.wrap (n : Int) = (n : Int) := by rw [IntKind.wrap_u32]; omega
theorem ofInt_wi (x : W32) : BitVec.ofInt IntKind.u32.bits (wi x) = x := by
  show BitVec.ofInt 32 (x.toNat : Int) = x
  simp
theorem w_add (x y : W32) : IntKind.u32.wrap (wi x + wi y) = wi (x + y) := by
  unfold wi
  rw [IntKind.wrap_u32, BitVec.toNat_add]
  omega
theorem w_back (x : W32) : IntKind.u32.wrap ((BitVec.toNat (w := IntKind.u32.bits) x : Nat) : Int) = wi x := wrap_lt x.isLt
theorem w_xor (x y : W32) : IntKind.u32.wrap ((BitVec.ofInt IntKind.u32.bits (wi x) ^^^ BitVec.ofInt IntKind.u32.bits (wi y)).toNat : Nat) = wi (x ^^^ y) := by
  rw [ofInt_wi, ofInt_wi]; exact w_back _
theorem w_and (x y : W32) : IntKind.u32.wrap ((BitVec.ofInt IntKind.u32.bits (wi x) &&& BitVec.ofInt IntKind.u32.bits (wi y)).toNat : Nat) = wi (x &&& y) := by
  rw [ofInt_wi, ofInt_wi]; exact w_back _
theorem w_or (x y : W32) : IntKind.u32.wrap ((BitVec.ofInt IntKind.u32.bits (wi x) ||| BitVec.ofInt IntKind.u32.bits (wi y)).toNat : Nat) = wi (x ||| y) := by
  rw [ofInt_wi, ofInt_wi]; exact w_back _
theorem w_xorF (x : W32) : IntKind.u32.wrap ((BitVec.ofInt IntKind.u32.bits 4294967295 ^^^ BitVec.ofInt IntKind.u32.bits (wi x)).toNat : Nat) = wi (~~~x) := by
  rw [ofInt_wi]
  have : (~~~x : W32) = BitVec.ofInt 32 4294967295 ^^^ x := by
    rw [BitVec.xor_comm, ← BitVec.xor_allOnes]
    rfl
  rw [this]
  exact w_back _
theorem w_not (x : W32) : IntKind.u32.wrap ((BitVec.ofInt IntKind.u32.bits (if IntKind.u32.signed then -1 else IntKind.u32.max) ^^^ BitVec.ofInt IntKind.u32.bits (wi x)).toNat : Nat) = wi (~~~x) := w_xorF x
theorem pow2 (k : Nat) : (2 : Int) ^ k = ((2 ^ k : Nat) : Int) := by rw [Int.natCast_pow]; rfl
theorem w_shr (x : W32) {k : Nat} (hk : k ≤ 32) : (wi x).fdiv ((2 : Int) ^ min ((k : Nat) : Int).toNat IntKind.u32.bits) = wi (x >>> k) := by
  unfold wi
  rw [Int.toNat_natCast, Nat.min_eq_left (show k ≤ IntKind.u32.bits from hk), BitVec.toNat_ushiftRight, Nat.shiftRight_eq_div_pow, pow2, Int.fdiv_eq_ediv_of_nonneg _ (Int.natCast_nonneg _), Int.natCast_ediv]
theorem w_shl (x : W32) {k : Nat} (hk : k ≤ 32) : IntKind.u32.wrap (wi x * (2 : Int) ^ min ((k : Nat) : Int).toNat IntKind.u32.bits) = wi (x <<< k) := by
  unfold wi
  rw [Int.toNat_natCast, Nat.min_eq_left (show k ≤ IntKind.u32.bits from hk), BitVec.toNat_shiftLeft, Nat.shiftLeft_eq, IntKind.wrap_u32, pow2, ← Int.natCast_mul, Int.natCast_emod]
  rfl
theorem w_shlI (x : W32) {m : Int} {k : Nat} (hm : m.toNat = k) (hk : k ≤ 32) : IntKind.u32.wrap (wi x * (2 : Int) ^ min m.toNat IntKind.u32.bits) = wi (x <<< k) := by
  have := w_shl x hk
  rw [Int.toNat_natCast] at this
  rw [hm]; exact this
theorem w_shrI (x : W32) {m : Int} {k : Nat} (hm : m.toNat = k) (hk : k ≤ 32) : (wi x).fdiv ((2 : Int) ^ min m.toNat IntKind.u32.bits) = wi (x >>> k) := by
  have := w_shr x hk
  rw [Int.toNat_natCast] at this
  rw [hm]; exact this
theorem rotl_rotr (x : W32) (k : Nat) : x <<< (32 - k) ||| x >>> k = rotr x k := BitVec.or_comm _ _

/-- math/bits.RotateLeft32 by less than nothing. -/
theorem rot_c {x : W32} {n : Int} {k : Nat} (hk : 0 < k ∧ k < 32) (h1 : IntKind.u64.wrap ((BitVec.ofInt IntKind.u64.bits (IntKind.u64.wrap n) &&& BitVec.ofInt IntKind.u64.bits 31).toNat : Nat) = ((32 - k : Nat) : Int)) :
    CallR cx 149 [w32 x, i64 n] [] fun r S => r = w32 (rotr x k) ∧ S = [] := by
  refine callR_of (R := R1) cx_ok Tryd.func149 (by kernel_rfl) rfl ?_
  conv => whnf
  rw [h1]
  refine ⟨by omega, ?_⟩
  conv => whnf
  have h2 : IntKind.u64.wrap (32 - ((32 - k : Nat) : Int)) = ((k : Nat) : Int) := by rw [IntKind.wrap_u64]; omega
  rw [h2, w_shl x (by omega)]
  refine ⟨by omega, ?_⟩
  conv => whnf
  rw [w_shr x (by omega)]
  refine ⟨?_, rfl⟩
  exact congrArg (fun z => AV.d (.int .u32 z)) ((w_or _ _).trans (congrArg wi (rotl_rotr x k)))

/-- The document's turn. -/
theorem turn_c {x : W32} {k : Nat} (hk : 0 < k ∧ k < 32) : CallR cx 155 [w32 x, u64 ((k : Nat) : Int)] [] fun r S => r = w32 (rotr x k) ∧ S = [] := by
  have h2 : IntKind.u64.wrap (32 - ((k : Nat) : Int)) = ((32 - k : Nat) : Int) := by rw [IntKind.wrap_u64]; omega
  refine callR_of (R := R1) cx_ok Tryd.func155 (by kernel_rfl) rfl ?_
  conv => whnf
  refine ⟨by omega, ?_⟩
  conv => whnf
  rw [h2, w_shr x (by omega)]
  refine ⟨by omega, ?_⟩
  conv => whnf
  rw [w_shl x (by omega)]
  refine ⟨?_, rfl⟩
  exact congrArg (fun z => AV.d (.int .u32 z)) (w_or _ _)
end Go.Proofs.YtboohfijacjhjaaDoor
