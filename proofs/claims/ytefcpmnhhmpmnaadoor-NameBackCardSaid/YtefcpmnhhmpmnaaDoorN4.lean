/- Runes written into a builder. -/
import Derived.Test.YtefcpmnhhmpmnaaDoorN3
import Derived.Test.YtefcpmnhhmpmnaaDoorBld3
namespace Go.Proofs.YtefcpmnhhmpmnaaDoor
open Go.Ab Go.RowKit

/-- Bytes out of a list. -/
abbrev baL (l : List UInt8) : ByteArray := ⟨l.toArray⟩
theorem bytes_baL (l : List UInt8) : D.bytes (baL l) = l.map fun b => D.int .u8 b.toNat := by unfold D.bytes; rw [List.toList_toArray]

theorem fdiv_n (k e : Nat) : (k : Int).fdiv (2 ^ e) = ((k / 2 ^ e : Nat) : Int) := by
  rw [Int.fdiv_eq_ediv_of_nonneg _ (Int.le_of_lt (Int.pow_pos (by decide))), Int.natCast_ediv, Int.natCast_pow]; rfl

theorem wrap8n (n : Nat) : IntKind.u8.wrap (n : Int) = ((n % 256 : Nat) : Int) := by simp [IntKind.wrap, IntKind.bits, IntKind.signed]

theorem u8nat (n : Nat) : ((UInt8.ofNat n).toNat : Int) = ((n % 256 : Nat) : Int) := by rw [UInt8.toNat_ofNat']

theorem or8 : ∀ q : Fin 32, (BitVec.ofInt 8 192 ||| BitVec.ofInt 8 ((q.val : Nat) : Int)).toNat = 192 + q.val := by decide +kernel
theorem or8b : ∀ q : Fin 16, (BitVec.ofInt 8 224 ||| BitVec.ofInt 8 ((q.val : Nat) : Int)).toNat = 224 + q.val := by decide +kernel
theorem or8c : ∀ q : Fin 8, (BitVec.ofInt 8 240 ||| BitVec.ofInt 8 ((q.val : Nat) : Int)).toNat = 240 + q.val := by decide +kernel
theorem or8d : ∀ q : Fin 256, (BitVec.ofInt 8 128 ||| BitVec.ofInt 8 (IntKind.u8.wrap ((BitVec.ofInt 8 ((q.val : Nat) : Int) &&& BitVec.ofInt 8 63).toNat : Int))).toNat = 128 + q.val % 64 := by decide +kernel

theorem lead2 {k : Nat} (h : k < 2048) : IntKind.u8.wrap ((BitVec.ofInt IntKind.u8.bits 192 ||| BitVec.ofInt IntKind.u8.bits (IntKind.u8.wrap ((k : Int).fdiv (2 ^ min (6 : Int).toNat IntKind.i32.bits)))).toNat : Int) = ((UInt8.ofNat (192 + k / 64)).toNat : Int) := by
  show IntKind.u8.wrap ((BitVec.ofInt 8 192 ||| BitVec.ofInt 8 (IntKind.u8.wrap ((k : Int).fdiv (2 ^ 6)))).toNat : Int) = _
  rw [fdiv_n, wrap8n (k / 2 ^ 6), show k / 2 ^ 6 % 256 = k / 64 by omega, or8 ⟨k / 64, by omega⟩, wrap8n, u8nat]
theorem lead3 {k : Nat} (h : k < 65536) : IntKind.u8.wrap ((BitVec.ofInt IntKind.u8.bits 224 ||| BitVec.ofInt IntKind.u8.bits (IntKind.u8.wrap ((k : Int).fdiv (2 ^ min (12 : Int).toNat IntKind.i32.bits)))).toNat : Int) = ((UInt8.ofNat (224 + k / 4096)).toNat : Int) := by
  show IntKind.u8.wrap ((BitVec.ofInt 8 224 ||| BitVec.ofInt 8 (IntKind.u8.wrap ((k : Int).fdiv (2 ^ 12)))).toNat : Int) = _
  rw [fdiv_n, wrap8n (k / 2 ^ 12), show k / 2 ^ 12 % 256 = k / 4096 by omega, or8b ⟨k / 4096, by omega⟩, wrap8n, u8nat]
theorem lead4 {k : Nat} (h : k < 1114112) : IntKind.u8.wrap ((BitVec.ofInt IntKind.u8.bits 240 ||| BitVec.ofInt IntKind.u8.bits (IntKind.u8.wrap ((k : Int).fdiv (2 ^ min (18 : Int).toNat IntKind.i32.bits)))).toNat : Int) = ((UInt8.ofNat (240 + k / 262144)).toNat : Int) := by
  show IntKind.u8.wrap ((BitVec.ofInt 8 240 ||| BitVec.ofInt 8 (IntKind.u8.wrap ((k : Int).fdiv (2 ^ 18)))).toNat : Int) = _
  rw [fdiv_n, wrap8n (k / 2 ^ 18), show k / 2 ^ 18 % 256 = k / 262144 by omega, or8c ⟨k / 262144, by omega⟩, wrap8n, u8nat]
theorem tail0 (k : Nat) : IntKind.u8.wrap ((BitVec.ofInt IntKind.u8.bits 128 ||| BitVec.ofInt IntKind.u8.bits (IntKind.u8.wrap ((BitVec.ofInt IntKind.u8.bits (IntKind.u8.wrap (k : Int)) &&& BitVec.ofInt IntKind.u8.bits 63).toNat : Int))).toNat : Int) = ((UInt8.ofNat (128 + k % 64)).toNat : Int) := by
  rw [wrap8n]
  have := or8d ⟨k % 256, by omega⟩
  show IntKind.u8.wrap ((BitVec.ofInt 8 128 ||| BitVec.ofInt 8 (IntKind.u8.wrap ((BitVec.ofInt 8 ((k % 256 : Nat) : Int) &&& BitVec.ofInt 8 63).toNat : Int))).toNat : Int) = _
  rw [this, wrap8n, u8nat]
  simp only
  rw [show (128 + k % 256 % 64) % 256 = (128 + k % 64) % 256 by omega]
theorem tail6 (k : Nat) : IntKind.u8.wrap ((BitVec.ofInt IntKind.u8.bits 128 ||| BitVec.ofInt IntKind.u8.bits (IntKind.u8.wrap ((BitVec.ofInt IntKind.u8.bits (IntKind.u8.wrap ((k : Int).fdiv (2 ^ min (6 : Int).toNat IntKind.i32.bits))) &&& BitVec.ofInt IntKind.u8.bits 63).toNat : Int))).toNat : Int) = ((UInt8.ofNat (128 + k / 64 % 64)).toNat : Int) := by
  rw [show (k : Int).fdiv (2 ^ min (6 : Int).toNat IntKind.i32.bits) = ((k / 64 : Nat) : Int) from fdiv_n k 6]
  exact tail0 (k / 64)
theorem tail12 (k : Nat) : IntKind.u8.wrap ((BitVec.ofInt IntKind.u8.bits 128 ||| BitVec.ofInt IntKind.u8.bits (IntKind.u8.wrap ((BitVec.ofInt IntKind.u8.bits (IntKind.u8.wrap ((k : Int).fdiv (2 ^ min (12 : Int).toNat IntKind.i32.bits))) &&& BitVec.ofInt IntKind.u8.bits 63).toNat : Int))).toNat : Int) = ((UInt8.ofNat (128 + k / 4096 % 64)).toNat : Int) := by
  rw [show (k : Int).fdiv (2 ^ min (12 : Int).toNat IntKind.i32.bits) = ((k / 4096 : Nat) : Int) from fdiv_n k 12]
  exact tail0 (k / 4096)

theorem wrap32' {n : Int} (h : 0 ≤ n ∧ n < 4294967296) : IntKind.u32.wrap n = n := by
  simp [IntKind.wrap, IntKind.bits, IntKind.signed]; omega

theorem rowEq {a b : List D} (h : a = b) : Blk.row 5 1 a = Blk.row 5 1 b := by rw [h]
theorem encK_len {k : Nat} (_h : k < 1114112) : (encK k).length ≤ 4 := by
  unfold encK
  repeat' split
  all_goals simp

set_option maxHeartbeats 1000000 in
theorem nonAscii_c {k : Nat} {xs : List D} (h : okRune k) (h0 : 128 ≤ k) (hl : xs.length ≤ 1000000000) : CallR cx 52 [.row 0, i32 (k : Int)] [.row 5 1 xs] fun r S =>
    r = .row 1 ∧ S = [.sealed (.sl 1 xs), .row 5 1 (xs ++ D.bytes (baL (encK k)))] := by
  have hk : k < 1114112 := by unfold okRune at h; omega
  have e0 : IntKind.u32.wrap (k : Int) = (k : Int) := wrap32' (by omega)
  have a2 := @lead2 k; have a3 := @lead3 k; have a4 := @lead4 k (by omega); have t0 := tail0 k; have t6 := tail6 k; have t12 := tail12 k
  unfold okRune at h
  rw [bytes_baL]
  unfold encK
  generalize hK : (k : Int) = K at *
  refine callR_ofR (rw := true) (R := R1) cx_ok Tryd.func52 (by kernel_rfl) rfl ?_
  conv => whnf
  refine .inl ?_
  obtain ⟨cA, hA⟩ : ∃ C : Int, C = 2047 := ⟨_, rfl⟩
  obtain ⟨cB, hB⟩ : ∃ C : Int, C = 55296 := ⟨_, rfl⟩
  obtain ⟨cC, hC⟩ : ∃ C : Int, C = 57343 := ⟨_, rfl⟩
  obtain ⟨cD, hD⟩ : ∃ C : Int, C = 65535 := ⟨_, rfl⟩
  obtain ⟨cE, hE⟩ : ∃ C : Int, C = 1114111 := ⟨_, rfl⟩
  rw [← hA, ← hB, ← hC, ← hD, ← hE]
  conv => whnf
  rw [e0]
  by_cases c1 : k < 2048
  · refine brT (decide_eq_true (by omega)) ?_
    conv => whnf
    refine ⟨by decide, ?_⟩
    conv => whnf
    refine ⟨⟨Nat.succ_pos _, by show (xs.length + 2) * (1 + 1) ≤ _; omega⟩, ?_⟩
    conv => whnf
    rw [a2 c1, t0]
    refine ⟨rfl, ?_⟩
    rw [if_neg (by omega), if_neg (by omega), if_pos c1]
    rfl
  refine brF (decide_eq_false (by omega)) ?_
  conv => whnf
  by_cases c2 : k < 55296
  · refine brT (decide_eq_true (by omega)) ?_
    conv => whnf
    refine ⟨by decide, ?_⟩
    conv => whnf
    refine ⟨by decide, ?_⟩
    conv => whnf
    refine ⟨⟨Nat.succ_pos _, by show (xs.length + 3) * (1 + 1) ≤ _; omega⟩, ?_⟩
    conv => whnf
    rw [a3 (by omega), t6, t0]
    refine ⟨rfl, ?_⟩
    rw [if_neg (by omega), if_neg (by omega), if_neg c1, if_pos (by omega)]
    rfl
  refine brF (decide_eq_false (by omega)) ?_
  conv => whnf
  refine brT (decide_eq_true (by omega)) ?_
  conv => whnf
  by_cases c3 : k < 65536
  · refine brT (decide_eq_true (by omega)) ?_
    conv => whnf
    refine ⟨by decide, ?_⟩
    conv => whnf
    refine ⟨by decide, ?_⟩
    conv => whnf
    refine ⟨⟨Nat.succ_pos _, by show (xs.length + 3) * (1 + 1) ≤ _; omega⟩, ?_⟩
    conv => whnf
    rw [a3 (by omega), t6, t0]
    refine ⟨rfl, ?_⟩
    rw [if_neg (by omega), if_neg (by omega), if_neg c1, if_pos (by omega)]
    rfl
  refine brF (decide_eq_false (by omega)) ?_
  conv => whnf
  refine brT (decide_eq_true (by omega)) ?_
  conv => whnf
  refine brT (decide_eq_true (by omega)) ?_
  conv => whnf
  refine ⟨by decide, ?_⟩
  conv => whnf
  refine ⟨by decide, ?_⟩
  conv => whnf
  refine ⟨by decide, ?_⟩
  conv => whnf
  refine ⟨⟨Nat.succ_pos _, by show (xs.length + 4) * (1 + 1) ≤ _; omega⟩, ?_⟩
  conv => whnf
  rw [a4, t12, t6, t0]
  refine ⟨rfl, ?_⟩
  rw [if_neg (by omega), if_neg (by omega), if_neg c1, if_neg (by omega)]
  rfl

theorem appendRune_c {k : Nat} {xs : List D} (h : okRune k) (hl : xs.length ≤ 1000000000) : CallR cx 43 [.row 0, i32 (k : Int)] [.row 5 1 xs] fun r S =>
    r = .row 1 ∧ S = [.sealed (.sl 1 xs), .row 5 1 (xs ++ D.bytes (baL (encK k)))] := by
  have hk : k < 1114112 := by unfold okRune at h; omega
  have e0 : IntKind.u32.wrap (k : Int) = (k : Int) := wrap32' (by omega)
  by_cases c : k < 128
  · have e1 : IntKind.u8.wrap (k : Int) = ((UInt8.ofNat k).toNat : Int) := by rw [wrap8n, u8nat]
    rw [bytes_baL]
    unfold encK
    generalize hK : (k : Int) = K at *
    refine callR_ofR (rw := true) (R := R1) cx_ok Tryd.func43 (by kernel_rfl) rfl ?_
    conv => whnf
    refine .inl ?_
    conv => whnf
    rw [e0]
    refine brT (decide_eq_true (by omega)) ?_
    conv => whnf
    refine ⟨⟨Nat.succ_pos _, by show (xs.length + 1) * (1 + 1) ≤ _; omega⟩, ?_⟩
    conv => whnf
    rw [e1]
    refine ⟨rfl, ?_⟩
    rw [if_neg (by omega), if_pos c]
    rfl
  · have na := nonAscii_c (k := k) (xs := xs) h (by omega) hl
    generalize D.bytes (baL (encK k)) = ys at *
    generalize hK : (k : Int) = K at *
    refine callR_ofR (rw := true) (R := R1) cx_ok Tryd.func43 (by kernel_rfl) rfl ?_
    conv => whnf
    refine .inl ?_
    conv => whnf
    rw [e0]
    refine brF (decide_eq_false (by omega)) ?_
    conv => whnf
    refine ⟨_, na, ?_⟩
    rintro _ _ ⟨rfl, rfl⟩
    conv => whnf
    exact ⟨rfl, rfl⟩
end Go.Proofs.YtefcpmnhhmpmnaaDoor
