/- The document's rune at a place: 'One', by the classes of the first byte. -/
import Derived.Test.YtefcpmnhhmpmnaaDoorU3
namespace Go.Proofs.YtefcpmnhhmpmnaaDoor
open Go.Ab Go.RowKit

theorem brT {A B : Prop} {b : Bool} (h : b = true) (x : A) : @Bool.rec (fun _ => Prop) B A b := by subst h; exact x
theorem brF {A B : Prop} {b : Bool} (h : b = false) (x : B) : @Bool.rec (fun _ => Prop) B A b := by subst h; exact x

theorem w64 {n : Int} (h : -9223372036854775808 ≤ n ∧ n < 9223372036854775808) : IntKind.i64.wrap n = n := by rw [IntKind.wrap_i64]; omega

theorem byteAt_range (s : ByteArray) (k : Nat) : 0 ≤ byteAt s k ∧ byteAt s k < 256 := by
  rw [byteAt_eq]; have := (s.get! k).toNat_lt; omega

def acc (s : ByteArray) (i : Nat) (n0 : Int) : Nat → Int
  | 0 => n0
  | j + 1 => acc s i n0 j * 64 + byteAt s (i + (j + 1)) % 64

theorem acc_range {s : ByteArray} {i : Nat} {n0 : Int} (h : 0 ≤ n0 ∧ n0 < 32) : ∀ j, j ≤ 3 → 0 ≤ acc s i n0 j ∧ acc s i n0 j < 8388608 ∧ (j < 3 → acc s i n0 j < 131072) := by
  have h0 : 0 ≤ acc s i n0 0 ∧ acc s i n0 0 < 32 := h
  have h1 : 0 ≤ acc s i n0 1 ∧ acc s i n0 1 < 2048 := by
    have := byteAt_range s (i + 1)
    show 0 ≤ acc s i n0 0 * 64 + byteAt s (i + (0 + 1)) % 64 ∧ acc s i n0 0 * 64 + byteAt s (i + (0 + 1)) % 64 < 2048
    omega
  have h2 : 0 ≤ acc s i n0 2 ∧ acc s i n0 2 < 131072 := by
    show 0 ≤ acc s i n0 1 * 64 + byteAt s (i + (1 + 1)) % 64 ∧ acc s i n0 1 * 64 + byteAt s (i + (1 + 1)) % 64 < 131072
    omega
  have h3 : 0 ≤ acc s i n0 3 ∧ acc s i n0 3 < 8388608 := by
    show 0 ≤ acc s i n0 2 * 64 + byteAt s (i + (2 + 1)) % 64 ∧ acc s i n0 2 * 64 + byteAt s (i + (2 + 1)) % 64 < 8388608
    omega
  intro j hj
  match j, hj with
  | 0, _ => omega
  | 1, _ => omega
  | 2, _ => omega
  | 3, _ => omega

theorem tupI {a b a' b' : Int} (h : a = a') (g : b = b') : AV.tup [i64 a, i64 b] = AV.tup [i64 a', i64 b'] := by rw [h, g]

theorem accStep {s : ByteArray} {i j : Nat} {n0 : Int} (h0 : 0 ≤ acc s i n0 j) (h1 : acc s i n0 j < 131072) :
    IntKind.i64.wrap (IntKind.i64.wrap (acc s i n0 j * 64) + (IntKind.i64.wrap (byteAt s ((i + (j + 1) : Nat) : Int).toNat)).tmod 64) = acc s i n0 (j + 1) := by
  have hb := byteAt_range s (i + (j + 1))
  rw [Int.toNat_natCast, w64 (n := acc s i n0 j * 64) (by omega), w64 (n := byteAt s (i + (j + 1))) (by omega), Int.tmod_eq_emod_of_nonneg hb.1, w64 (by omega)]
  rfl

theorem win_lt {s : ByteArray} {k : Nat} {lo hi : Int} (h : win s k lo hi = true) : k < s.size := by
  unfold win at h
  simp only [Bool.and_eq_true, decide_eq_true_eq] at h
  exact h.1

theorem win_iff {s : ByteArray} {k : Nat} {lo hi : Int} : win s k lo hi = true ↔ k < s.size ∧ lo ≤ ((s.get! k).toNat : Int) ∧ ((s.get! k).toNat : Int) ≤ hi := by
  unfold win
  rw [byteAt_eq]
  simp only [Bool.and_eq_true, decide_eq_true_eq]
end Go.Proofs.YtefcpmnhhmpmnaaDoor
