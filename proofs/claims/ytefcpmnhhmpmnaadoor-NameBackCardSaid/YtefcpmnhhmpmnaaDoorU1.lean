/- The runes of a text by their numbers: plain laws, no program. -/
import Derived.Test.YtefcpmnhhmpmnaaDoorAbZ
import Derived.Lib.DecodeN
namespace Go.Proofs.YtefcpmnhhmpmnaaDoor
open Go.Ab

theorem getD_get! (s : ByteArray) (k : Nat) : s.data.toList.getD k 0 = s.get! k := by
  cases s with
  | mk d =>
    show d.toList.getD k 0 = d[k]!
    rw [List.getD_eq_getElem?_getD, Array.getElem?_toList, getElem!_def]
    cases d[k]? <;> rfl

theorem byteAt_eq (s : ByteArray) (k : Nat) : byteAt s k = ((s.get! k).toNat : Int) := by
  unfold byteAt
  rw [getD_get!]

/-- The number of the rune at a place, and how many bytes it has; a stray's byte and 2000000, and 1. -/
def keyN (n b0 b1 b2 b3 : Nat) : Nat × Nat := if Lib.decodeN n b0 b1 b2 b3 = (65533, 1) then (b0 + 2000000, 1) else Lib.decodeN n b0 b1 b2 b3
def key (s : ByteArray) (i : Nat) : Nat × Nat := keyN (s.size - i) (s.get! i).toNat (s.get! (i + 1)).toNat (s.get! (i + 2)).toNat (s.get! (i + 3)).toNat

/-- A stray stands here. -/
def stray (s : ByteArray) (i : Nat) : Bool := decide (Utf8.decode s i = (65533, 1))

theorem key_stray {s : ByteArray} {i : Nat} (h : stray s i = true) : key s i = ((s.get! i).toNat + 2000000, 1) ∧ Utf8.decode s i = (65533, 1) := by
  have h := of_decide_eq_true h
  refine ⟨?_, h⟩
  rw [Lib.decode_at] at h
  unfold key keyN
  rw [if_pos h]

theorem key_plain {s : ByteArray} {i : Nat} (h : stray s i = false) : key s i = Utf8.decode s i := by
  have h := of_decide_eq_false h
  rw [Lib.decode_at] at h ⊢
  unfold key keyN
  rw [if_neg h]

theorem decodeN_range (n b0 b1 b2 b3 : Nat) (h0 : b0 < 256) : (Lib.decodeN n b0 b1 b2 b3).1 ≤ 1114111 ∧ 1 ≤ (Lib.decodeN n b0 b1 b2 b3).2 ∧ (Lib.decodeN n b0 b1 b2 b3).2 ≤ 4 := by
  unfold Lib.decodeN
  repeat' split
  all_goals simp only
  all_goals omega

theorem key_two {s : ByteArray} {i : Nat} : (key s i).2 = (Utf8.decode s i).2 := by
  cases h : stray s i with
  | true => obtain ⟨h1, h2⟩ := key_stray h; rw [h1, h2]
  | false => rw [key_plain h]

theorem decode_range (s : ByteArray) (i : Nat) : (Utf8.decode s i).1 ≤ 1114111 ∧ 1 ≤ (Utf8.decode s i).2 ∧ (Utf8.decode s i).2 ≤ 4 := by
  rw [Lib.decode_at]
  exact decodeN_range _ _ _ _ _ (s.get! i).toNat_lt

theorem key_pos (s : ByteArray) (i : Nat) : 1 ≤ (key s i).2 := by rw [key_two]; exact (decode_range s i).2.1
theorem key_four (s : ByteArray) (i : Nat) : (key s i).2 ≤ 4 := by rw [key_two]; exact (decode_range s i).2.2

theorem key_lt (s : ByteArray) (i : Nat) : (key s i).1 < 3000000 := by
  cases h : stray s i with
  | true => have := (s.get! i).toNat_lt; rw [(key_stray h).1]; show _ + _ < _; omega
  | false => have := (decode_range s i).1; rw [key_plain h]; omega

/-- A text's runes from a place on. -/
def keysAt (s : ByteArray) (i : Nat) : List Nat := if i < s.size then (key s i).1 :: keysAt s (i + (key s i).2) else []
termination_by s.size - i
decreasing_by have := key_pos s i; omega

theorem keysAt_lt {s : ByteArray} {i : Nat} (h : i < s.size) : keysAt s i = (key s i).1 :: keysAt s (i + (key s i).2) := by
  rw [keysAt, if_pos h]
theorem keysAt_ge {s : ByteArray} {i : Nat} (h : ¬ i < s.size) : keysAt s i = [] := by
  rw [keysAt, if_neg h]

theorem keysAt_length (s : ByteArray) : ∀ i, (keysAt s i).length ≤ s.size - i := by
  intro i
  induction h : s.size - i using Nat.strongRecOn generalizing i with
  | _ n ih =>
    by_cases hi : i < s.size
    · rw [keysAt_lt hi]
      have := key_pos s i
      have := ih (s.size - (i + (key s i).2)) (by omega) _ rfl
      simp only [List.length_cons]
      omega
    · rw [keysAt_ge hi]; simp

/-- The slow table's conditions, by classes of the first byte. -/
def smallI (r : Int) : Prop := (97 ≤ r ∧ r ≤ 122) ∨ (945 ≤ r ∧ r ≤ 969)
instance (r : Int) : Decidable (smallI r) := by unfold smallI; infer_instance

/-- Is a rune right at its place? -/
def okR (first : Bool) (k : Int) : Bool := decide (smallI k) || (!first && (decide (48 ≤ k) && decide (k ≤ 57)))

def goR : List Nat → Nat → Bool
  | [], n => decide (1 ≤ n) && decide (n ≤ 12)
  | k :: l, n => okR (n == 0) (k : Int) && goR l (n + 1)

def goS : List Nat → Nat → Bool
  | [], n => decide (n ≤ 64)
  | k :: l, n => !(decide (k < 32) || decide (k = 127) || decide (2000000 ≤ k)) && goS l (n + 1)

def rightT (s : ByteArray) : Bool := goR (keysAt s 0) 0
def saysT (s : ByteArray) : Bool := goS (keysAt s 0) 0
end Go.Proofs.YtefcpmnhhmpmnaaDoor
