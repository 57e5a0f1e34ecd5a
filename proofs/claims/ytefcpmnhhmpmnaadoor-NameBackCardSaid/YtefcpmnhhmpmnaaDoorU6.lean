/- The document's rune at a place is the number that the text's decoder gives, a stray's its byte and 2000000 (printed by gen/onekey.py). -/
import Derived.Test.YtefcpmnhhmpmnaaDoorU5
namespace Go.Proofs.YtefcpmnhhmpmnaaDoor
open Go.Ab Go.RowKit

theorem keyN_bad {n b0 b1 b2 b3 : Nat} (h : Lib.decodeN n b0 b1 b2 b3 = (65533, 1)) : keyN n b0 b1 b2 b3 = (b0 + 2000000, 1) := by
  unfold keyN; rw [if_pos h]
theorem keyN_good {n b0 b1 b2 b3 a k : Nat} (h : Lib.decodeN n b0 b1 b2 b3 = (a, k)) (hk : 1 < k ∨ a < 65533) : keyN n b0 b1 b2 b3 = (a, k) := by
  unfold keyN; rw [h, if_neg]; intro e; simp only [Prod.mk.injEq] at e; omega

theorem one_of {s : ByteArray} {x : Int} {i a k : Nat} {p q : Int} (h : CallR cx 33 [st s, i64 x] [] fun r S => r = .tup [i64 p, i64 q] ∧ S = []) (hk : key s i = (a, k)) (hp : p = (a : Int)) (hq : q = (k : Int)) :
    CallR cx 33 [st s, i64 x] [] fun r S => r = .tup [i64 ((key s i).1 : Int), i64 ((key s i).2 : Int)] ∧ S = [] := by
  rw [hk, ← hp, ← hq]; exact h

theorem dec_bad {n b0 b1 b2 b3 : Nat} (h0 : b0 < 256) (h1 : b1 < 256) (h2 : b2 < 256) (h3 : b3 < 256)
    (h : (128 ≤ b0 ∧ b0 ≤ 193) ∨ 245 ≤ b0 ∨ (194 ≤ b0 ∧ b0 ≤ 223 ∧ ¬ (1 < n ∧ 128 ≤ b1 ∧ b1 ≤ 191)) ∨
      (224 ≤ b0 ∧ b0 ≤ 239 ∧ (¬ (1 < n ∧ 128 ≤ b1 ∧ b1 ≤ 191) ∨ ¬ (2 < n ∧ 128 ≤ b2 ∧ b2 ≤ 191) ∨ (b0 = 224 ∧ b1 < 160) ∨ (b0 = 237 ∧ 159 < b1))) ∨
      (240 ≤ b0 ∧ b0 ≤ 244 ∧ (¬ (1 < n ∧ 128 ≤ b1 ∧ b1 ≤ 191) ∨ ¬ (2 < n ∧ 128 ≤ b2 ∧ b2 ≤ 191) ∨ ¬ (3 < n ∧ 128 ≤ b3 ∧ b3 ≤ 191) ∨ (b0 = 240 ∧ b1 < 144) ∨ (b0 = 244 ∧ 143 < b1)))) : Lib.decodeN n b0 b1 b2 b3 = (65533, 1) := by
  unfold Lib.decodeN
  repeat' split
  all_goals first | rfl | (exfalso; omega)

theorem dec_1 {n b0 b1 b2 b3 : Nat} (h : b0 < 128) : Lib.decodeN n b0 b1 b2 b3 = (b0, 1) := by
  unfold Lib.decodeN; rw [if_pos h]
theorem dec_2 {n b0 b1 b2 b3 : Nat} (h0 : 194 ≤ b0 ∧ b0 ≤ 223) (h1 : 1 < n ∧ 128 ≤ b1 ∧ b1 ≤ 191) : Lib.decodeN n b0 b1 b2 b3 = (b0 % 32 * 64 + b1 % 64, 2) := by
  unfold Lib.decodeN
  rw [if_neg (by omega), if_pos (by omega), if_pos (by omega)]
theorem dec_3 {n b0 b1 b2 b3 : Nat} (h0 : 224 ≤ b0 ∧ b0 ≤ 239) (h1 : 1 < n ∧ 128 ≤ b1 ∧ b1 ≤ 191) (h2 : 2 < n ∧ 128 ≤ b2 ∧ b2 ≤ 191) (h3 : b0 = 224 → 160 ≤ b1) (h4 : b0 = 237 → b1 ≤ 159) :
    Lib.decodeN n b0 b1 b2 b3 = (b0 % 16 * 4096 + b1 % 64 * 64 + b2 % 64, 3) := by
  unfold Lib.decodeN
  rw [if_neg (by omega), if_neg (by omega), if_pos (by omega), if_pos (by omega)]
theorem dec_4 {n b0 b1 b2 b3 : Nat} (h0 : 240 ≤ b0 ∧ b0 ≤ 244) (h1 : 1 < n ∧ 128 ≤ b1 ∧ b1 ≤ 191) (h2 : 2 < n ∧ 128 ≤ b2 ∧ b2 ≤ 191) (h3 : 3 < n ∧ 128 ≤ b3 ∧ b3 ≤ 191) (h4 : b0 = 240 → 144 ≤ b1) (h5 : b0 = 244 → b1 ≤ 143) :
    Lib.decodeN n b0 b1 b2 b3 = (b0 % 8 * 262144 + b1 % 64 * 4096 + b2 % 64 * 64 + b3 % 64, 4) := by
  unfold Lib.decodeN
  rw [if_neg (by omega), if_neg (by omega), if_neg (by omega), if_pos (by omega), if_pos (by omega)]

set_option maxHeartbeats 4000000 in
theorem one_c {s : ByteArray} {x : Int} {i : Nat} (hx : x = (i : Int)) (hi : i < s.size) (hm : s.size < 1000000000) :
    CallR cx 33 [st s, i64 x] [] fun r S => r = .tup [i64 ((key s i).1 : Int), i64 ((key s i).2 : Int)] ∧ S = [] := by
  have b0 := byteAt_eq s i
  have l0 := (s.get! i).toNat_lt; have l1 := (s.get! (i + 1)).toNat_lt; have l2 := (s.get! (i + 2)).toNat_lt; have l3 := (s.get! (i + 3)).toNat_lt
  have k1 : ∀ lo hi, win s (i + 1) lo hi = true ↔ i + 1 < s.size ∧ lo ≤ ((s.get! (i + 1)).toNat : Int) ∧ ((s.get! (i + 1)).toNat : Int) ≤ hi := fun _ _ => win_iff
  have k2 : ∀ lo hi, win s (i + 2) lo hi = true ↔ i + 2 < s.size ∧ lo ≤ ((s.get! (i + 2)).toNat : Int) ∧ ((s.get! (i + 2)).toNat : Int) ≤ hi := fun _ _ => win_iff
  have k3 : ∀ lo hi, win s (i + 3) lo hi = true ↔ i + 3 < s.size ∧ lo ≤ ((s.get! (i + 3)).toNat : Int) ∧ ((s.get! (i + 3)).toNat : Int) ≤ hi := fun _ _ => win_iff
  have a1 : ∀ n0, acc s i n0 1 = n0 * 64 + ((s.get! (i + 1)).toNat : Int) % 64 := fun n0 => by rw [← byteAt_eq]; rfl
  have a2 : ∀ n0, acc s i n0 2 = (n0 * 64 + ((s.get! (i + 1)).toNat : Int) % 64) * 64 + ((s.get! (i + 2)).toNat : Int) % 64 := fun n0 => by rw [← byteAt_eq, ← byteAt_eq]; rfl
  have a3 : ∀ n0, acc s i n0 3 = ((n0 * 64 + ((s.get! (i + 1)).toNat : Int) % 64) * 64 + ((s.get! (i + 2)).toNat : Int) % 64) * 64 + ((s.get! (i + 3)).toNat : Int) % 64 := fun n0 => by rw [← byteAt_eq, ← byteAt_eq, ← byteAt_eq]; rfl
  have nf : ∀ b : Bool, b = true ∨ b = false := fun b => by cases b <;> simp
  have ff : ∀ (b : Bool) (p : Prop), (b = true ↔ p) → b = false → ¬ p := fun b p h e hp => by rw [h.2 hp] at e; cases e
  by_cases c0 : byteAt s i < 128
  · exact one_of (one_A hx hi hm c0) (keyN_good (dec_1 (by omega)) (by omega)) b0 rfl
  by_cases c1 : byteAt s i ≤ 193
  · exact one_of (one_X1 hx hi hm (by omega)) (keyN_bad (dec_bad l0 l1 l2 l3 (by omega))) (by omega) rfl
  by_cases c2 : 245 ≤ byteAt s i
  · exact one_of (one_X2 hx hi hm c2) (keyN_bad (dec_bad l0 l1 l2 l3 (by omega))) (by omega) rfl
  by_cases dC2 : byteAt s i ≤ 223
  · have f1 := k1 128 191
    rcases nf (win s (i + 1) 128 191) with g1 | g1
    rotate_left
    · have n1 := ff _ _ f1 g1
      exact one_of (one_C2_0 hx hi hm (by omega)  g1) (keyN_bad (dec_bad l0 l1 l2 l3 (by omega))) (by omega) rfl
    have n1 := f1.1 g1
    exact one_of (one_C2_1 hx hi hm (by omega) g1) (keyN_good (dec_2 (by omega) (by omega)) (by omega)) (by rw [a1, b0]; omega) rfl
  by_cases dE0 : byteAt s i = 224
  · have f1 := k1 160 191
    rcases nf (win s (i + 1) 160 191) with g1 | g1
    rotate_left
    · have n1 := ff _ _ f1 g1
      exact one_of (one_E0_0 hx hi hm (by omega)  g1) (keyN_bad (dec_bad l0 l1 l2 l3 (by omega))) (by omega) rfl
    have f2 := k2 128 191
    rcases nf (win s (i + 2) 128 191) with g2 | g2
    rotate_left
    · have n2 := ff _ _ f2 g2
      have n1 := f1.1 g1
      exact one_of (one_E0_1 hx hi hm (by omega) g1 g2) (keyN_bad (dec_bad l0 l1 l2 l3 (by omega))) (by omega) rfl
    have n1 := f1.1 g1
    have n2 := f2.1 g2
    exact one_of (one_E0_2 hx hi hm (by omega) g1 g2) (keyN_good (dec_3 (by omega) (by omega) (by omega) (by omega) (by omega)) (by omega)) (by rw [a2, b0]; omega) rfl
  by_cases dED : byteAt s i = 237
  · have f1 := k1 128 159
    rcases nf (win s (i + 1) 128 159) with g1 | g1
    rotate_left
    · have n1 := ff _ _ f1 g1
      exact one_of (one_ED_0 hx hi hm (by omega)  g1) (keyN_bad (dec_bad l0 l1 l2 l3 (by omega))) (by omega) rfl
    have f2 := k2 128 191
    rcases nf (win s (i + 2) 128 191) with g2 | g2
    rotate_left
    · have n2 := ff _ _ f2 g2
      have n1 := f1.1 g1
      exact one_of (one_ED_1 hx hi hm (by omega) g1 g2) (keyN_bad (dec_bad l0 l1 l2 l3 (by omega))) (by omega) rfl
    have n1 := f1.1 g1
    have n2 := f2.1 g2
    exact one_of (one_ED_2 hx hi hm (by omega) g1 g2) (keyN_good (dec_3 (by omega) (by omega) (by omega) (by omega) (by omega)) (by omega)) (by rw [a2, b0]; omega) rfl
  by_cases dEE : byteAt s i ≤ 239
  · have f1 := k1 128 191
    rcases nf (win s (i + 1) 128 191) with g1 | g1
    rotate_left
    · have n1 := ff _ _ f1 g1
      exact one_of (one_EE_0 hx hi hm (by omega)  g1) (keyN_bad (dec_bad l0 l1 l2 l3 (by omega))) (by omega) rfl
    have f2 := k2 128 191
    rcases nf (win s (i + 2) 128 191) with g2 | g2
    rotate_left
    · have n2 := ff _ _ f2 g2
      have n1 := f1.1 g1
      exact one_of (one_EE_1 hx hi hm (by omega) g1 g2) (keyN_bad (dec_bad l0 l1 l2 l3 (by omega))) (by omega) rfl
    have n1 := f1.1 g1
    have n2 := f2.1 g2
    exact one_of (one_EE_2 hx hi hm (by omega) g1 g2) (keyN_good (dec_3 (by omega) (by omega) (by omega) (by omega) (by omega)) (by omega)) (by rw [a2, b0]; omega) rfl
  by_cases dF0 : byteAt s i = 240
  · have f1 := k1 144 191
    rcases nf (win s (i + 1) 144 191) with g1 | g1
    rotate_left
    · have n1 := ff _ _ f1 g1
      exact one_of (one_F0_0 hx hi hm (by omega)  g1) (keyN_bad (dec_bad l0 l1 l2 l3 (by omega))) (by omega) rfl
    have f2 := k2 128 191
    rcases nf (win s (i + 2) 128 191) with g2 | g2
    rotate_left
    · have n2 := ff _ _ f2 g2
      have n1 := f1.1 g1
      exact one_of (one_F0_1 hx hi hm (by omega) g1 g2) (keyN_bad (dec_bad l0 l1 l2 l3 (by omega))) (by omega) rfl
    have f3 := k3 128 191
    rcases nf (win s (i + 3) 128 191) with g3 | g3
    rotate_left
    · have n3 := ff _ _ f3 g3
      have n1 := f1.1 g1
      have n2 := f2.1 g2
      exact one_of (one_F0_2 hx hi hm (by omega) g1 g2 g3) (keyN_bad (dec_bad l0 l1 l2 l3 (by omega))) (by omega) rfl
    have n1 := f1.1 g1
    have n2 := f2.1 g2
    have n3 := f3.1 g3
    exact one_of (one_F0_3 hx hi hm (by omega) g1 g2 g3) (keyN_good (dec_4 (by omega) (by omega) (by omega) (by omega) (by omega) (by omega)) (by omega)) (by rw [a3, b0]; omega) rfl
  by_cases dF4 : byteAt s i = 244
  · have f1 := k1 128 143
    rcases nf (win s (i + 1) 128 143) with g1 | g1
    rotate_left
    · have n1 := ff _ _ f1 g1
      exact one_of (one_F4_0 hx hi hm (by omega)  g1) (keyN_bad (dec_bad l0 l1 l2 l3 (by omega))) (by omega) rfl
    have f2 := k2 128 191
    rcases nf (win s (i + 2) 128 191) with g2 | g2
    rotate_left
    · have n2 := ff _ _ f2 g2
      have n1 := f1.1 g1
      exact one_of (one_F4_1 hx hi hm (by omega) g1 g2) (keyN_bad (dec_bad l0 l1 l2 l3 (by omega))) (by omega) rfl
    have f3 := k3 128 191
    rcases nf (win s (i + 3) 128 191) with g3 | g3
    rotate_left
    · have n3 := ff _ _ f3 g3
      have n1 := f1.1 g1
      have n2 := f2.1 g2
      exact one_of (one_F4_2 hx hi hm (by omega) g1 g2 g3) (keyN_bad (dec_bad l0 l1 l2 l3 (by omega))) (by omega) rfl
    have n1 := f1.1 g1
    have n2 := f2.1 g2
    have n3 := f3.1 g3
    exact one_of (one_F4_3 hx hi hm (by omega) g1 g2 g3) (keyN_good (dec_4 (by omega) (by omega) (by omega) (by omega) (by omega) (by omega)) (by omega)) (by rw [a3, b0]; omega) rfl
  have f1 := k1 128 191
  rcases nf (win s (i + 1) 128 191) with g1 | g1
  rotate_left
  · have n1 := ff _ _ f1 g1
    exact one_of (one_FF_0 hx hi hm (by omega)  g1) (keyN_bad (dec_bad l0 l1 l2 l3 (by omega))) (by omega) rfl
  have f2 := k2 128 191
  rcases nf (win s (i + 2) 128 191) with g2 | g2
  rotate_left
  · have n2 := ff _ _ f2 g2
    have n1 := f1.1 g1
    exact one_of (one_FF_1 hx hi hm (by omega) g1 g2) (keyN_bad (dec_bad l0 l1 l2 l3 (by omega))) (by omega) rfl
  have f3 := k3 128 191
  rcases nf (win s (i + 3) 128 191) with g3 | g3
  rotate_left
  · have n3 := ff _ _ f3 g3
    have n1 := f1.1 g1
    have n2 := f2.1 g2
    exact one_of (one_FF_2 hx hi hm (by omega) g1 g2 g3) (keyN_bad (dec_bad l0 l1 l2 l3 (by omega))) (by omega) rfl
  have n1 := f1.1 g1
  have n2 := f2.1 g2
  have n3 := f3.1 g3
  exact one_of (one_FF_3 hx hi hm (by omega) g1 g2 g3) (keyN_good (dec_4 (by omega) (by omega) (by omega) (by omega) (by omega) (by omega)) (by omega)) (by rw [a3, b0]; omega) rfl
end Go.Proofs.YtefcpmnhhmpmnaaDoor
