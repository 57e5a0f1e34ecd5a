/- Runes and bytes written into a builder; capitals. -/
import Derived.Test.YtefcpmnhhmpmnaaDoorN4
namespace Go.Proofs.YtefcpmnhhmpmnaaDoor
open Go.Ab Go.RowKit

abbrev bdN (s t : ByteArray) : List Blk := [.tvar 44 (.agg [.ptr 0 [], .row 2]), .sealed (.sl 1 (D.bytes s)), .row 5 1 (D.bytes (s ++ t))]

theorem writeRune_c {p : AV} {s : ByteArray} {k : Nat} (hp : p = .d .nilP ∨ p = .ptr 0 []) (h : okRune k) (hb : s.size ≤ 1000000000) : CallR cx 30 [.ptr 0 [], i32 (k : Int)] (bd p s) fun r S =>
    r = .tup [i64 (IntKind.i64.wrap ((((D.bytes s ++ D.bytes (baL (encK k))).length : Nat) : Int) - (((D.bytes s).length : Nat) : Int))), .d .nilI] ∧ S = bdN s (baL (encK k)) := by
  have cc := copyCheck_c (p := p) (s := s) hp
  have ar := appendRune_c (k := k) (xs := D.bytes s) h (by rw [bytes_length]; exact hb)
  unfold bd at cc ⊢
  unfold bdN
  rw [bytes_append]
  generalize D.bytes s = xs at *
  generalize D.bytes (baL (encK k)) = ys at *
  generalize (k : Int) = K at *
  rcases hp with rfl | rfl <;>
  · refine callR_of (R := R1) cx_ok Tryd.func30 (by kernel_rfl) rfl ?_
    conv => whnf
    refine ⟨_, cc, ?_⟩
    rintro _ _ ⟨rfl, rfl⟩
    conv => whnf
    refine ⟨_, ar, ?_⟩
    rintro _ _ ⟨rfl, rfl⟩
    conv => whnf
    exact ⟨rfl, rfl⟩

theorem writeByte_c {p : AV} {s : ByteArray} {b : UInt8} (hp : p = .d .nilP ∨ p = .ptr 0 []) (hb : s.size ≤ 1000000000) : CallR cx 31 [.ptr 0 [], u8 (b.toNat : Int)] (bd p s) fun r S =>
    r = .d .nilI ∧ S = bdN s (baL [b]) := by
  have cc := copyCheck_c (p := p) (s := s) hp
  have hl := bytes_length s
  unfold bd at cc ⊢
  unfold bdN
  rw [bytes_append]
  generalize D.bytes s = xs at *
  rw [bytes_baL]
  rcases hp with rfl | rfl <;>
  · refine callR_of (R := R1) cx_ok Tryd.func31 (by kernel_rfl) rfl ?_
    conv => whnf
    refine ⟨_, cc, ?_⟩
    rintro _ _ ⟨rfl, rfl⟩
    conv => whnf
    refine ⟨⟨Nat.succ_pos _, by show (xs.length + 1) * (1 + 1) ≤ _; omega⟩, ?_⟩
    conv => whnf
    exact ⟨rfl, rfl⟩

theorem capital_c {k : Nat} (hk : k < 1114112) : CallR cx 29 [i32 (k : Int)] [] fun r S => r = bo (capK k) ∧ S = [] := by
  have hc : capK k = ((decide (65 ≤ k) && decide (k ≤ 90)) || ((decide (913 ≤ k) && decide (k ≤ 937)) && decide (k ≠ 930))) := rfl
  rw [hc]
  generalize hK : (k : Int) = K
  refine callR_of (R := R1) cx_ok Tryd.func29 (by kernel_rfl) rfl ?_
  conv => whnf
  by_cases c1 : 65 ≤ k
  · refine brT (decide_eq_true (by omega)) ?_
    conv => whnf
    by_cases c2 : k ≤ 90
    · refine brT (decide_eq_true (by omega)) ?_
      conv => whnf
      rw [decide_eq_true c1, decide_eq_true c2]
      exact ⟨rfl, rfl⟩
    refine brF (decide_eq_false (by omega)) ?_
    conv => whnf
    by_cases c3 : 913 ≤ k
    · refine brT (decide_eq_true (by omega)) ?_
      conv => whnf
      by_cases c4 : k ≤ 937
      · refine brT (decide_eq_true (by omega)) ?_
        conv => whnf
        rw [decide_eq_false c2, decide_eq_true c3, decide_eq_true c4, Bool.and_false, Bool.false_or, Bool.true_and]
        by_cases c5 : k = 930
        · rw [decide_eq_false (show ¬ k ≠ 930 by omega), show K = 930 by omega]; exact ⟨rfl, rfl⟩
        · rw [decide_eq_true c5, show (K != 930) = true from bne_iff_ne.2 (by omega)]; exact ⟨rfl, rfl⟩
      refine brF (decide_eq_false (by omega)) ?_
      conv => whnf
      rw [decide_eq_false c2, decide_eq_false c4, Bool.and_false, Bool.and_false, Bool.false_and]
      exact ⟨rfl, rfl⟩
    refine brF (decide_eq_false (by omega)) ?_
    conv => whnf
    rw [decide_eq_false c2, decide_eq_false c3, Bool.and_false, Bool.false_and, Bool.false_and]
    exact ⟨rfl, rfl⟩
  · refine brF (decide_eq_false (by omega)) ?_
    conv => whnf
    refine brF (decide_eq_false (by omega)) ?_
    conv => whnf
    rw [decide_eq_false c1, decide_eq_false (show ¬ 913 ≤ k by omega), Bool.false_and, Bool.false_and, Bool.false_and]
    exact ⟨rfl, rfl⟩
end Go.Proofs.YtefcpmnhhmpmnaaDoor
