/- Names: which of two texts stands first, the program's and the document's (printed by gen/order.py). -/
import Derived.Test.YtefcpmnhhmpmnaaDoorN2
namespace Go.Proofs.YtefcpmnhhmpmnaaDoor
open Go.Ab Go.RowKit

theorem runes_getD {l : List Nat} {j : Nat} (h : j < l.length) : (runes l).getD (j : Int).toNat .nilP = .int .i32 ((l[j]'h : Nat) : Int) := by
  rw [Int.toNat_natCast, List.getD_eq_getElem?_getD, List.getElem?_map, List.getElem?_eq_getElem h]
  rfl

theorem order_c {a b : ByteArray} (ha : a.size < 1000000000) (hb : b.size < 1000000000) : CallR cx 16 [st a, st b] [] fun r S => r = i64 (ordL (keysAt a 0) (keysAt b 0)) ∧ S = [] := by
  have k1 := keys_c ha
  have k2 := keys_c hb
  have l1 := keysAt_length a 0
  have l2 := keysAt_length b 0
  generalize keysAt a 0 = X at *
  generalize keysAt b 0 = Y at *
  have hX : (runes X).length = X.length := List.length_map _
  have hY : (runes Y).length = Y.length := List.length_map _
  obtain ⟨M, hM, m1, m2, m3⟩ : ∃ M : Nat, (if (((runes Y).length : Nat) : Int) < (((runes X).length : Nat) : Int) then (((runes Y).length : Nat) : Int) else (((runes X).length : Nat) : Int)) = (M : Int) ∧ M ≤ X.length ∧ M ≤ Y.length ∧ (M = X.length ∨ M = Y.length) := by
    by_cases h : Y.length < X.length
    · exact ⟨Y.length, by rw [if_pos (by omega), hY], by omega, by omega, .inr rfl⟩
    · exact ⟨X.length, by rw [if_neg (by omega), hX], by omega, by omega, .inl rfl⟩
  refine callR_of (R := R1) cx_ok Tryd.func16 (by kernel_rfl) rfl ?_
  conv => whnf
  refine ⟨_, k1, ?_⟩
  rintro _ _ ⟨rfl, rfl⟩
  conv => whnf
  refine ⟨_, k2, ?_⟩
  rintro _ _ ⟨rfl, rfl⟩
  conv => whnf
  refine .inl ⟨fun m l S => ∃ j : Nat, j ≤ X.length ∧ j ≤ Y.length ∧ ordL (X.drop j) (Y.drop j) = ordL X Y ∧ m = X.length - j ∧ l = [(5, .d (.sl 1 (runes X))), (6, .d (.sl 1 (runes Y))), (16, i64 (M : Int)), (17, i64 (j : Int))] ∧ S = [],
    ⟨_, _, ⟨0, Nat.zero_le _, Nat.zero_le _, rfl, rfl, rfl, rfl⟩, ⟨rfl, rfl, congrArg (fun z => some (i64 z)) hM, rfl, trivial⟩⟩, ?_⟩
  rintro _ _ _ ⟨j, hj1, hj2, h1, rfl, rfl, rfl⟩
  conv => whnf
  refine brec (fun h4 => ?_) (fun h4 => ?_)
  · have h4 := of_decide_eq_true h4
    have hlt1 : j < X.length := by omega
    have hlt2 : j < Y.length := by omega
    have e3 : IntKind.i64.wrap ((j : Int) + 1) = ((j + 1 : Nat) : Int) := by rw [w64 (by omega)]; omega
    rw [List.drop_eq_getElem_cons hlt1, List.drop_eq_getElem_cons hlt2] at h1
    have gx := runes_getD hlt1
    have gy := runes_getD hlt2
    generalize X[j]'hlt1 = x at *
    generalize Y[j]'hlt2 = y at *
    simp only [ordL] at h1
    generalize hx : (x : Int) = x' at *
    generalize hy : (y : Int) = y' at *
    conv => whnf
    refine ⟨by kernel_rfl, ?_⟩
    conv => whnf
    refine ⟨⟨by omega, by rw [hX]; omega⟩, ?_⟩
    rw [gx]
    conv => whnf
    refine ⟨⟨by omega, by rw [hY]; omega⟩, ?_⟩
    rw [gy]
    conv => whnf
    refine ⟨by kernel_rfl, ?_⟩
    conv => whnf
    by_cases c1 : x < y
    · rw [if_pos c1] at h1
      refine brT (decide_eq_true (by omega)) ?_
      conv => whnf
      rw [← h1]
      exact ⟨rfl, rfl⟩
    rw [if_neg c1] at h1
    refine brF (decide_eq_false (by omega)) ?_
    conv => whnf
    refine ⟨by kernel_rfl, ?_⟩
    conv => whnf
    refine ⟨⟨by omega, by rw [hX]; omega⟩, ?_⟩
    rw [gx]
    conv => whnf
    refine ⟨⟨by omega, by rw [hY]; omega⟩, ?_⟩
    rw [gy]
    conv => whnf
    refine ⟨by kernel_rfl, ?_⟩
    conv => whnf
    by_cases c2 : y < x
    · rw [if_pos c2] at h1
      refine brT (decide_eq_true (by omega)) ?_
      conv => whnf
      rw [← h1]
      exact ⟨rfl, rfl⟩
    rw [if_neg c2] at h1
    refine brF (decide_eq_false (by omega)) ?_
    conv => whnf
    exact ⟨_, _, 0, (by omega : X.length - (j + 1) < X.length - j), ⟨j + 1, by omega, by omega, h1, rfl, rfl, rfl⟩, ⟨rfl, rfl, rfl, congrArg (fun z => some (i64 z)) e3, trivial⟩, rfl⟩
  · have h4 := of_decide_eq_false h4
    conv => whnf
    by_cases c1 : X.length < Y.length
    · have e : ordL X Y = -1 := by
        rw [← h1, List.drop_eq_nil_of_le (by omega), List.drop_eq_getElem_cons (show j < Y.length by omega)]; rfl
      refine brT (decide_eq_true (by rw [hX, hY]; omega)) ?_
      conv => whnf
      rw [e]
      exact ⟨rfl, rfl⟩
    refine brF (decide_eq_false (by rw [hX, hY]; omega)) ?_
    conv => whnf
    by_cases c2 : Y.length < X.length
    · have e : ordL X Y = 1 := by
        rw [← h1, List.drop_eq_nil_of_le (show Y.length ≤ j by omega), List.drop_eq_getElem_cons (show j < X.length by omega)]; rfl
      refine brT (decide_eq_true (by rw [hX, hY]; omega)) ?_
      conv => whnf
      rw [e]
      exact ⟨rfl, rfl⟩
    refine brF (decide_eq_false (by rw [hX, hY]; omega)) ?_
    conv => whnf
    have e : ordL X Y = 0 := by
      rw [← h1, List.drop_eq_nil_of_le (by omega), List.drop_eq_nil_of_le (by omega)]; rfl
    rw [e]
    exact ⟨rfl, rfl⟩

theorem rorder_c {a b : ByteArray} (ha : a.size < 1000000000) (hb : b.size < 1000000000) : CallR cx 19 [st a, st b] [] fun r S => r = i64 (ordL (keysAt a 0) (keysAt b 0)) ∧ S = [] := by
  have k1 := numbers_c ha
  have k2 := numbers_c hb
  have l1 := keysAt_length a 0
  have l2 := keysAt_length b 0
  generalize keysAt a 0 = X at *
  generalize keysAt b 0 = Y at *
  have hX : (ints X).length = X.length := List.length_map _
  have hY : (ints Y).length = Y.length := List.length_map _
  refine callR_of (R := R1) cx_ok Tryd.func19 (by kernel_rfl) rfl ?_
  conv => whnf
  refine ⟨_, k1, ?_⟩
  rintro _ _ ⟨rfl, rfl⟩
  conv => whnf
  refine ⟨_, k2, ?_⟩
  rintro _ _ ⟨rfl, rfl⟩
  conv => whnf
  refine .inl ⟨fun m l S => ∃ j : Nat, j ≤ X.length ∧ j ≤ Y.length ∧ ordL (X.drop j) (Y.drop j) = ordL X Y ∧ m = X.length - j ∧ l = [(5, .d (.sl 1 (ints X))), (6, .d (.sl 1 (ints Y))), (7, i64 (j : Int))] ∧ S = [],
    ⟨_, _, ⟨0, Nat.zero_le _, Nat.zero_le _, rfl, rfl, rfl, rfl⟩, ⟨rfl, rfl, rfl, trivial⟩⟩, ?_⟩
  rintro _ _ _ ⟨j, hj1, hj2, h1, rfl, rfl, rfl⟩
  conv => whnf
  by_cases hlt1 : j < X.length
  case neg =>
    refine brF (decide_eq_false (by rw [hX]; omega)) ?_
    conv => whnf
    by_cases c1 : X.length < Y.length
    · have e : ordL X Y = -1 := by
        rw [← h1, List.drop_eq_nil_of_le (by omega), List.drop_eq_getElem_cons (show j < Y.length by omega)]; rfl
      refine brT (decide_eq_true (by rw [hX, hY]; omega)) ?_
      conv => whnf
      rw [e]
      exact ⟨rfl, rfl⟩
    refine brF (decide_eq_false (by rw [hX, hY]; omega)) ?_
    conv => whnf
    by_cases c2 : Y.length < X.length
    · have e : ordL X Y = 1 := by
        rw [← h1, List.drop_eq_nil_of_le (show Y.length ≤ j by omega), List.drop_eq_getElem_cons (show j < X.length by omega)]; rfl
      refine brT (decide_eq_true (by rw [hX, hY]; omega)) ?_
      conv => whnf
      rw [e]
      exact ⟨rfl, rfl⟩
    refine brF (decide_eq_false (by rw [hX, hY]; omega)) ?_
    conv => whnf
    have e : ordL X Y = 0 := by
      rw [← h1, List.drop_eq_nil_of_le (by omega), List.drop_eq_nil_of_le (by omega)]; rfl
    rw [e]
    exact ⟨rfl, rfl⟩
  refine brT (decide_eq_true (by rw [hX]; omega)) ?_
  conv => whnf
  by_cases hlt2 : j < Y.length
  case neg =>
    refine brF (decide_eq_false (by rw [hY]; omega)) ?_
    conv => whnf
    by_cases c1 : X.length < Y.length
    · have e : ordL X Y = -1 := by
        rw [← h1, List.drop_eq_nil_of_le (by omega), List.drop_eq_getElem_cons (show j < Y.length by omega)]; rfl
      refine brT (decide_eq_true (by rw [hX, hY]; omega)) ?_
      conv => whnf
      rw [e]
      exact ⟨rfl, rfl⟩
    refine brF (decide_eq_false (by rw [hX, hY]; omega)) ?_
    conv => whnf
    by_cases c2 : Y.length < X.length
    · have e : ordL X Y = 1 := by
        rw [← h1, List.drop_eq_nil_of_le (show Y.length ≤ j by omega), List.drop_eq_getElem_cons (show j < X.length by omega)]; rfl
      refine brT (decide_eq_true (by rw [hX, hY]; omega)) ?_
      conv => whnf
      rw [e]
      exact ⟨rfl, rfl⟩
    refine brF (decide_eq_false (by rw [hX, hY]; omega)) ?_
    conv => whnf
    have e : ordL X Y = 0 := by
      rw [← h1, List.drop_eq_nil_of_le (by omega), List.drop_eq_nil_of_le (by omega)]; rfl
    rw [e]
    exact ⟨rfl, rfl⟩
  case pos =>
    refine brT (decide_eq_true (by rw [hY]; omega)) ?_
    have e3 : IntKind.i64.wrap ((j : Int) + 1) = ((j + 1 : Nat) : Int) := by rw [w64 (by omega)]; omega
    rw [List.drop_eq_getElem_cons hlt1, List.drop_eq_getElem_cons hlt2] at h1
    have gx := ints_getD hlt1
    have gy := ints_getD hlt2
    generalize X[j]'hlt1 = x at *
    generalize Y[j]'hlt2 = y at *
    simp only [ordL] at h1
    generalize hx : (x : Int) = x' at *
    generalize hy : (y : Int) = y' at *
    conv => whnf
    refine ⟨by kernel_rfl, ?_⟩
    conv => whnf
    refine ⟨⟨by omega, by rw [hX]; omega⟩, ?_⟩
    rw [gx]
    conv => whnf
    refine ⟨⟨by omega, by rw [hY]; omega⟩, ?_⟩
    rw [gy]
    conv => whnf
    refine ⟨by kernel_rfl, ?_⟩
    conv => whnf
    by_cases c1 : x < y
    · rw [if_pos c1] at h1
      refine brT (decide_eq_true (by omega)) ?_
      conv => whnf
      rw [← h1]
      exact ⟨rfl, rfl⟩
    rw [if_neg c1] at h1
    refine brF (decide_eq_false (by omega)) ?_
    conv => whnf
    refine ⟨by kernel_rfl, ?_⟩
    conv => whnf
    refine ⟨⟨by omega, by rw [hX]; omega⟩, ?_⟩
    rw [gx]
    conv => whnf
    refine ⟨⟨by omega, by rw [hY]; omega⟩, ?_⟩
    rw [gy]
    conv => whnf
    refine ⟨by kernel_rfl, ?_⟩
    conv => whnf
    by_cases c2 : y < x
    · rw [if_pos c2] at h1
      refine brT (decide_eq_true (by omega)) ?_
      conv => whnf
      rw [← h1]
      exact ⟨rfl, rfl⟩
    rw [if_neg c2] at h1
    refine brF (decide_eq_false (by omega)) ?_
    conv => whnf
    exact ⟨_, _, 0, (by omega : X.length - (j + 1) < X.length - j), ⟨j + 1, by omega, by omega, h1, rfl, rfl, rfl⟩, ⟨rfl, rfl, congrArg (fun z => some (i64 z)) e3, trivial⟩, rfl⟩
end Go.Proofs.YtefcpmnhhmpmnaaDoor
