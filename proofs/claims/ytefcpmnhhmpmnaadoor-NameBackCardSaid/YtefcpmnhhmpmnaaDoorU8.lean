/- Names: small letters; right names; texts that may be said: the program's and the document's. -/
import Derived.Test.YtefcpmnhhmpmnaaDoorU7
namespace Go.Proofs.YtefcpmnhhmpmnaaDoor
open Go.Ab Go.RowKit

theorem small_A {k : Int} (h : k < 97) : CallR cx 26 [i32 k] [] fun r S => r = bo (decide (smallI k)) ∧ S = [] := by
  have hs : ¬ smallI k := by unfold smallI; omega
  refine callR_of (R := R1) cx_ok Tryd.func26 (by kernel_rfl) rfl ?_
  conv => whnf
  refine brF (decide_eq_false (by omega)) ?_
  conv => whnf
  refine brF (decide_eq_false (by omega)) ?_
  conv => whnf
  refine ⟨?_, rfl⟩
  rw [decide_eq_false hs]
  first | rfl | exact congrArg bo (decide_eq_true (by omega)) | exact congrArg bo (decide_eq_false (by omega))

theorem small_B {k : Int} (h : 97 ≤ k ∧ k ≤ 122) : CallR cx 26 [i32 k] [] fun r S => r = bo (decide (smallI k)) ∧ S = [] := by
  have hs : smallI k := by unfold smallI; omega
  refine callR_of (R := R1) cx_ok Tryd.func26 (by kernel_rfl) rfl ?_
  conv => whnf
  refine brT (decide_eq_true (by omega)) ?_
  conv => whnf
  refine brT (decide_eq_true (by omega)) ?_
  conv => whnf
  refine ⟨?_, rfl⟩
  rw [decide_eq_true hs]
  first | rfl | exact congrArg bo (decide_eq_true (by omega)) | exact congrArg bo (decide_eq_false (by omega))

theorem small_C {k : Int} (h : 123 ≤ k ∧ k ≤ 944) : CallR cx 26 [i32 k] [] fun r S => r = bo (decide (smallI k)) ∧ S = [] := by
  have hs : ¬ smallI k := by unfold smallI; omega
  refine callR_of (R := R1) cx_ok Tryd.func26 (by kernel_rfl) rfl ?_
  conv => whnf
  refine brT (decide_eq_true (by omega)) ?_
  conv => whnf
  refine brF (decide_eq_false (by omega)) ?_
  conv => whnf
  refine brF (decide_eq_false (by omega)) ?_
  conv => whnf
  refine ⟨?_, rfl⟩
  rw [decide_eq_false hs]
  first | rfl | exact congrArg bo (decide_eq_true (by omega)) | exact congrArg bo (decide_eq_false (by omega))

theorem small_D {k : Int} (h : 945 ≤ k ∧ k ≤ 969) : CallR cx 26 [i32 k] [] fun r S => r = bo (decide (smallI k)) ∧ S = [] := by
  have hs : smallI k := by unfold smallI; omega
  refine callR_of (R := R1) cx_ok Tryd.func26 (by kernel_rfl) rfl ?_
  conv => whnf
  refine brT (decide_eq_true (by omega)) ?_
  conv => whnf
  refine brF (decide_eq_false (by omega)) ?_
  conv => whnf
  refine brT (decide_eq_true (by omega)) ?_
  conv => whnf
  refine ⟨?_, rfl⟩
  rw [decide_eq_true hs]
  first | rfl | exact congrArg bo (decide_eq_true (by omega)) | exact congrArg bo (decide_eq_false (by omega))

theorem small_E {k : Int} (h : 970 ≤ k) : CallR cx 26 [i32 k] [] fun r S => r = bo (decide (smallI k)) ∧ S = [] := by
  have hs : ¬ smallI k := by unfold smallI; omega
  refine callR_of (R := R1) cx_ok Tryd.func26 (by kernel_rfl) rfl ?_
  conv => whnf
  refine brT (decide_eq_true (by omega)) ?_
  conv => whnf
  refine brF (decide_eq_false (by omega)) ?_
  conv => whnf
  refine brT (decide_eq_true (by omega)) ?_
  conv => whnf
  refine ⟨?_, rfl⟩
  rw [decide_eq_false hs]
  first | rfl | exact congrArg bo (decide_eq_true (by omega)) | exact congrArg bo (decide_eq_false (by omega))

theorem small_c {k : Int} : CallR cx 26 [i32 k] [] fun r S => r = bo (decide (smallI k)) ∧ S = [] := by
  by_cases h1 : k < 97
  · exact small_A h1
  by_cases h2 : k ≤ 122
  · exact small_B (by omega)
  by_cases h3 : k ≤ 944
  · exact small_C (by omega)
  by_cases h4 : k ≤ 969
  · exact small_D (by omega)
  exact small_E (by omega)

theorem rsmall_A {k : Int} (h : k < 97) : CallR cx 27 [i64 k] [] fun r S => r = bo (decide (smallI k)) ∧ S = [] := by
  have hs : ¬ smallI k := by unfold smallI; omega
  refine callR_of (R := R1) cx_ok Tryd.func27 (by kernel_rfl) rfl ?_
  conv => whnf
  refine brF (decide_eq_false (by omega)) ?_
  conv => whnf
  refine brF (decide_eq_false (by omega)) ?_
  conv => whnf
  refine ⟨?_, rfl⟩
  rw [decide_eq_false hs]
  first | rfl | exact congrArg bo (decide_eq_true (by omega)) | exact congrArg bo (decide_eq_false (by omega))

theorem rsmall_B {k : Int} (h : 97 ≤ k ∧ k ≤ 122) : CallR cx 27 [i64 k] [] fun r S => r = bo (decide (smallI k)) ∧ S = [] := by
  have hs : smallI k := by unfold smallI; omega
  refine callR_of (R := R1) cx_ok Tryd.func27 (by kernel_rfl) rfl ?_
  conv => whnf
  refine brT (decide_eq_true (by omega)) ?_
  conv => whnf
  refine brT (decide_eq_true (by omega)) ?_
  conv => whnf
  refine ⟨?_, rfl⟩
  rw [decide_eq_true hs]
  first | rfl | exact congrArg bo (decide_eq_true (by omega)) | exact congrArg bo (decide_eq_false (by omega))

theorem rsmall_C {k : Int} (h : 123 ≤ k ∧ k ≤ 944) : CallR cx 27 [i64 k] [] fun r S => r = bo (decide (smallI k)) ∧ S = [] := by
  have hs : ¬ smallI k := by unfold smallI; omega
  refine callR_of (R := R1) cx_ok Tryd.func27 (by kernel_rfl) rfl ?_
  conv => whnf
  refine brT (decide_eq_true (by omega)) ?_
  conv => whnf
  refine brF (decide_eq_false (by omega)) ?_
  conv => whnf
  refine brF (decide_eq_false (by omega)) ?_
  conv => whnf
  refine ⟨?_, rfl⟩
  rw [decide_eq_false hs]
  first | rfl | exact congrArg bo (decide_eq_true (by omega)) | exact congrArg bo (decide_eq_false (by omega))

theorem rsmall_D {k : Int} (h : 945 ≤ k ∧ k ≤ 969) : CallR cx 27 [i64 k] [] fun r S => r = bo (decide (smallI k)) ∧ S = [] := by
  have hs : smallI k := by unfold smallI; omega
  refine callR_of (R := R1) cx_ok Tryd.func27 (by kernel_rfl) rfl ?_
  conv => whnf
  refine brT (decide_eq_true (by omega)) ?_
  conv => whnf
  refine brF (decide_eq_false (by omega)) ?_
  conv => whnf
  refine brT (decide_eq_true (by omega)) ?_
  conv => whnf
  refine ⟨?_, rfl⟩
  rw [decide_eq_true hs]
  first | rfl | exact congrArg bo (decide_eq_true (by omega)) | exact congrArg bo (decide_eq_false (by omega))

theorem rsmall_E {k : Int} (h : 970 ≤ k) : CallR cx 27 [i64 k] [] fun r S => r = bo (decide (smallI k)) ∧ S = [] := by
  have hs : ¬ smallI k := by unfold smallI; omega
  refine callR_of (R := R1) cx_ok Tryd.func27 (by kernel_rfl) rfl ?_
  conv => whnf
  refine brT (decide_eq_true (by omega)) ?_
  conv => whnf
  refine brF (decide_eq_false (by omega)) ?_
  conv => whnf
  refine brT (decide_eq_true (by omega)) ?_
  conv => whnf
  refine ⟨?_, rfl⟩
  rw [decide_eq_false hs]
  first | rfl | exact congrArg bo (decide_eq_true (by omega)) | exact congrArg bo (decide_eq_false (by omega))

theorem rsmall_c {k : Int} : CallR cx 27 [i64 k] [] fun r S => r = bo (decide (smallI k)) ∧ S = [] := by
  by_cases h1 : k < 97
  · exact rsmall_A h1
  by_cases h2 : k ≤ 122
  · exact rsmall_B (by omega)
  by_cases h3 : k ≤ 944
  · exact rsmall_C (by omega)
  by_cases h4 : k ≤ 969
  · exact rsmall_D (by omega)
  exact rsmall_E (by omega)

end Go.Proofs.YtefcpmnhhmpmnaaDoor
