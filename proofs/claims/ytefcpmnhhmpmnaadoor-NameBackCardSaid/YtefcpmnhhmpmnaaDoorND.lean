/- The law's own test of the names. -/
import Derived.Test.YtefcpmnhhmpmnaaDoorNC
import Derived.Test.YtefcpmnhhmpmnaaDoorN3
import Derived.Test.YtefcpmnhhmpmnaaDoorN2r
namespace Go.Proofs.YtefcpmnhhmpmnaaDoor
open Go.Ab Go.RowKit

theorem keysAt_step {s : ByteArray} {i a n j : Nat} (h : i < s.size) (hk : key s i = (a, n)) (hj : i + n = j) : keysAt s i = a :: keysAt s j := by
  rw [keysAt_lt h, hk, ← hj]
theorem awq : 34 :: quoteAt ⟨#[97, 206, 177, 10]⟩ 0 = [34, 97, 92, 117, 51, 98, 49, 59, 92, 117, 97, 59, 34] := by
  have k0 : key ⟨#[97, 206, 177, 10]⟩ 0 = (97, 1) := by decide +kernel
  have k1 : key ⟨#[97, 206, 177, 10]⟩ 1 = (945, 2) := by decide +kernel
  have k3 : key ⟨#[97, 206, 177, 10]⟩ 3 = (10, 1) := by decide +kernel
  have hk : keysAt ⟨#[97, 206, 177, 10]⟩ 0 = [97, 945, 10] := by
    rw [keysAt_step (by decide) k0 rfl, keysAt_step (by decide) k1 rfl, keysAt_step (by decide) k3 rfl, keysAt_ge (by decide)]
  unfold quoteAt
  rw [hk]
  have q1 : qK 97 = [97] := by unfold qK; rw [if_neg (by decide), if_pos (by decide)]; rfl
  have q2 : qK 945 = [92, 117, 51, 98, 49, 59] := by rw [qK_other (by decide) (by decide) (by decide), hexL_ge (by decide), hexL_ge (by decide), hexL_lt (by decide)]; rfl
  have q3 : qK 10 = [92, 117, 97, 59] := by rw [qK_other (by decide) (by decide) (by decide), hexL_lt (by decide)]; rfl
  rw [List.flatMap_cons, List.flatMap_cons, List.flatMap_cons, List.flatMap_nil, q1, q2, q3]
  rfl
theorem awr1 : rightT ⟨#[206, 177, 49]⟩ = true := by
  have k0 : key ⟨#[206, 177, 49]⟩ 0 = (945, 2) := by decide +kernel
  have k1 : key ⟨#[206, 177, 49]⟩ 2 = (49, 1) := by decide +kernel
  have hk : keysAt ⟨#[206, 177, 49]⟩ 0 = [945, 49] := by
    rw [keysAt_step (by decide) k0 rfl, keysAt_step (by decide) k1 rfl, keysAt_ge (by decide)]
  unfold rightT
  rw [hk]
  decide
theorem awr2 : rightT ⟨#[49, 97]⟩ = false := by
  have k0 : key ⟨#[49, 97]⟩ 0 = (49, 1) := by decide +kernel
  have k1 : key ⟨#[49, 97]⟩ 1 = (97, 1) := by decide +kernel
  have hk : keysAt ⟨#[49, 97]⟩ 0 = [49, 97] := by
    rw [keysAt_step (by decide) k0 rfl, keysAt_step (by decide) k1 rfl, keysAt_ge (by decide)]
  unfold rightT
  rw [hk]
  decide

theorem awake_c : CallR cx 9 [] [] fun r S => r = bo true ∧ S = [] := by
  have q := quote_c (s := ⟨#[97, 206, 177, 10]⟩) (by decide)
  have r1 := right_c (s := ⟨#[206, 177, 49]⟩) (by decide)
  have r2 := right_c (s := ⟨#[49, 97]⟩) (by decide)
  rw [awq] at q
  rw [awr1] at r1
  rw [awr2] at r2
  refine callR_of (R := R1) cx_ok Tryd.func9 (by kernel_rfl) rfl ?_
  conv => whnf
  refine ⟨_, q, ?_⟩
  rintro _ _ ⟨rfl, rfl⟩
  conv => whnf
  refine ⟨_, r1, ?_⟩
  rintro _ _ ⟨rfl, rfl⟩
  conv => whnf
  refine ⟨_, r2, ?_⟩
  rintro _ _ ⟨rfl, rfl⟩
  conv => whnf
  exact ⟨rfl, rfl⟩
end Go.Proofs.YtefcpmnhhmpmnaaDoor
