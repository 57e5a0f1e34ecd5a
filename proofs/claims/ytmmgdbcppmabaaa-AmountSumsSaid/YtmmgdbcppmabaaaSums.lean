/- The law 'AmountSums' returns true, for any two numbers of 64 bits. -/
import Derived.Test.YtmmgdbcppmabaaaAmt2
namespace Go.Proofs.Ytmmgdbcppmabaaa
open Go.Ab

theorem amountSums_c (ys : List D) (hy : Ty.hass [.int .u64, .int .u64] ys) : CallR cx 4 (ys.map AV.d) [] fun r S => r = .d (.bool true) ∧ S = [] := by
  obtain ⟨_, _, rfl, ⟨a, rfl, ha⟩, _, _, rfl, ⟨b, rfl, hb⟩, rfl⟩ := hy
  have ha := U.of_wf ha
  have hb := U.of_wf hb
  refine callR_of (R := R1) cx_ok Try.func4 (by kernel_rfl) rfl ?_
  conv => whnf
  refine ⟨_, awake_c, ?_⟩
  rintro _ _ ⟨rfl, rfl⟩
  conv => whnf
  refine ⟨_, add_c ha hb, ?_⟩
  rintro _ _ ⟨rfl, rfl⟩
  conv => whnf
  refine ⟨_, radd_c ha hb, ?_⟩
  rintro _ _ ⟨rfl, rfl⟩
  conv => whnf
  refine ⟨_, sub_c ha hb, ?_⟩
  rintro _ _ ⟨rfl, rfl⟩
  conv => whnf
  refine ⟨_, rsub_c ha hb, ?_⟩
  rintro _ _ ⟨rfl, rfl⟩
  conv => whnf
  refine ⟨_, awake_c, ?_⟩
  rintro _ _ ⟨rfl, rfl⟩
  conv => whnf
  refine brec (fun h => ?_) (fun h => absurd h (by simp))
  conv => whnf
  refine brec (fun h => ?_) (fun h => absurd h (by simp))
  conv => whnf
  refine brec (fun h => ?_) (fun h => absurd h (by simp))
  conv => whnf
  refine ⟨?_, rfl⟩
  simp [pack]

end Go.Proofs.Ytmmgdbcppmabaaa
