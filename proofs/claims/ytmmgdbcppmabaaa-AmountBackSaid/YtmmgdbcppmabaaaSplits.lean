/- The law 'AmountSplits' returns true, for any three numbers of 64 bits. -/
import Derived.Test.YtmmgdbcppmabaaaSpl1
namespace Go.Proofs.Ytmmgdbcppmabaaa
open Go.Ab

theorem nat_of {a : Int} (h : (Lit.int .u64 a).wf = true) : ∃ n : Nat, a = n ∧ n < 18446744073709551616 := by
  obtain ⟨h1, h2⟩ := U.of_wf h
  obtain ⟨n, rfl⟩ := Int.eq_ofNat_of_zero_le h1
  exact ⟨n, rfl, by omega⟩

theorem amountSplits_c (ys : List D) (hy : Ty.hass [.int .u64, .int .u64, .int .u64] ys) : CallR cx 3 (ys.map AV.d) [] fun r S => r = .d (.bool true) ∧ S = [] := by
  obtain ⟨_, _, rfl, ⟨_, rfl, ka⟩, _, _, rfl, ⟨_, rfl, kb⟩, _, _, rfl, ⟨_, rfl, kc⟩, rfl⟩ := hy
  obtain ⟨a, rfl, ha⟩ := nat_of ka
  obtain ⟨b, rfl, hb⟩ := nat_of kb
  obtain ⟨c, rfl, hc⟩ := nat_of kc
  refine callR_of (R := R1) cx_ok Try.func3 (by kernel_rfl) rfl ?_
  conv => whnf
  refine ⟨_, awake_c, ?_⟩
  rintro _ _ ⟨rfl, rfl⟩
  conv => whnf
  refine ⟨_, split_c ha hb hc, ?_⟩
  rintro _ _ ⟨rfl, rfl⟩
  conv => whnf
  refine ⟨_, rsplit_c ha hb hc, ?_⟩
  rintro _ _ ⟨rfl, rfl⟩
  conv => whnf
  refine ⟨_, awake_c, ?_⟩
  rintro _ _ ⟨rfl, rfl⟩
  conv => whnf
  refine brec (fun h => ?_) (fun h => absurd h (by simp))
  conv => whnf
  refine ⟨?_, rfl⟩
  simp [pack]
end Go.Proofs.Ytmmgdbcppmabaaa
