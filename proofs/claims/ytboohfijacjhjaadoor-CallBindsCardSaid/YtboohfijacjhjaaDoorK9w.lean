/- Calls: the law is awake (weights). -/
import Derived.Test.YtboohfijacjhjaaDoorK9
set_option linter.unusedVariables false
namespace Go.Proofs.YtboohfijacjhjaaDoor
open Go.Ab Go.RowKit

theorem wsend_c : CallR cx 37 [.d (.iface 95 (.agg [.str .empty, .int .u32 0, .str .empty, .str .empty, .int .u64 0, .int .u64 0, .agg [.int .i64 0, .sl 32 [], .sl 32 [], .sl 32 []]]))] [] fun r S => r = u64 3 ∧ S = [] := by
  have tg := ctag_c (c := .send .empty 0 .empty .empty 0 0 sg0)
  refine callR_of (R := R1) cx_ok Tryd.func37 (by kernel_rfl) rfl ?_
  conv => whnf
  refine ⟨_, tg, ?_⟩
  rintro _ _ ⟨rfl, rfl⟩
  conv => whnf
  refine ⟨⟨by decide, by decide⟩, ?_⟩
  conv => whnf
  exact ⟨rfl, rfl⟩

theorem cawake_c : CallR cx 19 [] [] fun r S => r = bo true ∧ S = [] := by
  have tg := ctag_c (c := .no)
  refine callR_of (R := R1) cx_ok Tryd.func19 (by kernel_rfl) rfl ?_
  conv => whnf
  refine ⟨_, wsend_c, ?_⟩
  rintro _ _ ⟨rfl, rfl⟩
  conv => whnf
  refine ⟨_, tg, ?_⟩
  rintro _ _ ⟨rfl, rfl⟩
  conv => whnf
  exact ⟨rfl, rfl⟩

end Go.Proofs.YtboohfijacjhjaaDoor
