/- Routers: the law RouterCrosses. -/
import Derived.Test.YtmdfpifcghmpfaaDoorY7
set_option linter.unusedVariables false
namespace Go.Proofs.YtmdfpifcghmpfaaDoor
open Go.Ab Go.RowKit

def mB : ByteArray := ⟨#[109, 105, 110, 116]⟩
def adaB : ByteArray := ⟨#[97, 100, 97]⟩
def bobB : ByteArray := ⟨#[98, 111, 98]⟩
theorem mB_right : rightT mB = true := by decide +kernel
theorem adaB_right : rightT adaB = true := by decide +kernel
theorem bobB_right : rightT bobB = true := by decide +kernel

section
variable {TA HA TB HB TX HX TY HY TZ HZ TW HW : List D} {have' n most e e0 : Int} {body body2 : ByteArray} {py pw : D}

theorem rc_no (s1 : CallR cx 45 [.d (.agg [.sl 7 TA, .sl 4 HA]), .d (.int .u32 1), .d (sdD adaB 1 mB bobB n (.int .u64 0) (.agg [.int .i64 0, .sl 32 [], .sl 32 [], .sl 32 []]))] [] fun r S => r = .tup [.d (.agg [.sl 7 TA, .sl 4 HA]), st body, i64 e] ∧ S = [])
    (he : e ≠ 0) (hn : n = 0 ∨ n > have') (sm : CallR cx 35 [.d (.agg [.sl 7 TA, .sl 4 HA]), .d (.agg [.sl 7 TA, .sl 4 HA])] [] fun r S => r = bo true ∧ S = [])
    (aw : CallR cx 42 [] [] fun r S => r = bo true ∧ S = [])
    (en1 : CallR cx 43 [.d (.agg [.sl 7 [], .sl 4 []]), .d (.int .u32 1), st mB, u64 0] [] fun r S => r = .tup [.d (.agg [.sl 7 TW, .sl 4 HW]), i64 0] ∧ S = [])
    (gr : CallR cx 44 [.d (.agg [.sl 7 TW, .sl 4 HW]), .d (.int .u32 1), st mB, st adaB, u64 have'] [] fun r S => r = .tup [.d (.agg [.sl 7 TA, .sl 4 HA]), i64 e0] ∧ S = [])
    (en2 : CallR cx 43 [.d (.agg [.sl 7 [], .sl 4 []]), .d (.int .u32 1), st mB, u64 most] [] fun r S => r = .tup [.d (.agg [.sl 7 TB, .sl 4 HB]), i64 0] ∧ S = []) :
    CallR cx 10 [u64 have', u64 n, u64 most] [] fun r S => r = bo true ∧ S = [] := by
  refine callR_of (R := R1) cx_ok Tryd.func10 (by kernel_rfl) rfl ?_
  conv => whnf
  refine ⟨_, aw, ?_⟩
  rintro _ _ ⟨rfl, rfl⟩
  conv => whnf
  refine ⟨_, en1, ?_⟩
  rintro _ _ ⟨rfl, rfl⟩
  conv => whnf
  refine ⟨_, gr, ?_⟩
  rintro _ _ ⟨rfl, rfl⟩
  conv => whnf
  refine ⟨_, en2, ?_⟩
  rintro _ _ ⟨rfl, rfl⟩
  conv => whnf
  refine ⟨_, s1, ?_⟩
  rintro _ _ ⟨rfl, rfl⟩
  conv => whnf
  by_cases c : n = 0
  · refine brT (beq_iff_eq.2 c) ?_
    conv => whnf
    refine brT (bne_iff_ne.2 he) ?_
    conv => whnf
    refine ⟨_, sm, ?_⟩
    rintro _ _ ⟨rfl, rfl⟩
    conv => whnf
    exact ⟨rfl, rfl⟩
  · refine brF (beq_eq_false_iff_ne.2 c) ?_
    conv => whnf
    refine brT (decide_eq_true (hn.resolve_left c)) ?_
    conv => whnf
    refine brT (bne_iff_ne.2 he) ?_
    conv => whnf
    refine ⟨_, sm, ?_⟩
    rintro _ _ ⟨rfl, rfl⟩
    conv => whnf
    exact ⟨rfl, rfl⟩

theorem rc_cap (s1 : CallR cx 45 [.d (.agg [.sl 7 TA, .sl 4 HA]), .d (.int .u32 1), .d (sdD adaB 1 mB bobB n (.int .u64 0) (.agg [.int .i64 0, .sl 32 [], .sl 32 [], .sl 32 []]))] [] fun r S => r = .tup [.d (.agg [.sl 7 TX, .sl 4 HX]), st body, i64 0] ∧ S = [])
    (hn : n ≠ 0) (hh : ¬ n > have') (hm : n > most)
    (h1 : CallR cx 46 [.d (.agg [.sl 7 TB, .sl 4 HB]), .d (.int .u32 2), st rtB, .d (ltD 1 0 2 rtB rtB body)] [] fun r S => r = .tup [.d (.agg [.sl 7 TB, .sl 4 HB]), .d py, i64 12] ∧ S = [])
    (sm : CallR cx 35 [.d (.agg [.sl 7 TB, .sl 4 HB]), .d (.agg [.sl 7 TB, .sl 4 HB])] [] fun r S => r = bo true ∧ S = [])
    (aw : CallR cx 42 [] [] fun r S => r = bo true ∧ S = [])
    (en1 : CallR cx 43 [.d (.agg [.sl 7 [], .sl 4 []]), .d (.int .u32 1), st mB, u64 0] [] fun r S => r = .tup [.d (.agg [.sl 7 TW, .sl 4 HW]), i64 0] ∧ S = [])
    (gr : CallR cx 44 [.d (.agg [.sl 7 TW, .sl 4 HW]), .d (.int .u32 1), st mB, st adaB, u64 have'] [] fun r S => r = .tup [.d (.agg [.sl 7 TA, .sl 4 HA]), i64 e0] ∧ S = [])
    (en2 : CallR cx 43 [.d (.agg [.sl 7 [], .sl 4 []]), .d (.int .u32 1), st mB, u64 most] [] fun r S => r = .tup [.d (.agg [.sl 7 TB, .sl 4 HB]), i64 0] ∧ S = []) :
    CallR cx 10 [u64 have', u64 n, u64 most] [] fun r S => r = bo true ∧ S = [] := by
  refine callR_of (R := R1) cx_ok Tryd.func10 (by kernel_rfl) rfl ?_
  conv => whnf
  refine ⟨_, aw, ?_⟩
  rintro _ _ ⟨rfl, rfl⟩
  conv => whnf
  refine ⟨_, en1, ?_⟩
  rintro _ _ ⟨rfl, rfl⟩
  conv => whnf
  refine ⟨_, gr, ?_⟩
  rintro _ _ ⟨rfl, rfl⟩
  conv => whnf
  refine ⟨_, en2, ?_⟩
  rintro _ _ ⟨rfl, rfl⟩
  conv => whnf
  refine ⟨_, s1, ?_⟩
  rintro _ _ ⟨rfl, rfl⟩
  conv => whnf
  refine brF (beq_eq_false_iff_ne.2 hn) ?_
  conv => whnf
  refine brF (decide_eq_false hh) ?_
  conv => whnf
  refine ⟨_, h1, ?_⟩
  rintro _ _ ⟨rfl, rfl⟩
  conv => whnf
  refine brT (decide_eq_true hm) ?_
  conv => whnf
  refine ⟨_, sm, ?_⟩
  rintro _ _ ⟨rfl, rfl⟩
  conv => whnf
  exact ⟨rfl, rfl⟩

theorem rc_ok {TV HV : List D} {hx : Int} (s1 : CallR cx 45 [.d (.agg [.sl 7 TA, .sl 4 HA]), .d (.int .u32 1), .d (sdD adaB 1 mB bobB n (.int .u64 0) (.agg [.int .i64 0, .sl 32 [], .sl 32 [], .sl 32 []]))] [] fun r S => r = .tup [.d (.agg [.sl 7 TX, .sl 4 HX]), st body, i64 0] ∧ S = [])
    (hn : n ≠ 0) (hh : ¬ n > have') (hm : ¬ n > most)
    (h1 : CallR cx 46 [.d (.agg [.sl 7 TB, .sl 4 HB]), .d (.int .u32 2), st rtB, .d (ltD 1 0 2 rtB rtB body)] [] fun r S => r = .tup [.d (.agg [.sl 7 TY, .sl 4 HY]), .d py, i64 0] ∧ S = [])
    (s2 : CallR cx 45 [.d (.agg [.sl 7 TY, .sl 4 HY]), .d (.int .u32 2), .d (sdD bobB 1 mB adaB n (.int .u64 0) (.agg [.int .i64 0, .sl 32 [], .sl 32 [], .sl 32 []]))] [] fun r S => r = .tup [.d (.agg [.sl 7 TZ, .sl 4 HZ]), st body2, i64 0] ∧ S = [])
    (h2 : CallR cx 46 [.d (.agg [.sl 7 TX, .sl 4 HX]), .d (.int .u32 1), st rtB, .d (ltD 2 0 1 rtB rtB body2)] [] fun r S => r = .tup [.d (.agg [.sl 7 TV, .sl 4 HV]), .d pw, i64 0] ∧ S = [])
    (k1 : CallR cx 47 [.d (.agg [.sl 7 TY, .sl 4 HY]), .d (.int .u32 1), st mB, st bobB] [] fun r S => r = u64 n ∧ S = [])
    (k2 : CallR cx 47 [.d (.agg [.sl 7 TX, .sl 4 HX]), .d (.int .u32 1), st mB, st adaB] [] fun r S => r = u64 hx ∧ S = [])
    (hhx : hx = IntKind.u64.wrap (have' - n))
    (k3 : CallR cx 47 [.d (.agg [.sl 7 TZ, .sl 4 HZ]), .d (.int .u32 1), st mB, st bobB] [] fun r S => r = u64 0 ∧ S = [])
    (k4 : CallR cx 47 [.d (.agg [.sl 7 TV, .sl 4 HV]), .d (.int .u32 1), st mB, st adaB] [] fun r S => r = u64 have' ∧ S = [])
    (aw : CallR cx 42 [] [] fun r S => r = bo true ∧ S = [])
    (en1 : CallR cx 43 [.d (.agg [.sl 7 [], .sl 4 []]), .d (.int .u32 1), st mB, u64 0] [] fun r S => r = .tup [.d (.agg [.sl 7 TW, .sl 4 HW]), i64 0] ∧ S = [])
    (gr : CallR cx 44 [.d (.agg [.sl 7 TW, .sl 4 HW]), .d (.int .u32 1), st mB, st adaB, u64 have'] [] fun r S => r = .tup [.d (.agg [.sl 7 TA, .sl 4 HA]), i64 e0] ∧ S = [])
    (en2 : CallR cx 43 [.d (.agg [.sl 7 [], .sl 4 []]), .d (.int .u32 1), st mB, u64 most] [] fun r S => r = .tup [.d (.agg [.sl 7 TB, .sl 4 HB]), i64 0] ∧ S = []) :
    CallR cx 10 [u64 have', u64 n, u64 most] [] fun r S => r = bo true ∧ S = [] := by
  refine callR_of (R := R1) cx_ok Tryd.func10 (by kernel_rfl) rfl ?_
  conv => whnf
  refine ⟨_, aw, ?_⟩
  rintro _ _ ⟨rfl, rfl⟩
  conv => whnf
  refine ⟨_, en1, ?_⟩
  rintro _ _ ⟨rfl, rfl⟩
  conv => whnf
  refine ⟨_, gr, ?_⟩
  rintro _ _ ⟨rfl, rfl⟩
  conv => whnf
  refine ⟨_, en2, ?_⟩
  rintro _ _ ⟨rfl, rfl⟩
  conv => whnf
  refine ⟨_, s1, ?_⟩
  rintro _ _ ⟨rfl, rfl⟩
  conv => whnf
  refine brF (beq_eq_false_iff_ne.2 hn) ?_
  conv => whnf
  refine brF (decide_eq_false hh) ?_
  conv => whnf
  refine ⟨_, h1, ?_⟩
  rintro _ _ ⟨rfl, rfl⟩
  conv => whnf
  refine brF (decide_eq_false hm) ?_
  conv => whnf
  refine ⟨_, s2, ?_⟩
  rintro _ _ ⟨rfl, rfl⟩
  conv => whnf
  refine ⟨_, h2, ?_⟩
  rintro _ _ ⟨rfl, rfl⟩
  conv => whnf
  refine ⟨_, k1, ?_⟩
  rintro _ _ ⟨rfl, rfl⟩
  conv => whnf
  refine brT (beq_self_eq_true _) ?_
  conv => whnf
  refine ⟨_, k2, ?_⟩
  rintro _ _ ⟨rfl, rfl⟩
  conv => whnf
  refine brT (beq_iff_eq.2 hhx) ?_
  conv => whnf
  refine ⟨_, k3, ?_⟩
  rintro _ _ ⟨rfl, rfl⟩
  conv => whnf
  refine ⟨_, k4, ?_⟩
  rintro _ _ ⟨rfl, rfl⟩
  conv => whnf
  exact ⟨congrArg (fun z => AV.d (.bool z)) (beq_self_eq_true _), rfl⟩
end
end Go.Proofs.YtmdfpifcghmpfaaDoor
