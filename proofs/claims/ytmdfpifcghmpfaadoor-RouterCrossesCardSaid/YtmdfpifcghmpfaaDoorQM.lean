/- Purses: what is taken and granted; locked, unlocked, minted, burned. Purses: what is taken and granted, locked, unlocked, minted, burned: the program's contracts. Purses: what is locked, unlocked, minted, burned: the program's contracts. -/
import Derived.Test.YtmdfpifcghmpfaaDoorQ5
set_option linter.unusedVariables false
namespace Go.Proofs.YtmdfpifcghmpfaaDoor
open Go.Ab Go.RowKit

theorem take_no {T H : List D} {o k : Int} {n w : ByteArray} (tc : CallR cx 79 [.d (.agg [.sl 7 T, .sl 4 H]), .d (ky o n)] [] fun r S => r = i64 (-1) ∧ S = []) :
    CallR cx 81 [.d (.agg [.sl 7 T, .sl 4 H]), .d (.int .u32 o), st n, st w, u64 k] [] fun r S => r = .tup [.d (.agg [.sl 7 T, .sl 4 H]), i64 40] ∧ S = [] := by
  refine callR_of (R := R1) cx_ok Tryd.func81 (by kernel_rfl) rfl ?_
  conv => whnf
  refine ⟨_, tc, ?_⟩
  rintro _ _ ⟨rfl, rfl⟩
  conv => whnf
  exact ⟨rfl, rfl⟩

theorem take_er {T H : List D} {o k : Int} {n w : ByteArray} {x v : Int} {J : Int} (hJ : 0 ≤ J)
    (tc : CallR cx 79 [.d (.agg [.sl 7 T, .sl 4 H]), .d (ky o n)] [] fun r S => r = i64 J ∧ S = [])
    (hv : CallR cx 47 [.d (.agg [.sl 7 T, .sl 4 H]), .d (.int .u32 o), st n, st w] [] fun r S => r = u64 v ∧ S = [])
    (sb : CallR cx 55 [u64 v, u64 k] [] fun r S => r = .tup [u64 x, i64 11] ∧ S = []) :
    CallR cx 81 [.d (.agg [.sl 7 T, .sl 4 H]), .d (.int .u32 o), st n, st w, u64 k] [] fun r S => r = .tup [.d (.agg [.sl 7 T, .sl 4 H]), i64 11] ∧ S = [] := by
  refine callR_of (R := R1) cx_ok Tryd.func81 (by kernel_rfl) rfl ?_
  conv => whnf
  refine ⟨_, tc, ?_⟩
  rintro _ _ ⟨rfl, rfl⟩
  conv => whnf
  refine brF (decide_eq_false (by omega)) ?_
  conv => whnf
  refine ⟨_, hv, ?_⟩
  rintro _ _ ⟨rfl, rfl⟩
  conv => whnf
  refine ⟨_, sb, ?_⟩
  rintro _ _ ⟨rfl, rfl⟩
  conv => whnf
  exact ⟨rfl, rfl⟩

theorem take_ok {T H T2 H2 : List D} {o k : Int} {n w : ByteArray} {x v : Int} {J : Int} (hJ : 0 ≤ J)
    (tc : CallR cx 79 [.d (.agg [.sl 7 T, .sl 4 H]), .d (ky o n)] [] fun r S => r = i64 J ∧ S = [])
    (hv : CallR cx 47 [.d (.agg [.sl 7 T, .sl 4 H]), .d (.int .u32 o), st n, st w] [] fun r S => r = u64 v ∧ S = [])
    (sb : CallR cx 55 [u64 v, u64 k] [] fun r S => r = .tup [u64 x, i64 0] ∧ S = [])
    (pt : CallR cx 96 [.d (.agg [.sl 7 T, .sl 4 H]), .d (ky o n), st w, u64 x] [] fun r S => r = .d (.agg [.sl 7 T2, .sl 4 H2]) ∧ S = []) :
    CallR cx 81 [.d (.agg [.sl 7 T, .sl 4 H]), .d (.int .u32 o), st n, st w, u64 k] [] fun r S => r = .tup [.d (.agg [.sl 7 T2, .sl 4 H2]), i64 0] ∧ S = [] := by
  refine callR_of (R := R1) cx_ok Tryd.func81 (by kernel_rfl) rfl ?_
  conv => whnf
  refine ⟨_, tc, ?_⟩
  rintro _ _ ⟨rfl, rfl⟩
  conv => whnf
  refine brF (decide_eq_false (by omega)) ?_
  conv => whnf
  refine ⟨_, hv, ?_⟩
  rintro _ _ ⟨rfl, rfl⟩
  conv => whnf
  refine ⟨_, sb, ?_⟩
  rintro _ _ ⟨rfl, rfl⟩
  conv => whnf
  refine ⟨_, pt, ?_⟩
  rintro _ _ ⟨rfl, rfl⟩
  conv => whnf
  exact ⟨rfl, rfl⟩

theorem grant_no {T H : List D} {o k : Int} {n w : ByteArray} (tc : CallR cx 79 [.d (.agg [.sl 7 T, .sl 4 H]), .d (ky o n)] [] fun r S => r = i64 (-1) ∧ S = []) :
    CallR cx 44 [.d (.agg [.sl 7 T, .sl 4 H]), .d (.int .u32 o), st n, st w, u64 k] [] fun r S => r = .tup [.d (.agg [.sl 7 T, .sl 4 H]), i64 40] ∧ S = [] := by
  refine callR_of (R := R1) cx_ok Tryd.func44 (by kernel_rfl) rfl ?_
  conv => whnf
  refine ⟨_, tc, ?_⟩
  rintro _ _ ⟨rfl, rfl⟩
  conv => whnf
  exact ⟨rfl, rfl⟩

theorem grant_nm {T H : List D} {o k : Int} {n w : ByteArray} {J : Int} (hJ : 0 ≤ J)
    (tc : CallR cx 79 [.d (.agg [.sl 7 T, .sl 4 H]), .d (ky o n)] [] fun r S => r = i64 J ∧ S = [])
    (rn : CallR cx 70 [st w] [] fun r S => r = bo false ∧ S = []) :
    CallR cx 44 [.d (.agg [.sl 7 T, .sl 4 H]), .d (.int .u32 o), st n, st w, u64 k] [] fun r S => r = .tup [.d (.agg [.sl 7 T, .sl 4 H]), i64 7] ∧ S = [] := by
  refine callR_of (R := R1) cx_ok Tryd.func44 (by kernel_rfl) rfl ?_
  conv => whnf
  refine ⟨_, tc, ?_⟩
  rintro _ _ ⟨rfl, rfl⟩
  conv => whnf
  refine brF (decide_eq_false (by omega)) ?_
  conv => whnf
  refine ⟨_, rn, ?_⟩
  rintro _ _ ⟨rfl, rfl⟩
  conv => whnf
  exact ⟨rfl, rfl⟩

theorem grant_er {T H : List D} {o k : Int} {n w : ByteArray} {x v : Int} {J : Int} (hJ : 0 ≤ J)
    (tc : CallR cx 79 [.d (.agg [.sl 7 T, .sl 4 H]), .d (ky o n)] [] fun r S => r = i64 J ∧ S = [])
    (rn : CallR cx 70 [st w] [] fun r S => r = bo true ∧ S = [])
    (hv : CallR cx 47 [.d (.agg [.sl 7 T, .sl 4 H]), .d (.int .u32 o), st n, st w] [] fun r S => r = u64 v ∧ S = [])
    (ad : CallR cx 53 [u64 v, u64 k] [] fun r S => r = .tup [u64 x, i64 10] ∧ S = []) :
    CallR cx 44 [.d (.agg [.sl 7 T, .sl 4 H]), .d (.int .u32 o), st n, st w, u64 k] [] fun r S => r = .tup [.d (.agg [.sl 7 T, .sl 4 H]), i64 10] ∧ S = [] := by
  refine callR_of (R := R1) cx_ok Tryd.func44 (by kernel_rfl) rfl ?_
  conv => whnf
  refine ⟨_, tc, ?_⟩
  rintro _ _ ⟨rfl, rfl⟩
  conv => whnf
  refine brF (decide_eq_false (by omega)) ?_
  conv => whnf
  refine ⟨_, rn, ?_⟩
  rintro _ _ ⟨rfl, rfl⟩
  conv => whnf
  refine ⟨_, hv, ?_⟩
  rintro _ _ ⟨rfl, rfl⟩
  conv => whnf
  refine ⟨_, ad, ?_⟩
  rintro _ _ ⟨rfl, rfl⟩
  conv => whnf
  exact ⟨rfl, rfl⟩

theorem grant_ok {T H T2 H2 : List D} {o k : Int} {n w : ByteArray} {x v : Int} {J : Int} (hJ : 0 ≤ J)
    (tc : CallR cx 79 [.d (.agg [.sl 7 T, .sl 4 H]), .d (ky o n)] [] fun r S => r = i64 J ∧ S = [])
    (rn : CallR cx 70 [st w] [] fun r S => r = bo true ∧ S = [])
    (hv : CallR cx 47 [.d (.agg [.sl 7 T, .sl 4 H]), .d (.int .u32 o), st n, st w] [] fun r S => r = u64 v ∧ S = [])
    (ad : CallR cx 53 [u64 v, u64 k] [] fun r S => r = .tup [u64 x, i64 0] ∧ S = [])
    (pt : CallR cx 96 [.d (.agg [.sl 7 T, .sl 4 H]), .d (ky o n), st w, u64 x] [] fun r S => r = .d (.agg [.sl 7 T2, .sl 4 H2]) ∧ S = []) :
    CallR cx 44 [.d (.agg [.sl 7 T, .sl 4 H]), .d (.int .u32 o), st n, st w, u64 k] [] fun r S => r = .tup [.d (.agg [.sl 7 T2, .sl 4 H2]), i64 0] ∧ S = [] := by
  refine callR_of (R := R1) cx_ok Tryd.func44 (by kernel_rfl) rfl ?_
  conv => whnf
  refine ⟨_, tc, ?_⟩
  rintro _ _ ⟨rfl, rfl⟩
  conv => whnf
  refine brF (decide_eq_false (by omega)) ?_
  conv => whnf
  refine ⟨_, rn, ?_⟩
  rintro _ _ ⟨rfl, rfl⟩
  conv => whnf
  refine ⟨_, hv, ?_⟩
  rintro _ _ ⟨rfl, rfl⟩
  conv => whnf
  refine ⟨_, ad, ?_⟩
  rintro _ _ ⟨rfl, rfl⟩
  conv => whnf
  refine ⟨_, pt, ?_⟩
  rintro _ _ ⟨rfl, rfl⟩
  conv => whnf
  exact ⟨rfl, rfl⟩

theorem lock_no {T H T2 H2 : List D} {o k : Int} {n w : ByteArray} {e : Int} (he : e ≠ 0)
    (tk : CallR cx 81 [.d (.agg [.sl 7 T, .sl 4 H]), .d (.int .u32 o), st n, st w, u64 k] [] fun r S => r = .tup [.d (.agg [.sl 7 T2, .sl 4 H2]), i64 e] ∧ S = []) :
    CallR cx 33 [.d (.agg [.sl 7 T, .sl 4 H]), .d (.int .u32 o), st n, st w, u64 k] [] fun r S => r = .tup [.d (.agg [.sl 7 T, .sl 4 H]), i64 e] ∧ S = [] := by
  refine callR_of (R := R1) cx_ok Tryd.func33 (by kernel_rfl) rfl ?_
  conv => whnf
  refine ⟨_, tk, ?_⟩
  rintro _ _ ⟨rfl, rfl⟩
  conv => whnf
  refine brT (bne_iff_ne.2 he) ?_
  conv => whnf
  exact ⟨rfl, rfl⟩

theorem lock_er {T H T2 H2 : List D} {o k : Int} {n w : ByteArray} {to a b c d e x : Int} {tn : ByteArray} {J : Int} (hJ : 0 ≤ J)
    (hJT : J < T.length) (hgd : T.getD J.toNat .nilP = .agg [.int .u32 to, .str tn, .int .u64 a, .int .u64 b, .int .u64 c, .int .u64 d, .int .u64 e])
    (tk : CallR cx 81 [.d (.agg [.sl 7 T, .sl 4 H]), .d (.int .u32 o), st n, st w, u64 k] [] fun r S => r = .tup [.d (.agg [.sl 7 T2, .sl 4 H2]), i64 0] ∧ S = [])
    (tc : CallR cx 79 [.d (.agg [.sl 7 T, .sl 4 H]), .d (ky o n)] [] fun r S => r = i64 J ∧ S = [])
    (ad : CallR cx 53 [u64 b, u64 k] [] fun r S => r = .tup [u64 x, i64 10] ∧ S = []) :
    CallR cx 33 [.d (.agg [.sl 7 T, .sl 4 H]), .d (.int .u32 o), st n, st w, u64 k] [] fun r S => r = .tup [.d (.agg [.sl 7 T, .sl 4 H]), i64 10] ∧ S = [] := by
  refine callR_of (R := R1) cx_ok Tryd.func33 (by kernel_rfl) rfl ?_
  conv => whnf
  refine ⟨_, tk, ?_⟩
  rintro _ _ ⟨rfl, rfl⟩
  conv => whnf
  refine ⟨_, tc, ?_⟩
  rintro _ _ ⟨rfl, rfl⟩
  conv => whnf
  refine ⟨⟨by omega, by omega⟩, ?_⟩
  rw [hgd]
  conv => whnf
  refine ⟨_, ad, ?_⟩
  rintro _ _ ⟨rfl, rfl⟩
  conv => whnf
  exact ⟨rfl, rfl⟩

theorem lock_ok {T H T2 H2 T3 H3 : List D} {o k : Int} {n w : ByteArray} {to a b c d e x : Int} {tn : ByteArray} {J : Int} (hJ : 0 ≤ J)
    (hJT : J < T.length) (hgd : T.getD J.toNat .nilP = .agg [.int .u32 to, .str tn, .int .u64 a, .int .u64 b, .int .u64 c, .int .u64 d, .int .u64 e])
    (tk : CallR cx 81 [.d (.agg [.sl 7 T, .sl 4 H]), .d (.int .u32 o), st n, st w, u64 k] [] fun r S => r = .tup [.d (.agg [.sl 7 T2, .sl 4 H2]), i64 0] ∧ S = [])
    (tc : CallR cx 79 [.d (.agg [.sl 7 T, .sl 4 H]), .d (ky o n)] [] fun r S => r = i64 J ∧ S = [])
    (ad : CallR cx 53 [u64 b, u64 k] [] fun r S => r = .tup [u64 x, i64 0] ∧ S = [])
    (wi : CallR cx 82 [.d (.agg [.sl 7 T2, .sl 4 H2]), i64 J, .d (.agg [.int .u32 to, .str tn, .int .u64 a, .int .u64 x, .int .u64 c, .int .u64 d, .int .u64 e])] [] fun r S => r = .d (.agg [.sl 7 T3, .sl 4 H3]) ∧ S = []) :
    CallR cx 33 [.d (.agg [.sl 7 T, .sl 4 H]), .d (.int .u32 o), st n, st w, u64 k] [] fun r S => r = .tup [.d (.agg [.sl 7 T3, .sl 4 H3]), i64 0] ∧ S = [] := by
  refine callR_of (R := R1) cx_ok Tryd.func33 (by kernel_rfl) rfl ?_
  conv => whnf
  refine ⟨_, tk, ?_⟩
  rintro _ _ ⟨rfl, rfl⟩
  conv => whnf
  refine ⟨_, tc, ?_⟩
  rintro _ _ ⟨rfl, rfl⟩
  conv => whnf
  refine ⟨⟨by omega, by omega⟩, ?_⟩
  rw [hgd]
  conv => whnf
  refine ⟨_, ad, ?_⟩
  rintro _ _ ⟨rfl, rfl⟩
  conv => whnf
  refine ⟨_, wi, ?_⟩
  rintro _ _ ⟨rfl, rfl⟩
  conv => whnf
  exact ⟨rfl, rfl⟩

theorem burn_no {T H T2 H2 : List D} {o k : Int} {n w : ByteArray} {e : Int} (he : e ≠ 0)
    (tk : CallR cx 81 [.d (.agg [.sl 7 T, .sl 4 H]), .d (.int .u32 o), st n, st w, u64 k] [] fun r S => r = .tup [.d (.agg [.sl 7 T2, .sl 4 H2]), i64 e] ∧ S = []) :
    CallR cx 37 [.d (.agg [.sl 7 T, .sl 4 H]), .d (.int .u32 o), st n, st w, u64 k] [] fun r S => r = .tup [.d (.agg [.sl 7 T, .sl 4 H]), i64 e] ∧ S = [] := by
  refine callR_of (R := R1) cx_ok Tryd.func37 (by kernel_rfl) rfl ?_
  conv => whnf
  refine ⟨_, tk, ?_⟩
  rintro _ _ ⟨rfl, rfl⟩
  conv => whnf
  refine brT (bne_iff_ne.2 he) ?_
  conv => whnf
  exact ⟨rfl, rfl⟩

theorem burn_er {T H T2 H2 : List D} {o k : Int} {n w : ByteArray} {to a b c d e x : Int} {tn : ByteArray} {J : Int} (hJ : 0 ≤ J)
    (hJT : J < T.length) (hgd : T.getD J.toNat .nilP = .agg [.int .u32 to, .str tn, .int .u64 a, .int .u64 b, .int .u64 c, .int .u64 d, .int .u64 e])
    (tk : CallR cx 81 [.d (.agg [.sl 7 T, .sl 4 H]), .d (.int .u32 o), st n, st w, u64 k] [] fun r S => r = .tup [.d (.agg [.sl 7 T2, .sl 4 H2]), i64 0] ∧ S = [])
    (tc : CallR cx 79 [.d (.agg [.sl 7 T, .sl 4 H]), .d (ky o n)] [] fun r S => r = i64 J ∧ S = [])
    (ad : CallR cx 53 [u64 e, u64 k] [] fun r S => r = .tup [u64 x, i64 10] ∧ S = []) :
    CallR cx 37 [.d (.agg [.sl 7 T, .sl 4 H]), .d (.int .u32 o), st n, st w, u64 k] [] fun r S => r = .tup [.d (.agg [.sl 7 T, .sl 4 H]), i64 10] ∧ S = [] := by
  refine callR_of (R := R1) cx_ok Tryd.func37 (by kernel_rfl) rfl ?_
  conv => whnf
  refine ⟨_, tk, ?_⟩
  rintro _ _ ⟨rfl, rfl⟩
  conv => whnf
  refine ⟨_, tc, ?_⟩
  rintro _ _ ⟨rfl, rfl⟩
  conv => whnf
  refine ⟨⟨by omega, by omega⟩, ?_⟩
  rw [hgd]
  conv => whnf
  refine ⟨_, ad, ?_⟩
  rintro _ _ ⟨rfl, rfl⟩
  conv => whnf
  exact ⟨rfl, rfl⟩

theorem burn_ok {T H T2 H2 T3 H3 : List D} {o k : Int} {n w : ByteArray} {to a b c d e x : Int} {tn : ByteArray} {J : Int} (hJ : 0 ≤ J)
    (hJT : J < T.length) (hgd : T.getD J.toNat .nilP = .agg [.int .u32 to, .str tn, .int .u64 a, .int .u64 b, .int .u64 c, .int .u64 d, .int .u64 e])
    (tk : CallR cx 81 [.d (.agg [.sl 7 T, .sl 4 H]), .d (.int .u32 o), st n, st w, u64 k] [] fun r S => r = .tup [.d (.agg [.sl 7 T2, .sl 4 H2]), i64 0] ∧ S = [])
    (tc : CallR cx 79 [.d (.agg [.sl 7 T, .sl 4 H]), .d (ky o n)] [] fun r S => r = i64 J ∧ S = [])
    (ad : CallR cx 53 [u64 e, u64 k] [] fun r S => r = .tup [u64 x, i64 0] ∧ S = [])
    (wi : CallR cx 82 [.d (.agg [.sl 7 T2, .sl 4 H2]), i64 J, .d (.agg [.int .u32 to, .str tn, .int .u64 a, .int .u64 b, .int .u64 c, .int .u64 d, .int .u64 x])] [] fun r S => r = .d (.agg [.sl 7 T3, .sl 4 H3]) ∧ S = []) :
    CallR cx 37 [.d (.agg [.sl 7 T, .sl 4 H]), .d (.int .u32 o), st n, st w, u64 k] [] fun r S => r = .tup [.d (.agg [.sl 7 T3, .sl 4 H3]), i64 0] ∧ S = [] := by
  refine callR_of (R := R1) cx_ok Tryd.func37 (by kernel_rfl) rfl ?_
  conv => whnf
  refine ⟨_, tk, ?_⟩
  rintro _ _ ⟨rfl, rfl⟩
  conv => whnf
  refine ⟨_, tc, ?_⟩
  rintro _ _ ⟨rfl, rfl⟩
  conv => whnf
  refine ⟨⟨by omega, by omega⟩, ?_⟩
  rw [hgd]
  conv => whnf
  refine ⟨_, ad, ?_⟩
  rintro _ _ ⟨rfl, rfl⟩
  conv => whnf
  refine ⟨_, wi, ?_⟩
  rintro _ _ ⟨rfl, rfl⟩
  conv => whnf
  exact ⟨rfl, rfl⟩

theorem unlock_no {T H : List D} {o k : Int} {n w : ByteArray} (tc : CallR cx 79 [.d (.agg [.sl 7 T, .sl 4 H]), .d (ky o n)] [] fun r S => r = i64 (-1) ∧ S = []) :
    CallR cx 34 [.d (.agg [.sl 7 T, .sl 4 H]), .d (.int .u32 o), st n, st w, u64 k] [] fun r S => r = .tup [.d (.agg [.sl 7 T, .sl 4 H]), i64 40] ∧ S = [] := by
  refine callR_of (R := R1) cx_ok Tryd.func34 (by kernel_rfl) rfl ?_
  conv => whnf
  refine ⟨_, tc, ?_⟩
  rintro _ _ ⟨rfl, rfl⟩
  conv => whnf
  exact ⟨rfl, rfl⟩

theorem unlock_un {T H : List D} {o k : Int} {n w : ByteArray} {to a b c d e x : Int} {tn : ByteArray} {mi lo : Int} {J : Int} (hJ : 0 ≤ J)
    (hJT : J < T.length) (hgd : T.getD J.toNat .nilP = .agg [.int .u32 to, .str tn, .int .u64 a, .int .u64 b, .int .u64 c, .int .u64 d, .int .u64 e])
    (tc : CallR cx 79 [.d (.agg [.sl 7 T, .sl 4 H]), .d (ky o n)] [] fun r S => r = i64 J ∧ S = [])
    (ou : CallR cx 41 [.d (.agg [.int .u32 to, .str tn, .int .u64 a, .int .u64 b, .int .u64 c, .int .u64 d, .int .u64 e])] [] fun r S => r = .tup [u64 mi, u64 lo] ∧ S = [])
    (hlo : lo < k) :
    CallR cx 34 [.d (.agg [.sl 7 T, .sl 4 H]), .d (.int .u32 o), st n, st w, u64 k] [] fun r S => r = .tup [.d (.agg [.sl 7 T, .sl 4 H]), i64 11] ∧ S = [] := by
  refine callR_of (R := R1) cx_ok Tryd.func34 (by kernel_rfl) rfl ?_
  conv => whnf
  refine ⟨_, tc, ?_⟩
  rintro _ _ ⟨rfl, rfl⟩
  conv => whnf
  refine brF (decide_eq_false (by omega)) ?_
  conv => whnf
  refine ⟨⟨by omega, by omega⟩, ?_⟩
  rw [hgd]
  conv => whnf
  refine ⟨_, ou, ?_⟩
  rintro _ _ ⟨rfl, rfl⟩
  conv => whnf
  refine brT (decide_eq_true hlo) ?_
  conv => whnf
  exact ⟨rfl, rfl⟩

theorem unlock_er {T H : List D} {o k : Int} {n w : ByteArray} {to a b c d e x : Int} {tn : ByteArray} {mi lo : Int} {J : Int} (hJ : 0 ≤ J)
    (hJT : J < T.length) (hgd : T.getD J.toNat .nilP = .agg [.int .u32 to, .str tn, .int .u64 a, .int .u64 b, .int .u64 c, .int .u64 d, .int .u64 e])
    (tc : CallR cx 79 [.d (.agg [.sl 7 T, .sl 4 H]), .d (ky o n)] [] fun r S => r = i64 J ∧ S = [])
    (ou : CallR cx 41 [.d (.agg [.int .u32 to, .str tn, .int .u64 a, .int .u64 b, .int .u64 c, .int .u64 d, .int .u64 e])] [] fun r S => r = .tup [u64 mi, u64 lo] ∧ S = [])
    (hlo : ¬ lo < k)
    (ad : CallR cx 53 [u64 c, u64 k] [] fun r S => r = .tup [u64 x, i64 10] ∧ S = []) :
    CallR cx 34 [.d (.agg [.sl 7 T, .sl 4 H]), .d (.int .u32 o), st n, st w, u64 k] [] fun r S => r = .tup [.d (.agg [.sl 7 T, .sl 4 H]), i64 10] ∧ S = [] := by
  refine callR_of (R := R1) cx_ok Tryd.func34 (by kernel_rfl) rfl ?_
  conv => whnf
  refine ⟨_, tc, ?_⟩
  rintro _ _ ⟨rfl, rfl⟩
  conv => whnf
  refine brF (decide_eq_false (by omega)) ?_
  conv => whnf
  refine ⟨⟨by omega, by omega⟩, ?_⟩
  rw [hgd]
  conv => whnf
  refine ⟨_, ou, ?_⟩
  rintro _ _ ⟨rfl, rfl⟩
  conv => whnf
  refine brF (decide_eq_false hlo) ?_
  conv => whnf
  refine ⟨_, ad, ?_⟩
  rintro _ _ ⟨rfl, rfl⟩
  conv => whnf
  exact ⟨rfl, rfl⟩

theorem unlock_ge {T H T2 H2 : List D} {o k : Int} {n w : ByteArray} {to a b c d e x : Int} {tn : ByteArray} {mi lo : Int} {J : Int} (hJ : 0 ≤ J) {e9 : Int} (he : e9 ≠ 0)
    (hJT : J < T.length) (hgd : T.getD J.toNat .nilP = .agg [.int .u32 to, .str tn, .int .u64 a, .int .u64 b, .int .u64 c, .int .u64 d, .int .u64 e])
    (tc : CallR cx 79 [.d (.agg [.sl 7 T, .sl 4 H]), .d (ky o n)] [] fun r S => r = i64 J ∧ S = [])
    (ou : CallR cx 41 [.d (.agg [.int .u32 to, .str tn, .int .u64 a, .int .u64 b, .int .u64 c, .int .u64 d, .int .u64 e])] [] fun r S => r = .tup [u64 mi, u64 lo] ∧ S = [])
    (hlo : ¬ lo < k)
    (ad : CallR cx 53 [u64 c, u64 k] [] fun r S => r = .tup [u64 x, i64 0] ∧ S = [])
    (gr : CallR cx 44 [.d (.agg [.sl 7 T, .sl 4 H]), .d (.int .u32 o), st n, st w, u64 k] [] fun r S => r = .tup [.d (.agg [.sl 7 T2, .sl 4 H2]), i64 e9] ∧ S = []) :
    CallR cx 34 [.d (.agg [.sl 7 T, .sl 4 H]), .d (.int .u32 o), st n, st w, u64 k] [] fun r S => r = .tup [.d (.agg [.sl 7 T, .sl 4 H]), i64 e9] ∧ S = [] := by
  refine callR_of (R := R1) cx_ok Tryd.func34 (by kernel_rfl) rfl ?_
  conv => whnf
  refine ⟨_, tc, ?_⟩
  rintro _ _ ⟨rfl, rfl⟩
  conv => whnf
  refine brF (decide_eq_false (by omega)) ?_
  conv => whnf
  refine ⟨⟨by omega, by omega⟩, ?_⟩
  rw [hgd]
  conv => whnf
  refine ⟨_, ou, ?_⟩
  rintro _ _ ⟨rfl, rfl⟩
  conv => whnf
  refine brF (decide_eq_false hlo) ?_
  conv => whnf
  refine ⟨_, ad, ?_⟩
  rintro _ _ ⟨rfl, rfl⟩
  conv => whnf
  refine ⟨_, gr, ?_⟩
  rintro _ _ ⟨rfl, rfl⟩
  conv => whnf
  refine brT (bne_iff_ne.2 he) ?_
  conv => whnf
  exact ⟨rfl, rfl⟩

theorem unlock_ok {T H T2 H2 T3 H3 : List D} {o k : Int} {n w : ByteArray} {to a b c d e x : Int} {tn : ByteArray} {mi lo : Int} {J : Int} (hJ : 0 ≤ J)
    (hJT : J < T.length) (hgd : T.getD J.toNat .nilP = .agg [.int .u32 to, .str tn, .int .u64 a, .int .u64 b, .int .u64 c, .int .u64 d, .int .u64 e])
    (tc : CallR cx 79 [.d (.agg [.sl 7 T, .sl 4 H]), .d (ky o n)] [] fun r S => r = i64 J ∧ S = [])
    (ou : CallR cx 41 [.d (.agg [.int .u32 to, .str tn, .int .u64 a, .int .u64 b, .int .u64 c, .int .u64 d, .int .u64 e])] [] fun r S => r = .tup [u64 mi, u64 lo] ∧ S = [])
    (hlo : ¬ lo < k)
    (ad : CallR cx 53 [u64 c, u64 k] [] fun r S => r = .tup [u64 x, i64 0] ∧ S = [])
    (gr : CallR cx 44 [.d (.agg [.sl 7 T, .sl 4 H]), .d (.int .u32 o), st n, st w, u64 k] [] fun r S => r = .tup [.d (.agg [.sl 7 T2, .sl 4 H2]), i64 0] ∧ S = [])
    (wi : CallR cx 82 [.d (.agg [.sl 7 T2, .sl 4 H2]), i64 J, .d (.agg [.int .u32 to, .str tn, .int .u64 a, .int .u64 b, .int .u64 x, .int .u64 d, .int .u64 e])] [] fun r S => r = .d (.agg [.sl 7 T3, .sl 4 H3]) ∧ S = []) :
    CallR cx 34 [.d (.agg [.sl 7 T, .sl 4 H]), .d (.int .u32 o), st n, st w, u64 k] [] fun r S => r = .tup [.d (.agg [.sl 7 T3, .sl 4 H3]), i64 0] ∧ S = [] := by
  refine callR_of (R := R1) cx_ok Tryd.func34 (by kernel_rfl) rfl ?_
  conv => whnf
  refine ⟨_, tc, ?_⟩
  rintro _ _ ⟨rfl, rfl⟩
  conv => whnf
  refine brF (decide_eq_false (by omega)) ?_
  conv => whnf
  refine ⟨⟨by omega, by omega⟩, ?_⟩
  rw [hgd]
  conv => whnf
  refine ⟨_, ou, ?_⟩
  rintro _ _ ⟨rfl, rfl⟩
  conv => whnf
  refine brF (decide_eq_false hlo) ?_
  conv => whnf
  refine ⟨_, ad, ?_⟩
  rintro _ _ ⟨rfl, rfl⟩
  conv => whnf
  refine ⟨_, gr, ?_⟩
  rintro _ _ ⟨rfl, rfl⟩
  conv => whnf
  refine ⟨_, wi, ?_⟩
  rintro _ _ ⟨rfl, rfl⟩
  conv => whnf
  exact ⟨rfl, rfl⟩

theorem mint_no {T H : List D} {o k : Int} {n w : ByteArray} (tc : CallR cx 79 [.d (.agg [.sl 7 T, .sl 4 H]), .d (ky o n)] [] fun r S => r = i64 (-1) ∧ S = []) :
    CallR cx 36 [.d (.agg [.sl 7 T, .sl 4 H]), .d (.int .u32 o), st n, st w, u64 k] [] fun r S => r = .tup [.d (.agg [.sl 7 T, .sl 4 H]), i64 40] ∧ S = [] := by
  refine callR_of (R := R1) cx_ok Tryd.func36 (by kernel_rfl) rfl ?_
  conv => whnf
  refine ⟨_, tc, ?_⟩
  rintro _ _ ⟨rfl, rfl⟩
  conv => whnf
  exact ⟨rfl, rfl⟩

theorem mint_er {T H : List D} {o k : Int} {n w : ByteArray} {to a b c d e x : Int} {tn : ByteArray} {mi lo y : Int} {J : Int} (hJ : 0 ≤ J)
    (hJT : J < T.length) (hgd : T.getD J.toNat .nilP = .agg [.int .u32 to, .str tn, .int .u64 a, .int .u64 b, .int .u64 c, .int .u64 d, .int .u64 e])
    (tc : CallR cx 79 [.d (.agg [.sl 7 T, .sl 4 H]), .d (ky o n)] [] fun r S => r = i64 J ∧ S = [])
    (ou : CallR cx 41 [.d (.agg [.int .u32 to, .str tn, .int .u64 a, .int .u64 b, .int .u64 c, .int .u64 d, .int .u64 e])] [] fun r S => r = .tup [u64 mi, u64 lo] ∧ S = [])
    (ad : CallR cx 53 [u64 d, u64 k] [] fun r S => r = .tup [u64 x, i64 10] ∧ S = []) :
    CallR cx 36 [.d (.agg [.sl 7 T, .sl 4 H]), .d (.int .u32 o), st n, st w, u64 k] [] fun r S => r = .tup [.d (.agg [.sl 7 T, .sl 4 H]), i64 10] ∧ S = [] := by
  refine callR_of (R := R1) cx_ok Tryd.func36 (by kernel_rfl) rfl ?_
  conv => whnf
  refine ⟨_, tc, ?_⟩
  rintro _ _ ⟨rfl, rfl⟩
  conv => whnf
  refine brF (decide_eq_false (by omega)) ?_
  conv => whnf
  refine ⟨⟨by omega, by omega⟩, ?_⟩
  rw [hgd]
  conv => whnf
  refine ⟨_, ou, ?_⟩
  rintro _ _ ⟨rfl, rfl⟩
  conv => whnf
  refine ⟨_, ad, ?_⟩
  rintro _ _ ⟨rfl, rfl⟩
  conv => whnf
  exact ⟨rfl, rfl⟩

theorem mint_c1 {T H : List D} {o k : Int} {n w : ByteArray} {to a b c d e x : Int} {tn : ByteArray} {mi lo y : Int} {J : Int} (hJ : 0 ≤ J)
    (hJT : J < T.length) (hgd : T.getD J.toNat .nilP = .agg [.int .u32 to, .str tn, .int .u64 a, .int .u64 b, .int .u64 c, .int .u64 d, .int .u64 e])
    (tc : CallR cx 79 [.d (.agg [.sl 7 T, .sl 4 H]), .d (ky o n)] [] fun r S => r = i64 J ∧ S = [])
    (ou : CallR cx 41 [.d (.agg [.int .u32 to, .str tn, .int .u64 a, .int .u64 b, .int .u64 c, .int .u64 d, .int .u64 e])] [] fun r S => r = .tup [u64 mi, u64 lo] ∧ S = [])
    (ad : CallR cx 53 [u64 d, u64 k] [] fun r S => r = .tup [u64 x, i64 0] ∧ S = [])
    (ae : CallR cx 53 [u64 mi, u64 k] [] fun r S => r = .tup [u64 y, i64 10] ∧ S = []) :
    CallR cx 36 [.d (.agg [.sl 7 T, .sl 4 H]), .d (.int .u32 o), st n, st w, u64 k] [] fun r S => r = .tup [.d (.agg [.sl 7 T, .sl 4 H]), i64 12] ∧ S = [] := by
  refine callR_of (R := R1) cx_ok Tryd.func36 (by kernel_rfl) rfl ?_
  conv => whnf
  refine ⟨_, tc, ?_⟩
  rintro _ _ ⟨rfl, rfl⟩
  conv => whnf
  refine brF (decide_eq_false (by omega)) ?_
  conv => whnf
  refine ⟨⟨by omega, by omega⟩, ?_⟩
  rw [hgd]
  conv => whnf
  refine ⟨_, ou, ?_⟩
  rintro _ _ ⟨rfl, rfl⟩
  conv => whnf
  refine ⟨_, ad, ?_⟩
  rintro _ _ ⟨rfl, rfl⟩
  conv => whnf
  refine ⟨_, ae, ?_⟩
  rintro _ _ ⟨rfl, rfl⟩
  conv => whnf
  exact ⟨rfl, rfl⟩

theorem mint_c2 {T H : List D} {o k : Int} {n w : ByteArray} {to a b c d e x : Int} {tn : ByteArray} {mi lo y : Int} {J : Int} (hJ : 0 ≤ J)
    (hJT : J < T.length) (hgd : T.getD J.toNat .nilP = .agg [.int .u32 to, .str tn, .int .u64 a, .int .u64 b, .int .u64 c, .int .u64 d, .int .u64 e])
    (tc : CallR cx 79 [.d (.agg [.sl 7 T, .sl 4 H]), .d (ky o n)] [] fun r S => r = i64 J ∧ S = [])
    (ou : CallR cx 41 [.d (.agg [.int .u32 to, .str tn, .int .u64 a, .int .u64 b, .int .u64 c, .int .u64 d, .int .u64 e])] [] fun r S => r = .tup [u64 mi, u64 lo] ∧ S = [])
    (ad : CallR cx 53 [u64 d, u64 k] [] fun r S => r = .tup [u64 x, i64 0] ∧ S = [])
    (ae : CallR cx 53 [u64 mi, u64 k] [] fun r S => r = .tup [u64 y, i64 0] ∧ S = [])
    (hy : y > a) :
    CallR cx 36 [.d (.agg [.sl 7 T, .sl 4 H]), .d (.int .u32 o), st n, st w, u64 k] [] fun r S => r = .tup [.d (.agg [.sl 7 T, .sl 4 H]), i64 12] ∧ S = [] := by
  refine callR_of (R := R1) cx_ok Tryd.func36 (by kernel_rfl) rfl ?_
  conv => whnf
  refine ⟨_, tc, ?_⟩
  rintro _ _ ⟨rfl, rfl⟩
  conv => whnf
  refine brF (decide_eq_false (by omega)) ?_
  conv => whnf
  refine ⟨⟨by omega, by omega⟩, ?_⟩
  rw [hgd]
  conv => whnf
  refine ⟨_, ou, ?_⟩
  rintro _ _ ⟨rfl, rfl⟩
  conv => whnf
  refine ⟨_, ad, ?_⟩
  rintro _ _ ⟨rfl, rfl⟩
  conv => whnf
  refine ⟨_, ae, ?_⟩
  rintro _ _ ⟨rfl, rfl⟩
  conv => whnf
  refine brT (decide_eq_true hy) ?_
  conv => whnf
  exact ⟨rfl, rfl⟩

theorem mint_ge {T H T2 H2 : List D} {o k : Int} {n w : ByteArray} {to a b c d e x : Int} {tn : ByteArray} {mi lo y : Int} {J : Int} (hJ : 0 ≤ J) {e9 : Int} (he : e9 ≠ 0)
    (hJT : J < T.length) (hgd : T.getD J.toNat .nilP = .agg [.int .u32 to, .str tn, .int .u64 a, .int .u64 b, .int .u64 c, .int .u64 d, .int .u64 e])
    (tc : CallR cx 79 [.d (.agg [.sl 7 T, .sl 4 H]), .d (ky o n)] [] fun r S => r = i64 J ∧ S = [])
    (ou : CallR cx 41 [.d (.agg [.int .u32 to, .str tn, .int .u64 a, .int .u64 b, .int .u64 c, .int .u64 d, .int .u64 e])] [] fun r S => r = .tup [u64 mi, u64 lo] ∧ S = [])
    (ad : CallR cx 53 [u64 d, u64 k] [] fun r S => r = .tup [u64 x, i64 0] ∧ S = [])
    (ae : CallR cx 53 [u64 mi, u64 k] [] fun r S => r = .tup [u64 y, i64 0] ∧ S = [])
    (hy : ¬ y > a)
    (gr : CallR cx 44 [.d (.agg [.sl 7 T, .sl 4 H]), .d (.int .u32 o), st n, st w, u64 k] [] fun r S => r = .tup [.d (.agg [.sl 7 T2, .sl 4 H2]), i64 e9] ∧ S = []) :
    CallR cx 36 [.d (.agg [.sl 7 T, .sl 4 H]), .d (.int .u32 o), st n, st w, u64 k] [] fun r S => r = .tup [.d (.agg [.sl 7 T, .sl 4 H]), i64 e9] ∧ S = [] := by
  refine callR_of (R := R1) cx_ok Tryd.func36 (by kernel_rfl) rfl ?_
  conv => whnf
  refine ⟨_, tc, ?_⟩
  rintro _ _ ⟨rfl, rfl⟩
  conv => whnf
  refine brF (decide_eq_false (by omega)) ?_
  conv => whnf
  refine ⟨⟨by omega, by omega⟩, ?_⟩
  rw [hgd]
  conv => whnf
  refine ⟨_, ou, ?_⟩
  rintro _ _ ⟨rfl, rfl⟩
  conv => whnf
  refine ⟨_, ad, ?_⟩
  rintro _ _ ⟨rfl, rfl⟩
  conv => whnf
  refine ⟨_, ae, ?_⟩
  rintro _ _ ⟨rfl, rfl⟩
  conv => whnf
  refine brF (decide_eq_false hy) ?_
  conv => whnf
  refine ⟨_, gr, ?_⟩
  rintro _ _ ⟨rfl, rfl⟩
  conv => whnf
  refine brT (bne_iff_ne.2 he) ?_
  conv => whnf
  exact ⟨rfl, rfl⟩

theorem mint_ok {T H T2 H2 T3 H3 : List D} {o k : Int} {n w : ByteArray} {to a b c d e x : Int} {tn : ByteArray} {mi lo y : Int} {J : Int} (hJ : 0 ≤ J)
    (hJT : J < T.length) (hgd : T.getD J.toNat .nilP = .agg [.int .u32 to, .str tn, .int .u64 a, .int .u64 b, .int .u64 c, .int .u64 d, .int .u64 e])
    (tc : CallR cx 79 [.d (.agg [.sl 7 T, .sl 4 H]), .d (ky o n)] [] fun r S => r = i64 J ∧ S = [])
    (ou : CallR cx 41 [.d (.agg [.int .u32 to, .str tn, .int .u64 a, .int .u64 b, .int .u64 c, .int .u64 d, .int .u64 e])] [] fun r S => r = .tup [u64 mi, u64 lo] ∧ S = [])
    (ad : CallR cx 53 [u64 d, u64 k] [] fun r S => r = .tup [u64 x, i64 0] ∧ S = [])
    (ae : CallR cx 53 [u64 mi, u64 k] [] fun r S => r = .tup [u64 y, i64 0] ∧ S = [])
    (hy : ¬ y > a)
    (gr : CallR cx 44 [.d (.agg [.sl 7 T, .sl 4 H]), .d (.int .u32 o), st n, st w, u64 k] [] fun r S => r = .tup [.d (.agg [.sl 7 T2, .sl 4 H2]), i64 0] ∧ S = [])
    (wi : CallR cx 82 [.d (.agg [.sl 7 T2, .sl 4 H2]), i64 J, .d (.agg [.int .u32 to, .str tn, .int .u64 a, .int .u64 b, .int .u64 c, .int .u64 x, .int .u64 e])] [] fun r S => r = .d (.agg [.sl 7 T3, .sl 4 H3]) ∧ S = []) :
    CallR cx 36 [.d (.agg [.sl 7 T, .sl 4 H]), .d (.int .u32 o), st n, st w, u64 k] [] fun r S => r = .tup [.d (.agg [.sl 7 T3, .sl 4 H3]), i64 0] ∧ S = [] := by
  refine callR_of (R := R1) cx_ok Tryd.func36 (by kernel_rfl) rfl ?_
  conv => whnf
  refine ⟨_, tc, ?_⟩
  rintro _ _ ⟨rfl, rfl⟩
  conv => whnf
  refine brF (decide_eq_false (by omega)) ?_
  conv => whnf
  refine ⟨⟨by omega, by omega⟩, ?_⟩
  rw [hgd]
  conv => whnf
  refine ⟨_, ou, ?_⟩
  rintro _ _ ⟨rfl, rfl⟩
  conv => whnf
  refine ⟨_, ad, ?_⟩
  rintro _ _ ⟨rfl, rfl⟩
  conv => whnf
  refine ⟨_, ae, ?_⟩
  rintro _ _ ⟨rfl, rfl⟩
  conv => whnf
  refine brF (decide_eq_false hy) ?_
  conv => whnf
  refine ⟨_, gr, ?_⟩
  rintro _ _ ⟨rfl, rfl⟩
  conv => whnf
  refine ⟨_, wi, ?_⟩
  rintro _ _ ⟨rfl, rfl⟩
  conv => whnf
  exact ⟨rfl, rfl⟩

end Go.Proofs.YtmdfpifcghmpfaaDoor

namespace Go.Proofs.YtmdfpifcghmpfaaDoor
open Go.Ab Go.RowKit


theorem heldV_U {p : Pu} (hp : p.ok) (o : Int) (n w : ByteArray) : U (heldV p o n w) := by
  unfold heldV
  cases h : lookP (hdP o n w) p.holds with
  | none => unfold U; simp only; omega
  | some a => exact (hp.h a (lookP_mem h).1).1

def takeP (p : Pu) (o : Int) (n w : ByteArray) (k : Int) : Pu × Int := match lookP (tkP o n) p.toks with
  | none => (p, 40)
  | some _ => if heldV p o n w < k then (p, 11) else (⟨p.toks, putH p.holds o n w (heldV p o n w - k)⟩, 0)
def grantP (p : Pu) (o : Int) (n w : ByteArray) (k : Int) : Pu × Int := match lookP (tkP o n) p.toks with
  | none => (p, 40)
  | some _ => if rightT w = false then (p, 7) else if heldV p o n w + k < 18446744073709551616 then (⟨p.toks, putH p.holds o n w (heldV p o n w + k)⟩, 0) else (p, 10)
def outM (t : Tk) : Int := if t.minted < t.burned then 0 else t.minted - t.burned
def outL (t : Tk) : Int := if t.locked < t.unlocked then 0 else t.locked - t.unlocked
def lockP (p : Pu) (o : Int) (n w : ByteArray) (k : Int) : Pu × Int :=
  if (takeP p o n w k).2 ≠ 0 then (p, (takeP p o n w k).2) else match lookP (tkP o n) p.toks with
    | none => (p, 0)
    | some t => if t.locked + k < 18446744073709551616 then (⟨putP (tkP o n) p.toks { t with locked := t.locked + k }, (takeP p o n w k).1.holds⟩, 0) else (p, 10)
def burnP (p : Pu) (o : Int) (n w : ByteArray) (k : Int) : Pu × Int :=
  if (takeP p o n w k).2 ≠ 0 then (p, (takeP p o n w k).2) else match lookP (tkP o n) p.toks with
    | none => (p, 0)
    | some t => if t.burned + k < 18446744073709551616 then (⟨putP (tkP o n) p.toks { t with burned := t.burned + k }, (takeP p o n w k).1.holds⟩, 0) else (p, 10)
def unlockP (p : Pu) (o : Int) (n w : ByteArray) (k : Int) : Pu × Int := match lookP (tkP o n) p.toks with
  | none => (p, 40)
  | some t => if outL t < k then (p, 11) else if t.unlocked + k < 18446744073709551616 then
      if (grantP p o n w k).2 ≠ 0 then (p, (grantP p o n w k).2) else (⟨putP (tkP o n) p.toks { t with unlocked := t.unlocked + k }, (grantP p o n w k).1.holds⟩, 0)
    else (p, 10)
def mintP (p : Pu) (o : Int) (n w : ByteArray) (k : Int) : Pu × Int := match lookP (tkP o n) p.toks with
  | none => (p, 40)
  | some t => if t.minted + k < 18446744073709551616 then if outM t + k < 18446744073709551616 then if outM t + k > t.cap then (p, 12) else
      if (grantP p o n w k).2 ≠ 0 then (p, (grantP p o n w k).2) else (⟨putP (tkP o n) p.toks { t with minted := t.minted + k }, (grantP p o n w k).1.holds⟩, 0)
    else (p, 12) else (p, 10)

theorem takeP_toks (p : Pu) (o : Int) (n w : ByteArray) (k : Int) : (takeP p o n w k).1.toks = p.toks := by
  unfold takeP
  split
  · rfl
  split <;> rfl
theorem grantP_toks (p : Pu) (o : Int) (n w : ByteArray) (k : Int) : (grantP p o n w k).1.toks = p.toks := by
  unfold grantP
  split
  · rfl
  split
  · rfl
  split <;> rfl

section
variable {p : Pu} {o k : Int} {n w : ByteArray} (hp : p.ok) (hn : n.size ≤ 1000) (hw : w.size ≤ 1000) (hk : U k)
include hp hn hw hk

theorem take_cc : CallR cx 81 [.d p.d, .d (.int .u32 o), st n, st w, u64 k] [] fun r S => r = .tup [.d (takeP p o n w k).1.d, i64 (takeP p o n w k).2] ∧ S = [] := by
  have tc := token_c (o := o) (n := n) hp
  have hv := heldv_c (o := o) (n := n) (w := w) hp
  have hU := heldV_U hp o n w
  have sb := sub_c hU hk
  unfold takeP
  rcases ix_look (tkP o n) p.toks 0 with ⟨h1, h2⟩ | ⟨j, hj, h1, h2, _⟩
  · rw [h1] at tc
    rw [h2]
    exact take_no tc
  · rw [h1, Nat.zero_add] at tc
    rw [h2]
    simp only
    by_cases c : heldV p o n w < k
    · rw [if_pos c, if_pos c] at sb
      rw [if_pos c]
      exact take_er (J := (j : Int)) (by omega) tc hv sb
    · rw [if_neg c, if_neg c] at sb
      rw [if_neg c]
      exact take_ok (J := (j : Int)) (by omega) tc hv sb (put_c hp hn hw (by unfold U at *; omega))

theorem grant_cc : CallR cx 44 [.d p.d, .d (.int .u32 o), st n, st w, u64 k] [] fun r S => r = .tup [.d (grantP p o n w k).1.d, i64 (grantP p o n w k).2] ∧ S = [] := by
  have tc := token_c (o := o) (n := n) hp
  have hv := heldv_c (o := o) (n := n) (w := w) hp
  have hU := heldV_U hp o n w
  have ad := add_c hU hk
  have rn := right_c (s := w) (by omega)
  unfold grantP
  rcases ix_look (tkP o n) p.toks 0 with ⟨h1, h2⟩ | ⟨j, hj, h1, h2, _⟩
  · rw [h1] at tc
    rw [h2]
    exact grant_no tc
  · rw [h1, Nat.zero_add] at tc
    rw [h2]
    simp only
    cases hr : rightT w with
    | false =>
      rw [hr] at rn
      rw [if_pos rfl]
      exact grant_nm (J := (j : Int)) (by omega) tc rn
    | true =>
      rw [hr] at rn
      rw [if_neg (by decide)]
      by_cases c : heldV p o n w + k < 18446744073709551616
      · rw [if_pos c, if_pos c] at ad
        rw [if_pos c]
        exact grant_ok (J := (j : Int)) (by omega) tc rn hv ad (put_c hp hn hw (by unfold U at *; omega))
      · rw [if_neg c, if_neg c] at ad
        rw [if_neg c]
        exact grant_er (J := (j : Int)) (by omega) tc rn hv ad
end

theorem out_c {t : Tk} (ht : t.ok) : CallR cx 41 [.d t.d] [] fun r S => r = .tup [u64 (outM t), u64 (outL t)] ∧ S = [] := by
  have s1 := sub_c ht.2.2.2.1 ht.2.2.2.2.1
  have s2 := sub_c ht.2.1 ht.2.2.1
  obtain ⟨o, n, a, b, c, d, e⟩ := t
  unfold outM outL
  simp only at s1 s2 ⊢
  generalize (if d < e then (0 : Int) else d - e) = X at *
  generalize (if b < c then (0 : Int) else b - c) = Y at *
  generalize (if d < e then (11 : Int) else 0) = X1 at *
  generalize (if b < c then (11 : Int) else 0) = Y1 at *
  refine callR_of (R := R1) cx_ok Tryd.func41 (by kernel_rfl) rfl ?_
  conv => whnf
  refine ⟨_, s1, ?_⟩
  rintro _ _ ⟨rfl, rfl⟩
  conv => whnf
  refine ⟨_, s2, ?_⟩
  rintro _ _ ⟨rfl, rfl⟩
  conv => whnf
  exact ⟨rfl, rfl⟩

theorem outM_U {t : Tk} (ht : t.ok) : U (outM t) := by
  have h1 := ht.2.2.2.1
  have h2 := ht.2.2.2.2.1
  unfold outM
  unfold U at *
  split <;> omega
theorem putH_mem {l : List Hd} {o k : Int} {n w : ByteArray} {P : Hd → Prop} (h : ∀ x ∈ l, P x) (h1 : P ⟨o, n, w, k⟩) (h2 : ∀ x ∈ l, P { x with amount := k }) : ∀ x ∈ putH l o n w k, P x := by
  have put : ∀ (l : List Hd) (b : Hd), (∀ x ∈ l, P x) → P b → ∀ x ∈ putP (hdP o n w) l b, P x := by
    intro l b hl hb
    induction l with
    | nil => intro x hx; cases hx
    | cons a l ih =>
      intro x hx
      rw [putP] at hx
      split at hx
      · rcases List.mem_cons.1 hx with rfl | hx
        · exact hb
        · exact hl x (by simp [hx])
      · rcases List.mem_cons.1 hx with rfl | hx
        · exact hl _ (by simp)
        · exact ih (fun y hy => hl y (by simp [hy])) x hx
  have del : ∀ (l : List Hd), (∀ x ∈ l, P x) → ∀ x ∈ delP (hdP o n w) l, P x := by
    intro l hl
    induction l with
    | nil => intro x hx; cases hx
    | cons a l ih =>
      intro x hx
      rw [delP] at hx
      split at hx
      · exact hl x (by simp [hx])
      · rcases List.mem_cons.1 hx with rfl | hx
        · exact hl _ (by simp)
        · exact ih (fun y hy => hl y (by simp [hy])) x hx
  have ins : ∀ (l : List Hd) (b : Hd), (∀ x ∈ l, P x) → P b → ∀ x ∈ insP (hbP o n w) l b, P x := by
    intro l b hl hb
    induction l with
    | nil => intro x hx; rw [insP] at hx; obtain rfl := List.mem_singleton.1 hx; exact hb
    | cons a l ih =>
      intro x hx
      rw [insP] at hx
      split at hx
      · rcases List.mem_cons.1 hx with rfl | hx
        · exact hb
        · exact hl x hx
      · rcases List.mem_cons.1 hx with rfl | hx
        · exact hl _ (by simp)
        · exact ih (fun y hy => hl y (by simp [hy])) x hx
  unfold putH
  cases hx : lookP (hdP o n w) l with
  | some a =>
    simp only
    split
    · exact del l h
    · exact put l _ h (h2 a (lookP_mem hx).1)
  | none =>
    simp only
    split
    · exact ins l _ h h1
    · exact h
theorem putP_len {α : Type} (p : α → Bool) : ∀ (l : List α) (b : α), (putP p l b).length = l.length
  | [], _ => rfl
  | a :: l, b => by rw [putP]; split; rfl; rw [List.length_cons, putP_len p l b]; rfl
theorem delP_len {α : Type} (p : α → Bool) : ∀ (l : List α), (delP p l).length ≤ l.length
  | [] => Nat.le_refl _
  | a :: l => by
    rw [delP]
    split
    · simp
    · have := delP_len p l
      rw [List.length_cons, List.length_cons]; omega
theorem insP_len {α : Type} (p : α → Bool) : ∀ (l : List α) (b : α), (insP p l b).length = l.length + 1
  | [], _ => rfl
  | a :: l, b => by rw [insP]; split; rfl; rw [List.length_cons, insP_len p l b]; rfl
theorem putH_len (l : List Hd) (o : Int) (n w : ByteArray) (k : Int) : (putH l o n w k).length ≤ l.length + 1 := by
  unfold putH
  split
  · split
    · exact Nat.le_succ_of_le (delP_len _ _)
    · rw [putP_len]; omega
  · split
    · rw [insP_len]; exact Nat.le_refl _
    · omega
theorem putP_mem {α : Type} {p : α → Bool} {P : α → Prop} : ∀ {l : List α} {b : α}, (∀ x ∈ l, P x) → P b → ∀ x ∈ putP p l b, P x
  | [], _, _, _, _, ha => by cases ha
  | c :: l, b, h, hb, a, ha => by
    rw [putP] at ha
    split at ha
    · rcases List.mem_cons.1 ha with rfl | ha
      · exact hb
      · exact h a (by simp [ha])
    · rcases List.mem_cons.1 ha with rfl | ha
      · exact h _ (by simp)
      · exact putP_mem (fun x hx => h x (by simp [hx])) hb a ha
end Go.Proofs.YtmdfpifcghmpfaaDoor

namespace Go.Proofs.YtmdfpifcghmpfaaDoor
open Go.Ab Go.RowKit

/-- A purse that is not too great. -/
structure Pu.fine (p : Pu) (N : Nat) : Prop where
  t : ∀ t ∈ p.toks, t.ok
  h : ∀ h ∈ p.holds, h.ok
  nt : p.toks.length ≤ N
  nh : p.holds.length ≤ N
theorem Pu.fine.ok {p : Pu} {N : Nat} (h : p.fine N) (hN : N ≤ 100000) : p.ok := ⟨h.t, h.h, Nat.le_trans h.nt hN, Nat.le_trans h.nh hN⟩
theorem Pu.fine.mono {p : Pu} {N N' : Nat} (h : p.fine N) (hN : N ≤ N') : p.fine N' := ⟨h.t, h.h, Nat.le_trans h.nt hN, Nat.le_trans h.nh hN⟩

section
variable {p : Pu} {N : Nat} {o k : Int} {n w : ByteArray} (hp : p.fine N)
include hp

theorem put_fine (hn : n.size ≤ 1000) (hw : w.size ≤ 1000) (hk : U k) : Pu.fine ⟨p.toks, putH p.holds o n w k⟩ (N + 1) :=
  ⟨hp.t, putH_mem hp.h ⟨hk, hn, hw⟩ (fun x hx => ⟨hk, (hp.h x hx).2⟩), Nat.le_trans hp.nt (by omega), Nat.le_trans (putH_len _ _ _ _ _) (by have := hp.nh; omega)⟩
theorem takeP_fine (hN : N ≤ 100000) (hn : n.size ≤ 1000) (hw : w.size ≤ 1000) (hk : U k) : (takeP p o n w k).1.fine (N + 1) := by
  have hU := heldV_U (hp.ok hN) o n w
  unfold takeP
  split
  · exact hp.mono (by omega)
  split
  · exact hp.mono (by omega)
  · exact put_fine hp hn hw (by unfold U at *; omega)
theorem grantP_fine (hN : N ≤ 100000) (hn : n.size ≤ 1000) (hw : w.size ≤ 1000) (hk : U k) : (grantP p o n w k).1.fine (N + 1) := by
  have hU := heldV_U (hp.ok hN) o n w
  unfold grantP
  split
  · exact hp.mono (by omega)
  split
  · exact hp.mono (by omega)
  split
  · exact put_fine hp hn hw (by unfold U at *; omega)
  · exact hp.mono (by omega)
theorem set_fine {hs : List Hd} {t : Tk} (ht : t.ok) (hq : Pu.fine ⟨p.toks, hs⟩ (N + 1)) : Pu.fine ⟨putP (tkP o n) p.toks t, hs⟩ (N + 1) :=
  ⟨putP_mem hp.t ht, hq.h, by rw [putP_len]; exact hq.nt, hq.nh⟩
end

section
variable {p : Pu} {N : Nat} {o k : Int} {n w : ByteArray} (hp : p.fine N) (hN : N ≤ 99999) (hn : n.size ≤ 1000) (hw : w.size ≤ 1000) (hk : U k)
include hp hN hn hw hk

theorem lock_cc : CallR cx 33 [.d p.d, .d (.int .u32 o), st n, st w, u64 k] [] fun r S => r = .tup [.d (lockP p o n w k).1.d, i64 (lockP p o n w k).2] ∧ S = [] := by
  have hpo := hp.ok (by omega)
  have tk := take_cc (o := o) (n := n) (w := w) (k := k) hpo hn hw hk
  have tc := token_c (o := o) (n := n) hpo
  have hq := takeP_fine (o := o) (n := n) (w := w) (k := k) hp (by omega) hn hw hk
  have hqt := takeP_toks p o n w k
  have hix := ix_look (tkP o n) p.toks 0
  have hno : lookP (tkP o n) p.toks = none → (takeP p o n w k).2 = 40 := fun h => by unfold takeP; rw [h]
  unfold lockP
  generalize takeP p o n w k = Q at *
  obtain ⟨⟨qt, qh⟩, e⟩ := Q
  simp only at tk hq hqt hno ⊢
  subst hqt
  by_cases he : e = 0
  · subst he
    rw [if_neg (by simp)]
    rcases hix with ⟨h1, h2⟩ | ⟨j, hj, h1, h2, h3, h4, h5⟩
    · exact absurd (hno h2) (by decide)
    · rw [h1, Nat.zero_add] at tc
      rw [h2]
      simp only
      have hgd := tks_getD hj
      have ht := hp.t _ (List.getElem_mem hj)
      have wi := fun t => pwith_c (p := ⟨p.toks, qh⟩) (i := j) (t := t) (hq.ok (by omega)) hj
      simp only [h4] at wi
      generalize p.toks[j]'hj = a at *
      have ad := add_c ht.2.1 hk
      by_cases c : a.locked + k < 18446744073709551616
      · rw [if_pos c, if_pos c] at ad
        rw [if_pos c]
        exact lock_ok (J := (j : Int)) (by omega) (by rw [List.length_map]; omega) hgd tk tc ad (wi { a with locked := a.locked + k })
      · rw [if_neg c, if_neg c] at ad
        rw [if_neg c]
        exact lock_er (J := (j : Int)) (by omega) (by rw [List.length_map]; omega) hgd tk tc ad
  · rw [if_pos he]
    exact lock_no he tk

theorem burn_cc : CallR cx 37 [.d p.d, .d (.int .u32 o), st n, st w, u64 k] [] fun r S => r = .tup [.d (burnP p o n w k).1.d, i64 (burnP p o n w k).2] ∧ S = [] := by
  have hpo := hp.ok (by omega)
  have tk := take_cc (o := o) (n := n) (w := w) (k := k) hpo hn hw hk
  have tc := token_c (o := o) (n := n) hpo
  have hq := takeP_fine (o := o) (n := n) (w := w) (k := k) hp (by omega) hn hw hk
  have hqt := takeP_toks p o n w k
  have hix := ix_look (tkP o n) p.toks 0
  have hno : lookP (tkP o n) p.toks = none → (takeP p o n w k).2 = 40 := fun h => by unfold takeP; rw [h]
  unfold burnP
  generalize takeP p o n w k = Q at *
  obtain ⟨⟨qt, qh⟩, e⟩ := Q
  simp only at tk hq hqt hno ⊢
  subst hqt
  by_cases he : e = 0
  · subst he
    rw [if_neg (by simp)]
    rcases hix with ⟨h1, h2⟩ | ⟨j, hj, h1, h2, h3, h4, h5⟩
    · exact absurd (hno h2) (by decide)
    · rw [h1, Nat.zero_add] at tc
      rw [h2]
      simp only
      have hgd := tks_getD hj
      have ht := hp.t _ (List.getElem_mem hj)
      have wi := fun t => pwith_c (p := ⟨p.toks, qh⟩) (i := j) (t := t) (hq.ok (by omega)) hj
      simp only [h4] at wi
      generalize p.toks[j]'hj = a at *
      have ad := add_c ht.2.2.2.2.1 hk
      by_cases c : a.burned + k < 18446744073709551616
      · rw [if_pos c, if_pos c] at ad
        rw [if_pos c]
        exact burn_ok (J := (j : Int)) (by omega) (by rw [List.length_map]; omega) hgd tk tc ad (wi { a with burned := a.burned + k })
      · rw [if_neg c, if_neg c] at ad
        rw [if_neg c]
        exact burn_er (J := (j : Int)) (by omega) (by rw [List.length_map]; omega) hgd tk tc ad
  · rw [if_pos he]
    exact burn_no he tk

theorem unlock_cc : CallR cx 34 [.d p.d, .d (.int .u32 o), st n, st w, u64 k] [] fun r S => r = .tup [.d (unlockP p o n w k).1.d, i64 (unlockP p o n w k).2] ∧ S = [] := by
  have hpo := hp.ok (by omega)
  have gr := grant_cc (o := o) (n := n) (w := w) (k := k) hpo hn hw hk
  have tc := token_c (o := o) (n := n) hpo
  have hq := grantP_fine (o := o) (n := n) (w := w) (k := k) hp (by omega) hn hw hk
  have hqt := grantP_toks p o n w k
  have hix := ix_look (tkP o n) p.toks 0
  unfold unlockP
  generalize grantP p o n w k = Q at *
  obtain ⟨⟨qt, qh⟩, e⟩ := Q
  simp only at gr hq hqt ⊢
  subst hqt
  rcases hix with ⟨h1, h2⟩ | ⟨j, hj, h1, h2, h3, h4, h5⟩
  · rw [h1] at tc
    rw [h2]
    exact unlock_no tc
  · rw [h1, Nat.zero_add] at tc
    rw [h2]
    simp only
    have hgd := tks_getD hj
    have ht := hp.t _ (List.getElem_mem hj)
    have wi := fun t => pwith_c (p := ⟨p.toks, qh⟩) (i := j) (t := t) (hq.ok (by omega)) hj
    simp only [h4] at wi
    generalize p.toks[j]'hj = a at *
    have ad := add_c ht.2.2.1 hk
    have ou := out_c ht
    by_cases c0 : outL a < k
    · rw [if_pos c0]
      exact unlock_un (x := 0) (J := (j : Int)) (by omega) (by rw [List.length_map]; omega) hgd tc ou c0
    · rw [if_neg c0]
      by_cases c : a.unlocked + k < 18446744073709551616
      · rw [if_pos c, if_pos c] at ad
        rw [if_pos c]
        by_cases he : e = 0
        · subst he
          rw [if_neg (by simp)]
          exact unlock_ok (J := (j : Int)) (by omega) (by rw [List.length_map]; omega) hgd tc ou c0 ad gr (wi { a with unlocked := a.unlocked + k })
        · rw [if_pos he]
          exact unlock_ge (J := (j : Int)) (by omega) he (by rw [List.length_map]; omega) hgd tc ou c0 ad gr
      · rw [if_neg c, if_neg c] at ad
        rw [if_neg c]
        exact unlock_er (J := (j : Int)) (by omega) (by rw [List.length_map]; omega) hgd tc ou c0 ad

theorem mint_cc : CallR cx 36 [.d p.d, .d (.int .u32 o), st n, st w, u64 k] [] fun r S => r = .tup [.d (mintP p o n w k).1.d, i64 (mintP p o n w k).2] ∧ S = [] := by
  have hpo := hp.ok (by omega)
  have gr := grant_cc (o := o) (n := n) (w := w) (k := k) hpo hn hw hk
  have tc := token_c (o := o) (n := n) hpo
  have hq := grantP_fine (o := o) (n := n) (w := w) (k := k) hp (by omega) hn hw hk
  have hqt := grantP_toks p o n w k
  have hix := ix_look (tkP o n) p.toks 0
  unfold mintP
  generalize grantP p o n w k = Q at *
  obtain ⟨⟨qt, qh⟩, e⟩ := Q
  simp only at gr hq hqt ⊢
  subst hqt
  rcases hix with ⟨h1, h2⟩ | ⟨j, hj, h1, h2, h3, h4, h5⟩
  · rw [h1] at tc
    rw [h2]
    exact mint_no tc
  · rw [h1, Nat.zero_add] at tc
    rw [h2]
    simp only
    have hgd := tks_getD hj
    have ht := hp.t _ (List.getElem_mem hj)
    have wi := fun t => pwith_c (p := ⟨p.toks, qh⟩) (i := j) (t := t) (hq.ok (by omega)) hj
    simp only [h4] at wi
    generalize p.toks[j]'hj = a at *
    have ad := add_c ht.2.2.2.1 hk
    have ae := add_c (outM_U ht) hk
    have ou := out_c ht
    by_cases c : a.minted + k < 18446744073709551616
    · rw [if_pos c, if_pos c] at ad
      rw [if_pos c]
      by_cases c1 : outM a + k < 18446744073709551616
      · rw [if_pos c1, if_pos c1] at ae
        rw [if_pos c1]
        by_cases c2 : outM a + k > a.cap
        · rw [if_pos c2]
          exact mint_c2 (J := (j : Int)) (by omega) (by rw [List.length_map]; omega) hgd tc ou ad ae c2
        · rw [if_neg c2]
          by_cases he : e = 0
          · subst he
            rw [if_neg (by simp)]
            exact mint_ok (J := (j : Int)) (by omega) (by rw [List.length_map]; omega) hgd tc ou ad ae c2 gr (wi { a with minted := a.minted + k })
          · rw [if_pos he]
            exact mint_ge (J := (j : Int)) (by omega) he (by rw [List.length_map]; omega) hgd tc ou ad ae c2 gr
      · rw [if_neg c1, if_neg c1] at ae
        rw [if_neg c1]
        exact mint_c1 (J := (j : Int)) (by omega) (by rw [List.length_map]; omega) hgd tc ou ad ae
    · rw [if_neg c, if_neg c] at ad
      rw [if_neg c]
      exact mint_er (y := 0) (J := (j : Int)) (by omega) (by rw [List.length_map]; omega) hgd tc ou ad
end
end Go.Proofs.YtmdfpifcghmpfaaDoor
