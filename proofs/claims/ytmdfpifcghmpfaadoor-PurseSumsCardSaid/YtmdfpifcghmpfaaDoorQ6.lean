/- Purses: what is taken and granted; locked, unlocked, minted, burned. -/
import Derived.Test.YtmdfpifcghmpfaaDoorQ5
set_option linter.unusedVariables false
namespace Go.Proofs.YtmdfpifcghmpfaaDoor
open Go.Ab Go.RowKit

theorem take_no {T H : List D} {o k : Int} {n w : ByteArray} (tc : CallR cx 79 [.d (.agg [.sl 7 T, .sl 4 H]), .d (ky o n)] [] fun r S => r = i64 (-1) ∧ S = []) :
    CallR cx 81 [.d (.agg [.sl 7 T, .sl 4 H]), .d (.int .u32 o), st n, st w, u64 k] [] fun r S => r = .tup [.d (.agg [.sl 7 T, .sl 4 H]), i64 40] ∧ S = [] := by
  refine callR_of (R := R1) cx_ok Tryd.func81 (by kernel_rfl) rfl ?_
  conv => whnf
  refine ⟨_, tc, ?_⟩
  rintro _ _ ⟨rfl, rfl⟩
  conv => whnf
  exact ⟨rfl, rfl⟩

theorem take_er {T H : List D} {o k : Int} {n w : ByteArray} {x v : Int} {J : Int} (hJ : 0 ≤ J)
    (tc : CallR cx 79 [.d (.agg [.sl 7 T, .sl 4 H]), .d (ky o n)] [] fun r S => r = i64 J ∧ S = [])
    (hv : CallR cx 47 [.d (.agg [.sl 7 T, .sl 4 H]), .d (.int .u32 o), st n, st w] [] fun r S => r = u64 v ∧ S = [])
    (sb : CallR cx 55 [u64 v, u64 k] [] fun r S => r = .tup [u64 x, i64 11] ∧ S = []) :
    CallR cx 81 [.d (.agg [.sl 7 T, .sl 4 H]), .d (.int .u32 o), st n, st w, u64 k] [] fun r S => r = .tup [.d (.agg [.sl 7 T, .sl 4 H]), i64 11] ∧ S = [] := by
  refine callR_of (R := R1) cx_ok Tryd.func81 (by kernel_rfl) rfl ?_
  conv => whnf
  refine ⟨_, tc, ?_⟩
  rintro _ _ ⟨rfl, rfl⟩
  conv => whnf
  refine brF (decide_eq_false (by omega)) ?_
  conv => whnf
  refine ⟨_, hv, ?_⟩
  rintro _ _ ⟨rfl, rfl⟩
  conv => whnf
  refine ⟨_, sb, ?_⟩
  rintro _ _ ⟨rfl, rfl⟩
  conv => whnf
  exact ⟨rfl, rfl⟩

theorem take_ok {T H T2 H2 : List D} {o k : Int} {n w : ByteArray} {x v : Int} {J : Int} (hJ : 0 ≤ J)
    (tc : CallR cx 79 [.d (.agg [.sl 7 T, .sl 4 H]), .d (ky o n)] [] fun r S => r = i64 J ∧ S = [])
    (hv : CallR cx 47 [.d (.agg [.sl 7 T, .sl 4 H]), .d (.int .u32 o), st n, st w] [] fun r S => r = u64 v ∧ S = [])
    (sb : CallR cx 55 [u64 v, u64 k] [] fun r S => r = .tup [u64 x, i64 0] ∧ S = [])
    (pt : CallR cx 96 [.d (.agg [.sl 7 T, .sl 4 H]), .d (ky o n), st w, u64 x] [] fun r S => r = .d (.agg [.sl 7 T2, .sl 4 H2]) ∧ S = []) :
    CallR cx 81 [.d (.agg [.sl 7 T, .sl 4 H]), .d (.int .u32 o), st n, st w, u64 k] [] fun r S => r = .tup [.d (.agg [.sl 7 T2, .sl 4 H2]), i64 0] ∧ S = [] := by
  refine callR_of (R := R1) cx_ok Tryd.func81 (by kernel_rfl) rfl ?_
  conv => whnf
  refine ⟨_, tc, ?_⟩
  rintro _ _ ⟨rfl, rfl⟩
  conv => whnf
  refine brF (decide_eq_false (by omega)) ?_
  conv => whnf
  refine ⟨_, hv, ?_⟩
  rintro _ _ ⟨rfl, rfl⟩
  conv => whnf
  refine ⟨_, sb, ?_⟩
  rintro _ _ ⟨rfl, rfl⟩
  conv => whnf
  refine ⟨_, pt, ?_⟩
  rintro _ _ ⟨rfl, rfl⟩
  conv => whnf
  exact ⟨rfl, rfl⟩

theorem grant_no {T H : List D} {o k : Int} {n w : ByteArray} (tc : CallR cx 79 [.d (.agg [.sl 7 T, .sl 4 H]), .d (ky o n)] [] fun r S => r = i64 (-1) ∧ S = []) :
    CallR cx 44 [.d (.agg [.sl 7 T, .sl 4 H]), .d (.int .u32 o), st n, st w, u64 k] [] fun r S => r = .tup [.d (.agg [.sl 7 T, .sl 4 H]), i64 40] ∧ S = [] := by
  refine callR_of (R := R1) cx_ok Tryd.func44 (by kernel_rfl) rfl ?_
  conv => whnf
  refine ⟨_, tc, ?_⟩
  rintro _ _ ⟨rfl, rfl⟩
  conv => whnf
  exact ⟨rfl, rfl⟩

theorem grant_nm {T H : List D} {o k : Int} {n w : ByteArray} {J : Int} (hJ : 0 ≤ J)
    (tc : CallR cx 79 [.d (.agg [.sl 7 T, .sl 4 H]), .d (ky o n)] [] fun r S => r = i64 J ∧ S = [])
    (rn : CallR cx 70 [st w] [] fun r S => r = bo false ∧ S = []) :
    CallR cx 44 [.d (.agg [.sl 7 T, .sl 4 H]), .d (.int .u32 o), st n, st w, u64 k] [] fun r S => r = .tup [.d (.agg [.sl 7 T, .sl 4 H]), i64 7] ∧ S = [] := by
  refine callR_of (R := R1) cx_ok Tryd.func44 (by kernel_rfl) rfl ?_
  conv => whnf
  refine ⟨_, tc, ?_⟩
  rintro _ _ ⟨rfl, rfl⟩
  conv => whnf
  refine brF (decide_eq_false (by omega)) ?_
  conv => whnf
  refine ⟨_, rn, ?_⟩
  rintro _ _ ⟨rfl, rfl⟩
  conv => whnf
  exact ⟨rfl, rfl⟩

theorem grant_er {T H : List D} {o k : Int} {n w : ByteArray} {x v : Int} {J : Int} (hJ : 0 ≤ J)
    (tc : CallR cx 79 [.d (.agg [.sl 7 T, .sl 4 H]), .d (ky o n)] [] fun r S => r = i64 J ∧ S = [])
    (rn : CallR cx 70 [st w] [] fun r S => r = bo true ∧ S = [])
    (hv : CallR cx 47 [.d (.agg [.sl 7 T, .sl 4 H]), .d (.int .u32 o), st n, st w] [] fun r S => r = u64 v ∧ S = [])
    (ad : CallR cx 53 [u64 v, u64 k] [] fun r S => r = .tup [u64 x, i64 10] ∧ S = []) :
    CallR cx 44 [.d (.agg [.sl 7 T, .sl 4 H]), .d (.int .u32 o), st n, st w, u64 k] [] fun r S => r = .tup [.d (.agg [.sl 7 T, .sl 4 H]), i64 10] ∧ S = [] := by
  refine callR_of (R := R1) cx_ok Tryd.func44 (by kernel_rfl) rfl ?_
  conv => whnf
  refine ⟨_, tc, ?_⟩
  rintro _ _ ⟨rfl, rfl⟩
  conv => whnf
  refine brF (decide_eq_false (by omega)) ?_
  conv => whnf
  refine ⟨_, rn, ?_⟩
  rintro _ _ ⟨rfl, rfl⟩
  conv => whnf
  refine ⟨_, hv, ?_⟩
  rintro _ _ ⟨rfl, rfl⟩
  conv => whnf
  refine ⟨_, ad, ?_⟩
  rintro _ _ ⟨rfl, rfl⟩
  conv => whnf
  exact ⟨rfl, rfl⟩

theorem grant_ok {T H T2 H2 : List D} {o k : Int} {n w : ByteArray} {x v : Int} {J : Int} (hJ : 0 ≤ J)
    (tc : CallR cx 79 [.d (.agg [.sl 7 T, .sl 4 H]), .d (ky o n)] [] fun r S => r = i64 J ∧ S = [])
    (rn : CallR cx 70 [st w] [] fun r S => r = bo true ∧ S = [])
    (hv : CallR cx 47 [.d (.agg [.sl 7 T, .sl 4 H]), .d (.int .u32 o), st n, st w] [] fun r S => r = u64 v ∧ S = [])
    (ad : CallR cx 53 [u64 v, u64 k] [] fun r S => r = .tup [u64 x, i64 0] ∧ S = [])
    (pt : CallR cx 96 [.d (.agg [.sl 7 T, .sl 4 H]), .d (ky o n), st w, u64 x] [] fun r S => r = .d (.agg [.sl 7 T2, .sl 4 H2]) ∧ S = []) :
    CallR cx 44 [.d (.agg [.sl 7 T, .sl 4 H]), .d (.int .u32 o), st n, st w, u64 k] [] fun r S => r = .tup [.d (.agg [.sl 7 T2, .sl 4 H2]), i64 0] ∧ S = [] := by
  refine callR_of (R := R1) cx_ok Tryd.func44 (by kernel_rfl) rfl ?_
  conv => whnf
  refine ⟨_, tc, ?_⟩
  rintro _ _ ⟨rfl, rfl⟩
  conv => whnf
  refine brF (decide_eq_false (by omega)) ?_
  conv => whnf
  refine ⟨_, rn, ?_⟩
  rintro _ _ ⟨rfl, rfl⟩
  conv => whnf
  refine ⟨_, hv, ?_⟩
  rintro _ _ ⟨rfl, rfl⟩
  conv => whnf
  refine ⟨_, ad, ?_⟩
  rintro _ _ ⟨rfl, rfl⟩
  conv => whnf
  refine ⟨_, pt, ?_⟩
  rintro _ _ ⟨rfl, rfl⟩
  conv => whnf
  exact ⟨rfl, rfl⟩

theorem lock_no {T H T2 H2 : List D} {o k : Int} {n w : ByteArray} {e : Int} (he : e ≠ 0)
    (tk : CallR cx 81 [.d (.agg [.sl 7 T, .sl 4 H]), .d (.int .u32 o), st n, st w, u64 k] [] fun r S => r = .tup [.d (.agg [.sl 7 T2, .sl 4 H2]), i64 e] ∧ S = []) :
    CallR cx 33 [.d (.agg [.sl 7 T, .sl 4 H]), .d (.int .u32 o), st n, st w, u64 k] [] fun r S => r = .tup [.d (.agg [.sl 7 T, .sl 4 H]), i64 e] ∧ S = [] := by
  refine callR_of (R := R1) cx_ok Tryd.func33 (by kernel_rfl) rfl ?_
  conv => whnf
  refine ⟨_, tk, ?_⟩
  rintro _ _ ⟨rfl, rfl⟩
  conv => whnf
  refine brT (bne_iff_ne.2 he) ?_
  conv => whnf
  exact ⟨rfl, rfl⟩

theorem lock_er {T H T2 H2 : List D} {o k : Int} {n w : ByteArray} {to a b c d e x : Int} {tn : ByteArray} {J : Int} (hJ : 0 ≤ J)
    (hJT : J < T.length) (hgd : T.getD J.toNat .nilP = .agg [.int .u32 to, .str tn, .int .u64 a, .int .u64 b, .int .u64 c, .int .u64 d, .int .u64 e])
    (tk : CallR cx 81 [.d (.agg [.sl 7 T, .sl 4 H]), .d (.int .u32 o), st n, st w, u64 k] [] fun r S => r = .tup [.d (.agg [.sl 7 T2, .sl 4 H2]), i64 0] ∧ S = [])
    (tc : CallR cx 79 [.d (.agg [.sl 7 T, .sl 4 H]), .d (ky o n)] [] fun r S => r = i64 J ∧ S = [])
    (ad : CallR cx 53 [u64 b, u64 k] [] fun r S => r = .tup [u64 x, i64 10] ∧ S = []) :
    CallR cx 33 [.d (.agg [.sl 7 T, .sl 4 H]), .d (.int .u32 o), st n, st w, u64 k] [] fun r S => r = .tup [.d (.agg [.sl 7 T, .sl 4 H]), i64 10] ∧ S = [] := by
  refine callR_of (R := R1) cx_ok Tryd.func33 (by kernel_rfl) rfl ?_
  conv => whnf
  refine ⟨_, tk, ?_⟩
  rintro _ _ ⟨rfl, rfl⟩
  conv => whnf
  refine ⟨_, tc, ?_⟩
  rintro _ _ ⟨rfl, rfl⟩
  conv => whnf
  refine ⟨⟨by omega, by omega⟩, ?_⟩
  rw [hgd]
  conv => whnf
  refine ⟨_, ad, ?_⟩
  rintro _ _ ⟨rfl, rfl⟩
  conv => whnf
  exact ⟨rfl, rfl⟩

theorem lock_ok {T H T2 H2 T3 H3 : List D} {o k : Int} {n w : ByteArray} {to a b c d e x : Int} {tn : ByteArray} {J : Int} (hJ : 0 ≤ J)
    (hJT : J < T.length) (hgd : T.getD J.toNat .nilP = .agg [.int .u32 to, .str tn, .int .u64 a, .int .u64 b, .int .u64 c, .int .u64 d, .int .u64 e])
    (tk : CallR cx 81 [.d (.agg [.sl 7 T, .sl 4 H]), .d (.int .u32 o), st n, st w, u64 k] [] fun r S => r = .tup [.d (.agg [.sl 7 T2, .sl 4 H2]), i64 0] ∧ S = [])
    (tc : CallR cx 79 [.d (.agg [.sl 7 T, .sl 4 H]), .d (ky o n)] [] fun r S => r = i64 J ∧ S = [])
    (ad : CallR cx 53 [u64 b, u64 k] [] fun r S => r = .tup [u64 x, i64 0] ∧ S = [])
    (wi : CallR cx 82 [.d (.agg [.sl 7 T2, .sl 4 H2]), i64 J, .d (.agg [.int .u32 to, .str tn, .int .u64 a, .int .u64 x, .int .u64 c, .int .u64 d, .int .u64 e])] [] fun r S => r = .d (.agg [.sl 7 T3, .sl 4 H3]) ∧ S = []) :
    CallR cx 33 [.d (.agg [.sl 7 T, .sl 4 H]), .d (.int .u32 o), st n, st w, u64 k] [] fun r S => r = .tup [.d (.agg [.sl 7 T3, .sl 4 H3]), i64 0] ∧ S = [] := by
  refine callR_of (R := R1) cx_ok Tryd.func33 (by kernel_rfl) rfl ?_
  conv => whnf
  refine ⟨_, tk, ?_⟩
  rintro _ _ ⟨rfl, rfl⟩
  conv => whnf
  refine ⟨_, tc, ?_⟩
  rintro _ _ ⟨rfl, rfl⟩
  conv => whnf
  refine ⟨⟨by omega, by omega⟩, ?_⟩
  rw [hgd]
  conv => whnf
  refine ⟨_, ad, ?_⟩
  rintro _ _ ⟨rfl, rfl⟩
  conv => whnf
  refine ⟨_, wi, ?_⟩
  rintro _ _ ⟨rfl, rfl⟩
  conv => whnf
  exact ⟨rfl, rfl⟩

theorem burn_no {T H T2 H2 : List D} {o k : Int} {n w : ByteArray} {e : Int} (he : e ≠ 0)
    (tk : CallR cx 81 [.d (.agg [.sl 7 T, .sl 4 H]), .d (.int .u32 o), st n, st w, u64 k] [] fun r S => r = .tup [.d (.agg [.sl 7 T2, .sl 4 H2]), i64 e] ∧ S = []) :
    CallR cx 37 [.d (.agg [.sl 7 T, .sl 4 H]), .d (.int .u32 o), st n, st w, u64 k] [] fun r S => r = .tup [.d (.agg [.sl 7 T, .sl 4 H]), i64 e] ∧ S = [] := by
  refine callR_of (R := R1) cx_ok Tryd.func37 (by kernel_rfl) rfl ?_
  conv => whnf
  refine ⟨_, tk, ?_⟩
  rintro _ _ ⟨rfl, rfl⟩
  conv => whnf
  refine brT (bne_iff_ne.2 he) ?_
  conv => whnf
  exact ⟨rfl, rfl⟩

theorem burn_er {T H T2 H2 : List D} {o k : Int} {n w : ByteArray} {to a b c d e x : Int} {tn : ByteArray} {J : Int} (hJ : 0 ≤ J)
    (hJT : J < T.length) (hgd : T.getD J.toNat .nilP = .agg [.int .u32 to, .str tn, .int .u64 a, .int .u64 b, .int .u64 c, .int .u64 d, .int .u64 e])
    (tk : CallR cx 81 [.d (.agg [.sl 7 T, .sl 4 H]), .d (.int .u32 o), st n, st w, u64 k] [] fun r S => r = .tup [.d (.agg [.sl 7 T2, .sl 4 H2]), i64 0] ∧ S = [])
    (tc : CallR cx 79 [.d (.agg [.sl 7 T, .sl 4 H]), .d (ky o n)] [] fun r S => r = i64 J ∧ S = [])
    (ad : CallR cx 53 [u64 e, u64 k] [] fun r S => r = .tup [u64 x, i64 10] ∧ S = []) :
    CallR cx 37 [.d (.agg [.sl 7 T, .sl 4 H]), .d (.int .u32 o), st n, st w, u64 k] [] fun r S => r = .tup [.d (.agg [.sl 7 T, .sl 4 H]), i64 10] ∧ S = [] := by
  refine callR_of (R := R1) cx_ok Tryd.func37 (by kernel_rfl) rfl ?_
  conv => whnf
  refine ⟨_, tk, ?_⟩
  rintro _ _ ⟨rfl, rfl⟩
  conv => whnf
  refine ⟨_, tc, ?_⟩
  rintro _ _ ⟨rfl, rfl⟩
  conv => whnf
  refine ⟨⟨by omega, by omega⟩, ?_⟩
  rw [hgd]
  conv => whnf
  refine ⟨_, ad, ?_⟩
  rintro _ _ ⟨rfl, rfl⟩
  conv => whnf
  exact ⟨rfl, rfl⟩

theorem burn_ok {T H T2 H2 T3 H3 : List D} {o k : Int} {n w : ByteArray} {to a b c d e x : Int} {tn : ByteArray} {J : Int} (hJ : 0 ≤ J)
    (hJT : J < T.length) (hgd : T.getD J.toNat .nilP = .agg [.int .u32 to, .str tn, .int .u64 a, .int .u64 b, .int .u64 c, .int .u64 d, .int .u64 e])
    (tk : CallR cx 81 [.d (.agg [.sl 7 T, .sl 4 H]), .d (.int .u32 o), st n, st w, u64 k] [] fun r S => r = .tup [.d (.agg [.sl 7 T2, .sl 4 H2]), i64 0] ∧ S = [])
    (tc : CallR cx 79 [.d (.agg [.sl 7 T, .sl 4 H]), .d (ky o n)] [] fun r S => r = i64 J ∧ S = [])
    (ad : CallR cx 53 [u64 e, u64 k] [] fun r S => r = .tup [u64 x, i64 0] ∧ S = [])
    (wi : CallR cx 82 [.d (.agg [.sl 7 T2, .sl 4 H2]), i64 J, .d (.agg [.int .u32 to, .str tn, .int .u64 a, .int .u64 b, .int .u64 c, .int .u64 d, .int .u64 x])] [] fun r S => r = .d (.agg [.sl 7 T3, .sl 4 H3]) ∧ S = []) :
    CallR cx 37 [.d (.agg [.sl 7 T, .sl 4 H]), .d (.int .u32 o), st n, st w, u64 k] [] fun r S => r = .tup [.d (.agg [.sl 7 T3, .sl 4 H3]), i64 0] ∧ S = [] := by
  refine callR_of (R := R1) cx_ok Tryd.func37 (by kernel_rfl) rfl ?_
  conv => whnf
  refine ⟨_, tk, ?_⟩
  rintro _ _ ⟨rfl, rfl⟩
  conv => whnf
  refine ⟨_, tc, ?_⟩
  rintro _ _ ⟨rfl, rfl⟩
  conv => whnf
  refine ⟨⟨by omega, by omega⟩, ?_⟩
  rw [hgd]
  conv => whnf
  refine ⟨_, ad, ?_⟩
  rintro _ _ ⟨rfl, rfl⟩
  conv => whnf
  refine ⟨_, wi, ?_⟩
  rintro _ _ ⟨rfl, rfl⟩
  conv => whnf
  exact ⟨rfl, rfl⟩

theorem unlock_no {T H : List D} {o k : Int} {n w : ByteArray} (tc : CallR cx 79 [.d (.agg [.sl 7 T, .sl 4 H]), .d (ky o n)] [] fun r S => r = i64 (-1) ∧ S = []) :
    CallR cx 34 [.d (.agg [.sl 7 T, .sl 4 H]), .d (.int .u32 o), st n, st w, u64 k] [] fun r S => r = .tup [.d (.agg [.sl 7 T, .sl 4 H]), i64 40] ∧ S = [] := by
  refine callR_of (R := R1) cx_ok Tryd.func34 (by kernel_rfl) rfl ?_
  conv => whnf
  refine ⟨_, tc, ?_⟩
  rintro _ _ ⟨rfl, rfl⟩
  conv => whnf
  exact ⟨rfl, rfl⟩

theorem unlock_un {T H : List D} {o k : Int} {n w : ByteArray} {to a b c d e x : Int} {tn : ByteArray} {mi lo : Int} {J : Int} (hJ : 0 ≤ J)
    (hJT : J < T.length) (hgd : T.getD J.toNat .nilP = .agg [.int .u32 to, .str tn, .int .u64 a, .int .u64 b, .int .u64 c, .int .u64 d, .int .u64 e])
    (tc : CallR cx 79 [.d (.agg [.sl 7 T, .sl 4 H]), .d (ky o n)] [] fun r S => r = i64 J ∧ S = [])
    (ou : CallR cx 41 [.d (.agg [.int .u32 to, .str tn, .int .u64 a, .int .u64 b, .int .u64 c, .int .u64 d, .int .u64 e])] [] fun r S => r = .tup [u64 mi, u64 lo] ∧ S = [])
    (hlo : lo < k) :
    CallR cx 34 [.d (.agg [.sl 7 T, .sl 4 H]), .d (.int .u32 o), st n, st w, u64 k] [] fun r S => r = .tup [.d (.agg [.sl 7 T, .sl 4 H]), i64 11] ∧ S = [] := by
  refine callR_of (R := R1) cx_ok Tryd.func34 (by kernel_rfl) rfl ?_
  conv => whnf
  refine ⟨_, tc, ?_⟩
  rintro _ _ ⟨rfl, rfl⟩
  conv => whnf
  refine brF (decide_eq_false (by omega)) ?_
  conv => whnf
  refine ⟨⟨by omega, by omega⟩, ?_⟩
  rw [hgd]
  conv => whnf
  refine ⟨_, ou, ?_⟩
  rintro _ _ ⟨rfl, rfl⟩
  conv => whnf
  refine brT (decide_eq_true hlo) ?_
  conv => whnf
  exact ⟨rfl, rfl⟩

theorem unlock_er {T H : List D} {o k : Int} {n w : ByteArray} {to a b c d e x : Int} {tn : ByteArray} {mi lo : Int} {J : Int} (hJ : 0 ≤ J)
    (hJT : J < T.length) (hgd : T.getD J.toNat .nilP = .agg [.int .u32 to, .str tn, .int .u64 a, .int .u64 b, .int .u64 c, .int .u64 d, .int .u64 e])
    (tc : CallR cx 79 [.d (.agg [.sl 7 T, .sl 4 H]), .d (ky o n)] [] fun r S => r = i64 J ∧ S = [])
    (ou : CallR cx 41 [.d (.agg [.int .u32 to, .str tn, .int .u64 a, .int .u64 b, .int .u64 c, .int .u64 d, .int .u64 e])] [] fun r S => r = .tup [u64 mi, u64 lo] ∧ S = [])
    (hlo : ¬ lo < k)
    (ad : CallR cx 53 [u64 c, u64 k] [] fun r S => r = .tup [u64 x, i64 10] ∧ S = []) :
    CallR cx 34 [.d (.agg [.sl 7 T, .sl 4 H]), .d (.int .u32 o), st n, st w, u64 k] [] fun r S => r = .tup [.d (.agg [.sl 7 T, .sl 4 H]), i64 10] ∧ S = [] := by
  refine callR_of (R := R1) cx_ok Tryd.func34 (by kernel_rfl) rfl ?_
  conv => whnf
  refine ⟨_, tc, ?_⟩
  rintro _ _ ⟨rfl, rfl⟩
  conv => whnf
  refine brF (decide_eq_false (by omega)) ?_
  conv => whnf
  refine ⟨⟨by omega, by omega⟩, ?_⟩
  rw [hgd]
  conv => whnf
  refine ⟨_, ou, ?_⟩
  rintro _ _ ⟨rfl, rfl⟩
  conv => whnf
  refine brF (decide_eq_false hlo) ?_
  conv => whnf
  refine ⟨_, ad, ?_⟩
  rintro _ _ ⟨rfl, rfl⟩
  conv => whnf
  exact ⟨rfl, rfl⟩

theorem unlock_ge {T H T2 H2 : List D} {o k : Int} {n w : ByteArray} {to a b c d e x : Int} {tn : ByteArray} {mi lo : Int} {J : Int} (hJ : 0 ≤ J) {e9 : Int} (he : e9 ≠ 0)
    (hJT : J < T.length) (hgd : T.getD J.toNat .nilP = .agg [.int .u32 to, .str tn, .int .u64 a, .int .u64 b, .int .u64 c, .int .u64 d, .int .u64 e])
    (tc : CallR cx 79 [.d (.agg [.sl 7 T, .sl 4 H]), .d (ky o n)] [] fun r S => r = i64 J ∧ S = [])
    (ou : CallR cx 41 [.d (.agg [.int .u32 to, .str tn, .int .u64 a, .int .u64 b, .int .u64 c, .int .u64 d, .int .u64 e])] [] fun r S => r = .tup [u64 mi, u64 lo] ∧ S = [])
    (hlo : ¬ lo < k)
    (ad : CallR cx 53 [u64 c, u64 k] [] fun r S => r = .tup [u64 x, i64 0] ∧ S = [])
    (gr : CallR cx 44 [.d (.agg [.sl 7 T, .sl 4 H]), .d (.int .u32 o), st n, st w, u64 k] [] fun r S => r = .tup [.d (.agg [.sl 7 T2, .sl 4 H2]), i64 e9] ∧ S = []) :
    CallR cx 34 [.d (.agg [.sl 7 T, .sl 4 H]), .d (.int .u32 o), st n, st w, u64 k] [] fun r S => r = .tup [.d (.agg [.sl 7 T, .sl 4 H]), i64 e9] ∧ S = [] := by
  refine callR_of (R := R1) cx_ok Tryd.func34 (by kernel_rfl) rfl ?_
  conv => whnf
  refine ⟨_, tc, ?_⟩
  rintro _ _ ⟨rfl, rfl⟩
  conv => whnf
  refine brF (decide_eq_false (by omega)) ?_
  conv => whnf
  refine ⟨⟨by omega, by omega⟩, ?_⟩
  rw [hgd]
  conv => whnf
  refine ⟨_, ou, ?_⟩
  rintro _ _ ⟨rfl, rfl⟩
  conv => whnf
  refine brF (decide_eq_false hlo) ?_
  conv => whnf
  refine ⟨_, ad, ?_⟩
  rintro _ _ ⟨rfl, rfl⟩
  conv => whnf
  refine ⟨_, gr, ?_⟩
  rintro _ _ ⟨rfl, rfl⟩
  conv => whnf
  refine brT (bne_iff_ne.2 he) ?_
  conv => whnf
  exact ⟨rfl, rfl⟩

theorem unlock_ok {T H T2 H2 T3 H3 : List D} {o k : Int} {n w : ByteArray} {to a b c d e x : Int} {tn : ByteArray} {mi lo : Int} {J : Int} (hJ : 0 ≤ J)
    (hJT : J < T.length) (hgd : T.getD J.toNat .nilP = .agg [.int .u32 to, .str tn, .int .u64 a, .int .u64 b, .int .u64 c, .int .u64 d, .int .u64 e])
    (tc : CallR cx 79 [.d (.agg [.sl 7 T, .sl 4 H]), .d (ky o n)] [] fun r S => r = i64 J ∧ S = [])
    (ou : CallR cx 41 [.d (.agg [.int .u32 to, .str tn, .int .u64 a, .int .u64 b, .int .u64 c, .int .u64 d, .int .u64 e])] [] fun r S => r = .tup [u64 mi, u64 lo] ∧ S = [])
    (hlo : ¬ lo < k)
    (ad : CallR cx 53 [u64 c, u64 k] [] fun r S => r = .tup [u64 x, i64 0] ∧ S = [])
    (gr : CallR cx 44 [.d (.agg [.sl 7 T, .sl 4 H]), .d (.int .u32 o), st n, st w, u64 k] [] fun r S => r = .tup [.d (.agg [.sl 7 T2, .sl 4 H2]), i64 0] ∧ S = [])
    (wi : CallR cx 82 [.d (.agg [.sl 7 T2, .sl 4 H2]), i64 J, .d (.agg [.int .u32 to, .str tn, .int .u64 a, .int .u64 b, .int .u64 x, .int .u64 d, .int .u64 e])] [] fun r S => r = .d (.agg [.sl 7 T3, .sl 4 H3]) ∧ S = []) :
    CallR cx 34 [.d (.agg [.sl 7 T, .sl 4 H]), .d (.int .u32 o), st n, st w, u64 k] [] fun r S => r = .tup [.d (.agg [.sl 7 T3, .sl 4 H3]), i64 0] ∧ S = [] := by
  refine callR_of (R := R1) cx_ok Tryd.func34 (by kernel_rfl) rfl ?_
  conv => whnf
  refine ⟨_, tc, ?_⟩
  rintro _ _ ⟨rfl, rfl⟩
  conv => whnf
  refine brF (decide_eq_false (by omega)) ?_
  conv => whnf
  refine ⟨⟨by omega, by omega⟩, ?_⟩
  rw [hgd]
  conv => whnf
  refine ⟨_, ou, ?_⟩
  rintro _ _ ⟨rfl, rfl⟩
  conv => whnf
  refine brF (decide_eq_false hlo) ?_
  conv => whnf
  refine ⟨_, ad, ?_⟩
  rintro _ _ ⟨rfl, rfl⟩
  conv => whnf
  refine ⟨_, gr, ?_⟩
  rintro _ _ ⟨rfl, rfl⟩
  conv => whnf
  refine ⟨_, wi, ?_⟩
  rintro _ _ ⟨rfl, rfl⟩
  conv => whnf
  exact ⟨rfl, rfl⟩

theorem mint_no {T H : List D} {o k : Int} {n w : ByteArray} (tc : CallR cx 79 [.d (.agg [.sl 7 T, .sl 4 H]), .d (ky o n)] [] fun r S => r = i64 (-1) ∧ S = []) :
    CallR cx 36 [.d (.agg [.sl 7 T, .sl 4 H]), .d (.int .u32 o), st n, st w, u64 k] [] fun r S => r = .tup [.d (.agg [.sl 7 T, .sl 4 H]), i64 40] ∧ S = [] := by
  refine callR_of (R := R1) cx_ok Tryd.func36 (by kernel_rfl) rfl ?_
  conv => whnf
  refine ⟨_, tc, ?_⟩
  rintro _ _ ⟨rfl, rfl⟩
  conv => whnf
  exact ⟨rfl, rfl⟩

theorem mint_er {T H : List D} {o k : Int} {n w : ByteArray} {to a b c d e x : Int} {tn : ByteArray} {mi lo y : Int} {J : Int} (hJ : 0 ≤ J)
    (hJT : J < T.length) (hgd : T.getD J.toNat .nilP = .agg [.int .u32 to, .str tn, .int .u64 a, .int .u64 b, .int .u64 c, .int .u64 d, .int .u64 e])
    (tc : CallR cx 79 [.d (.agg [.sl 7 T, .sl 4 H]), .d (ky o n)] [] fun r S => r = i64 J ∧ S = [])
    (ou : CallR cx 41 [.d (.agg [.int .u32 to, .str tn, .int .u64 a, .int .u64 b, .int .u64 c, .int .u64 d, .int .u64 e])] [] fun r S => r = .tup [u64 mi, u64 lo] ∧ S = [])
    (ad : CallR cx 53 [u64 d, u64 k] [] fun r S => r = .tup [u64 x, i64 10] ∧ S = []) :
    CallR cx 36 [.d (.agg [.sl 7 T, .sl 4 H]), .d (.int .u32 o), st n, st w, u64 k] [] fun r S => r = .tup [.d (.agg [.sl 7 T, .sl 4 H]), i64 10] ∧ S = [] := by
  refine callR_of (R := R1) cx_ok Tryd.func36 (by kernel_rfl) rfl ?_
  conv => whnf
  refine ⟨_, tc, ?_⟩
  rintro _ _ ⟨rfl, rfl⟩
  conv => whnf
  refine brF (decide_eq_false (by omega)) ?_
  conv => whnf
  refine ⟨⟨by omega, by omega⟩, ?_⟩
  rw [hgd]
  conv => whnf
  refine ⟨_, ou, ?_⟩
  rintro _ _ ⟨rfl, rfl⟩
  conv => whnf
  refine ⟨_, ad, ?_⟩
  rintro _ _ ⟨rfl, rfl⟩
  conv => whnf
  exact ⟨rfl, rfl⟩

theorem mint_c1 {T H : List D} {o k : Int} {n w : ByteArray} {to a b c d e x : Int} {tn : ByteArray} {mi lo y : Int} {J : Int} (hJ : 0 ≤ J)
    (hJT : J < T.length) (hgd : T.getD J.toNat .nilP = .agg [.int .u32 to, .str tn, .int .u64 a, .int .u64 b, .int .u64 c, .int .u64 d, .int .u64 e])
    (tc : CallR cx 79 [.d (.agg [.sl 7 T, .sl 4 H]), .d (ky o n)] [] fun r S => r = i64 J ∧ S = [])
    (ou : CallR cx 41 [.d (.agg [.int .u32 to, .str tn, .int .u64 a, .int .u64 b, .int .u64 c, .int .u64 d, .int .u64 e])] [] fun r S => r = .tup [u64 mi, u64 lo] ∧ S = [])
    (ad : CallR cx 53 [u64 d, u64 k] [] fun r S => r = .tup [u64 x, i64 0] ∧ S = [])
    (ae : CallR cx 53 [u64 mi, u64 k] [] fun r S => r = .tup [u64 y, i64 10] ∧ S = []) :
    CallR cx 36 [.d (.agg [.sl 7 T, .sl 4 H]), .d (.int .u32 o), st n, st w, u64 k] [] fun r S => r = .tup [.d (.agg [.sl 7 T, .sl 4 H]), i64 12] ∧ S = [] := by
  refine callR_of (R := R1) cx_ok Tryd.func36 (by kernel_rfl) rfl ?_
  conv => whnf
  refine ⟨_, tc, ?_⟩
  rintro _ _ ⟨rfl, rfl⟩
  conv => whnf
  refine brF (decide_eq_false (by omega)) ?_
  conv => whnf
  refine ⟨⟨by omega, by omega⟩, ?_⟩
  rw [hgd]
  conv => whnf
  refine ⟨_, ou, ?_⟩
  rintro _ _ ⟨rfl, rfl⟩
  conv => whnf
  refine ⟨_, ad, ?_⟩
  rintro _ _ ⟨rfl, rfl⟩
  conv => whnf
  refine ⟨_, ae, ?_⟩
  rintro _ _ ⟨rfl, rfl⟩
  conv => whnf
  exact ⟨rfl, rfl⟩

theorem mint_c2 {T H : List D} {o k : Int} {n w : ByteArray} {to a b c d e x : Int} {tn : ByteArray} {mi lo y : Int} {J : Int} (hJ : 0 ≤ J)
    (hJT : J < T.length) (hgd : T.getD J.toNat .nilP = .agg [.int .u32 to, .str tn, .int .u64 a, .int .u64 b, .int .u64 c, .int .u64 d, .int .u64 e])
    (tc : CallR cx 79 [.d (.agg [.sl 7 T, .sl 4 H]), .d (ky o n)] [] fun r S => r = i64 J ∧ S = [])
    (ou : CallR cx 41 [.d (.agg [.int .u32 to, .str tn, .int .u64 a, .int .u64 b, .int .u64 c, .int .u64 d, .int .u64 e])] [] fun r S => r = .tup [u64 mi, u64 lo] ∧ S = [])
    (ad : CallR cx 53 [u64 d, u64 k] [] fun r S => r = .tup [u64 x, i64 0] ∧ S = [])
    (ae : CallR cx 53 [u64 mi, u64 k] [] fun r S => r = .tup [u64 y, i64 0] ∧ S = [])
    (hy : y > a) :
    CallR cx 36 [.d (.agg [.sl 7 T, .sl 4 H]), .d (.int .u32 o), st n, st w, u64 k] [] fun r S => r = .tup [.d (.agg [.sl 7 T, .sl 4 H]), i64 12] ∧ S = [] := by
  refine callR_of (R := R1) cx_ok Tryd.func36 (by kernel_rfl) rfl ?_
  conv => whnf
  refine ⟨_, tc, ?_⟩
  rintro _ _ ⟨rfl, rfl⟩
  conv => whnf
  refine brF (decide_eq_false (by omega)) ?_
  conv => whnf
  refine ⟨⟨by omega, by omega⟩, ?_⟩
  rw [hgd]
  conv => whnf
  refine ⟨_, ou, ?_⟩
  rintro _ _ ⟨rfl, rfl⟩
  conv => whnf
  refine ⟨_, ad, ?_⟩
  rintro _ _ ⟨rfl, rfl⟩
  conv => whnf
  refine ⟨_, ae, ?_⟩
  rintro _ _ ⟨rfl, rfl⟩
  conv => whnf
  refine brT (decide_eq_true hy) ?_
  conv => whnf
  exact ⟨rfl, rfl⟩

theorem mint_ge {T H T2 H2 : List D} {o k : Int} {n w : ByteArray} {to a b c d e x : Int} {tn : ByteArray} {mi lo y : Int} {J : Int} (hJ : 0 ≤ J) {e9 : Int} (he : e9 ≠ 0)
    (hJT : J < T.length) (hgd : T.getD J.toNat .nilP = .agg [.int .u32 to, .str tn, .int .u64 a, .int .u64 b, .int .u64 c, .int .u64 d, .int .u64 e])
    (tc : CallR cx 79 [.d (.agg [.sl 7 T, .sl 4 H]), .d (ky o n)] [] fun r S => r = i64 J ∧ S = [])
    (ou : CallR cx 41 [.d (.agg [.int .u32 to, .str tn, .int .u64 a, .int .u64 b, .int .u64 c, .int .u64 d, .int .u64 e])] [] fun r S => r = .tup [u64 mi, u64 lo] ∧ S = [])
    (ad : CallR cx 53 [u64 d, u64 k] [] fun r S => r = .tup [u64 x, i64 0] ∧ S = [])
    (ae : CallR cx 53 [u64 mi, u64 k] [] fun r S => r = .tup [u64 y, i64 0] ∧ S = [])
    (hy : ¬ y > a)
    (gr : CallR cx 44 [.d (.agg [.sl 7 T, .sl 4 H]), .d (.int .u32 o), st n, st w, u64 k] [] fun r S => r = .tup [.d (.agg [.sl 7 T2, .sl 4 H2]), i64 e9] ∧ S = []) :
    CallR cx 36 [.d (.agg [.sl 7 T, .sl 4 H]), .d (.int .u32 o), st n, st w, u64 k] [] fun r S => r = .tup [.d (.agg [.sl 7 T, .sl 4 H]), i64 e9] ∧ S = [] := by
  refine callR_of (R := R1) cx_ok Tryd.func36 (by kernel_rfl) rfl ?_
  conv => whnf
  refine ⟨_, tc, ?_⟩
  rintro _ _ ⟨rfl, rfl⟩
  conv => whnf
  refine brF (decide_eq_false (by omega)) ?_
  conv => whnf
  refine ⟨⟨by omega, by omega⟩, ?_⟩
  rw [hgd]
  conv => whnf
  refine ⟨_, ou, ?_⟩
  rintro _ _ ⟨rfl, rfl⟩
  conv => whnf
  refine ⟨_, ad, ?_⟩
  rintro _ _ ⟨rfl, rfl⟩
  conv => whnf
  refine ⟨_, ae, ?_⟩
  rintro _ _ ⟨rfl, rfl⟩
  conv => whnf
  refine brF (decide_eq_false hy) ?_
  conv => whnf
  refine ⟨_, gr, ?_⟩
  rintro _ _ ⟨rfl, rfl⟩
  conv => whnf
  refine brT (bne_iff_ne.2 he) ?_
  conv => whnf
  exact ⟨rfl, rfl⟩

theorem mint_ok {T H T2 H2 T3 H3 : List D} {o k : Int} {n w : ByteArray} {to a b c d e x : Int} {tn : ByteArray} {mi lo y : Int} {J : Int} (hJ : 0 ≤ J)
    (hJT : J < T.length) (hgd : T.getD J.toNat .nilP = .agg [.int .u32 to, .str tn, .int .u64 a, .int .u64 b, .int .u64 c, .int .u64 d, .int .u64 e])
    (tc : CallR cx 79 [.d (.agg [.sl 7 T, .sl 4 H]), .d (ky o n)] [] fun r S => r = i64 J ∧ S = [])
    (ou : CallR cx 41 [.d (.agg [.int .u32 to, .str tn, .int .u64 a, .int .u64 b, .int .u64 c, .int .u64 d, .int .u64 e])] [] fun r S => r = .tup [u64 mi, u64 lo] ∧ S = [])
    (ad : CallR cx 53 [u64 d, u64 k] [] fun r S => r = .tup [u64 x, i64 0] ∧ S = [])
    (ae : CallR cx 53 [u64 mi, u64 k] [] fun r S => r = .tup [u64 y, i64 0] ∧ S = [])
    (hy : ¬ y > a)
    (gr : CallR cx 44 [.d (.agg [.sl 7 T, .sl 4 H]), .d (.int .u32 o), st n, st w, u64 k] [] fun r S => r = .tup [.d (.agg [.sl 7 T2, .sl 4 H2]), i64 0] ∧ S = [])
    (wi : CallR cx 82 [.d (.agg [.sl 7 T2, .sl 4 H2]), i64 J, .d (.agg [.int .u32 to, .str tn, .int .u64 a, .int .u64 b, .int .u64 c, .int .u64 x, .int .u64 e])] [] fun r S => r = .d (.agg [.sl 7 T3, .sl 4 H3]) ∧ S = []) :
    CallR cx 36 [.d (.agg [.sl 7 T, .sl 4 H]), .d (.int .u32 o), st n, st w, u64 k] [] fun r S => r = .tup [.d (.agg [.sl 7 T3, .sl 4 H3]), i64 0] ∧ S = [] := by
  refine callR_of (R := R1) cx_ok Tryd.func36 (by kernel_rfl) rfl ?_
  conv => whnf
  refine ⟨_, tc, ?_⟩
  rintro _ _ ⟨rfl, rfl⟩
  conv => whnf
  refine brF (decide_eq_false (by omega)) ?_
  conv => whnf
  refine ⟨⟨by omega, by omega⟩, ?_⟩
  rw [hgd]
  conv => whnf
  refine ⟨_, ou, ?_⟩
  rintro _ _ ⟨rfl, rfl⟩
  conv => whnf
  refine ⟨_, ad, ?_⟩
  rintro _ _ ⟨rfl, rfl⟩
  conv => whnf
  refine ⟨_, ae, ?_⟩
  rintro _ _ ⟨rfl, rfl⟩
  conv => whnf
  refine brF (decide_eq_false hy) ?_
  conv => whnf
  refine ⟨_, gr, ?_⟩
  rintro _ _ ⟨rfl, rfl⟩
  conv => whnf
  refine ⟨_, wi, ?_⟩
  rintro _ _ ⟨rfl, rfl⟩
  conv => whnf
  exact ⟨rfl, rfl⟩

end Go.Proofs.YtmdfpifcghmpfaaDoor
