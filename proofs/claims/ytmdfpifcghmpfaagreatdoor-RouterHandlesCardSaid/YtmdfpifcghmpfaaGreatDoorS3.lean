/- What one statement needs of the texts, by slice.py. -/
import Derived.Test.YtmdfpifcghmpfaaGreatDoorS2

/- Purses: what is taken and granted; locked, unlocked, minted, burned. Purses: what is taken and granted, locked, unlocked, minted, burned: the program's contracts. Purses: what is locked, unlocked, minted, burned: the program's contracts. -/
set_option linter.unusedVariables false
namespace Go.Proofs.YtmdfpifcghmpfaaGreatDoor
open Go.Ab Go.RowKit

theorem grant_no {T H : List D} {o k : Int} {n w : ByteArray} (tc : CallR cx 58 [.d (.agg [.sl 7 T, .sl 4 H]), .d (ky o n)] [] fun r S => r = i64 (-1) ∧ S = []) :
    CallR cx 61 [.d (.agg [.sl 7 T, .sl 4 H]), .d (.int .u32 o), st n, st w, u64 k] [] fun r S => r = .tup [.d (.agg [.sl 7 T, .sl 4 H]), i64 40] ∧ S = [] := by
  refine callR_of (R := R1) cx_ok Tryz.func61 (by kernel_rfl) rfl ?_
  conv => whnf
  refine ⟨_, tc, ?_⟩
  rintro _ _ ⟨rfl, rfl⟩
  conv => whnf
  exact ⟨rfl, rfl⟩

theorem grant_nm {T H : List D} {o k : Int} {n w : ByteArray} {J : Int} (hJ : 0 ≤ J)
    (tc : CallR cx 58 [.d (.agg [.sl 7 T, .sl 4 H]), .d (ky o n)] [] fun r S => r = i64 J ∧ S = [])
    (rn : CallR cx 56 [st w] [] fun r S => r = bo false ∧ S = []) :
    CallR cx 61 [.d (.agg [.sl 7 T, .sl 4 H]), .d (.int .u32 o), st n, st w, u64 k] [] fun r S => r = .tup [.d (.agg [.sl 7 T, .sl 4 H]), i64 7] ∧ S = [] := by
  refine callR_of (R := R1) cx_ok Tryz.func61 (by kernel_rfl) rfl ?_
  conv => whnf
  refine ⟨_, tc, ?_⟩
  rintro _ _ ⟨rfl, rfl⟩
  conv => whnf
  refine brF (decide_eq_false (by omega)) ?_
  conv => whnf
  refine ⟨_, rn, ?_⟩
  rintro _ _ ⟨rfl, rfl⟩
  conv => whnf
  exact ⟨rfl, rfl⟩

theorem grant_er {T H : List D} {o k : Int} {n w : ByteArray} {x v : Int} {J : Int} (hJ : 0 ≤ J)
    (tc : CallR cx 58 [.d (.agg [.sl 7 T, .sl 4 H]), .d (ky o n)] [] fun r S => r = i64 J ∧ S = [])
    (rn : CallR cx 56 [st w] [] fun r S => r = bo true ∧ S = [])
    (hv : CallR cx 84 [.d (.agg [.sl 7 T, .sl 4 H]), .d (.int .u32 o), st n, st w] [] fun r S => r = u64 v ∧ S = [])
    (ad : CallR cx 60 [u64 v, u64 k] [] fun r S => r = .tup [u64 x, i64 10] ∧ S = []) :
    CallR cx 61 [.d (.agg [.sl 7 T, .sl 4 H]), .d (.int .u32 o), st n, st w, u64 k] [] fun r S => r = .tup [.d (.agg [.sl 7 T, .sl 4 H]), i64 10] ∧ S = [] := by
  refine callR_of (R := R1) cx_ok Tryz.func61 (by kernel_rfl) rfl ?_
  conv => whnf
  refine ⟨_, tc, ?_⟩
  rintro _ _ ⟨rfl, rfl⟩
  conv => whnf
  refine brF (decide_eq_false (by omega)) ?_
  conv => whnf
  refine ⟨_, rn, ?_⟩
  rintro _ _ ⟨rfl, rfl⟩
  conv => whnf
  refine ⟨_, hv, ?_⟩
  rintro _ _ ⟨rfl, rfl⟩
  conv => whnf
  refine ⟨_, ad, ?_⟩
  rintro _ _ ⟨rfl, rfl⟩
  conv => whnf
  exact ⟨rfl, rfl⟩

theorem grant_ok {T H T2 H2 : List D} {o k : Int} {n w : ByteArray} {x v : Int} {J : Int} (hJ : 0 ≤ J)
    (tc : CallR cx 58 [.d (.agg [.sl 7 T, .sl 4 H]), .d (ky o n)] [] fun r S => r = i64 J ∧ S = [])
    (rn : CallR cx 56 [st w] [] fun r S => r = bo true ∧ S = [])
    (hv : CallR cx 84 [.d (.agg [.sl 7 T, .sl 4 H]), .d (.int .u32 o), st n, st w] [] fun r S => r = u64 v ∧ S = [])
    (ad : CallR cx 60 [u64 v, u64 k] [] fun r S => r = .tup [u64 x, i64 0] ∧ S = [])
    (pt : CallR cx 85 [.d (.agg [.sl 7 T, .sl 4 H]), .d (ky o n), st w, u64 x] [] fun r S => r = .d (.agg [.sl 7 T2, .sl 4 H2]) ∧ S = []) :
    CallR cx 61 [.d (.agg [.sl 7 T, .sl 4 H]), .d (.int .u32 o), st n, st w, u64 k] [] fun r S => r = .tup [.d (.agg [.sl 7 T2, .sl 4 H2]), i64 0] ∧ S = [] := by
  refine callR_of (R := R1) cx_ok Tryz.func61 (by kernel_rfl) rfl ?_
  conv => whnf
  refine ⟨_, tc, ?_⟩
  rintro _ _ ⟨rfl, rfl⟩
  conv => whnf
  refine brF (decide_eq_false (by omega)) ?_
  conv => whnf
  refine ⟨_, rn, ?_⟩
  rintro _ _ ⟨rfl, rfl⟩
  conv => whnf
  refine ⟨_, hv, ?_⟩
  rintro _ _ ⟨rfl, rfl⟩
  conv => whnf
  refine ⟨_, ad, ?_⟩
  rintro _ _ ⟨rfl, rfl⟩
  conv => whnf
  refine ⟨_, pt, ?_⟩
  rintro _ _ ⟨rfl, rfl⟩
  conv => whnf
  exact ⟨rfl, rfl⟩

theorem unlock_no {T H : List D} {o k : Int} {n w : ByteArray} (tc : CallR cx 58 [.d (.agg [.sl 7 T, .sl 4 H]), .d (ky o n)] [] fun r S => r = i64 (-1) ∧ S = []) :
    CallR cx 31 [.d (.agg [.sl 7 T, .sl 4 H]), .d (.int .u32 o), st n, st w, u64 k] [] fun r S => r = .tup [.d (.agg [.sl 7 T, .sl 4 H]), i64 40] ∧ S = [] := by
  refine callR_of (R := R1) cx_ok Tryz.func31 (by kernel_rfl) rfl ?_
  conv => whnf
  refine ⟨_, tc, ?_⟩
  rintro _ _ ⟨rfl, rfl⟩
  conv => whnf
  exact ⟨rfl, rfl⟩

theorem unlock_un {T H : List D} {o k : Int} {n w : ByteArray} {to a b c d e x : Int} {tn : ByteArray} {mi lo : Int} {J : Int} (hJ : 0 ≤ J)
    (hJT : J < T.length) (hgd : T.getD J.toNat .nilP = .agg [.int .u32 to, .str tn, .int .u64 a, .int .u64 b, .int .u64 c, .int .u64 d, .int .u64 e])
    (tc : CallR cx 58 [.d (.agg [.sl 7 T, .sl 4 H]), .d (ky o n)] [] fun r S => r = i64 J ∧ S = [])
    (ou : CallR cx 59 [.d (.agg [.int .u32 to, .str tn, .int .u64 a, .int .u64 b, .int .u64 c, .int .u64 d, .int .u64 e])] [] fun r S => r = .tup [u64 mi, u64 lo] ∧ S = [])
    (hlo : lo < k) :
    CallR cx 31 [.d (.agg [.sl 7 T, .sl 4 H]), .d (.int .u32 o), st n, st w, u64 k] [] fun r S => r = .tup [.d (.agg [.sl 7 T, .sl 4 H]), i64 11] ∧ S = [] := by
  refine callR_of (R := R1) cx_ok Tryz.func31 (by kernel_rfl) rfl ?_
  conv => whnf
  refine ⟨_, tc, ?_⟩
  rintro _ _ ⟨rfl, rfl⟩
  conv => whnf
  refine brF (decide_eq_false (by omega)) ?_
  conv => whnf
  refine ⟨⟨by omega, by omega⟩, ?_⟩
  rw [hgd]
  conv => whnf
  refine ⟨_, ou, ?_⟩
  rintro _ _ ⟨rfl, rfl⟩
  conv => whnf
  refine brT (decide_eq_true hlo) ?_
  conv => whnf
  exact ⟨rfl, rfl⟩

theorem unlock_er {T H : List D} {o k : Int} {n w : ByteArray} {to a b c d e x : Int} {tn : ByteArray} {mi lo : Int} {J : Int} (hJ : 0 ≤ J)
    (hJT : J < T.length) (hgd : T.getD J.toNat .nilP = .agg [.int .u32 to, .str tn, .int .u64 a, .int .u64 b, .int .u64 c, .int .u64 d, .int .u64 e])
    (tc : CallR cx 58 [.d (.agg [.sl 7 T, .sl 4 H]), .d (ky o n)] [] fun r S => r = i64 J ∧ S = [])
    (ou : CallR cx 59 [.d (.agg [.int .u32 to, .str tn, .int .u64 a, .int .u64 b, .int .u64 c, .int .u64 d, .int .u64 e])] [] fun r S => r = .tup [u64 mi, u64 lo] ∧ S = [])
    (hlo : ¬ lo < k)
    (ad : CallR cx 60 [u64 c, u64 k] [] fun r S => r = .tup [u64 x, i64 10] ∧ S = []) :
    CallR cx 31 [.d (.agg [.sl 7 T, .sl 4 H]), .d (.int .u32 o), st n, st w, u64 k] [] fun r S => r = .tup [.d (.agg [.sl 7 T, .sl 4 H]), i64 10] ∧ S = [] := by
  refine callR_of (R := R1) cx_ok Tryz.func31 (by kernel_rfl) rfl ?_
  conv => whnf
  refine ⟨_, tc, ?_⟩
  rintro _ _ ⟨rfl, rfl⟩
  conv => whnf
  refine brF (decide_eq_false (by omega)) ?_
  conv => whnf
  refine ⟨⟨by omega, by omega⟩, ?_⟩
  rw [hgd]
  conv => whnf
  refine ⟨_, ou, ?_⟩
  rintro _ _ ⟨rfl, rfl⟩
  conv => whnf
  refine brF (decide_eq_false hlo) ?_
  conv => whnf
  refine ⟨_, ad, ?_⟩
  rintro _ _ ⟨rfl, rfl⟩
  conv => whnf
  exact ⟨rfl, rfl⟩

theorem unlock_ge {T H T2 H2 : List D} {o k : Int} {n w : ByteArray} {to a b c d e x : Int} {tn : ByteArray} {mi lo : Int} {J : Int} (hJ : 0 ≤ J) {e9 : Int} (he : e9 ≠ 0)
    (hJT : J < T.length) (hgd : T.getD J.toNat .nilP = .agg [.int .u32 to, .str tn, .int .u64 a, .int .u64 b, .int .u64 c, .int .u64 d, .int .u64 e])
    (tc : CallR cx 58 [.d (.agg [.sl 7 T, .sl 4 H]), .d (ky o n)] [] fun r S => r = i64 J ∧ S = [])
    (ou : CallR cx 59 [.d (.agg [.int .u32 to, .str tn, .int .u64 a, .int .u64 b, .int .u64 c, .int .u64 d, .int .u64 e])] [] fun r S => r = .tup [u64 mi, u64 lo] ∧ S = [])
    (hlo : ¬ lo < k)
    (ad : CallR cx 60 [u64 c, u64 k] [] fun r S => r = .tup [u64 x, i64 0] ∧ S = [])
    (gr : CallR cx 61 [.d (.agg [.sl 7 T, .sl 4 H]), .d (.int .u32 o), st n, st w, u64 k] [] fun r S => r = .tup [.d (.agg [.sl 7 T2, .sl 4 H2]), i64 e9] ∧ S = []) :
    CallR cx 31 [.d (.agg [.sl 7 T, .sl 4 H]), .d (.int .u32 o), st n, st w, u64 k] [] fun r S => r = .tup [.d (.agg [.sl 7 T, .sl 4 H]), i64 e9] ∧ S = [] := by
  refine callR_of (R := R1) cx_ok Tryz.func31 (by kernel_rfl) rfl ?_
  conv => whnf
  refine ⟨_, tc, ?_⟩
  rintro _ _ ⟨rfl, rfl⟩
  conv => whnf
  refine brF (decide_eq_false (by omega)) ?_
  conv => whnf
  refine ⟨⟨by omega, by omega⟩, ?_⟩
  rw [hgd]
  conv => whnf
  refine ⟨_, ou, ?_⟩
  rintro _ _ ⟨rfl, rfl⟩
  conv => whnf
  refine brF (decide_eq_false hlo) ?_
  conv => whnf
  refine ⟨_, ad, ?_⟩
  rintro _ _ ⟨rfl, rfl⟩
  conv => whnf
  refine ⟨_, gr, ?_⟩
  rintro _ _ ⟨rfl, rfl⟩
  conv => whnf
  refine brT (bne_iff_ne.2 he) ?_
  conv => whnf
  exact ⟨rfl, rfl⟩

theorem unlock_ok {T H T2 H2 T3 H3 : List D} {o k : Int} {n w : ByteArray} {to a b c d e x : Int} {tn : ByteArray} {mi lo : Int} {J : Int} (hJ : 0 ≤ J)
    (hJT : J < T.length) (hgd : T.getD J.toNat .nilP = .agg [.int .u32 to, .str tn, .int .u64 a, .int .u64 b, .int .u64 c, .int .u64 d, .int .u64 e])
    (tc : CallR cx 58 [.d (.agg [.sl 7 T, .sl 4 H]), .d (ky o n)] [] fun r S => r = i64 J ∧ S = [])
    (ou : CallR cx 59 [.d (.agg [.int .u32 to, .str tn, .int .u64 a, .int .u64 b, .int .u64 c, .int .u64 d, .int .u64 e])] [] fun r S => r = .tup [u64 mi, u64 lo] ∧ S = [])
    (hlo : ¬ lo < k)
    (ad : CallR cx 60 [u64 c, u64 k] [] fun r S => r = .tup [u64 x, i64 0] ∧ S = [])
    (gr : CallR cx 61 [.d (.agg [.sl 7 T, .sl 4 H]), .d (.int .u32 o), st n, st w, u64 k] [] fun r S => r = .tup [.d (.agg [.sl 7 T2, .sl 4 H2]), i64 0] ∧ S = [])
    (wi : CallR cx 62 [.d (.agg [.sl 7 T2, .sl 4 H2]), i64 J, .d (.agg [.int .u32 to, .str tn, .int .u64 a, .int .u64 b, .int .u64 x, .int .u64 d, .int .u64 e])] [] fun r S => r = .d (.agg [.sl 7 T3, .sl 4 H3]) ∧ S = []) :
    CallR cx 31 [.d (.agg [.sl 7 T, .sl 4 H]), .d (.int .u32 o), st n, st w, u64 k] [] fun r S => r = .tup [.d (.agg [.sl 7 T3, .sl 4 H3]), i64 0] ∧ S = [] := by
  refine callR_of (R := R1) cx_ok Tryz.func31 (by kernel_rfl) rfl ?_
  conv => whnf
  refine ⟨_, tc, ?_⟩
  rintro _ _ ⟨rfl, rfl⟩
  conv => whnf
  refine brF (decide_eq_false (by omega)) ?_
  conv => whnf
  refine ⟨⟨by omega, by omega⟩, ?_⟩
  rw [hgd]
  conv => whnf
  refine ⟨_, ou, ?_⟩
  rintro _ _ ⟨rfl, rfl⟩
  conv => whnf
  refine brF (decide_eq_false hlo) ?_
  conv => whnf
  refine ⟨_, ad, ?_⟩
  rintro _ _ ⟨rfl, rfl⟩
  conv => whnf
  refine ⟨_, gr, ?_⟩
  rintro _ _ ⟨rfl, rfl⟩
  conv => whnf
  refine ⟨_, wi, ?_⟩
  rintro _ _ ⟨rfl, rfl⟩
  conv => whnf
  exact ⟨rfl, rfl⟩

theorem mint_no {T H : List D} {o k : Int} {n w : ByteArray} (tc : CallR cx 58 [.d (.agg [.sl 7 T, .sl 4 H]), .d (ky o n)] [] fun r S => r = i64 (-1) ∧ S = []) :
    CallR cx 32 [.d (.agg [.sl 7 T, .sl 4 H]), .d (.int .u32 o), st n, st w, u64 k] [] fun r S => r = .tup [.d (.agg [.sl 7 T, .sl 4 H]), i64 40] ∧ S = [] := by
  refine callR_of (R := R1) cx_ok Tryz.func32 (by kernel_rfl) rfl ?_
  conv => whnf
  refine ⟨_, tc, ?_⟩
  rintro _ _ ⟨rfl, rfl⟩
  conv => whnf
  exact ⟨rfl, rfl⟩

theorem mint_er {T H : List D} {o k : Int} {n w : ByteArray} {to a b c d e x : Int} {tn : ByteArray} {mi lo y : Int} {J : Int} (hJ : 0 ≤ J)
    (hJT : J < T.length) (hgd : T.getD J.toNat .nilP = .agg [.int .u32 to, .str tn, .int .u64 a, .int .u64 b, .int .u64 c, .int .u64 d, .int .u64 e])
    (tc : CallR cx 58 [.d (.agg [.sl 7 T, .sl 4 H]), .d (ky o n)] [] fun r S => r = i64 J ∧ S = [])
    (ou : CallR cx 59 [.d (.agg [.int .u32 to, .str tn, .int .u64 a, .int .u64 b, .int .u64 c, .int .u64 d, .int .u64 e])] [] fun r S => r = .tup [u64 mi, u64 lo] ∧ S = [])
    (ad : CallR cx 60 [u64 d, u64 k] [] fun r S => r = .tup [u64 x, i64 10] ∧ S = []) :
    CallR cx 32 [.d (.agg [.sl 7 T, .sl 4 H]), .d (.int .u32 o), st n, st w, u64 k] [] fun r S => r = .tup [.d (.agg [.sl 7 T, .sl 4 H]), i64 10] ∧ S = [] := by
  refine callR_of (R := R1) cx_ok Tryz.func32 (by kernel_rfl) rfl ?_
  conv => whnf
  refine ⟨_, tc, ?_⟩
  rintro _ _ ⟨rfl, rfl⟩
  conv => whnf
  refine brF (decide_eq_false (by omega)) ?_
  conv => whnf
  refine ⟨⟨by omega, by omega⟩, ?_⟩
  rw [hgd]
  conv => whnf
  refine ⟨_, ou, ?_⟩
  rintro _ _ ⟨rfl, rfl⟩
  conv => whnf
  refine ⟨_, ad, ?_⟩
  rintro _ _ ⟨rfl, rfl⟩
  conv => whnf
  exact ⟨rfl, rfl⟩

theorem mint_c1 {T H : List D} {o k : Int} {n w : ByteArray} {to a b c d e x : Int} {tn : ByteArray} {mi lo y : Int} {J : Int} (hJ : 0 ≤ J)
    (hJT : J < T.length) (hgd : T.getD J.toNat .nilP = .agg [.int .u32 to, .str tn, .int .u64 a, .int .u64 b, .int .u64 c, .int .u64 d, .int .u64 e])
    (tc : CallR cx 58 [.d (.agg [.sl 7 T, .sl 4 H]), .d (ky o n)] [] fun r S => r = i64 J ∧ S = [])
    (ou : CallR cx 59 [.d (.agg [.int .u32 to, .str tn, .int .u64 a, .int .u64 b, .int .u64 c, .int .u64 d, .int .u64 e])] [] fun r S => r = .tup [u64 mi, u64 lo] ∧ S = [])
    (ad : CallR cx 60 [u64 d, u64 k] [] fun r S => r = .tup [u64 x, i64 0] ∧ S = [])
    (ae : CallR cx 60 [u64 mi, u64 k] [] fun r S => r = .tup [u64 y, i64 10] ∧ S = []) :
    CallR cx 32 [.d (.agg [.sl 7 T, .sl 4 H]), .d (.int .u32 o), st n, st w, u64 k] [] fun r S => r = .tup [.d (.agg [.sl 7 T, .sl 4 H]), i64 12] ∧ S = [] := by
  refine callR_of (R := R1) cx_ok Tryz.func32 (by kernel_rfl) rfl ?_
  conv => whnf
  refine ⟨_, tc, ?_⟩
  rintro _ _ ⟨rfl, rfl⟩
  conv => whnf
  refine brF (decide_eq_false (by omega)) ?_
  conv => whnf
  refine ⟨⟨by omega, by omega⟩, ?_⟩
  rw [hgd]
  conv => whnf
  refine ⟨_, ou, ?_⟩
  rintro _ _ ⟨rfl, rfl⟩
  conv => whnf
  refine ⟨_, ad, ?_⟩
  rintro _ _ ⟨rfl, rfl⟩
  conv => whnf
  refine ⟨_, ae, ?_⟩
  rintro _ _ ⟨rfl, rfl⟩
  conv => whnf
  exact ⟨rfl, rfl⟩

theorem mint_c2 {T H : List D} {o k : Int} {n w : ByteArray} {to a b c d e x : Int} {tn : ByteArray} {mi lo y : Int} {J : Int} (hJ : 0 ≤ J)
    (hJT : J < T.length) (hgd : T.getD J.toNat .nilP = .agg [.int .u32 to, .str tn, .int .u64 a, .int .u64 b, .int .u64 c, .int .u64 d, .int .u64 e])
    (tc : CallR cx 58 [.d (.agg [.sl 7 T, .sl 4 H]), .d (ky o n)] [] fun r S => r = i64 J ∧ S = [])
    (ou : CallR cx 59 [.d (.agg [.int .u32 to, .str tn, .int .u64 a, .int .u64 b, .int .u64 c, .int .u64 d, .int .u64 e])] [] fun r S => r = .tup [u64 mi, u64 lo] ∧ S = [])
    (ad : CallR cx 60 [u64 d, u64 k] [] fun r S => r = .tup [u64 x, i64 0] ∧ S = [])
    (ae : CallR cx 60 [u64 mi, u64 k] [] fun r S => r = .tup [u64 y, i64 0] ∧ S = [])
    (hy : y > a) :
    CallR cx 32 [.d (.agg [.sl 7 T, .sl 4 H]), .d (.int .u32 o), st n, st w, u64 k] [] fun r S => r = .tup [.d (.agg [.sl 7 T, .sl 4 H]), i64 12] ∧ S = [] := by
  refine callR_of (R := R1) cx_ok Tryz.func32 (by kernel_rfl) rfl ?_
  conv => whnf
  refine ⟨_, tc, ?_⟩
  rintro _ _ ⟨rfl, rfl⟩
  conv => whnf
  refine brF (decide_eq_false (by omega)) ?_
  conv => whnf
  refine ⟨⟨by omega, by omega⟩, ?_⟩
  rw [hgd]
  conv => whnf
  refine ⟨_, ou, ?_⟩
  rintro _ _ ⟨rfl, rfl⟩
  conv => whnf
  refine ⟨_, ad, ?_⟩
  rintro _ _ ⟨rfl, rfl⟩
  conv => whnf
  refine ⟨_, ae, ?_⟩
  rintro _ _ ⟨rfl, rfl⟩
  conv => whnf
  refine brT (decide_eq_true hy) ?_
  conv => whnf
  exact ⟨rfl, rfl⟩

theorem mint_ge {T H T2 H2 : List D} {o k : Int} {n w : ByteArray} {to a b c d e x : Int} {tn : ByteArray} {mi lo y : Int} {J : Int} (hJ : 0 ≤ J) {e9 : Int} (he : e9 ≠ 0)
    (hJT : J < T.length) (hgd : T.getD J.toNat .nilP = .agg [.int .u32 to, .str tn, .int .u64 a, .int .u64 b, .int .u64 c, .int .u64 d, .int .u64 e])
    (tc : CallR cx 58 [.d (.agg [.sl 7 T, .sl 4 H]), .d (ky o n)] [] fun r S => r = i64 J ∧ S = [])
    (ou : CallR cx 59 [.d (.agg [.int .u32 to, .str tn, .int .u64 a, .int .u64 b, .int .u64 c, .int .u64 d, .int .u64 e])] [] fun r S => r = .tup [u64 mi, u64 lo] ∧ S = [])
    (ad : CallR cx 60 [u64 d, u64 k] [] fun r S => r = .tup [u64 x, i64 0] ∧ S = [])
    (ae : CallR cx 60 [u64 mi, u64 k] [] fun r S => r = .tup [u64 y, i64 0] ∧ S = [])
    (hy : ¬ y > a)
    (gr : CallR cx 61 [.d (.agg [.sl 7 T, .sl 4 H]), .d (.int .u32 o), st n, st w, u64 k] [] fun r S => r = .tup [.d (.agg [.sl 7 T2, .sl 4 H2]), i64 e9] ∧ S = []) :
    CallR cx 32 [.d (.agg [.sl 7 T, .sl 4 H]), .d (.int .u32 o), st n, st w, u64 k] [] fun r S => r = .tup [.d (.agg [.sl 7 T, .sl 4 H]), i64 e9] ∧ S = [] := by
  refine callR_of (R := R1) cx_ok Tryz.func32 (by kernel_rfl) rfl ?_
  conv => whnf
  refine ⟨_, tc, ?_⟩
  rintro _ _ ⟨rfl, rfl⟩
  conv => whnf
  refine brF (decide_eq_false (by omega)) ?_
  conv => whnf
  refine ⟨⟨by omega, by omega⟩, ?_⟩
  rw [hgd]
  conv => whnf
  refine ⟨_, ou, ?_⟩
  rintro _ _ ⟨rfl, rfl⟩
  conv => whnf
  refine ⟨_, ad, ?_⟩
  rintro _ _ ⟨rfl, rfl⟩
  conv => whnf
  refine ⟨_, ae, ?_⟩
  rintro _ _ ⟨rfl, rfl⟩
  conv => whnf
  refine brF (decide_eq_false hy) ?_
  conv => whnf
  refine ⟨_, gr, ?_⟩
  rintro _ _ ⟨rfl, rfl⟩
  conv => whnf
  refine brT (bne_iff_ne.2 he) ?_
  conv => whnf
  exact ⟨rfl, rfl⟩

theorem mint_ok {T H T2 H2 T3 H3 : List D} {o k : Int} {n w : ByteArray} {to a b c d e x : Int} {tn : ByteArray} {mi lo y : Int} {J : Int} (hJ : 0 ≤ J)
    (hJT : J < T.length) (hgd : T.getD J.toNat .nilP = .agg [.int .u32 to, .str tn, .int .u64 a, .int .u64 b, .int .u64 c, .int .u64 d, .int .u64 e])
    (tc : CallR cx 58 [.d (.agg [.sl 7 T, .sl 4 H]), .d (ky o n)] [] fun r S => r = i64 J ∧ S = [])
    (ou : CallR cx 59 [.d (.agg [.int .u32 to, .str tn, .int .u64 a, .int .u64 b, .int .u64 c, .int .u64 d, .int .u64 e])] [] fun r S => r = .tup [u64 mi, u64 lo] ∧ S = [])
    (ad : CallR cx 60 [u64 d, u64 k] [] fun r S => r = .tup [u64 x, i64 0] ∧ S = [])
    (ae : CallR cx 60 [u64 mi, u64 k] [] fun r S => r = .tup [u64 y, i64 0] ∧ S = [])
    (hy : ¬ y > a)
    (gr : CallR cx 61 [.d (.agg [.sl 7 T, .sl 4 H]), .d (.int .u32 o), st n, st w, u64 k] [] fun r S => r = .tup [.d (.agg [.sl 7 T2, .sl 4 H2]), i64 0] ∧ S = [])
    (wi : CallR cx 62 [.d (.agg [.sl 7 T2, .sl 4 H2]), i64 J, .d (.agg [.int .u32 to, .str tn, .int .u64 a, .int .u64 b, .int .u64 c, .int .u64 x, .int .u64 e])] [] fun r S => r = .d (.agg [.sl 7 T3, .sl 4 H3]) ∧ S = []) :
    CallR cx 32 [.d (.agg [.sl 7 T, .sl 4 H]), .d (.int .u32 o), st n, st w, u64 k] [] fun r S => r = .tup [.d (.agg [.sl 7 T3, .sl 4 H3]), i64 0] ∧ S = [] := by
  refine callR_of (R := R1) cx_ok Tryz.func32 (by kernel_rfl) rfl ?_
  conv => whnf
  refine ⟨_, tc, ?_⟩
  rintro _ _ ⟨rfl, rfl⟩
  conv => whnf
  refine brF (decide_eq_false (by omega)) ?_
  conv => whnf
  refine ⟨⟨by omega, by omega⟩, ?_⟩
  rw [hgd]
  conv => whnf
  refine ⟨_, ou, ?_⟩
  rintro _ _ ⟨rfl, rfl⟩
  conv => whnf
  refine ⟨_, ad, ?_⟩
  rintro _ _ ⟨rfl, rfl⟩
  conv => whnf
  refine ⟨_, ae, ?_⟩
  rintro _ _ ⟨rfl, rfl⟩
  conv => whnf
  refine brF (decide_eq_false hy) ?_
  conv => whnf
  refine ⟨_, gr, ?_⟩
  rintro _ _ ⟨rfl, rfl⟩
  conv => whnf
  refine ⟨_, wi, ?_⟩
  rintro _ _ ⟨rfl, rfl⟩
  conv => whnf
  exact ⟨rfl, rfl⟩

end Go.Proofs.YtmdfpifcghmpfaaGreatDoor

namespace Go.Proofs.YtmdfpifcghmpfaaGreatDoor
open Go.Ab Go.RowKit


theorem heldV_U {p : Pu} (hp : p.ok) (o : Int) (n w : ByteArray) : U (heldV p o n w) := by
  unfold heldV
  cases h : lookP (hdP o n w) p.holds with
  | none => unfold U; simp only; omega
  | some a => exact (hp.h a (lookP_mem h).1).1

def grantP (p : Pu) (o : Int) (n w : ByteArray) (k : Int) : Pu × Int := match lookP (tkP o n) p.toks with
  | none => (p, 40)
  | some _ => if rightT w = false then (p, 7) else if heldV p o n w + k < 18446744073709551616 then (⟨p.toks, putH p.holds o n w (heldV p o n w + k)⟩, 0) else (p, 10)
def outM (t : Tk) : Int := if t.minted < t.burned then 0 else t.minted - t.burned
def outL (t : Tk) : Int := if t.locked < t.unlocked then 0 else t.locked - t.unlocked
def unlockP (p : Pu) (o : Int) (n w : ByteArray) (k : Int) : Pu × Int := match lookP (tkP o n) p.toks with
  | none => (p, 40)
  | some t => if outL t < k then (p, 11) else if t.unlocked + k < 18446744073709551616 then
      if (grantP p o n w k).2 ≠ 0 then (p, (grantP p o n w k).2) else (⟨putP (tkP o n) p.toks { t with unlocked := t.unlocked + k }, (grantP p o n w k).1.holds⟩, 0)
    else (p, 10)
def mintP (p : Pu) (o : Int) (n w : ByteArray) (k : Int) : Pu × Int := match lookP (tkP o n) p.toks with
  | none => (p, 40)
  | some t => if t.minted + k < 18446744073709551616 then if outM t + k < 18446744073709551616 then if outM t + k > t.cap then (p, 12) else
      if (grantP p o n w k).2 ≠ 0 then (p, (grantP p o n w k).2) else (⟨putP (tkP o n) p.toks { t with minted := t.minted + k }, (grantP p o n w k).1.holds⟩, 0)
    else (p, 12) else (p, 10)

theorem grantP_toks (p : Pu) (o : Int) (n w : ByteArray) (k : Int) : (grantP p o n w k).1.toks = p.toks := by
  unfold grantP
  split
  · rfl
  split
  · rfl
  split <;> rfl

section
variable {p : Pu} {o k : Int} {n w : ByteArray} (hp : p.ok) (hn : n.size ≤ 1000) (hw : w.size ≤ 1000) (hk : U k)
include hp hn hw hk

theorem grant_cc : CallR cx 61 [.d p.d, .d (.int .u32 o), st n, st w, u64 k] [] fun r S => r = .tup [.d (grantP p o n w k).1.d, i64 (grantP p o n w k).2] ∧ S = [] := by
  have tc := token_c (o := o) (n := n) hp
  have hv := heldv_c (o := o) (n := n) (w := w) hp
  have hU := heldV_U hp o n w
  have ad := add_c hU hk
  have rn := right_c (s := w) (by omega)
  unfold grantP
  rcases ix_look (tkP o n) p.toks 0 with ⟨h1, h2⟩ | ⟨j, hj, h1, h2, _⟩
  · rw [h1] at tc
    rw [h2]
    exact grant_no tc
  · rw [h1, Nat.zero_add] at tc
    rw [h2]
    simp only
    cases hr : rightT w with
    | false =>
      rw [hr] at rn
      rw [if_pos rfl]
      exact grant_nm (J := (j : Int)) (by omega) tc rn
    | true =>
      rw [hr] at rn
      rw [if_neg (by decide)]
      by_cases c : heldV p o n w + k < 18446744073709551616
      · rw [if_pos c, if_pos c] at ad
        rw [if_pos c]
        exact grant_ok (J := (j : Int)) (by omega) tc rn hv ad (put_c hp hn hw (by unfold U at *; omega))
      · rw [if_neg c, if_neg c] at ad
        rw [if_neg c]
        exact grant_er (J := (j : Int)) (by omega) tc rn hv ad
end

theorem out_c {t : Tk} (ht : t.ok) : CallR cx 59 [.d t.d] [] fun r S => r = .tup [u64 (outM t), u64 (outL t)] ∧ S = [] := by
  have s1 := sub_c ht.2.2.2.1 ht.2.2.2.2.1
  have s2 := sub_c ht.2.1 ht.2.2.1
  obtain ⟨o, n, a, b, c, d, e⟩ := t
  unfold outM outL
  simp only at s1 s2 ⊢
  generalize (if d < e then (0 : Int) else d - e) = X at *
  generalize (if b < c then (0 : Int) else b - c) = Y at *
  generalize (if d < e then (11 : Int) else 0) = X1 at *
  generalize (if b < c then (11 : Int) else 0) = Y1 at *
  refine callR_of (R := R1) cx_ok Tryz.func59 (by kernel_rfl) rfl ?_
  conv => whnf
  refine ⟨_, s1, ?_⟩
  rintro _ _ ⟨rfl, rfl⟩
  conv => whnf
  refine ⟨_, s2, ?_⟩
  rintro _ _ ⟨rfl, rfl⟩
  conv => whnf
  exact ⟨rfl, rfl⟩

theorem outM_U {t : Tk} (ht : t.ok) : U (outM t) := by
  have h1 := ht.2.2.2.1
  have h2 := ht.2.2.2.2.1
  unfold outM
  unfold U at *
  split <;> omega
theorem putH_mem {l : List Hd} {o k : Int} {n w : ByteArray} {P : Hd → Prop} (h : ∀ x ∈ l, P x) (h1 : P ⟨o, n, w, k⟩) (h2 : ∀ x ∈ l, P { x with amount := k }) : ∀ x ∈ putH l o n w k, P x := by
  have put : ∀ (l : List Hd) (b : Hd), (∀ x ∈ l, P x) → P b → ∀ x ∈ putP (hdP o n w) l b, P x := by
    intro l b hl hb
    induction l with
    | nil => intro x hx; cases hx
    | cons a l ih =>
      intro x hx
      rw [putP] at hx
      split at hx
      · rcases List.mem_cons.1 hx with rfl | hx
        · exact hb
        · exact hl x (by simp [hx])
      · rcases List.mem_cons.1 hx with rfl | hx
        · exact hl _ (by simp)
        · exact ih (fun y hy => hl y (by simp [hy])) x hx
  have del : ∀ (l : List Hd), (∀ x ∈ l, P x) → ∀ x ∈ delP (hdP o n w) l, P x := by
    intro l hl
    induction l with
    | nil => intro x hx; cases hx
    | cons a l ih =>
      intro x hx
      rw [delP] at hx
      split at hx
      · exact hl x (by simp [hx])
      · rcases List.mem_cons.1 hx with rfl | hx
        · exact hl _ (by simp)
        · exact ih (fun y hy => hl y (by simp [hy])) x hx
  have ins : ∀ (l : List Hd) (b : Hd), (∀ x ∈ l, P x) → P b → ∀ x ∈ insP (hbP o n w) l b, P x := by
    intro l b hl hb
    induction l with
    | nil => intro x hx; rw [insP] at hx; obtain rfl := List.mem_singleton.1 hx; exact hb
    | cons a l ih =>
      intro x hx
      rw [insP] at hx
      split at hx
      · rcases List.mem_cons.1 hx with rfl | hx
        · exact hb
        · exact hl x hx
      · rcases List.mem_cons.1 hx with rfl | hx
        · exact hl _ (by simp)
        · exact ih (fun y hy => hl y (by simp [hy])) x hx
  unfold putH
  cases hx : lookP (hdP o n w) l with
  | some a =>
    simp only
    split
    · exact del l h
    · exact put l _ h (h2 a (lookP_mem hx).1)
  | none =>
    simp only
    split
    · exact ins l _ h h1
    · exact h
theorem putP_len {α : Type} (p : α → Bool) : ∀ (l : List α) (b : α), (putP p l b).length = l.length
  | [], _ => rfl
  | a :: l, b => by rw [putP]; split; rfl; rw [List.length_cons, putP_len p l b]; rfl
theorem delP_len {α : Type} (p : α → Bool) : ∀ (l : List α), (delP p l).length ≤ l.length
  | [] => Nat.le_refl _
  | a :: l => by
    rw [delP]
    split
    · simp
    · have := delP_len p l
      rw [List.length_cons, List.length_cons]; omega
theorem insP_len {α : Type} (p : α → Bool) : ∀ (l : List α) (b : α), (insP p l b).length = l.length + 1
  | [], _ => rfl
  | a :: l, b => by rw [insP]; split; rfl; rw [List.length_cons, insP_len p l b]; rfl
theorem putH_len (l : List Hd) (o : Int) (n w : ByteArray) (k : Int) : (putH l o n w k).length ≤ l.length + 1 := by
  unfold putH
  split
  · split
    · exact Nat.le_succ_of_le (delP_len _ _)
    · rw [putP_len]; omega
  · split
    · rw [insP_len]; exact Nat.le_refl _
    · omega
theorem putP_mem {α : Type} {p : α → Bool} {P : α → Prop} : ∀ {l : List α} {b : α}, (∀ x ∈ l, P x) → P b → ∀ x ∈ putP p l b, P x
  | [], _, _, _, _, ha => by cases ha
  | c :: l, b, h, hb, a, ha => by
    rw [putP] at ha
    split at ha
    · rcases List.mem_cons.1 ha with rfl | ha
      · exact hb
      · exact h a (by simp [ha])
    · rcases List.mem_cons.1 ha with rfl | ha
      · exact h _ (by simp)
      · exact putP_mem (fun x hx => h x (by simp [hx])) hb a ha
end Go.Proofs.YtmdfpifcghmpfaaGreatDoor

namespace Go.Proofs.YtmdfpifcghmpfaaGreatDoor
open Go.Ab Go.RowKit

/-- A purse that is not too great. -/
structure Pu.fine (p : Pu) (N : Nat) : Prop where
  t : ∀ t ∈ p.toks, t.ok
  h : ∀ h ∈ p.holds, h.ok
  nt : p.toks.length ≤ N
  nh : p.holds.length ≤ N
theorem Pu.fine.ok {p : Pu} {N : Nat} (h : p.fine N) (hN : N ≤ 100000) : p.ok := ⟨h.t, h.h, Nat.le_trans h.nt hN, Nat.le_trans h.nh hN⟩
theorem Pu.fine.mono {p : Pu} {N N' : Nat} (h : p.fine N) (hN : N ≤ N') : p.fine N' := ⟨h.t, h.h, Nat.le_trans h.nt hN, Nat.le_trans h.nh hN⟩

section
variable {p : Pu} {N : Nat} {o k : Int} {n w : ByteArray} (hp : p.fine N)
include hp

theorem put_fine (hn : n.size ≤ 1000) (hw : w.size ≤ 1000) (hk : U k) : Pu.fine ⟨p.toks, putH p.holds o n w k⟩ (N + 1) :=
  ⟨hp.t, putH_mem hp.h ⟨hk, hn, hw⟩ (fun x hx => ⟨hk, (hp.h x hx).2⟩), Nat.le_trans hp.nt (by omega), Nat.le_trans (putH_len _ _ _ _ _) (by have := hp.nh; omega)⟩
theorem grantP_fine (hN : N ≤ 100000) (hn : n.size ≤ 1000) (hw : w.size ≤ 1000) (hk : U k) : (grantP p o n w k).1.fine (N + 1) := by
  have hU := heldV_U (hp.ok hN) o n w
  unfold grantP
  split
  · exact hp.mono (by omega)
  split
  · exact hp.mono (by omega)
  split
  · exact put_fine hp hn hw (by unfold U at *; omega)
  · exact hp.mono (by omega)
theorem set_fine {hs : List Hd} {t : Tk} (ht : t.ok) (hq : Pu.fine ⟨p.toks, hs⟩ (N + 1)) : Pu.fine ⟨putP (tkP o n) p.toks t, hs⟩ (N + 1) :=
  ⟨putP_mem hp.t ht, hq.h, by rw [putP_len]; exact hq.nt, hq.nh⟩
end

section
variable {p : Pu} {N : Nat} {o k : Int} {n w : ByteArray} (hp : p.fine N) (hN : N ≤ 99999) (hn : n.size ≤ 1000) (hw : w.size ≤ 1000) (hk : U k)
include hp hN hn hw hk

theorem unlock_cc : CallR cx 31 [.d p.d, .d (.int .u32 o), st n, st w, u64 k] [] fun r S => r = .tup [.d (unlockP p o n w k).1.d, i64 (unlockP p o n w k).2] ∧ S = [] := by
  have hpo := hp.ok (by omega)
  have gr := grant_cc (o := o) (n := n) (w := w) (k := k) hpo hn hw hk
  have tc := token_c (o := o) (n := n) hpo
  have hq := grantP_fine (o := o) (n := n) (w := w) (k := k) hp (by omega) hn hw hk
  have hqt := grantP_toks p o n w k
  have hix := ix_look (tkP o n) p.toks 0
  unfold unlockP
  generalize grantP p o n w k = Q at *
  obtain ⟨⟨qt, qh⟩, e⟩ := Q
  simp only at gr hq hqt ⊢
  subst hqt
  rcases hix with ⟨h1, h2⟩ | ⟨j, hj, h1, h2, h3, h4, h5⟩
  · rw [h1] at tc
    rw [h2]
    exact unlock_no tc
  · rw [h1, Nat.zero_add] at tc
    rw [h2]
    simp only
    have hgd := tks_getD hj
    have ht := hp.t _ (List.getElem_mem hj)
    have wi := fun t => pwith_c (p := ⟨p.toks, qh⟩) (i := j) (t := t) (hq.ok (by omega)) hj
    simp only [h4] at wi
    generalize p.toks[j]'hj = a at *
    have ad := add_c ht.2.2.1 hk
    have ou := out_c ht
    by_cases c0 : outL a < k
    · rw [if_pos c0]
      exact unlock_un (x := 0) (J := (j : Int)) (by omega) (by rw [List.length_map]; omega) hgd tc ou c0
    · rw [if_neg c0]
      by_cases c : a.unlocked + k < 18446744073709551616
      · rw [if_pos c, if_pos c] at ad
        rw [if_pos c]
        by_cases he : e = 0
        · subst he
          rw [if_neg (by simp)]
          exact unlock_ok (J := (j : Int)) (by omega) (by rw [List.length_map]; omega) hgd tc ou c0 ad gr (wi { a with unlocked := a.unlocked + k })
        · rw [if_pos he]
          exact unlock_ge (J := (j : Int)) (by omega) he (by rw [List.length_map]; omega) hgd tc ou c0 ad gr
      · rw [if_neg c, if_neg c] at ad
        rw [if_neg c]
        exact unlock_er (J := (j : Int)) (by omega) (by rw [List.length_map]; omega) hgd tc ou c0 ad

theorem mint_cc : CallR cx 32 [.d p.d, .d (.int .u32 o), st n, st w, u64 k] [] fun r S => r = .tup [.d (mintP p o n w k).1.d, i64 (mintP p o n w k).2] ∧ S = [] := by
  have hpo := hp.ok (by omega)
  have gr := grant_cc (o := o) (n := n) (w := w) (k := k) hpo hn hw hk
  have tc := token_c (o := o) (n := n) hpo
  have hq := grantP_fine (o := o) (n := n) (w := w) (k := k) hp (by omega) hn hw hk
  have hqt := grantP_toks p o n w k
  have hix := ix_look (tkP o n) p.toks 0
  unfold mintP
  generalize grantP p o n w k = Q at *
  obtain ⟨⟨qt, qh⟩, e⟩ := Q
  simp only at gr hq hqt ⊢
  subst hqt
  rcases hix with ⟨h1, h2⟩ | ⟨j, hj, h1, h2, h3, h4, h5⟩
  · rw [h1] at tc
    rw [h2]
    exact mint_no tc
  · rw [h1, Nat.zero_add] at tc
    rw [h2]
    simp only
    have hgd := tks_getD hj
    have ht := hp.t _ (List.getElem_mem hj)
    have wi := fun t => pwith_c (p := ⟨p.toks, qh⟩) (i := j) (t := t) (hq.ok (by omega)) hj
    simp only [h4] at wi
    generalize p.toks[j]'hj = a at *
    have ad := add_c ht.2.2.2.1 hk
    have ae := add_c (outM_U ht) hk
    have ou := out_c ht
    by_cases c : a.minted + k < 18446744073709551616
    · rw [if_pos c, if_pos c] at ad
      rw [if_pos c]
      by_cases c1 : outM a + k < 18446744073709551616
      · rw [if_pos c1, if_pos c1] at ae
        rw [if_pos c1]
        by_cases c2 : outM a + k > a.cap
        · rw [if_pos c2]
          exact mint_c2 (J := (j : Int)) (by omega) (by rw [List.length_map]; omega) hgd tc ou ad ae c2
        · rw [if_neg c2]
          by_cases he : e = 0
          · subst he
            rw [if_neg (by simp)]
            exact mint_ok (J := (j : Int)) (by omega) (by rw [List.length_map]; omega) hgd tc ou ad ae c2 gr (wi { a with minted := a.minted + k })
          · rw [if_pos he]
            exact mint_ge (J := (j : Int)) (by omega) he (by rw [List.length_map]; omega) hgd tc ou ad ae c2 gr
      · rw [if_neg c1, if_neg c1] at ae
        rw [if_neg c1]
        exact mint_c1 (J := (j : Int)) (by omega) (by rw [List.length_map]; omega) hgd tc ou ad ae
    · rw [if_neg c, if_neg c] at ad
      rw [if_neg c]
      exact mint_er (y := 0) (J := (j : Int)) (by omega) (by rw [List.length_map]; omega) hgd tc ou ad
end
end Go.Proofs.YtmdfpifcghmpfaaGreatDoor

/- Purses: may it be; small ones; the same ones. -/
set_option linter.unusedVariables false
namespace Go.Proofs.YtmdfpifcghmpfaaGreatDoor
open Go.Ab Go.RowKit

def ltH (g h : Hd) : Bool := bef g.org g.token h.org h.token || (same2 g.org g.token h.org h.token && decide (ordN g.owner h.owner < 0))
end Go.Proofs.YtmdfpifcghmpfaaGreatDoor

/- Purses: small ones; the same ones; the chapter's example. -/
set_option linter.unusedVariables false
namespace Go.Proofs.YtmdfpifcghmpfaaGreatDoor
open Go.Ab Go.RowKit

def pfewP (p : Pu) : Prop := p.toks.length ≤ 60 ∧ p.holds.length ≤ 100 ∧ (∀ t ∈ p.toks, t.name.size ≤ 200) ∧ ∀ h ∈ p.holds, h.token.size ≤ 200 ∧ h.owner.size ≤ 200

theorem pfew_c {p : Pu} : CallR cx 5 [.d p.d] [] fun r S => ∃ b, r = bo b ∧ (b = true → pfewP p) ∧ S = [] := by
  obtain ⟨ts, hs⟩ := p
  unfold pfewP
  simp only
  have hlt' : (tks ts).length = ts.length := List.length_map _
  have hlh' : (hds hs).length = hs.length := List.length_map _
  refine callR_of (R := R1) cx_ok Tryz.func5 (by kernel_rfl) rfl ?_
  conv => whnf
  by_cases k1 : ((tks ts).length : Int) > 60
  · refine brT (decide_eq_true k1) ?_
    conv => whnf
    exact ⟨false, rfl, by simp, rfl⟩
  refine brF (decide_eq_false k1) ?_
  conv => whnf
  by_cases k2 : ((hds hs).length : Int) > 100
  · refine brT (decide_eq_true k2) ?_
    conv => whnf
    exact ⟨false, rfl, by simp, rfl⟩
  refine brF (decide_eq_false k2) ?_
  conv => whnf
  rw [hlt'] at k1
  rw [hlh'] at k2
  refine .inl ⟨fun m L S => ∃ (j : Nat), (∀ t ∈ ts.take j, t.name.size ≤ 200) ∧ j ≤ ts.length ∧ m = ts.length - j ∧
      L = [(1, .ptr 0 []), (18, .d (.sl 7 (tks ts))), (19, i64 (((tks ts).length : Nat) : Int)), (20, i64 (j : Int))] ∧ S = [.var (.d (Pu.d ⟨ts, hs⟩))],
    ⟨_, _, ⟨0, by simp, Nat.zero_le _, rfl, rfl, rfl⟩, ⟨rfl, rfl, rfl, rfl, trivial⟩⟩, ?_⟩
  rintro _ _ _ ⟨j, h1, hj, rfl, rfl, rfl⟩
  conv => whnf
  refine brec (fun h4 => ?_) (fun h4 => ?_)
  · have h4 := of_decide_eq_true h4
    rw [hlt'] at h4
    have hlt : j < ts.length := by omega
    conv => whnf
    refine ⟨⟨by omega, by rw [hlt']; omega⟩, ?_⟩
    rw [tks_getD hlt]
    have ht : ts.take (j + 1) = ts.take j ++ [ts[j]'hlt] := by rw [List.take_add_one, List.getElem?_eq_getElem hlt]; rfl
    generalize ts[j]'hlt = a at *
    have e3 : IntKind.i64.wrap ((j : Int) + 1) = ((j + 1 : Nat) : Int) := by rw [w64 (by omega)]; omega
    obtain ⟨to, nm, ta, tb, tc, td, te⟩ := a
    conv => whnf
    by_cases c : (nm.size : Int) > 200
    · refine brT (decide_eq_true c) ?_
      conv => whnf
      exact ⟨false, rfl, by simp, rfl⟩
    · refine brF (decide_eq_false c) ?_
      conv => whnf
      refine ⟨_, _, 1, (by omega : ts.length - (j + 1) < ts.length - j), ⟨j + 1, ?_, by omega, rfl, rfl, rfl⟩, ⟨rfl, rfl, rfl, congrArg (fun z => some (i64 z)) e3, trivial⟩, rfl⟩
      rw [ht]
      intro x hx
      rcases List.mem_append.1 hx with hx | hx
      · exact h1 x hx
      · obtain rfl := List.mem_singleton.1 hx
        show nm.size ≤ 200
        omega
  · have h4 := of_decide_eq_false h4
    rw [hlt'] at h4
    obtain rfl : j = ts.length := by omega
    rw [List.take_length] at h1
    conv => whnf
    refine .inl ⟨fun m L S => ∃ (j : Nat), (∀ h ∈ hs.take j, h.token.size ≤ 200 ∧ h.owner.size ≤ 200) ∧ j ≤ hs.length ∧ m = hs.length - j ∧
        L = [(30, .d (.sl 4 (hds hs))), (31, i64 (((hds hs).length : Nat) : Int)), (32, i64 (j : Int))] ∧ S = [.var (.d (Pu.d ⟨ts, hs⟩))],
      ⟨_, _, ⟨0, by simp, Nat.zero_le _, rfl, rfl, rfl⟩, ⟨rfl, rfl, rfl, trivial⟩⟩, ?_⟩
    rintro _ _ _ ⟨j, h2, hj, rfl, rfl, rfl⟩
    conv => whnf
    refine brec (fun h5 => ?_) (fun h5 => ?_)
    · have h5 := of_decide_eq_true h5
      rw [hlh'] at h5
      have hlt : j < hs.length := by omega
      conv => whnf
      refine ⟨⟨by omega, by rw [hlh']; omega⟩, ?_⟩
      rw [hds_getD hlt]
      have ht : hs.take (j + 1) = hs.take j ++ [hs[j]'hlt] := by rw [List.take_add_one, List.getElem?_eq_getElem hlt]; rfl
      generalize hs[j]'hlt = a at *
      have e3 : IntKind.i64.wrap ((j : Int) + 1) = ((j + 1 : Nat) : Int) := by rw [w64 (by omega)]; omega
      obtain ⟨to, nm, ow, am⟩ := a
      conv => whnf
      by_cases c : (nm.size : Int) > 200
      · refine brT (decide_eq_true c) ?_
        conv => whnf
        exact ⟨false, rfl, by simp, rfl⟩
      refine brF (decide_eq_false c) ?_
      conv => whnf
      by_cases c2 : (ow.size : Int) > 200
      · refine brT (decide_eq_true c2) ?_
        conv => whnf
        exact ⟨false, rfl, by simp, rfl⟩
      · refine brF (decide_eq_false c2) ?_
        conv => whnf
        refine ⟨_, _, 1, (by omega : hs.length - (j + 1) < hs.length - j), ⟨j + 1, ?_, by omega, rfl, rfl, rfl⟩, ⟨rfl, rfl, congrArg (fun z => some (i64 z)) e3, trivial⟩, rfl⟩
        rw [ht]
        intro x hx
        rcases List.mem_append.1 hx with hx | hx
        · exact h2 x hx
        · obtain rfl := List.mem_singleton.1 hx
          show nm.size ≤ 200 ∧ ow.size ≤ 200
          omega
    · have h5 := of_decide_eq_false h5
      rw [hlh'] at h5
      obtain rfl : j = hs.length := by omega
      rw [List.take_length] at h2
      conv => whnf
      exact ⟨true, rfl, fun _ => ⟨by omega, by omega, h1, h2⟩, rfl⟩

theorem sideT {t : Tk} : ∃ T : Ty, T.fitE cx.tt 52 = true ∧ Nat.blt T.depth 9999 = true ∧ T.is t.d ∧ T.is t.d :=
  have q : (Ty.st [.int .u32, .str, .int .u64, .int .u64, .int .u64, .int .u64, .int .u64]).is t.d := ⟨_, rfl, _, _, rfl, ⟨_, rfl⟩, _, _, rfl, ⟨_, rfl⟩, _, _, rfl, ⟨_, rfl⟩, _, _, rfl, ⟨_, rfl⟩, _, _, rfl, ⟨_, rfl⟩, _, _, rfl, ⟨_, rfl⟩, _, _, rfl, ⟨_, rfl⟩, rfl⟩
  ⟨.st [.int .u32, .str, .int .u64, .int .u64, .int .u64, .int .u64, .int .u64], by kernel_rfl, by kernel_rfl, q, q⟩
theorem sideH {t : Hd} : ∃ T : Ty, T.fitE cx.tt 54 = true ∧ Nat.blt T.depth 9999 = true ∧ T.is t.d ∧ T.is t.d :=
  have q : (Ty.st [.int .u32, .str, .str, .int .u64]).is t.d := ⟨_, rfl, _, _, rfl, ⟨_, rfl⟩, _, _, rfl, ⟨_, rfl⟩, _, _, rfl, ⟨_, rfl⟩, _, _, rfl, ⟨_, rfl⟩, rfl⟩
  ⟨.st [.int .u32, .str, .str, .int .u64], by kernel_rfl, by kernel_rfl, q, q⟩

theorem psame_c {p : Pu} (hp : p.ok) : CallR cx 10 [.d p.d, .d p.d] [] fun r S => r = bo true ∧ S = [] := by
  have hT := hp.nt
  have hH := hp.nh
  obtain ⟨ts, hs⟩ := p
  simp only at hT hH
  have hlt' : (tks ts).length = ts.length := List.length_map _
  have hlh' : (hds hs).length = hs.length := List.length_map _
  refine callR_of (R := R1) cx_ok Tryz.func10 (by kernel_rfl) rfl ?_
  conv => whnf
  refine brF (bne_self_eq_false _) ?_
  conv => whnf
  refine brF (bne_self_eq_false _) ?_
  conv => whnf
  refine .inl ⟨fun m L S => ∃ (j : Nat), j ≤ ts.length ∧ m = ts.length - j ∧
      L = [(2, .ptr 0 []), (3, .ptr 1 []), (25, i64 (((tks ts).length : Nat) : Int)), (26, i64 (j : Int))] ∧ S = [.var (.d (Pu.d ⟨ts, hs⟩)), .var (.d (Pu.d ⟨ts, hs⟩))],
    ⟨_, _, ⟨0, Nat.zero_le _, rfl, rfl, rfl⟩, ⟨rfl, rfl, rfl, rfl, trivial⟩⟩, ?_⟩
  rintro _ _ _ ⟨j, hj, rfl, rfl, rfl⟩
  conv => whnf
  refine brec (fun h4 => ?_) (fun h4 => ?_)
  · have h4 := of_decide_eq_true h4
    rw [hlt'] at h4
    have hlt : j < ts.length := by omega
    have hgd := tks_getD hlt
    generalize ts[j]'hlt = a at *
    have e3 : IntKind.i64.wrap ((j : Int) + 1) = ((j + 1 : Nat) : Int) := by rw [w64 (by omega)]; omega
    conv => whnf
    refine ⟨by kernel_rfl, ?_⟩
    conv => whnf
    refine ⟨⟨by omega, by rw [hlt']; omega⟩, ?_⟩
    rw [hgd]
    conv => whnf
    refine ⟨⟨by omega, by rw [hlt']; omega⟩, ?_⟩
    rw [hgd]
    conv => whnf
    refine ⟨sideT, ?_⟩
    rw [deq_self]
    conv => whnf
    refine ⟨by kernel_rfl, ?_⟩
    conv => whnf
    exact ⟨_, _, 2, (by omega : ts.length - (j + 1) < ts.length - j), ⟨j + 1, by omega, rfl, rfl, rfl⟩, ⟨rfl, rfl, rfl, congrArg (fun z => some (i64 z)) e3, trivial⟩, rfl⟩
  · conv => whnf
    refine .inl ⟨fun m L S => ∃ (j : Nat), j ≤ hs.length ∧ m = hs.length - j ∧
        L = [(2, .ptr 0 []), (3, .ptr 1 []), (43, i64 (((hds hs).length : Nat) : Int)), (44, i64 (j : Int))] ∧ S = [.var (.d (Pu.d ⟨ts, hs⟩)), .var (.d (Pu.d ⟨ts, hs⟩))],
      ⟨_, _, ⟨0, Nat.zero_le _, rfl, rfl, rfl⟩, ⟨rfl, rfl, rfl, rfl, trivial⟩⟩, ?_⟩
    rintro _ _ _ ⟨j, hj, rfl, rfl, rfl⟩
    conv => whnf
    refine brec (fun h4 => ?_) (fun h4 => ?_)
    · have h4 := of_decide_eq_true h4
      rw [hlh'] at h4
      have hlt : j < hs.length := by omega
      have hgd := hds_getD hlt
      generalize hs[j]'hlt = a at *
      have e3 : IntKind.i64.wrap ((j : Int) + 1) = ((j + 1 : Nat) : Int) := by rw [w64 (by omega)]; omega
      conv => whnf
      refine ⟨by kernel_rfl, ?_⟩
      conv => whnf
      refine ⟨⟨by omega, by rw [hlh']; omega⟩, ?_⟩
      rw [hgd]
      conv => whnf
      refine ⟨⟨by omega, by rw [hlh']; omega⟩, ?_⟩
      rw [hgd]
      conv => whnf
      refine ⟨sideH, ?_⟩
      rw [deq_self]
      conv => whnf
      refine ⟨by kernel_rfl, ?_⟩
      conv => whnf
      exact ⟨_, _, 2, (by omega : hs.length - (j + 1) < hs.length - j), ⟨j + 1, by omega, rfl, rfl, rfl⟩, ⟨rfl, rfl, rfl, congrArg (fun z => some (i64 z)) e3, trivial⟩, rfl⟩
    · conv => whnf
      exact ⟨rfl, rfl⟩

end Go.Proofs.YtmdfpifcghmpfaaGreatDoor

/- Purses: what is locked is unlocked again, what is minted burned. No program in sight. Purses: the law PurseBack. -/
set_option linter.unusedVariables false
namespace Go.Proofs.YtmdfpifcghmpfaaGreatDoor
open Go.Ab Go.RowKit

/-- One behind the other. -/
def srtH : Option Hd → List Hd → Prop
  | _, [] => True
  | none, a :: l => srtH (some a) l
  | some p, a :: l => ltH p a = true ∧ srtH (some a) l
structure Pu.right (p : Pu) : Prop where
  t : ∀ t ∈ p.toks, t.burned ≤ t.minted ∧ t.unlocked ≤ t.locked
  h : ∀ h ∈ p.holds, h.amount ≠ 0
  s : srtH none p.holds
theorem tkP_iff {o : Int} {n : ByteArray} {t : Tk} : tkP o n t = true ↔ t.org = o ∧ t.name = n := by
  unfold tkP same2
  simp only [Bool.and_eq_true, decide_eq_true_eq]

end Go.Proofs.YtmdfpifcghmpfaaGreatDoor

set_option linter.unusedVariables false
namespace Go.Proofs.YtmdfpifcghmpfaaGreatDoor
open Go.Ab Go.RowKit

theorem mintP_fine {p : Pu} {N : Nat} {o k : Int} {n w : ByteArray} (hp : p.fine N) (hN : N ≤ 100000) (hn : n.size ≤ 1000) (hw : w.size ≤ 1000) (hk : U k) : (mintP p o n w k).1.fine (N + 1) := by
  have ht := grantP_fine (o := o) (n := n) (w := w) (k := k) hp hN hn hw hk
  have hq := grantP_toks p o n w k
  unfold mintP
  split
  · exact hp.mono (by omega)
  rename_i t h
  split
  · split
    · split
      · exact hp.mono (by omega)
      split
      · exact hp.mono (by omega)
      · obtain ⟨a1, a2, a3, a4, a5, a6⟩ := hp.t t (lookP_mem h).1
        refine set_fine hp ⟨a1, a2, a3, ?_, a5, a6⟩ ?_
        · unfold U at *; simp only; omega
        · rw [← hq]; exact ht
    · exact hp.mono (by omega)
  · exact hp.mono (by omega)
theorem unlockP_fine {p : Pu} {N : Nat} {o k : Int} {n w : ByteArray} (hp : p.fine N) (hN : N ≤ 100000) (hn : n.size ≤ 1000) (hw : w.size ≤ 1000) (hk : U k) : (unlockP p o n w k).1.fine (N + 1) := by
  have ht := grantP_fine (o := o) (n := n) (w := w) (k := k) hp hN hn hw hk
  have hq := grantP_toks p o n w k
  unfold unlockP
  split
  · exact hp.mono (by omega)
  rename_i t h
  split
  · exact hp.mono (by omega)
  split
  · split
    · exact hp.mono (by omega)
    · obtain ⟨a1, a2, a3, a4, a5, a6⟩ := hp.t t (lookP_mem h).1
      refine set_fine hp ⟨a1, a2, ?_, a4, a5, a6⟩ ?_
      · unfold U at *; simp only; omega
      · rw [← hq]; exact ht
  · exact hp.mono (by omega)

/-- What comes in of a purse. -/
structure Pu.fits (p : Pu) : Prop where
  t : ∀ t ∈ p.toks, U t.cap ∧ U t.locked ∧ U t.unlocked ∧ U t.minted ∧ U t.burned
  h : ∀ h ∈ p.holds, U h.amount
theorem fine_of {p : Pu} (h : p.fits) (hf : pfewP p) : p.fine 100 := by
  obtain ⟨f1, f2, f3, f4⟩ := hf
  exact ⟨fun t ht => let ⟨a, b, c, d, e⟩ := h.t t ht; ⟨a, b, c, d, e, by have := f3 t ht; omega⟩, fun x hx => ⟨h.h x hx, by have := f4 x hx; omega, by have := f4 x hx; omega⟩, by omega, f2⟩

abbrev tyTk : Ty := .st [.int .u32, .str, .int .u64, .int .u64, .int .u64, .int .u64, .int .u64]
abbrev tyHd : Ty := .st [.int .u32, .str, .str, .int .u64]
abbrev tyPu : Ty := .st [.sl 7 tyTk, .sl 4 tyHd]
theorem toks_of : ∀ {ys : List D}, (∀ y ∈ ys, tyTk.has y) → ∃ l : List Tk, ys = tks l ∧ ∀ t ∈ l, U t.cap ∧ U t.locked ∧ U t.unlocked ∧ U t.minted ∧ U t.burned
  | [], _ => ⟨[], rfl, by simp⟩
  | y :: ys, h => by
    obtain ⟨l, rfl, h2⟩ := toks_of fun z hz => h z (List.mem_cons_of_mem _ hz)
    obtain ⟨_, rfl, _, _, rfl, ⟨o, rfl, _⟩, _, _, rfl, ⟨n, rfl, _⟩, _, _, rfl, ⟨a, rfl, wa⟩, _, _, rfl, ⟨b, rfl, wb⟩, _, _, rfl, ⟨c, rfl, wc⟩, _, _, rfl, ⟨d, rfl, wd⟩, _, _, rfl, ⟨e, rfl, we⟩, rfl⟩ := h y (by simp)
    refine ⟨⟨o, n, a, b, c, d, e⟩ :: l, rfl, fun x hx => ?_⟩
    rcases List.mem_cons.1 hx with rfl | hx
    · exact ⟨U.of_wf wa, U.of_wf wb, U.of_wf wc, U.of_wf wd, U.of_wf we⟩
    · exact h2 x hx
theorem holds_of : ∀ {ys : List D}, (∀ y ∈ ys, tyHd.has y) → ∃ l : List Hd, ys = hds l ∧ ∀ h ∈ l, U h.amount
  | [], _ => ⟨[], rfl, by simp⟩
  | y :: ys, h => by
    obtain ⟨l, rfl, h2⟩ := holds_of fun z hz => h z (List.mem_cons_of_mem _ hz)
    obtain ⟨_, rfl, _, _, rfl, ⟨o, rfl, _⟩, _, _, rfl, ⟨n, rfl, _⟩, _, _, rfl, ⟨a, rfl, _⟩, _, _, rfl, ⟨b, rfl, wb⟩, rfl⟩ := h y (by simp)
    refine ⟨⟨o, n, a, b⟩ :: l, rfl, fun x hx => ?_⟩
    rcases List.mem_cons.1 hx with rfl | hx
    · exact U.of_wf wb
    · exact h2 x hx
theorem pu_of {x : D} (h : tyPu.has x) : ∃ p : Pu, x = p.d ∧ p.fits := by
  obtain ⟨_, rfl, _, _, rfl, ⟨ts, rfl, _, h4⟩, _, _, rfl, ⟨hs, rfl, _, h5⟩, rfl⟩ := h
  obtain ⟨l, rfl, h6⟩ := toks_of h4
  obtain ⟨m, rfl, h7⟩ := holds_of h5
  exact ⟨⟨l, m⟩, rfl, ⟨h6, h7⟩⟩
end Go.Proofs.YtmdfpifcghmpfaaGreatDoor

/- Purses, the model's: which is first; a token known; who holds how much; a token set. Purses, the model's: somebody holds so much; a token more. Purses, the model's: a token more; sums less one another. -/
set_option linter.unusedVariables false
namespace Go.Proofs.YtmdfpifcghmpfaaGreatDoor
open Go.Ab Go.RowKit

def ordP (o : Int) (n : ByteArray) (o' : Int) (n' : ByteArray) : Int := if o < o' then -1 else if o > o' then 1 else ordN n n'
theorem ordP_lt {o o' : Int} {n n' : ByteArray} : decide (ordP o n o' n' < 0) = bef o n o' n' := by
  unfold ordP bef
  by_cases h1 : o < o'
  · rw [if_pos h1, decide_eq_true h1]; rfl
  · rw [if_neg h1, decide_eq_false h1]
    by_cases h2 : o > o'
    · rw [if_pos h2, decide_eq_false (by omega : ¬ o = o')]; rfl
    · rw [if_neg h2, decide_eq_true (by omega : o = o')]; simp
theorem ordP_eq {o o' : Int} {n n' : ByteArray} : decide (ordP o n o' n' = 0) = same2 o n o' n' := by
  unfold ordP same2
  have hz : ordN n n' = 0 ↔ n = n' := (ordL_zero _ _).trans keysAt_inj
  by_cases h1 : o < o'
  · rw [if_pos h1, decide_eq_false (by omega : ¬ o = o')]; rfl
  · rw [if_neg h1]
    by_cases h2 : o > o'
    · rw [if_pos h2, decide_eq_false (by omega : ¬ o = o')]; rfl
    · rw [if_neg h2, decide_eq_true (by omega : o = o'), Bool.true_and]
      exact decide_eq_decide.2 hz

theorem porder_c {o o' : Int} {n n' : ByteArray} (h1 : n.size ≤ 1000) (h2 : n'.size ≤ 1000) : CallR cx 46 [.d (.int .u32 o), st n, .d (.int .u32 o'), st n'] [] fun r S => r = i64 (ordP o n o' n') ∧ S = [] := by
  have oc := rorder_c (a := n) (b := n') (by omega) (by omega)
  unfold ordP ordN
  generalize ordL (keysAt n 0) (keysAt n' 0) = O at *
  refine callR_of (R := R1) cx_ok Tryz.func46 (by kernel_rfl) rfl ?_
  conv => whnf
  by_cases c1 : o < o'
  · rw [if_pos c1]
    refine brT (decide_eq_true c1) ?_
    conv => whnf
    exact ⟨rfl, rfl⟩
  rw [if_neg c1]
  refine brF (decide_eq_false c1) ?_
  conv => whnf
  by_cases c2 : o > o'
  · rw [if_pos c2]
    refine brT (decide_eq_true c2) ?_
    conv => whnf
    exact ⟨rfl, rfl⟩
  · rw [if_neg c2]
    refine brF (decide_eq_false c2) ?_
    conv => whnf
    refine ⟨_, oc, ?_⟩
    rintro _ _ ⟨rfl, rfl⟩
    conv => whnf
    exact ⟨rfl, rfl⟩

theorem rknown_c {p : Pu} {o : Int} {n : ByteArray} (hp : p.ok) : CallR cx 23 [.d p.d, .d (.int .u32 o), st n] [] fun r S => r = .tup [.d (knownP p o n).1.d, bo (knownP p o n).2] ∧ S = [] := by
  have hT := hp.nt
  obtain ⟨ts, hs⟩ := p
  simp only at hT
  have hlt' : (tks ts).length = ts.length := List.length_map _
  unfold knownP
  simp only
  refine callR_of (R := R1) cx_ok Tryz.func23 (by kernel_rfl) rfl ?_
  conv => whnf
  refine .inl ⟨fun m L S => ∃ (j : Nat), lookP (tkP o n) (ts.drop j) = lookP (tkP o n) ts ∧ j ≤ ts.length ∧ m = ts.length - j ∧
      L = [(1, .d (.int .u32 o)), (2, st n), (6, .ptr 1 []), (11, .d (.sl 7 (tks ts))), (12, i64 (((tks ts).length : Nat) : Int)), (13, i64 (j : Int))] ∧ S = [.var (.d (Pu.d ⟨ts, hs⟩)), .var (.d tk0.d)],
    ⟨_, _, ⟨0, rfl, Nat.zero_le _, rfl, rfl, rfl⟩, ⟨rfl, rfl, rfl, rfl, rfl, rfl, trivial⟩⟩, ?_⟩
  rintro _ _ _ ⟨j, h1, hj, rfl, rfl, rfl⟩
  conv => whnf
  refine brec (fun h4 => ?_) (fun h4 => ?_)
  · have h4 := of_decide_eq_true h4
    rw [hlt'] at h4
    have hlt : j < ts.length := by omega
    conv => whnf
    refine ⟨⟨by omega, by rw [hlt']; omega⟩, ?_⟩
    rw [tks_getD hlt]
    rw [List.drop_eq_getElem_cons hlt, lookP] at h1
    generalize ts[j]'hlt = a at *
    have e3 : IntKind.i64.wrap ((j : Int) + 1) = ((j + 1 : Nat) : Int) := by rw [w64 (by omega)]; omega
    obtain ⟨ao, an, a1, a2, a3, a4, a5⟩ := a
    have hq : tkP o n ⟨ao, an, a1, a2, a3, a4, a5⟩ = (decide (ao = o) && decide (an = n)) := rfl
    rw [hq] at h1
    conv => whnf
    by_cases c1 : ao = o
    · rw [decide_eq_true c1, Bool.true_and] at h1
      refine brT (decide_eq_true c1) ?_
      conv => whnf
      by_cases c2 : an = n
      · rw [decide_eq_true c2, if_pos rfl] at h1
        refine brT (decide_eq_true c2) ?_
        conv => whnf
        rw [← h1]
        exact ⟨rfl, rfl⟩
      · rw [decide_eq_false c2, if_neg (by decide)] at h1
        refine brF (decide_eq_false c2) ?_
        conv => whnf
        exact ⟨_, _, 2, (by omega : ts.length - (j + 1) < ts.length - j), ⟨j + 1, h1, by omega, rfl, rfl, rfl⟩, ⟨rfl, rfl, rfl, rfl, rfl, congrArg (fun z => some (i64 z)) e3, trivial⟩, rfl⟩
    · rw [decide_eq_false c1, Bool.false_and, if_neg (by decide)] at h1
      refine brF (decide_eq_false c1) ?_
      conv => whnf
      exact ⟨_, _, 2, (by omega : ts.length - (j + 1) < ts.length - j), ⟨j + 1, h1, by omega, rfl, rfl, rfl⟩, ⟨rfl, rfl, rfl, rfl, rfl, congrArg (fun z => some (i64 z)) e3, trivial⟩, rfl⟩
  · have h4 := of_decide_eq_false h4
    rw [hlt'] at h4
    obtain rfl : j = ts.length := by omega
    rw [List.drop_length, lookP] at h1
    conv => whnf
    rw [← h1]
    exact ⟨rfl, rfl⟩

theorem rheld_c {p : Pu} {o : Int} {n w : ByteArray} (hp : p.ok) : CallR cx 71 [.d p.d, .d (.int .u32 o), st n, st w] [] fun r S => r = u64 (heldV p o n w) ∧ S = [] := by
  have hH := hp.nh
  obtain ⟨ts, hs⟩ := p
  simp only at hH
  have hlh' : (hds hs).length = hs.length := List.length_map _
  unfold heldV
  simp only
  refine callR_of (R := R1) cx_ok Tryz.func71 (by kernel_rfl) rfl ?_
  conv => whnf
  refine .inl ⟨fun m L S => ∃ (j : Nat), lookP (hdP o n w) (hs.drop j) = lookP (hdP o n w) hs ∧ j ≤ hs.length ∧ m = hs.length - j ∧
      L = [(1, .d (.int .u32 o)), (2, st n), (3, st w), (12, .d (.sl 4 (hds hs))), (13, i64 (((hds hs).length : Nat) : Int)), (14, i64 (j : Int))] ∧ S = [.var (.d (Pu.d ⟨ts, hs⟩))],
    ⟨_, _, ⟨0, rfl, Nat.zero_le _, rfl, rfl, rfl⟩, ⟨rfl, rfl, rfl, rfl, rfl, rfl, trivial⟩⟩, ?_⟩
  rintro _ _ _ ⟨j, h1, hj, rfl, rfl, rfl⟩
  conv => whnf
  refine brec (fun h4 => ?_) (fun h4 => ?_)
  · have h4 := of_decide_eq_true h4
    rw [hlh'] at h4
    have hlt : j < hs.length := by omega
    conv => whnf
    refine ⟨⟨by omega, by rw [hlh']; omega⟩, ?_⟩
    rw [hds_getD hlt]
    rw [List.drop_eq_getElem_cons hlt, lookP] at h1
    generalize hs[j]'hlt = a at *
    have e3 : IntKind.i64.wrap ((j : Int) + 1) = ((j + 1 : Nat) : Int) := by rw [w64 (by omega)]; omega
    obtain ⟨ao, an, aw, am⟩ := a
    have hq : hdP o n w ⟨ao, an, aw, am⟩ = (decide (ao = o) && decide (an = n) && decide (aw = w)) := rfl
    rw [hq] at h1
    conv => whnf
    by_cases c1 : ao = o
    · rw [decide_eq_true c1, Bool.true_and] at h1
      refine brT (decide_eq_true c1) ?_
      conv => whnf
      by_cases c2 : an = n
      · rw [decide_eq_true c2, Bool.true_and] at h1
        refine brT (decide_eq_true c2) ?_
        conv => whnf
        by_cases c3 : aw = w
        · rw [decide_eq_true c3, if_pos rfl] at h1
          refine brT (decide_eq_true c3) ?_
          conv => whnf
          rw [← h1]
          exact ⟨rfl, rfl⟩
        · rw [decide_eq_false c3, if_neg (by decide)] at h1
          refine brF (decide_eq_false c3) ?_
          conv => whnf
          exact ⟨_, _, 1, (by omega : hs.length - (j + 1) < hs.length - j), ⟨j + 1, h1, by omega, rfl, rfl, rfl⟩, ⟨rfl, rfl, rfl, rfl, rfl, congrArg (fun z => some (i64 z)) e3, trivial⟩, rfl⟩
      · rw [decide_eq_false c2, Bool.false_and, if_neg (by decide)] at h1
        refine brF (decide_eq_false c2) ?_
        conv => whnf
        exact ⟨_, _, 1, (by omega : hs.length - (j + 1) < hs.length - j), ⟨j + 1, h1, by omega, rfl, rfl, rfl⟩, ⟨rfl, rfl, rfl, rfl, rfl, congrArg (fun z => some (i64 z)) e3, trivial⟩, rfl⟩
    · rw [decide_eq_false c1, Bool.false_and, Bool.false_and, if_neg (by decide)] at h1
      refine brF (decide_eq_false c1) ?_
      conv => whnf
      exact ⟨_, _, 1, (by omega : hs.length - (j + 1) < hs.length - j), ⟨j + 1, h1, by omega, rfl, rfl, rfl⟩, ⟨rfl, rfl, rfl, rfl, rfl, congrArg (fun z => some (i64 z)) e3, trivial⟩, rfl⟩
  · have h4 := of_decide_eq_false h4
    rw [hlh'] at h4
    obtain rfl : j = hs.length := by omega
    rw [List.drop_length, lookP] at h1
    conv => whnf
    rw [← h1]
    exact ⟨rfl, rfl⟩

theorem pset_c {p : Pu} {b : Tk} (hp : p.ok) : CallR cx 44 [.d p.d, .d b.d] [] fun r S => r = .d (Pu.d ⟨putP (tkP b.org b.name) p.toks b, p.holds⟩) ∧ S = [] := by
  have hT := hp.nt
  obtain ⟨ts, hs⟩ := p
  obtain ⟨bo', bn, b1, b2, b3, b4, b5⟩ := b
  simp only at hT ⊢
  have hlt' : (tks ts).length = ts.length := List.length_map _
  obtain ⟨p0, hp0⟩ : ∃ p0 : AV, p0 = .d (Pu.d ⟨ts, hs⟩) := ⟨_, rfl⟩
  refine callR_of (R := R1) cx_ok Tryz.func44 (by kernel_rfl) rfl ?_
  conv => whnf
  refine .inr ⟨52, 7, ?_⟩
  conv => whnf
  refine .inr ⟨fun m L S => ∃ (j : Nat) (dn : Bool) (out : List Tk), out ++ (if dn then ts.drop j else putP (tkP bo' bn) (ts.drop j) ⟨bo', bn, b1, b2, b3, b4, b5⟩) = putP (tkP bo' bn) ts ⟨bo', bn, b1, b2, b3, b4, b5⟩ ∧ out.length = j ∧ j ≤ ts.length ∧ m = ts.length - j ∧
      L = [(2, .ptr 0 []), (3, .ptr 1 []), (4, .ptr 2 []), (5, .row 3), (6, bo dn), (10, .d (.sl 7 (tks ts))), (11, i64 (((tks ts).length : Nat) : Int)), (12, i64 (j : Int))] ∧
      S = [.var (.d (Pu.d ⟨ts, hs⟩)), .var (.d (Tk.d ⟨bo', bn, b1, b2, b3, b4, b5⟩)), .var (.d (.agg [.sl 7 [], .sl 4 []])), .row 52 7 (tks out)],
    ⟨_, _, ⟨0, false, [], rfl, rfl, Nat.zero_le _, rfl, rfl, rfl⟩, ⟨rfl, rfl, rfl, rfl, rfl, rfl, rfl, rfl, trivial⟩⟩, ?_⟩
  rintro _ _ _ ⟨j, dn, out, h1, h2, hj, rfl, rfl, rfl⟩
  have hlo : (tks out).length = out.length := List.length_map _
  conv => whnf
  refine brec (fun h4 => ?_) (fun h4 => ?_)
  · have h4 := of_decide_eq_true h4
    rw [hlt'] at h4
    have hlt : j < ts.length := by omega
    conv => whnf
    refine ⟨⟨by omega, by rw [hlt']; omega⟩, ?_⟩
    rw [tks_getD hlt]
    rw [List.drop_eq_getElem_cons hlt, putP] at h1
    generalize ts[j]'hlt = a at *
    have e3 : IntKind.i64.wrap ((j : Int) + 1) = ((j + 1 : Nat) : Int) := by rw [w64 (by omega)]; omega
    have ea : ∀ x : Tk, tks out ++ [x.d] = tks (out ++ [x]) := fun x => by unfold tks; rw [List.map_append]; rfl
    obtain ⟨ao, an, a1, a2, a3, a4, a5⟩ := a
    have hq : tkP bo' bn ⟨ao, an, a1, a2, a3, a4, a5⟩ = (decide (ao = bo') && decide (an = bn)) := rfl
    rw [hq] at h1
    conv => whnf
    cases dn with
    | true =>
      rw [if_pos rfl] at h1
      conv => whnf
      refine ⟨⟨Nat.succ_pos _, by show ((tks out).length + 1) * (64 + 1) ≤ _; omega⟩, ?_⟩
      conv => whnf
      refine ⟨ts.length - (j + 1), [(2, .ptr 0 []), (3, .ptr 1 []), (4, .ptr 2 []), (5, .row 5), (6, bo true), (10, .d (.sl 7 (tks ts))), (11, i64 (((tks ts).length : Nat) : Int)), (12, i64 ((j + 1 : Nat) : Int))], [0, 1, 2, 5], by omega, ⟨rfl, rfl, rfl, rfl, rfl, rfl, rfl, congrArg (fun z => some (i64 z)) e3, trivial⟩, ?_⟩
      conv => whnf
      refine ⟨j + 1, true, out ++ [⟨ao, an, a1, a2, a3, a4, a5⟩], by rw [if_pos rfl, List.append_assoc]; exact h1, by rw [List.length_append, h2]; rfl, by omega, rfl, rfl, ?_⟩
      exact congrArg (fun z => [Blk.var (.d (Pu.d ⟨ts, hs⟩)), .var (.d (Tk.d ⟨bo', bn, b1, b2, b3, b4, b5⟩)), .var (.d (.agg [.sl 7 [], .sl 4 []])), .row 52 7 z]) (ea ⟨ao, an, a1, a2, a3, a4, a5⟩)
    | false =>
      rw [if_neg (by decide)] at h1
      conv => whnf
      by_cases c1 : ao = bo'
      · rw [decide_eq_true c1, Bool.true_and] at h1
        refine brT (decide_eq_true c1) ?_
        conv => whnf
        by_cases c2 : an = bn
        · rw [decide_eq_true c2, if_pos rfl] at h1
          refine brT (decide_eq_true c2) ?_
          conv => whnf
          refine ⟨⟨Nat.succ_pos _, by show ((tks out).length + 1) * (64 + 1) ≤ _; omega⟩, ?_⟩
          conv => whnf
          refine ⟨ts.length - (j + 1), [(2, .ptr 0 []), (3, .ptr 1 []), (4, .ptr 2 []), (5, .row 5), (6, bo true), (10, .d (.sl 7 (tks ts))), (11, i64 (((tks ts).length : Nat) : Int)), (12, i64 ((j + 1 : Nat) : Int))], [0, 1, 2, 5], by omega, ⟨rfl, rfl, rfl, rfl, rfl, rfl, rfl, congrArg (fun z => some (i64 z)) e3, trivial⟩, ?_⟩
          conv => whnf
          refine ⟨j + 1, true, out ++ [⟨bo', bn, b1, b2, b3, b4, b5⟩], by rw [if_pos rfl, List.append_assoc]; exact h1, by rw [List.length_append, h2]; rfl, by omega, rfl, rfl, ?_⟩
          exact congrArg (fun z => [Blk.var (.d (Pu.d ⟨ts, hs⟩)), .var (.d (Tk.d ⟨bo', bn, b1, b2, b3, b4, b5⟩)), .var (.d (.agg [.sl 7 [], .sl 4 []])), .row 52 7 z]) (ea ⟨bo', bn, b1, b2, b3, b4, b5⟩)
        · rw [decide_eq_false c2, if_neg (by decide)] at h1
          refine brF (decide_eq_false c2) ?_
          conv => whnf
          refine ⟨⟨Nat.succ_pos _, by show ((tks out).length + 1) * (64 + 1) ≤ _; omega⟩, ?_⟩
          conv => whnf
          refine ⟨ts.length - (j + 1), [(2, .ptr 0 []), (3, .ptr 1 []), (4, .ptr 2 []), (5, .row 5), (6, bo false), (10, .d (.sl 7 (tks ts))), (11, i64 (((tks ts).length : Nat) : Int)), (12, i64 ((j + 1 : Nat) : Int))], [0, 1, 2, 5], by omega, ⟨rfl, rfl, rfl, rfl, rfl, rfl, rfl, congrArg (fun z => some (i64 z)) e3, trivial⟩, ?_⟩
          conv => whnf
          refine ⟨j + 1, false, out ++ [⟨ao, an, a1, a2, a3, a4, a5⟩], by rw [if_neg (by decide), List.append_assoc]; exact h1, by rw [List.length_append, h2]; rfl, by omega, rfl, rfl, ?_⟩
          exact congrArg (fun z => [Blk.var (.d (Pu.d ⟨ts, hs⟩)), .var (.d (Tk.d ⟨bo', bn, b1, b2, b3, b4, b5⟩)), .var (.d (.agg [.sl 7 [], .sl 4 []])), .row 52 7 z]) (ea ⟨ao, an, a1, a2, a3, a4, a5⟩)
      · rw [decide_eq_false c1, Bool.false_and, if_neg (by decide)] at h1
        refine brF (decide_eq_false c1) ?_
        conv => whnf
        refine ⟨⟨Nat.succ_pos _, by show ((tks out).length + 1) * (64 + 1) ≤ _; omega⟩, ?_⟩
        conv => whnf
        refine ⟨ts.length - (j + 1), [(2, .ptr 0 []), (3, .ptr 1 []), (4, .ptr 2 []), (5, .row 5), (6, bo false), (10, .d (.sl 7 (tks ts))), (11, i64 (((tks ts).length : Nat) : Int)), (12, i64 ((j + 1 : Nat) : Int))], [0, 1, 2, 5], by omega, ⟨rfl, rfl, rfl, rfl, rfl, rfl, rfl, congrArg (fun z => some (i64 z)) e3, trivial⟩, ?_⟩
        conv => whnf
        refine ⟨j + 1, false, out ++ [⟨ao, an, a1, a2, a3, a4, a5⟩], by rw [if_neg (by decide), List.append_assoc]; exact h1, by rw [List.length_append, h2]; rfl, by omega, rfl, rfl, ?_⟩
        exact congrArg (fun z => [Blk.var (.d (Pu.d ⟨ts, hs⟩)), .var (.d (Tk.d ⟨bo', bn, b1, b2, b3, b4, b5⟩)), .var (.d (.agg [.sl 7 [], .sl 4 []])), .row 52 7 z]) (ea ⟨ao, an, a1, a2, a3, a4, a5⟩)
  · have h4 := of_decide_eq_false h4
    rw [hlt'] at h4
    obtain rfl : j = ts.length := by omega
    rw [List.drop_length] at h1
    have h1 : out = putP (tkP bo' bn) ts ⟨bo', bn, b1, b2, b3, b4, b5⟩ := by cases dn <;> simpa [putP] using h1
    conv => whnf
    rw [← h1]
    exact ⟨rfl, rfl⟩
end Go.Proofs.YtmdfpifcghmpfaaGreatDoor

set_option linter.unusedVariables false
namespace Go.Proofs.YtmdfpifcghmpfaaGreatDoor
open Go.Ab Go.RowKit

def modL (o : Int) (n w : ByteArray) (k : Int) : List Hd → List Hd
  | [] => []
  | h :: l => if hdP o n w h then (if k = 0 then l else { h with amount := k } :: l) else h :: modL o n w k l
theorem modL_some {o k : Int} {n w : ByteArray} : ∀ {l : List Hd} {x : Hd}, lookP (hdP o n w) l = some x → modL o n w k l = if k = 0 then delP (hdP o n w) l else putP (hdP o n w) l { x with amount := k }
  | [], _, h => by cases h
  | a :: l, x, h => by
    rw [lookP] at h
    rw [modL, delP, putP]
    by_cases e : hdP o n w a = true
    · rw [if_pos e] at h ⊢
      cases h
      rw [if_pos e, if_pos e]
    · rw [if_neg e] at h ⊢
      rw [if_neg e, if_neg e, modL_some h]
      split <;> rfl
theorem modL_none {o k : Int} {n w : ByteArray} : ∀ {l : List Hd}, lookP (hdP o n w) l = none → modL o n w k l = l
  | [], _ => rfl
  | a :: l, h => by
    rw [lookP] at h
    split at h
    · cases h
    rename_i e
    rw [modL, if_neg e, modL_none h]
theorem hold_c {p : Pu} {o k : Int} {n w : ByteArray} (hp : p.ok) (hn : n.size ≤ 1000) (hw : w.size ≤ 1000) (hk : U k) :
    CallR cx 72 [.d p.d, .d (.int .u32 o), st n, st w, u64 k] [] fun r S => r = .d (Pu.d ⟨p.toks, putH p.holds o n w k⟩) ∧ S = [] := by
  have hH := hp.nh
  have hho := hp.h
  obtain ⟨ts, hs⟩ := p
  simp only at hH hho ⊢
  unfold U at hk
  have hlh' : (hds hs).length = hs.length := List.length_map _
  refine callR_of (R := R1) cx_ok Tryz.func72 (by kernel_rfl) rfl ?_
  conv => whnf
  refine .inr ⟨54, 4, ?_⟩
  conv => whnf
  refine .inr ⟨fun m L S => ∃ (j : Nat) (dn : Bool) (out : List Hd), (out ++ (if dn then hs.drop j else modL o n w k (hs.drop j)) = modL o n w k hs ∧ (if dn then true else (lookP (hdP o n w) (hs.drop j)).isSome) = (lookP (hdP o n w) hs).isSome ∧ out.length ≤ j ∧ j ≤ hs.length) ∧ m = hs.length - j ∧
      L = [(1, .d (.int .u32 o)), (2, st n), (3, st w), (4, u64 k), (5, .ptr 0 []), (10, .ptr 1 []), (11, .row 2), (12, bo dn), (20, .d (.sl 4 (hds hs))), (21, i64 (((hds hs).length : Nat) : Int)), (22, i64 (j : Int))] ∧ S = [.var (.d (Pu.d ⟨ts, hs⟩)), .var (.d (.agg [.sl 7 [], .sl 4 []])), .row 54 4 (hds out)],
    ⟨_, _, ⟨0, false, [], ⟨rfl, rfl, Nat.le_refl _, Nat.zero_le _⟩, rfl, rfl, rfl⟩, ⟨rfl, rfl, rfl, rfl, rfl, rfl, rfl, rfl, rfl, rfl, rfl, trivial⟩⟩, ?_⟩
  rintro _ _ _ ⟨j, dn, out, ⟨h1, h1', h2, hj⟩, rfl, rfl, rfl⟩
  have hlo : (hds out).length = out.length := List.length_map _
  conv => whnf
  refine brec (fun h4 => ?_) (fun h4 => ?_)
  · have h4 := of_decide_eq_true h4
    rw [hlh'] at h4
    have hlt : j < hs.length := by omega
    conv => whnf
    refine ⟨⟨by omega, by rw [hlh']; omega⟩, ?_⟩
    rw [hds_getD hlt]
    rw [List.drop_eq_getElem_cons hlt, modL] at h1
    rw [List.drop_eq_getElem_cons hlt, lookP] at h1'
    generalize hs[j]'hlt = a at *
    have e3 : IntKind.i64.wrap ((j : Int) + 1) = ((j + 1 : Nat) : Int) := by rw [w64 (by omega)]; omega
    have ea : ∀ x : Hd, hds out ++ [x.d] = hds (out ++ [x]) := fun x => by unfold hds; rw [List.map_append]; rfl
    obtain ⟨ao, an, aw, am⟩ := a
    have hq : hdP o n w ⟨ao, an, aw, am⟩ = (decide (ao = o) && decide (an = n) && decide (aw = w)) := rfl
    rw [hq] at h1 h1'
    conv => whnf
    cases dn with
    | true =>
      rw [if_pos rfl] at h1 h1'
      conv => whnf
      refine ⟨⟨Nat.succ_pos _, by show ((hds out).length + 1) * (48 + 1) ≤ _; omega⟩, ?_⟩
      conv => whnf
      refine ⟨hs.length - (j + 1), [(1, .d (.int .u32 o)), (2, st n), (3, st w), (4, u64 k), (5, .ptr 0 []), (10, .ptr 1 []), (11, .row 4), (12, bo true), (20, .d (.sl 4 (hds hs))), (21, i64 (((hds hs).length : Nat) : Int)), (22, i64 ((j + 1 : Nat) : Int))], [0, 1, 4], by omega, ⟨rfl, rfl, rfl, rfl, rfl, rfl, rfl, rfl, rfl, rfl, congrArg (fun z => some (i64 z)) e3, trivial⟩, ?_⟩
      conv => whnf
      refine ⟨j + 1, true, out ++ [⟨ao, an, aw, am⟩], ⟨by rw [if_pos rfl, List.append_assoc]; exact h1, by rw [if_pos rfl]; exact h1', by rw [List.length_append]; show out.length + 1 ≤ _; omega, by omega⟩, rfl, rfl, ?_⟩
      exact congrArg (fun z => [Blk.var (.d (Pu.d ⟨ts, hs⟩)), .var (.d (.agg [.sl 7 [], .sl 4 []])), .row 54 4 z]) (ea ⟨ao, an, aw, am⟩)
    | false =>
      rw [if_neg (by decide)] at h1 h1'
      conv => whnf
      by_cases c1 : ao = o
      · rw [decide_eq_true c1, Bool.true_and] at h1 h1'
        refine brT (decide_eq_true c1) ?_
        conv => whnf
        by_cases c2 : an = n
        · rw [decide_eq_true c2, Bool.true_and] at h1 h1'
          refine brT (decide_eq_true c2) ?_
          conv => whnf
          by_cases c3 : aw = w
          · rw [decide_eq_true c3, if_pos rfl] at h1 h1'
            refine brT (decide_eq_true c3) ?_
            conv => whnf
            by_cases c4 : k = 0
            · rw [if_pos c4] at h1
              refine brT (decide_eq_true c4) ?_
              conv => whnf
              refine ⟨hs.length - (j + 1), [(1, .d (.int .u32 o)), (2, st n), (3, st w), (4, u64 k), (5, .ptr 0 []), (10, .ptr 1 []), (11, .row 2), (12, bo true), (20, .d (.sl 4 (hds hs))), (21, i64 (((hds hs).length : Nat) : Int)), (22, i64 ((j + 1 : Nat) : Int))], [0, 1, 2], by omega, ⟨rfl, rfl, rfl, rfl, rfl, rfl, rfl, rfl, rfl, rfl, congrArg (fun z => some (i64 z)) e3, trivial⟩, ?_⟩
              conv => whnf
              exact ⟨j + 1, true, out, ⟨by rw [if_pos rfl]; exact h1, by rw [if_pos rfl]; exact h1', by omega, by omega⟩, rfl, rfl, rfl⟩
            · rw [if_neg c4] at h1
              refine brF (decide_eq_false c4) ?_
              conv => whnf
              refine ⟨⟨Nat.succ_pos _, by show ((hds out).length + 1) * (48 + 1) ≤ _; omega⟩, ?_⟩
              conv => whnf
              refine ⟨hs.length - (j + 1), [(1, .d (.int .u32 o)), (2, st n), (3, st w), (4, u64 k), (5, .ptr 0 []), (10, .ptr 1 []), (11, .row 4), (12, bo true), (20, .d (.sl 4 (hds hs))), (21, i64 (((hds hs).length : Nat) : Int)), (22, i64 ((j + 1 : Nat) : Int))], [0, 1, 4], by omega, ⟨rfl, rfl, rfl, rfl, rfl, rfl, rfl, rfl, rfl, rfl, congrArg (fun z => some (i64 z)) e3, trivial⟩, ?_⟩
              conv => whnf
              refine ⟨j + 1, true, out ++ [⟨ao, an, aw, k⟩], ⟨by rw [if_pos rfl, List.append_assoc]; exact h1, by rw [if_pos rfl]; exact h1', by rw [List.length_append]; show out.length + 1 ≤ _; omega, by omega⟩, rfl, rfl, ?_⟩
              exact congrArg (fun z => [Blk.var (.d (Pu.d ⟨ts, hs⟩)), .var (.d (.agg [.sl 7 [], .sl 4 []])), .row 54 4 z]) (ea ⟨ao, an, aw, k⟩)
          · rw [decide_eq_false c3, if_neg (by decide)] at h1 h1'
            refine brF (decide_eq_false c3) ?_
            conv => whnf
            refine ⟨⟨Nat.succ_pos _, by show ((hds out).length + 1) * (48 + 1) ≤ _; omega⟩, ?_⟩
            conv => whnf
            refine ⟨hs.length - (j + 1), [(1, .d (.int .u32 o)), (2, st n), (3, st w), (4, u64 k), (5, .ptr 0 []), (10, .ptr 1 []), (11, .row 4), (12, bo false), (20, .d (.sl 4 (hds hs))), (21, i64 (((hds hs).length : Nat) : Int)), (22, i64 ((j + 1 : Nat) : Int))], [0, 1, 4], by omega, ⟨rfl, rfl, rfl, rfl, rfl, rfl, rfl, rfl, rfl, rfl, congrArg (fun z => some (i64 z)) e3, trivial⟩, ?_⟩
            conv => whnf
            refine ⟨j + 1, false, out ++ [⟨ao, an, aw, am⟩], ⟨by rw [if_neg (by decide), List.append_assoc]; exact h1, by rw [if_neg (by decide)]; exact h1', by rw [List.length_append]; show out.length + 1 ≤ _; omega, by omega⟩, rfl, rfl, ?_⟩
            exact congrArg (fun z => [Blk.var (.d (Pu.d ⟨ts, hs⟩)), .var (.d (.agg [.sl 7 [], .sl 4 []])), .row 54 4 z]) (ea ⟨ao, an, aw, am⟩)
        · rw [decide_eq_false c2, Bool.false_and, if_neg (by decide)] at h1 h1'
          refine brF (decide_eq_false c2) ?_
          conv => whnf
          refine ⟨⟨Nat.succ_pos _, by show ((hds out).length + 1) * (48 + 1) ≤ _; omega⟩, ?_⟩
          conv => whnf
          refine ⟨hs.length - (j + 1), [(1, .d (.int .u32 o)), (2, st n), (3, st w), (4, u64 k), (5, .ptr 0 []), (10, .ptr 1 []), (11, .row 4), (12, bo false), (20, .d (.sl 4 (hds hs))), (21, i64 (((hds hs).length : Nat) : Int)), (22, i64 ((j + 1 : Nat) : Int))], [0, 1, 4], by omega, ⟨rfl, rfl, rfl, rfl, rfl, rfl, rfl, rfl, rfl, rfl, congrArg (fun z => some (i64 z)) e3, trivial⟩, ?_⟩
          conv => whnf
          refine ⟨j + 1, false, out ++ [⟨ao, an, aw, am⟩], ⟨by rw [if_neg (by decide), List.append_assoc]; exact h1, by rw [if_neg (by decide)]; exact h1', by rw [List.length_append]; show out.length + 1 ≤ _; omega, by omega⟩, rfl, rfl, ?_⟩
          exact congrArg (fun z => [Blk.var (.d (Pu.d ⟨ts, hs⟩)), .var (.d (.agg [.sl 7 [], .sl 4 []])), .row 54 4 z]) (ea ⟨ao, an, aw, am⟩)
      · rw [decide_eq_false c1, Bool.false_and, Bool.false_and, if_neg (by decide)] at h1 h1'
        refine brF (decide_eq_false c1) ?_
        conv => whnf
        refine ⟨⟨Nat.succ_pos _, by show ((hds out).length + 1) * (48 + 1) ≤ _; omega⟩, ?_⟩
        conv => whnf
        refine ⟨hs.length - (j + 1), [(1, .d (.int .u32 o)), (2, st n), (3, st w), (4, u64 k), (5, .ptr 0 []), (10, .ptr 1 []), (11, .row 4), (12, bo false), (20, .d (.sl 4 (hds hs))), (21, i64 (((hds hs).length : Nat) : Int)), (22, i64 ((j + 1 : Nat) : Int))], [0, 1, 4], by omega, ⟨rfl, rfl, rfl, rfl, rfl, rfl, rfl, rfl, rfl, rfl, congrArg (fun z => some (i64 z)) e3, trivial⟩, ?_⟩
        conv => whnf
        refine ⟨j + 1, false, out ++ [⟨ao, an, aw, am⟩], ⟨by rw [if_neg (by decide), List.append_assoc]; exact h1, by rw [if_neg (by decide)]; exact h1', by rw [List.length_append]; show out.length + 1 ≤ _; omega, by omega⟩, rfl, rfl, ?_⟩
        exact congrArg (fun z => [Blk.var (.d (Pu.d ⟨ts, hs⟩)), .var (.d (.agg [.sl 7 [], .sl 4 []])), .row 54 4 z]) (ea ⟨ao, an, aw, am⟩)
  · have h4 := of_decide_eq_false h4
    rw [hlh'] at h4
    obtain rfl : j = hs.length := by omega
    rw [List.drop_length] at h1 h1'
    have h1 : out = modL o n w k hs := by cases dn <;> simpa [modL] using h1
    have h1' : dn = (lookP (hdP o n w) hs).isSome := by cases dn <;> simpa [lookP] using h1'
    unfold putH
    simp only
    cases hx : lookP (hdP o n w) hs with
    | some x =>
      rw [hx] at h1'
      rw [modL_some hx] at h1
      simp only
      rw [← h1]
      rw [show dn = true from h1']
      conv => whnf
      exact ⟨rfl, rfl⟩
    | none =>
      rw [hx] at h1'
      rw [modL_none hx] at h1
      simp only
      rw [show dn = false from h1']
      conv => whnf
      by_cases c4 : k = 0
      · rw [if_neg (by omega), ← h1]
        refine brT (decide_eq_true c4) ?_
        conv => whnf
        exact ⟨rfl, rfl⟩
      rw [if_pos (by omega)]
      refine brF (decide_eq_false c4) ?_
      conv => whnf
      refine .inr ⟨54, 4, ?_⟩
      conv => whnf
      obtain ⟨o1, ho1⟩ : ∃ o1, o1 = out := ⟨_, rfl⟩
      rw [← ho1]
      clear ho1 h1 h2 hlo hx h1'
      refine .inr ⟨fun m L S => ∃ (j : Nat) (dn : Bool) (out : List Hd), (out ++ (if dn then hs.drop j else insP (hbP o n w) (hs.drop j) ⟨o, n, w, k⟩) = insP (hbP o n w) hs ⟨o, n, w, k⟩ ∧ out.length ≤ 2 * j ∧ j ≤ hs.length) ∧ m = hs.length - j ∧
          L = [(1, .d (.int .u32 o)), (2, st n), (3, st w), (5, .ptr 0 []), (10, .ptr 1 []), (11, .row 3), (12, bo dn), (15, .ptr 4 []), (69, .d (.sl 4 (hds hs))), (70, i64 (((hds hs).length : Nat) : Int)), (71, i64 (j : Int))] ∧ S = [.var (.d (Pu.d ⟨ts, hs⟩)), .var (.d (.agg [.sl 7 [], .sl 4 []])), .row 54 4 (hds o1), .row 54 4 (hds out), .var (.d (Hd.d ⟨o, n, w, k⟩))],
        ⟨_, _, ⟨0, false, [], ⟨rfl, by decide, Nat.zero_le _⟩, rfl, rfl, rfl⟩, ⟨rfl, rfl, rfl, rfl, rfl, rfl, rfl, rfl, rfl, rfl, rfl, trivial⟩⟩, ?_⟩
      rintro _ _ _ ⟨j, dn, out, ⟨h1, h2, hj⟩, rfl, rfl, rfl⟩
      have hlo : (hds out).length = out.length := List.length_map _
      conv => whnf
      refine brec (fun h4 => ?_) (fun h4 => ?_)
      · have h4 := of_decide_eq_true h4
        rw [hlh'] at h4
        have hlt : j < hs.length := by omega
        conv => whnf
        refine ⟨⟨by omega, by rw [hlh']; omega⟩, ?_⟩
        rw [hds_getD hlt]
        rw [List.drop_eq_getElem_cons hlt, insP] at h1
        have hok := hho _ (List.getElem_mem hlt)
        generalize hs[j]'hlt = a at *
        have e3 : IntKind.i64.wrap ((j : Int) + 1) = ((j + 1 : Nat) : Int) := by rw [w64 (by omega)]; omega
        have ea : ∀ x : Hd, hds out ++ [x.d] = hds (out ++ [x]) := fun x => by unfold hds; rw [List.map_append]; rfl
        have ea2 : ∀ x y : Hd, hds out ++ [x.d] ++ [y.d] = hds (out ++ [x, y]) := fun x y => by unfold hds; rw [List.map_append, List.append_assoc]; rfl
        obtain ⟨ao, an, aw, am⟩ := a
        have s1 := hok.2.1
        have s2 := hok.2.2
        simp only at s1 s2
        have pc := porder_c (o := o) (o' := ao) hn s1
        have rc := rorder_c (a := w) (b := aw) (by omega) (by omega)
        have hq : hbP o n w ⟨ao, an, aw, am⟩ = (decide (ordP o n ao an < 0) || (decide (ordP o n ao an = 0) && decide (ordL (keysAt w 0) (keysAt aw 0) < 0))) := by
          rw [ordP_lt, ordP_eq]; rfl
        rw [hq] at h1
        generalize ordP o n ao an = O1 at *
        generalize ordL (keysAt w 0) (keysAt aw 0) = O2 at *
        conv => whnf
        refine ⟨_, pc, ?_⟩
        rintro _ _ ⟨rfl, rfl⟩
        conv => whnf
        cases dn with
        | true =>
          rw [if_pos rfl] at h1
          conv => whnf
          refine ⟨⟨Nat.succ_pos _, by show ((hds out).length + 1) * (48 + 1) ≤ _; omega⟩, ?_⟩
          conv => whnf
          refine ⟨hs.length - (j + 1), [(1, .d (.int .u32 o)), (2, st n), (3, st w), (5, .ptr 0 []), (10, .ptr 1 []), (11, .row 6), (12, bo true), (15, .ptr 4 []), (69, .d (.sl 4 (hds hs))), (70, i64 (((hds hs).length : Nat) : Int)), (71, i64 ((j + 1 : Nat) : Int))], [0, 1, 2, 6, 4], by omega, ⟨rfl, rfl, rfl, rfl, rfl, rfl, rfl, rfl, rfl, rfl, congrArg (fun z => some (i64 z)) e3, trivial⟩, ?_⟩
          conv => whnf
          refine ⟨j + 1, true, out ++ [⟨ao, an, aw, am⟩], ⟨by rw [if_pos rfl, List.append_assoc]; exact h1, by rw [List.length_append]; first | (show _ + 1 ≤ _; omega) | (show _ + 2 ≤ _; omega), by omega⟩, rfl, rfl, ?_⟩
          exact congrArg (fun z => [Blk.var (.d (Pu.d ⟨ts, hs⟩)), .var (.d (.agg [.sl 7 [], .sl 4 []])), .row 54 4 (hds o1), .row 54 4 z, .var (.d (Hd.d ⟨o, n, w, k⟩))]) (ea ⟨ao, an, aw, am⟩)
        | false =>
          rw [if_neg (by decide)] at h1
          conv => whnf
          by_cases c1 : O1 < 0
          · rw [decide_eq_true c1, Bool.true_or, if_pos rfl] at h1
            refine brT (decide_eq_true c1) ?_
            conv => whnf
            refine ⟨⟨Nat.succ_pos _, by show ((hds out).length + 1) * (48 + 1) ≤ _; omega⟩, ?_⟩
            conv => whnf
            refine ⟨⟨Nat.succ_pos _, by show ((hds out ++ [_]).length + 1) * (48 + 1) ≤ _; rw [List.length_append]; show ((hds out).length + 1 + 1) * _ ≤ _; omega⟩, ?_⟩
            conv => whnf
            refine ⟨hs.length - (j + 1), [(1, .d (.int .u32 o)), (2, st n), (3, st w), (5, .ptr 0 []), (10, .ptr 1 []), (11, .row 7), (12, bo true), (15, .ptr 4 []), (69, .d (.sl 4 (hds hs))), (70, i64 (((hds hs).length : Nat) : Int)), (71, i64 ((j + 1 : Nat) : Int))], [0, 1, 2, 7, 4], by omega, ⟨rfl, rfl, rfl, rfl, rfl, rfl, rfl, rfl, rfl, rfl, congrArg (fun z => some (i64 z)) e3, trivial⟩, ?_⟩
            conv => whnf
            refine ⟨j + 1, true, out ++ [⟨o, n, w, k⟩, ⟨ao, an, aw, am⟩], ⟨by rw [if_pos rfl, List.append_assoc]; exact h1, by rw [List.length_append]; first | (show _ + 1 ≤ _; omega) | (show _ + 2 ≤ _; omega), by omega⟩, rfl, rfl, ?_⟩
            exact congrArg (fun z => [Blk.var (.d (Pu.d ⟨ts, hs⟩)), .var (.d (.agg [.sl 7 [], .sl 4 []])), .row 54 4 (hds o1), .row 54 4 z, .var (.d (Hd.d ⟨o, n, w, k⟩))]) (ea2 ⟨o, n, w, k⟩ ⟨ao, an, aw, am⟩)
          rw [decide_eq_false c1, Bool.false_or] at h1
          refine brF (decide_eq_false c1) ?_
          conv => whnf
          by_cases c2 : O1 = 0
          · rw [decide_eq_true c2, Bool.true_and] at h1
            refine brT (decide_eq_true c2) ?_
            conv => whnf
            refine ⟨_, rc, ?_⟩
            rintro _ _ ⟨rfl, rfl⟩
            conv => whnf
            by_cases c3 : O2 < 0
            · rw [decide_eq_true c3, if_pos rfl] at h1
              refine brT (decide_eq_true c3) ?_
              conv => whnf
              refine ⟨⟨Nat.succ_pos _, by show ((hds out).length + 1) * (48 + 1) ≤ _; omega⟩, ?_⟩
              conv => whnf
              refine ⟨⟨Nat.succ_pos _, by show ((hds out ++ [_]).length + 1) * (48 + 1) ≤ _; rw [List.length_append]; show ((hds out).length + 1 + 1) * _ ≤ _; omega⟩, ?_⟩
              conv => whnf
              refine ⟨hs.length - (j + 1), [(1, .d (.int .u32 o)), (2, st n), (3, st w), (5, .ptr 0 []), (10, .ptr 1 []), (11, .row 7), (12, bo true), (15, .ptr 4 []), (69, .d (.sl 4 (hds hs))), (70, i64 (((hds hs).length : Nat) : Int)), (71, i64 ((j + 1 : Nat) : Int))], [0, 1, 2, 7, 4], by omega, ⟨rfl, rfl, rfl, rfl, rfl, rfl, rfl, rfl, rfl, rfl, congrArg (fun z => some (i64 z)) e3, trivial⟩, ?_⟩
              conv => whnf
              refine ⟨j + 1, true, out ++ [⟨o, n, w, k⟩, ⟨ao, an, aw, am⟩], ⟨by rw [if_pos rfl, List.append_assoc]; exact h1, by rw [List.length_append]; first | (show _ + 1 ≤ _; omega) | (show _ + 2 ≤ _; omega), by omega⟩, rfl, rfl, ?_⟩
              exact congrArg (fun z => [Blk.var (.d (Pu.d ⟨ts, hs⟩)), .var (.d (.agg [.sl 7 [], .sl 4 []])), .row 54 4 (hds o1), .row 54 4 z, .var (.d (Hd.d ⟨o, n, w, k⟩))]) (ea2 ⟨o, n, w, k⟩ ⟨ao, an, aw, am⟩)
            · rw [decide_eq_false c3, if_neg (by decide)] at h1
              refine brF (decide_eq_false c3) ?_
              conv => whnf
              refine ⟨⟨Nat.succ_pos _, by show ((hds out).length + 1) * (48 + 1) ≤ _; omega⟩, ?_⟩
              conv => whnf
              refine ⟨hs.length - (j + 1), [(1, .d (.int .u32 o)), (2, st n), (3, st w), (5, .ptr 0 []), (10, .ptr 1 []), (11, .row 6), (12, bo false), (15, .ptr 4 []), (69, .d (.sl 4 (hds hs))), (70, i64 (((hds hs).length : Nat) : Int)), (71, i64 ((j + 1 : Nat) : Int))], [0, 1, 2, 6, 4], by omega, ⟨rfl, rfl, rfl, rfl, rfl, rfl, rfl, rfl, rfl, rfl, congrArg (fun z => some (i64 z)) e3, trivial⟩, ?_⟩
              conv => whnf
              refine ⟨j + 1, false, out ++ [⟨ao, an, aw, am⟩], ⟨by rw [if_neg (by decide), List.append_assoc]; exact h1, by rw [List.length_append]; first | (show _ + 1 ≤ _; omega) | (show _ + 2 ≤ _; omega), by omega⟩, rfl, rfl, ?_⟩
              exact congrArg (fun z => [Blk.var (.d (Pu.d ⟨ts, hs⟩)), .var (.d (.agg [.sl 7 [], .sl 4 []])), .row 54 4 (hds o1), .row 54 4 z, .var (.d (Hd.d ⟨o, n, w, k⟩))]) (ea ⟨ao, an, aw, am⟩)
          · rw [decide_eq_false c2, Bool.false_and, if_neg (by decide)] at h1
            refine brF (decide_eq_false c2) ?_
            conv => whnf
            refine ⟨⟨Nat.succ_pos _, by show ((hds out).length + 1) * (48 + 1) ≤ _; omega⟩, ?_⟩
            conv => whnf
            refine ⟨hs.length - (j + 1), [(1, .d (.int .u32 o)), (2, st n), (3, st w), (5, .ptr 0 []), (10, .ptr 1 []), (11, .row 6), (12, bo false), (15, .ptr 4 []), (69, .d (.sl 4 (hds hs))), (70, i64 (((hds hs).length : Nat) : Int)), (71, i64 ((j + 1 : Nat) : Int))], [0, 1, 2, 6, 4], by omega, ⟨rfl, rfl, rfl, rfl, rfl, rfl, rfl, rfl, rfl, rfl, congrArg (fun z => some (i64 z)) e3, trivial⟩, ?_⟩
            conv => whnf
            refine ⟨j + 1, false, out ++ [⟨ao, an, aw, am⟩], ⟨by rw [if_neg (by decide), List.append_assoc]; exact h1, by rw [List.length_append]; first | (show _ + 1 ≤ _; omega) | (show _ + 2 ≤ _; omega), by omega⟩, rfl, rfl, ?_⟩
            exact congrArg (fun z => [Blk.var (.d (Pu.d ⟨ts, hs⟩)), .var (.d (.agg [.sl 7 [], .sl 4 []])), .row 54 4 (hds o1), .row 54 4 z, .var (.d (Hd.d ⟨o, n, w, k⟩))]) (ea ⟨ao, an, aw, am⟩)
      · have h4 := of_decide_eq_false h4
        rw [hlh'] at h4
        obtain rfl : j = hs.length := by omega
        rw [List.drop_length, insP] at h1
        have ea : ∀ x : Hd, hds out ++ [x.d] = hds (out ++ [x]) := fun x => by unfold hds; rw [List.map_append]; rfl
        conv => whnf
        cases dn with
        | true =>
          rw [if_pos rfl, List.append_nil] at h1
          conv => whnf
          rw [← h1]
          exact ⟨rfl, rfl⟩
        | false =>
          rw [if_neg (by decide)] at h1
          conv => whnf
          refine ⟨⟨Nat.succ_pos _, by show ((hds out).length + 1) * (48 + 1) ≤ _; omega⟩, ?_⟩
          conv => whnf
          rw [← h1]
          exact ⟨congrArg (fun z => AV.d (.agg [.sl 7 (tks ts), .sl 4 z])) (ea ⟨o, n, w, k⟩), rfl⟩
end Go.Proofs.YtmdfpifcghmpfaaGreatDoor

set_option linter.unusedVariables false
namespace Go.Proofs.YtmdfpifcghmpfaaGreatDoor
open Go.Ab Go.RowKit

theorem renlist_c {p : Pu} {o : Int} {n : ByteArray} {k : Int} (hp : p.ok) (hn : n.size ≤ 1000) : CallR cx 24 [.d p.d, .d (.int .u32 o), st n, u64 k] [] fun r S =>
    r = .tup [.d (enlistP p o n k).1.d, i64 (enlistP p o n k).2] ∧ S = [] := by
  have rc := rright_c (s := n) (by omega)
  have kc := rknown_c (o := o) (n := n) hp
  have hT := hp.nt
  have hto := hp.t
  obtain ⟨ts, hs⟩ := p
  simp only at hT hto
  have hlt' : (tks ts).length = ts.length := List.length_map _
  unfold knownP at kc
  unfold enlistP
  simp only at kc ⊢
  cases q : rightT n with
  | false =>
    rw [q] at rc
    rw [if_pos rfl]
    refine callR_of (R := R1) cx_ok Tryz.func24 (by kernel_rfl) rfl ?_
    conv => whnf
    refine ⟨_, rc, ?_⟩
    rintro _ _ ⟨rfl, rfl⟩
    conv => whnf
    exact ⟨rfl, rfl⟩
  | true =>
    rw [q] at rc
    rw [if_neg (by decide)]
    cases hx : lookP (tkP o n) ts with
    | some a =>
      rw [hx] at kc
      simp only at kc ⊢
      obtain ⟨ao, an, a1, a2, a3, a4, a5⟩ := a
      refine callR_of (R := R1) cx_ok Tryz.func24 (by kernel_rfl) rfl ?_
      conv => whnf
      refine ⟨_, rc, ?_⟩
      rintro _ _ ⟨rfl, rfl⟩
      conv => whnf
      refine ⟨_, kc, ?_⟩
      rintro _ _ ⟨rfl, rfl⟩
      conv => whnf
      exact ⟨rfl, rfl⟩
    | none =>
      rw [hx] at kc
      simp only at kc ⊢
      refine callR_of (R := R1) cx_ok Tryz.func24 (by kernel_rfl) rfl ?_
      conv => whnf
      refine ⟨_, rc, ?_⟩
      rintro _ _ ⟨rfl, rfl⟩
      conv => whnf
      refine ⟨_, kc, ?_⟩
      rintro _ _ ⟨rfl, rfl⟩
      conv => whnf
      by_cases c : ((tks ts).length : Int) > 31
      · rw [if_pos (by omega)]
        refine brT (decide_eq_true c) ?_
        conv => whnf
        exact ⟨rfl, rfl⟩
      rw [if_neg (by omega)]
      refine brF (decide_eq_false c) ?_
      conv => whnf
      refine .inr ⟨52, 7, ?_⟩
      conv => whnf
      refine .inr ⟨fun m L S => ∃ (j : Nat) (dn : Bool) (out : List Tk), (out ++ (if dn then ts.drop j else insP (tbP o n) (ts.drop j) ⟨o, n, k, 0, 0, 0, 0⟩) = insP (tbP o n) ts ⟨o, n, k, 0, 0, 0, 0⟩ ∧ out.length ≤ 2 * j ∧ j ≤ ts.length) ∧ m = ts.length - j ∧
          L = [(1, .d (.int .u32 o)), (2, st n), (4, .ptr 0 []), (8, .ptr 1 []), (12, .ptr 3 []), (13, .row 4), (14, bo dn), (40, .d (.sl 7 (tks ts))), (41, i64 (((tks ts).length : Nat) : Int)), (42, i64 (j : Int))] ∧
          S = [Blk.var (.d (Pu.d ⟨ts, hs⟩)), .var (.d (.agg [.sl 7 [], .sl 4 []])), .var (.d tk0.d), .var (.d (Tk.d ⟨o, n, k, 0, 0, 0, 0⟩)), .row 52 7 (tks out)],
        ⟨_, _, ⟨0, false, [], ⟨rfl, by decide, Nat.zero_le _⟩, rfl, rfl, rfl⟩, ⟨rfl, rfl, rfl, rfl, rfl, rfl, rfl, rfl, rfl, rfl, trivial⟩⟩, ?_⟩
      rintro _ _ _ ⟨j, dn, out, ⟨h1, h2, hj⟩, rfl, rfl, rfl⟩
      have hlo : (tks out).length = out.length := List.length_map _
      conv => whnf
      refine brec (fun h4 => ?_) (fun h4 => ?_)
      · have h4 := of_decide_eq_true h4
        rw [hlt'] at h4
        have hlt : j < ts.length := by omega
        conv => whnf
        refine ⟨⟨by omega, by rw [hlt']; omega⟩, ?_⟩
        rw [tks_getD hlt]
        rw [List.drop_eq_getElem_cons hlt, insP] at h1
        have hok := (hto _ (List.getElem_mem hlt)).2.2.2.2.2
        generalize ts[j]'hlt = a at *
        have e3 : IntKind.i64.wrap ((j : Int) + 1) = ((j + 1 : Nat) : Int) := by rw [w64 (by omega)]; omega
        have ea : ∀ x : Tk, tks out ++ [x.d] = tks (out ++ [x]) := fun x => by unfold tks; rw [List.map_append]; rfl
        have ea2 : ∀ x y : Tk, tks out ++ [x.d] ++ [y.d] = tks (out ++ [x, y]) := fun x y => by unfold tks; rw [List.map_append, List.append_assoc]; rfl
        obtain ⟨ao, an, a1, a2, a3, a4, a5⟩ := a
        simp only at hok
        have pc := porder_c (o := o) (o' := ao) hn hok
        have hq : tbP o n ⟨ao, an, a1, a2, a3, a4, a5⟩ = decide (ordP o n ao an < 0) := ordP_lt.symm
        rw [hq] at h1
        generalize ordP o n ao an = O1 at *
        conv => whnf
        cases dn with
        | true =>
          rw [if_pos rfl] at h1
          conv => whnf
          refine ⟨⟨Nat.succ_pos _, by show ((tks out).length + 1) * (64 + 1) ≤ _; omega⟩, ?_⟩
          conv => whnf
          refine ⟨ts.length - (j + 1), [(1, .d (.int .u32 o)), (2, st n), (4, .ptr 0 []), (8, .ptr 1 []), (12, .ptr 3 []), (13, .row 6), (14, bo true), (40, .d (.sl 7 (tks ts))), (41, i64 (((tks ts).length : Nat) : Int)), (42, i64 ((j + 1 : Nat) : Int))], [0, 1, 2, 3, 6], by omega, ⟨rfl, rfl, rfl, rfl, rfl, rfl, rfl, rfl, rfl, congrArg (fun z => some (i64 z)) e3, trivial⟩, ?_⟩
          conv => whnf
          refine ⟨j + 1, true, out ++ [⟨ao, an, a1, a2, a3, a4, a5⟩], ⟨by rw [if_pos rfl, List.append_assoc]; exact h1, by rw [List.length_append]; first | (show _ + 1 ≤ _; omega) | (show _ + 2 ≤ _; omega), by omega⟩, rfl, rfl, ?_⟩
          exact congrArg (fun z => [Blk.var (.d (Pu.d ⟨ts, hs⟩)), .var (.d (.agg [.sl 7 [], .sl 4 []])), .var (.d tk0.d), .var (.d (Tk.d ⟨o, n, k, 0, 0, 0, 0⟩)), .row 52 7 z]) (ea ⟨ao, an, a1, a2, a3, a4, a5⟩)
        | false =>
          rw [if_neg (by decide)] at h1
          conv => whnf
          refine ⟨_, pc, ?_⟩
          rintro _ _ ⟨rfl, rfl⟩
          conv => whnf
          by_cases c5 : O1 < 0
          · rw [decide_eq_true c5, if_pos rfl] at h1
            refine brT (decide_eq_true c5) ?_
            conv => whnf
            refine ⟨⟨Nat.succ_pos _, by show ((tks out).length + 1) * (64 + 1) ≤ _; omega⟩, ?_⟩
            conv => whnf
            refine ⟨⟨Nat.succ_pos _, by show ((tks out ++ [_]).length + 1) * (64 + 1) ≤ _; rw [List.length_append]; show ((tks out).length + 1 + 1) * _ ≤ _; omega⟩, ?_⟩
            conv => whnf
            refine ⟨ts.length - (j + 1), [(1, .d (.int .u32 o)), (2, st n), (4, .ptr 0 []), (8, .ptr 1 []), (12, .ptr 3 []), (13, .row 7), (14, bo true), (40, .d (.sl 7 (tks ts))), (41, i64 (((tks ts).length : Nat) : Int)), (42, i64 ((j + 1 : Nat) : Int))], [0, 1, 2, 3, 7], by omega, ⟨rfl, rfl, rfl, rfl, rfl, rfl, rfl, rfl, rfl, congrArg (fun z => some (i64 z)) e3, trivial⟩, ?_⟩
            conv => whnf
            refine ⟨j + 1, true, out ++ [⟨o, n, k, 0, 0, 0, 0⟩, ⟨ao, an, a1, a2, a3, a4, a5⟩], ⟨by rw [if_pos rfl, List.append_assoc]; exact h1, by rw [List.length_append]; first | (show _ + 1 ≤ _; omega) | (show _ + 2 ≤ _; omega), by omega⟩, rfl, rfl, ?_⟩
            exact congrArg (fun z => [Blk.var (.d (Pu.d ⟨ts, hs⟩)), .var (.d (.agg [.sl 7 [], .sl 4 []])), .var (.d tk0.d), .var (.d (Tk.d ⟨o, n, k, 0, 0, 0, 0⟩)), .row 52 7 z]) (ea2 ⟨o, n, k, 0, 0, 0, 0⟩ ⟨ao, an, a1, a2, a3, a4, a5⟩)
          · rw [decide_eq_false c5, if_neg (by decide)] at h1
            refine brF (decide_eq_false c5) ?_
            conv => whnf
            refine ⟨⟨Nat.succ_pos _, by show ((tks out).length + 1) * (64 + 1) ≤ _; omega⟩, ?_⟩
            conv => whnf
            refine ⟨ts.length - (j + 1), [(1, .d (.int .u32 o)), (2, st n), (4, .ptr 0 []), (8, .ptr 1 []), (12, .ptr 3 []), (13, .row 6), (14, bo false), (40, .d (.sl 7 (tks ts))), (41, i64 (((tks ts).length : Nat) : Int)), (42, i64 ((j + 1 : Nat) : Int))], [0, 1, 2, 3, 6], by omega, ⟨rfl, rfl, rfl, rfl, rfl, rfl, rfl, rfl, rfl, congrArg (fun z => some (i64 z)) e3, trivial⟩, ?_⟩
            conv => whnf
            refine ⟨j + 1, false, out ++ [⟨ao, an, a1, a2, a3, a4, a5⟩], ⟨by rw [if_neg (by decide), List.append_assoc]; exact h1, by rw [List.length_append]; first | (show _ + 1 ≤ _; omega) | (show _ + 2 ≤ _; omega), by omega⟩, rfl, rfl, ?_⟩
            exact congrArg (fun z => [Blk.var (.d (Pu.d ⟨ts, hs⟩)), .var (.d (.agg [.sl 7 [], .sl 4 []])), .var (.d tk0.d), .var (.d (Tk.d ⟨o, n, k, 0, 0, 0, 0⟩)), .row 52 7 z]) (ea ⟨ao, an, a1, a2, a3, a4, a5⟩)
      · have h4 := of_decide_eq_false h4
        rw [hlt'] at h4
        obtain rfl : j = ts.length := by omega
        rw [List.drop_length, insP] at h1
        have ea : ∀ x : Tk, tks out ++ [x.d] = tks (out ++ [x]) := fun x => by unfold tks; rw [List.map_append]; rfl
        conv => whnf
        cases dn with
        | true =>
          rw [if_pos rfl, List.append_nil] at h1
          conv => whnf
          rw [← h1]
          exact ⟨rfl, rfl⟩
        | false =>
          rw [if_neg (by decide)] at h1
          conv => whnf
          refine ⟨⟨Nat.succ_pos _, by show ((tks out).length + 1) * (64 + 1) ≤ _; omega⟩, ?_⟩
          conv => whnf
          rw [← h1]
          exact ⟨congrArg (fun z => AV.tup [.d (.agg [.sl 7 z, .sl 4 (hds hs)]), i64 0]) (ea ⟨o, n, k, 0, 0, 0, 0⟩), rfl⟩

theorem minus_c {a b : Int} (ha : U a) (hb : U b) : CallR cx 70 [u64 a, u64 b] [] fun r S => r = u64 (if a < b then 0 else a - b) ∧ S = [] := by
  obtain ⟨ha1, ha2⟩ := ha
  obtain ⟨hb1, hb2⟩ := hb
  refine callR_of (R := R1) cx_ok Tryz.func70 (by kernel_rfl) rfl ?_
  conv => whnf
  by_cases c : b > a
  · rw [if_pos (by omega)]
    refine brT (decide_eq_true c) ?_
    conv => whnf
    exact ⟨rfl, rfl⟩
  · rw [if_neg (by omega)]
    refine brF (decide_eq_false c) ?_
    conv => whnf
    rw [Go.Ab.wrap64]
    exact ⟨congrArg u64 (by omega), rfl⟩

theorem rout_c {t : Tk} (ht : t.ok) : CallR cx 41 [.d t.d] [] fun r S => r = .tup [u64 (outM t), u64 (outL t)] ∧ S = [] := by
  have s1 := minus_c ht.2.2.2.1 ht.2.2.2.2.1
  have s2 := minus_c ht.2.1 ht.2.2.1
  obtain ⟨o, n, a, b, c, d, e⟩ := t
  unfold outM outL
  simp only at s1 s2 ⊢
  generalize (if d < e then (0 : Int) else d - e) = X at *
  generalize (if b < c then (0 : Int) else b - c) = Y at *
  refine callR_of (R := R1) cx_ok Tryz.func41 (by kernel_rfl) rfl ?_
  conv => whnf
  refine ⟨by kernel_rfl, ?_⟩
  conv => whnf
  refine ⟨_, s1, ?_⟩
  conv => whnf
  refine ⟨_, s2, ?_⟩
  conv => whnf
  refine ⟨by kernel_rfl, ?_⟩
  conv => whnf
  exact ⟨rfl, rfl⟩
end Go.Proofs.YtmdfpifcghmpfaaGreatDoor
