/- Purses, the model's: walks, from the contracts of what they call; the program's Move. Purses, the model's: what is taken, granted, moved, locked, unlocked, minted, burned; the program's Move. Purses: what both do. -/
import Derived.Test.YtmdfpifcghmpfaaDoorV1
import Derived.Test.YtmdfpifcghmpfaaDoorQC
set_option linter.unusedVariables false
namespace Go.Proofs.YtmdfpifcghmpfaaDoor
open Go.Ab Go.RowKit

theorem less_no {T H : List D} {o k : Int} {n w : ByteArray} {to a b c d e x : Int} {tn : ByteArray}
    (kn : CallR cx 120 [.d (.agg [.sl 7 T, .sl 4 H]), .d (.int .u32 o), st n] [] fun r S => r = .tup [.d (.agg [.int .u32 to, .str tn, .int .u64 a, .int .u64 b, .int .u64 c, .int .u64 d, .int .u64 e]), bo false] ∧ S = []) :
    CallR cx 125 [.d (.agg [.sl 7 T, .sl 4 H]), .d (.int .u32 o), st n, st w, u64 k] [] fun r S => r = .tup [.d (.agg [.sl 7 T, .sl 4 H]), i64 40] ∧ S = [] := by
  refine callR_of (R := R1) cx_ok Tryd.func125 (by kernel_rfl) rfl ?_
  conv => whnf
  refine ⟨_, kn, ?_⟩
  rintro _ _ ⟨rfl, rfl⟩
  conv => whnf
  exact ⟨rfl, rfl⟩

theorem less_er {T H : List D} {o k : Int} {n w : ByteArray} {to a b c d e x : Int} {tn : ByteArray} {v : Int}
    (kn : CallR cx 120 [.d (.agg [.sl 7 T, .sl 4 H]), .d (.int .u32 o), st n] [] fun r S => r = .tup [.d (.agg [.int .u32 to, .str tn, .int .u64 a, .int .u64 b, .int .u64 c, .int .u64 d, .int .u64 e]), bo true] ∧ S = [])
    (hv : CallR cx 122 [.d (.agg [.sl 7 T, .sl 4 H]), .d (.int .u32 o), st n, st w] [] fun r S => r = u64 v ∧ S = [])
    (hv1 : v < k) :
    CallR cx 125 [.d (.agg [.sl 7 T, .sl 4 H]), .d (.int .u32 o), st n, st w, u64 k] [] fun r S => r = .tup [.d (.agg [.sl 7 T, .sl 4 H]), i64 11] ∧ S = [] := by
  refine callR_of (R := R1) cx_ok Tryd.func125 (by kernel_rfl) rfl ?_
  conv => whnf
  refine ⟨_, kn, ?_⟩
  rintro _ _ ⟨rfl, rfl⟩
  conv => whnf
  refine ⟨_, hv, ?_⟩
  rintro _ _ ⟨rfl, rfl⟩
  conv => whnf
  refine brT (decide_eq_true hv1) ?_
  conv => whnf
  exact ⟨rfl, rfl⟩

theorem less_ok {T H T2 H2 : List D} {o k : Int} {n w : ByteArray} {to a b c d e x : Int} {tn : ByteArray} {v : Int}
    (kn : CallR cx 120 [.d (.agg [.sl 7 T, .sl 4 H]), .d (.int .u32 o), st n] [] fun r S => r = .tup [.d (.agg [.int .u32 to, .str tn, .int .u64 a, .int .u64 b, .int .u64 c, .int .u64 d, .int .u64 e]), bo true] ∧ S = [])
    (hv : CallR cx 122 [.d (.agg [.sl 7 T, .sl 4 H]), .d (.int .u32 o), st n, st w] [] fun r S => r = u64 v ∧ S = [])
    (hv1 : ¬ v < k)
    (ho : CallR cx 123 [.d (.agg [.sl 7 T, .sl 4 H]), .d (.int .u32 o), st n, st w, u64 (IntKind.u64.wrap (v - k))] [] fun r S => r = .d (.agg [.sl 7 T2, .sl 4 H2]) ∧ S = []) :
    CallR cx 125 [.d (.agg [.sl 7 T, .sl 4 H]), .d (.int .u32 o), st n, st w, u64 k] [] fun r S => r = .tup [.d (.agg [.sl 7 T2, .sl 4 H2]), i64 0] ∧ S = [] := by
  refine callR_of (R := R1) cx_ok Tryd.func125 (by kernel_rfl) rfl ?_
  conv => whnf
  refine ⟨_, kn, ?_⟩
  rintro _ _ ⟨rfl, rfl⟩
  conv => whnf
  refine ⟨_, hv, ?_⟩
  rintro _ _ ⟨rfl, rfl⟩
  conv => whnf
  refine brF (decide_eq_false hv1) ?_
  conv => whnf
  refine ⟨_, ho, ?_⟩
  rintro _ _ ⟨rfl, rfl⟩
  conv => whnf
  exact ⟨rfl, rfl⟩

theorem rgrant_no {T H : List D} {o k : Int} {n w : ByteArray} {to a b c d e x : Int} {tn : ByteArray}
    (kn : CallR cx 120 [.d (.agg [.sl 7 T, .sl 4 H]), .d (.int .u32 o), st n] [] fun r S => r = .tup [.d (.agg [.int .u32 to, .str tn, .int .u64 a, .int .u64 b, .int .u64 c, .int .u64 d, .int .u64 e]), bo false] ∧ S = []) :
    CallR cx 84 [.d (.agg [.sl 7 T, .sl 4 H]), .d (.int .u32 o), st n, st w, u64 k] [] fun r S => r = .tup [.d (.agg [.sl 7 T, .sl 4 H]), i64 40] ∧ S = [] := by
  refine callR_of (R := R1) cx_ok Tryd.func84 (by kernel_rfl) rfl ?_
  conv => whnf
  refine ⟨_, kn, ?_⟩
  rintro _ _ ⟨rfl, rfl⟩
  conv => whnf
  exact ⟨rfl, rfl⟩

theorem rgrant_nm {T H : List D} {o k : Int} {n w : ByteArray} {to a b c d e x : Int} {tn : ByteArray}
    (kn : CallR cx 120 [.d (.agg [.sl 7 T, .sl 4 H]), .d (.int .u32 o), st n] [] fun r S => r = .tup [.d (.agg [.int .u32 to, .str tn, .int .u64 a, .int .u64 b, .int .u64 c, .int .u64 d, .int .u64 e]), bo true] ∧ S = [])
    (rn : CallR cx 75 [st w] [] fun r S => r = bo false ∧ S = []) :
    CallR cx 84 [.d (.agg [.sl 7 T, .sl 4 H]), .d (.int .u32 o), st n, st w, u64 k] [] fun r S => r = .tup [.d (.agg [.sl 7 T, .sl 4 H]), i64 7] ∧ S = [] := by
  refine callR_of (R := R1) cx_ok Tryd.func84 (by kernel_rfl) rfl ?_
  conv => whnf
  refine ⟨_, kn, ?_⟩
  rintro _ _ ⟨rfl, rfl⟩
  conv => whnf
  refine ⟨_, rn, ?_⟩
  rintro _ _ ⟨rfl, rfl⟩
  conv => whnf
  exact ⟨rfl, rfl⟩

theorem rgrant_er {T H : List D} {o k : Int} {n w : ByteArray} {to a b c d e x : Int} {tn : ByteArray} {v : Int}
    (kn : CallR cx 120 [.d (.agg [.sl 7 T, .sl 4 H]), .d (.int .u32 o), st n] [] fun r S => r = .tup [.d (.agg [.int .u32 to, .str tn, .int .u64 a, .int .u64 b, .int .u64 c, .int .u64 d, .int .u64 e]), bo true] ∧ S = [])
    (rn : CallR cx 75 [st w] [] fun r S => r = bo true ∧ S = [])
    (hv : CallR cx 122 [.d (.agg [.sl 7 T, .sl 4 H]), .d (.int .u32 o), st n, st w] [] fun r S => r = u64 v ∧ S = [])
    (ad : CallR cx 112 [u64 v, u64 k] [] fun r S => r = .tup [u64 x, i64 10] ∧ S = []) :
    CallR cx 84 [.d (.agg [.sl 7 T, .sl 4 H]), .d (.int .u32 o), st n, st w, u64 k] [] fun r S => r = .tup [.d (.agg [.sl 7 T, .sl 4 H]), i64 10] ∧ S = [] := by
  refine callR_of (R := R1) cx_ok Tryd.func84 (by kernel_rfl) rfl ?_
  conv => whnf
  refine ⟨_, kn, ?_⟩
  rintro _ _ ⟨rfl, rfl⟩
  conv => whnf
  refine ⟨_, rn, ?_⟩
  rintro _ _ ⟨rfl, rfl⟩
  conv => whnf
  refine ⟨_, hv, ?_⟩
  rintro _ _ ⟨rfl, rfl⟩
  conv => whnf
  refine ⟨_, ad, ?_⟩
  rintro _ _ ⟨rfl, rfl⟩
  conv => whnf
  exact ⟨rfl, rfl⟩

theorem rgrant_ok {T H T2 H2 : List D} {o k : Int} {n w : ByteArray} {to a b c d e x : Int} {tn : ByteArray} {v : Int}
    (kn : CallR cx 120 [.d (.agg [.sl 7 T, .sl 4 H]), .d (.int .u32 o), st n] [] fun r S => r = .tup [.d (.agg [.int .u32 to, .str tn, .int .u64 a, .int .u64 b, .int .u64 c, .int .u64 d, .int .u64 e]), bo true] ∧ S = [])
    (rn : CallR cx 75 [st w] [] fun r S => r = bo true ∧ S = [])
    (hv : CallR cx 122 [.d (.agg [.sl 7 T, .sl 4 H]), .d (.int .u32 o), st n, st w] [] fun r S => r = u64 v ∧ S = [])
    (ad : CallR cx 112 [u64 v, u64 k] [] fun r S => r = .tup [u64 x, i64 0] ∧ S = [])
    (ho : CallR cx 123 [.d (.agg [.sl 7 T, .sl 4 H]), .d (.int .u32 o), st n, st w, u64 x] [] fun r S => r = .d (.agg [.sl 7 T2, .sl 4 H2]) ∧ S = []) :
    CallR cx 84 [.d (.agg [.sl 7 T, .sl 4 H]), .d (.int .u32 o), st n, st w, u64 k] [] fun r S => r = .tup [.d (.agg [.sl 7 T2, .sl 4 H2]), i64 0] ∧ S = [] := by
  refine callR_of (R := R1) cx_ok Tryd.func84 (by kernel_rfl) rfl ?_
  conv => whnf
  refine ⟨_, kn, ?_⟩
  rintro _ _ ⟨rfl, rfl⟩
  conv => whnf
  refine ⟨_, rn, ?_⟩
  rintro _ _ ⟨rfl, rfl⟩
  conv => whnf
  refine ⟨_, hv, ?_⟩
  rintro _ _ ⟨rfl, rfl⟩
  conv => whnf
  refine ⟨_, ad, ?_⟩
  rintro _ _ ⟨rfl, rfl⟩
  conv => whnf
  refine ⟨_, ho, ?_⟩
  rintro _ _ ⟨rfl, rfl⟩
  conv => whnf
  exact ⟨rfl, rfl⟩

theorem rmove_no {T H T2 H2 : List D} {o k : Int} {n w w2 : ByteArray} {e : Int} (he : e ≠ 0)
    (le : CallR cx 125 [.d (.agg [.sl 7 T, .sl 4 H]), .d (.int .u32 o), st n, st w, u64 k] [] fun r S => r = .tup [.d (.agg [.sl 7 T2, .sl 4 H2]), i64 e] ∧ S = []) :
    CallR cx 86 [.d (.agg [.sl 7 T, .sl 4 H]), .d (.int .u32 o), st n, st w, st w2, u64 k] [] fun r S => r = .tup [.d (.agg [.sl 7 T, .sl 4 H]), i64 e] ∧ S = [] := by
  refine callR_of (R := R1) cx_ok Tryd.func86 (by kernel_rfl) rfl ?_
  conv => whnf
  refine ⟨_, le, ?_⟩
  rintro _ _ ⟨rfl, rfl⟩
  conv => whnf
  refine brT (bne_iff_ne.2 he) ?_
  conv => whnf
  exact ⟨rfl, rfl⟩

theorem rmove_ge {T H T2 H2 T3 H3 : List D} {o k : Int} {n w w2 : ByteArray} {e : Int} (he : e ≠ 0)
    (le : CallR cx 125 [.d (.agg [.sl 7 T, .sl 4 H]), .d (.int .u32 o), st n, st w, u64 k] [] fun r S => r = .tup [.d (.agg [.sl 7 T2, .sl 4 H2]), i64 0] ∧ S = [])
    (gr : CallR cx 84 [.d (.agg [.sl 7 T2, .sl 4 H2]), .d (.int .u32 o), st n, st w2, u64 k] [] fun r S => r = .tup [.d (.agg [.sl 7 T3, .sl 4 H3]), i64 e] ∧ S = []) :
    CallR cx 86 [.d (.agg [.sl 7 T, .sl 4 H]), .d (.int .u32 o), st n, st w, st w2, u64 k] [] fun r S => r = .tup [.d (.agg [.sl 7 T, .sl 4 H]), i64 e] ∧ S = [] := by
  refine callR_of (R := R1) cx_ok Tryd.func86 (by kernel_rfl) rfl ?_
  conv => whnf
  refine ⟨_, le, ?_⟩
  rintro _ _ ⟨rfl, rfl⟩
  conv => whnf
  refine ⟨_, gr, ?_⟩
  rintro _ _ ⟨rfl, rfl⟩
  conv => whnf
  refine brT (bne_iff_ne.2 he) ?_
  conv => whnf
  exact ⟨rfl, rfl⟩

theorem rmove_eq {T H T2 H2 T3 H3 : List D} {o k : Int} {n w w2 : ByteArray} (le : CallR cx 125 [.d (.agg [.sl 7 T, .sl 4 H]), .d (.int .u32 o), st n, st w, u64 k] [] fun r S => r = .tup [.d (.agg [.sl 7 T2, .sl 4 H2]), i64 0] ∧ S = [])
    (gr : CallR cx 84 [.d (.agg [.sl 7 T2, .sl 4 H2]), .d (.int .u32 o), st n, st w2, u64 k] [] fun r S => r = .tup [.d (.agg [.sl 7 T3, .sl 4 H3]), i64 0] ∧ S = [])
    (hq : w = w2) :
    CallR cx 86 [.d (.agg [.sl 7 T, .sl 4 H]), .d (.int .u32 o), st n, st w, st w2, u64 k] [] fun r S => r = .tup [.d (.agg [.sl 7 T, .sl 4 H]), i64 0] ∧ S = [] := by
  refine callR_of (R := R1) cx_ok Tryd.func86 (by kernel_rfl) rfl ?_
  conv => whnf
  refine ⟨_, le, ?_⟩
  rintro _ _ ⟨rfl, rfl⟩
  conv => whnf
  refine ⟨_, gr, ?_⟩
  rintro _ _ ⟨rfl, rfl⟩
  conv => whnf
  refine brT (decide_eq_true hq) ?_
  conv => whnf
  exact ⟨rfl, rfl⟩

theorem rmove_ok {T H T2 H2 T3 H3 : List D} {o k : Int} {n w w2 : ByteArray} (le : CallR cx 125 [.d (.agg [.sl 7 T, .sl 4 H]), .d (.int .u32 o), st n, st w, u64 k] [] fun r S => r = .tup [.d (.agg [.sl 7 T2, .sl 4 H2]), i64 0] ∧ S = [])
    (gr : CallR cx 84 [.d (.agg [.sl 7 T2, .sl 4 H2]), .d (.int .u32 o), st n, st w2, u64 k] [] fun r S => r = .tup [.d (.agg [.sl 7 T3, .sl 4 H3]), i64 0] ∧ S = [])
    (hq : ¬ w = w2) :
    CallR cx 86 [.d (.agg [.sl 7 T, .sl 4 H]), .d (.int .u32 o), st n, st w, st w2, u64 k] [] fun r S => r = .tup [.d (.agg [.sl 7 T3, .sl 4 H3]), i64 0] ∧ S = [] := by
  refine callR_of (R := R1) cx_ok Tryd.func86 (by kernel_rfl) rfl ?_
  conv => whnf
  refine ⟨_, le, ?_⟩
  rintro _ _ ⟨rfl, rfl⟩
  conv => whnf
  refine ⟨_, gr, ?_⟩
  rintro _ _ ⟨rfl, rfl⟩
  conv => whnf
  refine brF (decide_eq_false hq) ?_
  conv => whnf
  exact ⟨rfl, rfl⟩

theorem move_no {T H T2 H2 : List D} {o k : Int} {n w w2 : ByteArray} {e : Int} (he : e ≠ 0)
    (le : CallR cx 81 [.d (.agg [.sl 7 T, .sl 4 H]), .d (.int .u32 o), st n, st w, u64 k] [] fun r S => r = .tup [.d (.agg [.sl 7 T2, .sl 4 H2]), i64 e] ∧ S = []) :
    CallR cx 85 [.d (.agg [.sl 7 T, .sl 4 H]), .d (.int .u32 o), st n, st w, st w2, u64 k] [] fun r S => r = .tup [.d (.agg [.sl 7 T, .sl 4 H]), i64 e] ∧ S = [] := by
  refine callR_of (R := R1) cx_ok Tryd.func85 (by kernel_rfl) rfl ?_
  conv => whnf
  refine ⟨_, le, ?_⟩
  rintro _ _ ⟨rfl, rfl⟩
  conv => whnf
  refine brF (beq_eq_false_iff_ne.2 he) ?_
  conv => whnf
  refine brT (bne_iff_ne.2 he) ?_
  conv => whnf
  exact ⟨rfl, rfl⟩

theorem move_ge {T H T2 H2 T3 H3 : List D} {o k : Int} {n w w2 : ByteArray} {e : Int} (he : e ≠ 0)
    (le : CallR cx 81 [.d (.agg [.sl 7 T, .sl 4 H]), .d (.int .u32 o), st n, st w, u64 k] [] fun r S => r = .tup [.d (.agg [.sl 7 T2, .sl 4 H2]), i64 0] ∧ S = [])
    (gr : CallR cx 44 [.d (.agg [.sl 7 T2, .sl 4 H2]), .d (.int .u32 o), st n, st w2, u64 k] [] fun r S => r = .tup [.d (.agg [.sl 7 T3, .sl 4 H3]), i64 e] ∧ S = []) :
    CallR cx 85 [.d (.agg [.sl 7 T, .sl 4 H]), .d (.int .u32 o), st n, st w, st w2, u64 k] [] fun r S => r = .tup [.d (.agg [.sl 7 T, .sl 4 H]), i64 e] ∧ S = [] := by
  refine callR_of (R := R1) cx_ok Tryd.func85 (by kernel_rfl) rfl ?_
  conv => whnf
  refine ⟨_, le, ?_⟩
  rintro _ _ ⟨rfl, rfl⟩
  conv => whnf
  refine ⟨_, gr, ?_⟩
  rintro _ _ ⟨rfl, rfl⟩
  conv => whnf
  refine brT (bne_iff_ne.2 he) ?_
  conv => whnf
  exact ⟨rfl, rfl⟩

theorem move_eq {T H T2 H2 T3 H3 : List D} {o k : Int} {n w w2 : ByteArray} (le : CallR cx 81 [.d (.agg [.sl 7 T, .sl 4 H]), .d (.int .u32 o), st n, st w, u64 k] [] fun r S => r = .tup [.d (.agg [.sl 7 T2, .sl 4 H2]), i64 0] ∧ S = [])
    (gr : CallR cx 44 [.d (.agg [.sl 7 T2, .sl 4 H2]), .d (.int .u32 o), st n, st w2, u64 k] [] fun r S => r = .tup [.d (.agg [.sl 7 T3, .sl 4 H3]), i64 0] ∧ S = [])
    (hq : w = w2)
    (tw : CallR cx 124 [.d (.agg [.sl 7 T, .sl 4 H])] [] fun r S => r = .d (.agg [.sl 7 T, .sl 4 H]) ∧ S = []) :
    CallR cx 85 [.d (.agg [.sl 7 T, .sl 4 H]), .d (.int .u32 o), st n, st w, st w2, u64 k] [] fun r S => r = .tup [.d (.agg [.sl 7 T, .sl 4 H]), i64 0] ∧ S = [] := by
  refine callR_of (R := R1) cx_ok Tryd.func85 (by kernel_rfl) rfl ?_
  conv => whnf
  refine ⟨_, le, ?_⟩
  rintro _ _ ⟨rfl, rfl⟩
  conv => whnf
  refine ⟨_, gr, ?_⟩
  rintro _ _ ⟨rfl, rfl⟩
  conv => whnf
  refine brT (decide_eq_true hq) ?_
  conv => whnf
  refine ⟨_, tw, ?_⟩
  rintro _ _ ⟨rfl, rfl⟩
  conv => whnf
  exact ⟨rfl, rfl⟩

theorem move_ok {T H T2 H2 T3 H3 : List D} {o k : Int} {n w w2 : ByteArray} (le : CallR cx 81 [.d (.agg [.sl 7 T, .sl 4 H]), .d (.int .u32 o), st n, st w, u64 k] [] fun r S => r = .tup [.d (.agg [.sl 7 T2, .sl 4 H2]), i64 0] ∧ S = [])
    (gr : CallR cx 44 [.d (.agg [.sl 7 T2, .sl 4 H2]), .d (.int .u32 o), st n, st w2, u64 k] [] fun r S => r = .tup [.d (.agg [.sl 7 T3, .sl 4 H3]), i64 0] ∧ S = [])
    (hq : ¬ w = w2) :
    CallR cx 85 [.d (.agg [.sl 7 T, .sl 4 H]), .d (.int .u32 o), st n, st w, st w2, u64 k] [] fun r S => r = .tup [.d (.agg [.sl 7 T3, .sl 4 H3]), i64 0] ∧ S = [] := by
  refine callR_of (R := R1) cx_ok Tryd.func85 (by kernel_rfl) rfl ?_
  conv => whnf
  refine ⟨_, le, ?_⟩
  rintro _ _ ⟨rfl, rfl⟩
  conv => whnf
  refine ⟨_, gr, ?_⟩
  rintro _ _ ⟨rfl, rfl⟩
  conv => whnf
  refine brF (decide_eq_false hq) ?_
  conv => whnf
  exact ⟨rfl, rfl⟩

theorem rlock_no {T H T2 H2 : List D} {o k : Int} {n w : ByteArray} {e : Int} (he : e ≠ 0)
    (le : CallR cx 125 [.d (.agg [.sl 7 T, .sl 4 H]), .d (.int .u32 o), st n, st w, u64 k] [] fun r S => r = .tup [.d (.agg [.sl 7 T2, .sl 4 H2]), i64 e] ∧ S = []) :
    CallR cx 87 [.d (.agg [.sl 7 T, .sl 4 H]), .d (.int .u32 o), st n, st w, u64 k] [] fun r S => r = .tup [.d (.agg [.sl 7 T, .sl 4 H]), i64 e] ∧ S = [] := by
  refine callR_of (R := R1) cx_ok Tryd.func87 (by kernel_rfl) rfl ?_
  conv => whnf
  refine ⟨_, le, ?_⟩
  rintro _ _ ⟨rfl, rfl⟩
  conv => whnf
  refine brT (bne_iff_ne.2 he) ?_
  conv => whnf
  exact ⟨rfl, rfl⟩

theorem rlock_er {T H T2 H2 : List D} {o k : Int} {n w : ByteArray} {to a b c d e x : Int} {tn : ByteArray} {f : Bool}
    (le : CallR cx 125 [.d (.agg [.sl 7 T, .sl 4 H]), .d (.int .u32 o), st n, st w, u64 k] [] fun r S => r = .tup [.d (.agg [.sl 7 T2, .sl 4 H2]), i64 0] ∧ S = [])
    (kn : CallR cx 120 [.d (.agg [.sl 7 T, .sl 4 H]), .d (.int .u32 o), st n] [] fun r S => r = .tup [.d (.agg [.int .u32 to, .str tn, .int .u64 a, .int .u64 b, .int .u64 c, .int .u64 d, .int .u64 e]), bo f] ∧ S = [])
    (ad : CallR cx 112 [u64 b, u64 k] [] fun r S => r = .tup [u64 x, i64 10] ∧ S = []) :
    CallR cx 87 [.d (.agg [.sl 7 T, .sl 4 H]), .d (.int .u32 o), st n, st w, u64 k] [] fun r S => r = .tup [.d (.agg [.sl 7 T, .sl 4 H]), i64 10] ∧ S = [] := by
  refine callR_of (R := R1) cx_ok Tryd.func87 (by kernel_rfl) rfl ?_
  conv => whnf
  refine ⟨_, le, ?_⟩
  rintro _ _ ⟨rfl, rfl⟩
  conv => whnf
  refine ⟨_, kn, ?_⟩
  rintro _ _ ⟨rfl, rfl⟩
  conv => whnf
  refine ⟨_, ad, ?_⟩
  rintro _ _ ⟨rfl, rfl⟩
  conv => whnf
  exact ⟨rfl, rfl⟩

theorem rlock_ok {T H T2 H2 T3 H3 : List D} {o k : Int} {n w : ByteArray} {to a b c d e x : Int} {tn : ByteArray} {f : Bool}
    (le : CallR cx 125 [.d (.agg [.sl 7 T, .sl 4 H]), .d (.int .u32 o), st n, st w, u64 k] [] fun r S => r = .tup [.d (.agg [.sl 7 T2, .sl 4 H2]), i64 0] ∧ S = [])
    (kn : CallR cx 120 [.d (.agg [.sl 7 T, .sl 4 H]), .d (.int .u32 o), st n] [] fun r S => r = .tup [.d (.agg [.int .u32 to, .str tn, .int .u64 a, .int .u64 b, .int .u64 c, .int .u64 d, .int .u64 e]), bo f] ∧ S = [])
    (ad : CallR cx 112 [u64 b, u64 k] [] fun r S => r = .tup [u64 x, i64 0] ∧ S = [])
    (se : CallR cx 126 [.d (.agg [.sl 7 T2, .sl 4 H2]), .d (.agg [.int .u32 to, .str tn, .int .u64 a, .int .u64 x, .int .u64 c, .int .u64 d, .int .u64 e])] [] fun r S => r = .d (.agg [.sl 7 T3, .sl 4 H3]) ∧ S = []) :
    CallR cx 87 [.d (.agg [.sl 7 T, .sl 4 H]), .d (.int .u32 o), st n, st w, u64 k] [] fun r S => r = .tup [.d (.agg [.sl 7 T3, .sl 4 H3]), i64 0] ∧ S = [] := by
  refine callR_of (R := R1) cx_ok Tryd.func87 (by kernel_rfl) rfl ?_
  conv => whnf
  refine ⟨_, le, ?_⟩
  rintro _ _ ⟨rfl, rfl⟩
  conv => whnf
  refine ⟨_, kn, ?_⟩
  rintro _ _ ⟨rfl, rfl⟩
  conv => whnf
  refine ⟨_, ad, ?_⟩
  rintro _ _ ⟨rfl, rfl⟩
  conv => whnf
  refine ⟨_, se, ?_⟩
  rintro _ _ ⟨rfl, rfl⟩
  conv => whnf
  exact ⟨rfl, rfl⟩

theorem rburn_no {T H T2 H2 : List D} {o k : Int} {n w : ByteArray} {e : Int} (he : e ≠ 0)
    (le : CallR cx 125 [.d (.agg [.sl 7 T, .sl 4 H]), .d (.int .u32 o), st n, st w, u64 k] [] fun r S => r = .tup [.d (.agg [.sl 7 T2, .sl 4 H2]), i64 e] ∧ S = []) :
    CallR cx 90 [.d (.agg [.sl 7 T, .sl 4 H]), .d (.int .u32 o), st n, st w, u64 k] [] fun r S => r = .tup [.d (.agg [.sl 7 T, .sl 4 H]), i64 e] ∧ S = [] := by
  refine callR_of (R := R1) cx_ok Tryd.func90 (by kernel_rfl) rfl ?_
  conv => whnf
  refine ⟨_, le, ?_⟩
  rintro _ _ ⟨rfl, rfl⟩
  conv => whnf
  refine brT (bne_iff_ne.2 he) ?_
  conv => whnf
  exact ⟨rfl, rfl⟩

theorem rburn_er {T H T2 H2 : List D} {o k : Int} {n w : ByteArray} {to a b c d e x : Int} {tn : ByteArray} {f : Bool}
    (le : CallR cx 125 [.d (.agg [.sl 7 T, .sl 4 H]), .d (.int .u32 o), st n, st w, u64 k] [] fun r S => r = .tup [.d (.agg [.sl 7 T2, .sl 4 H2]), i64 0] ∧ S = [])
    (kn : CallR cx 120 [.d (.agg [.sl 7 T, .sl 4 H]), .d (.int .u32 o), st n] [] fun r S => r = .tup [.d (.agg [.int .u32 to, .str tn, .int .u64 a, .int .u64 b, .int .u64 c, .int .u64 d, .int .u64 e]), bo f] ∧ S = [])
    (ad : CallR cx 112 [u64 e, u64 k] [] fun r S => r = .tup [u64 x, i64 10] ∧ S = []) :
    CallR cx 90 [.d (.agg [.sl 7 T, .sl 4 H]), .d (.int .u32 o), st n, st w, u64 k] [] fun r S => r = .tup [.d (.agg [.sl 7 T, .sl 4 H]), i64 10] ∧ S = [] := by
  refine callR_of (R := R1) cx_ok Tryd.func90 (by kernel_rfl) rfl ?_
  conv => whnf
  refine ⟨_, le, ?_⟩
  rintro _ _ ⟨rfl, rfl⟩
  conv => whnf
  refine ⟨_, kn, ?_⟩
  rintro _ _ ⟨rfl, rfl⟩
  conv => whnf
  refine ⟨_, ad, ?_⟩
  rintro _ _ ⟨rfl, rfl⟩
  conv => whnf
  exact ⟨rfl, rfl⟩

theorem rburn_ok {T H T2 H2 T3 H3 : List D} {o k : Int} {n w : ByteArray} {to a b c d e x : Int} {tn : ByteArray} {f : Bool}
    (le : CallR cx 125 [.d (.agg [.sl 7 T, .sl 4 H]), .d (.int .u32 o), st n, st w, u64 k] [] fun r S => r = .tup [.d (.agg [.sl 7 T2, .sl 4 H2]), i64 0] ∧ S = [])
    (kn : CallR cx 120 [.d (.agg [.sl 7 T, .sl 4 H]), .d (.int .u32 o), st n] [] fun r S => r = .tup [.d (.agg [.int .u32 to, .str tn, .int .u64 a, .int .u64 b, .int .u64 c, .int .u64 d, .int .u64 e]), bo f] ∧ S = [])
    (ad : CallR cx 112 [u64 e, u64 k] [] fun r S => r = .tup [u64 x, i64 0] ∧ S = [])
    (se : CallR cx 126 [.d (.agg [.sl 7 T2, .sl 4 H2]), .d (.agg [.int .u32 to, .str tn, .int .u64 a, .int .u64 b, .int .u64 c, .int .u64 d, .int .u64 x])] [] fun r S => r = .d (.agg [.sl 7 T3, .sl 4 H3]) ∧ S = []) :
    CallR cx 90 [.d (.agg [.sl 7 T, .sl 4 H]), .d (.int .u32 o), st n, st w, u64 k] [] fun r S => r = .tup [.d (.agg [.sl 7 T3, .sl 4 H3]), i64 0] ∧ S = [] := by
  refine callR_of (R := R1) cx_ok Tryd.func90 (by kernel_rfl) rfl ?_
  conv => whnf
  refine ⟨_, le, ?_⟩
  rintro _ _ ⟨rfl, rfl⟩
  conv => whnf
  refine ⟨_, kn, ?_⟩
  rintro _ _ ⟨rfl, rfl⟩
  conv => whnf
  refine ⟨_, ad, ?_⟩
  rintro _ _ ⟨rfl, rfl⟩
  conv => whnf
  refine ⟨_, se, ?_⟩
  rintro _ _ ⟨rfl, rfl⟩
  conv => whnf
  exact ⟨rfl, rfl⟩

theorem runlock_no {T H : List D} {o k : Int} {n w : ByteArray} {to a b c d e x : Int} {tn : ByteArray}
    (kn : CallR cx 120 [.d (.agg [.sl 7 T, .sl 4 H]), .d (.int .u32 o), st n] [] fun r S => r = .tup [.d (.agg [.int .u32 to, .str tn, .int .u64 a, .int .u64 b, .int .u64 c, .int .u64 d, .int .u64 e]), bo false] ∧ S = []) :
    CallR cx 88 [.d (.agg [.sl 7 T, .sl 4 H]), .d (.int .u32 o), st n, st w, u64 k] [] fun r S => r = .tup [.d (.agg [.sl 7 T, .sl 4 H]), i64 40] ∧ S = [] := by
  refine callR_of (R := R1) cx_ok Tryd.func88 (by kernel_rfl) rfl ?_
  conv => whnf
  refine ⟨_, kn, ?_⟩
  rintro _ _ ⟨rfl, rfl⟩
  conv => whnf
  exact ⟨rfl, rfl⟩

theorem runlock_un {T H : List D} {o k : Int} {n w : ByteArray} {to a b c d e x : Int} {tn : ByteArray} {mi lo : Int}
    (kn : CallR cx 120 [.d (.agg [.sl 7 T, .sl 4 H]), .d (.int .u32 o), st n] [] fun r S => r = .tup [.d (.agg [.int .u32 to, .str tn, .int .u64 a, .int .u64 b, .int .u64 c, .int .u64 d, .int .u64 e]), bo true] ∧ S = [])
    (ou : CallR cx 127 [.d (.agg [.int .u32 to, .str tn, .int .u64 a, .int .u64 b, .int .u64 c, .int .u64 d, .int .u64 e])] [] fun r S => r = .tup [u64 mi, u64 lo] ∧ S = [])
    (hlo : lo < k) :
    CallR cx 88 [.d (.agg [.sl 7 T, .sl 4 H]), .d (.int .u32 o), st n, st w, u64 k] [] fun r S => r = .tup [.d (.agg [.sl 7 T, .sl 4 H]), i64 11] ∧ S = [] := by
  refine callR_of (R := R1) cx_ok Tryd.func88 (by kernel_rfl) rfl ?_
  conv => whnf
  refine ⟨_, kn, ?_⟩
  rintro _ _ ⟨rfl, rfl⟩
  conv => whnf
  refine ⟨_, ou, ?_⟩
  rintro _ _ ⟨rfl, rfl⟩
  conv => whnf
  refine brT (decide_eq_true hlo) ?_
  conv => whnf
  exact ⟨rfl, rfl⟩

theorem runlock_er {T H : List D} {o k : Int} {n w : ByteArray} {to a b c d e x : Int} {tn : ByteArray} {mi lo : Int}
    (kn : CallR cx 120 [.d (.agg [.sl 7 T, .sl 4 H]), .d (.int .u32 o), st n] [] fun r S => r = .tup [.d (.agg [.int .u32 to, .str tn, .int .u64 a, .int .u64 b, .int .u64 c, .int .u64 d, .int .u64 e]), bo true] ∧ S = [])
    (ou : CallR cx 127 [.d (.agg [.int .u32 to, .str tn, .int .u64 a, .int .u64 b, .int .u64 c, .int .u64 d, .int .u64 e])] [] fun r S => r = .tup [u64 mi, u64 lo] ∧ S = [])
    (hlo : ¬ lo < k)
    (ad : CallR cx 112 [u64 c, u64 k] [] fun r S => r = .tup [u64 x, i64 10] ∧ S = []) :
    CallR cx 88 [.d (.agg [.sl 7 T, .sl 4 H]), .d (.int .u32 o), st n, st w, u64 k] [] fun r S => r = .tup [.d (.agg [.sl 7 T, .sl 4 H]), i64 10] ∧ S = [] := by
  refine callR_of (R := R1) cx_ok Tryd.func88 (by kernel_rfl) rfl ?_
  conv => whnf
  refine ⟨_, kn, ?_⟩
  rintro _ _ ⟨rfl, rfl⟩
  conv => whnf
  refine ⟨_, ou, ?_⟩
  rintro _ _ ⟨rfl, rfl⟩
  conv => whnf
  refine brF (decide_eq_false hlo) ?_
  conv => whnf
  refine ⟨_, ad, ?_⟩
  rintro _ _ ⟨rfl, rfl⟩
  conv => whnf
  exact ⟨rfl, rfl⟩

theorem runlock_ge {T H T2 H2 : List D} {o k : Int} {n w : ByteArray} {to a b c d e x : Int} {tn : ByteArray} {mi lo : Int} {e9 : Int} (he : e9 ≠ 0)
    (kn : CallR cx 120 [.d (.agg [.sl 7 T, .sl 4 H]), .d (.int .u32 o), st n] [] fun r S => r = .tup [.d (.agg [.int .u32 to, .str tn, .int .u64 a, .int .u64 b, .int .u64 c, .int .u64 d, .int .u64 e]), bo true] ∧ S = [])
    (ou : CallR cx 127 [.d (.agg [.int .u32 to, .str tn, .int .u64 a, .int .u64 b, .int .u64 c, .int .u64 d, .int .u64 e])] [] fun r S => r = .tup [u64 mi, u64 lo] ∧ S = [])
    (hlo : ¬ lo < k)
    (ad : CallR cx 112 [u64 c, u64 k] [] fun r S => r = .tup [u64 x, i64 0] ∧ S = [])
    (gr : CallR cx 84 [.d (.agg [.sl 7 T, .sl 4 H]), .d (.int .u32 o), st n, st w, u64 k] [] fun r S => r = .tup [.d (.agg [.sl 7 T2, .sl 4 H2]), i64 e9] ∧ S = []) :
    CallR cx 88 [.d (.agg [.sl 7 T, .sl 4 H]), .d (.int .u32 o), st n, st w, u64 k] [] fun r S => r = .tup [.d (.agg [.sl 7 T, .sl 4 H]), i64 e9] ∧ S = [] := by
  refine callR_of (R := R1) cx_ok Tryd.func88 (by kernel_rfl) rfl ?_
  conv => whnf
  refine ⟨_, kn, ?_⟩
  rintro _ _ ⟨rfl, rfl⟩
  conv => whnf
  refine ⟨_, ou, ?_⟩
  rintro _ _ ⟨rfl, rfl⟩
  conv => whnf
  refine brF (decide_eq_false hlo) ?_
  conv => whnf
  refine ⟨_, ad, ?_⟩
  rintro _ _ ⟨rfl, rfl⟩
  conv => whnf
  refine ⟨_, gr, ?_⟩
  rintro _ _ ⟨rfl, rfl⟩
  conv => whnf
  refine brT (bne_iff_ne.2 he) ?_
  conv => whnf
  exact ⟨rfl, rfl⟩

theorem runlock_ok {T H T2 H2 T3 H3 : List D} {o k : Int} {n w : ByteArray} {to a b c d e x : Int} {tn : ByteArray} {mi lo : Int}
    (kn : CallR cx 120 [.d (.agg [.sl 7 T, .sl 4 H]), .d (.int .u32 o), st n] [] fun r S => r = .tup [.d (.agg [.int .u32 to, .str tn, .int .u64 a, .int .u64 b, .int .u64 c, .int .u64 d, .int .u64 e]), bo true] ∧ S = [])
    (ou : CallR cx 127 [.d (.agg [.int .u32 to, .str tn, .int .u64 a, .int .u64 b, .int .u64 c, .int .u64 d, .int .u64 e])] [] fun r S => r = .tup [u64 mi, u64 lo] ∧ S = [])
    (hlo : ¬ lo < k)
    (ad : CallR cx 112 [u64 c, u64 k] [] fun r S => r = .tup [u64 x, i64 0] ∧ S = [])
    (gr : CallR cx 84 [.d (.agg [.sl 7 T, .sl 4 H]), .d (.int .u32 o), st n, st w, u64 k] [] fun r S => r = .tup [.d (.agg [.sl 7 T2, .sl 4 H2]), i64 0] ∧ S = [])
    (se : CallR cx 126 [.d (.agg [.sl 7 T2, .sl 4 H2]), .d (.agg [.int .u32 to, .str tn, .int .u64 a, .int .u64 b, .int .u64 x, .int .u64 d, .int .u64 e])] [] fun r S => r = .d (.agg [.sl 7 T3, .sl 4 H3]) ∧ S = []) :
    CallR cx 88 [.d (.agg [.sl 7 T, .sl 4 H]), .d (.int .u32 o), st n, st w, u64 k] [] fun r S => r = .tup [.d (.agg [.sl 7 T3, .sl 4 H3]), i64 0] ∧ S = [] := by
  refine callR_of (R := R1) cx_ok Tryd.func88 (by kernel_rfl) rfl ?_
  conv => whnf
  refine ⟨_, kn, ?_⟩
  rintro _ _ ⟨rfl, rfl⟩
  conv => whnf
  refine ⟨_, ou, ?_⟩
  rintro _ _ ⟨rfl, rfl⟩
  conv => whnf
  refine brF (decide_eq_false hlo) ?_
  conv => whnf
  refine ⟨_, ad, ?_⟩
  rintro _ _ ⟨rfl, rfl⟩
  conv => whnf
  refine ⟨_, gr, ?_⟩
  rintro _ _ ⟨rfl, rfl⟩
  conv => whnf
  refine ⟨_, se, ?_⟩
  rintro _ _ ⟨rfl, rfl⟩
  conv => whnf
  exact ⟨rfl, rfl⟩

theorem rmint_no {T H : List D} {o k : Int} {n w : ByteArray} {to a b c d e x : Int} {tn : ByteArray}
    (kn : CallR cx 120 [.d (.agg [.sl 7 T, .sl 4 H]), .d (.int .u32 o), st n] [] fun r S => r = .tup [.d (.agg [.int .u32 to, .str tn, .int .u64 a, .int .u64 b, .int .u64 c, .int .u64 d, .int .u64 e]), bo false] ∧ S = []) :
    CallR cx 89 [.d (.agg [.sl 7 T, .sl 4 H]), .d (.int .u32 o), st n, st w, u64 k] [] fun r S => r = .tup [.d (.agg [.sl 7 T, .sl 4 H]), i64 40] ∧ S = [] := by
  refine callR_of (R := R1) cx_ok Tryd.func89 (by kernel_rfl) rfl ?_
  conv => whnf
  refine ⟨_, kn, ?_⟩
  rintro _ _ ⟨rfl, rfl⟩
  conv => whnf
  exact ⟨rfl, rfl⟩

theorem rmint_er {T H : List D} {o k : Int} {n w : ByteArray} {to a b c d e x : Int} {tn : ByteArray} {mi lo : Int}
    (kn : CallR cx 120 [.d (.agg [.sl 7 T, .sl 4 H]), .d (.int .u32 o), st n] [] fun r S => r = .tup [.d (.agg [.int .u32 to, .str tn, .int .u64 a, .int .u64 b, .int .u64 c, .int .u64 d, .int .u64 e]), bo true] ∧ S = [])
    (ou : CallR cx 127 [.d (.agg [.int .u32 to, .str tn, .int .u64 a, .int .u64 b, .int .u64 c, .int .u64 d, .int .u64 e])] [] fun r S => r = .tup [u64 mi, u64 lo] ∧ S = [])
    (ad : CallR cx 112 [u64 d, u64 k] [] fun r S => r = .tup [u64 x, i64 10] ∧ S = []) :
    CallR cx 89 [.d (.agg [.sl 7 T, .sl 4 H]), .d (.int .u32 o), st n, st w, u64 k] [] fun r S => r = .tup [.d (.agg [.sl 7 T, .sl 4 H]), i64 10] ∧ S = [] := by
  refine callR_of (R := R1) cx_ok Tryd.func89 (by kernel_rfl) rfl ?_
  conv => whnf
  refine ⟨_, kn, ?_⟩
  rintro _ _ ⟨rfl, rfl⟩
  conv => whnf
  refine ⟨_, ou, ?_⟩
  rintro _ _ ⟨rfl, rfl⟩
  conv => whnf
  refine ⟨_, ad, ?_⟩
  rintro _ _ ⟨rfl, rfl⟩
  conv => whnf
  exact ⟨rfl, rfl⟩

theorem rmint_c1 {T H : List D} {o k : Int} {n w : ByteArray} {to a b c d e x : Int} {tn : ByteArray} {mi lo : Int}
    (kn : CallR cx 120 [.d (.agg [.sl 7 T, .sl 4 H]), .d (.int .u32 o), st n] [] fun r S => r = .tup [.d (.agg [.int .u32 to, .str tn, .int .u64 a, .int .u64 b, .int .u64 c, .int .u64 d, .int .u64 e]), bo true] ∧ S = [])
    (ou : CallR cx 127 [.d (.agg [.int .u32 to, .str tn, .int .u64 a, .int .u64 b, .int .u64 c, .int .u64 d, .int .u64 e])] [] fun r S => r = .tup [u64 mi, u64 lo] ∧ S = [])
    (ad : CallR cx 112 [u64 d, u64 k] [] fun r S => r = .tup [u64 x, i64 0] ∧ S = [])
    (h1 : mi > a) :
    CallR cx 89 [.d (.agg [.sl 7 T, .sl 4 H]), .d (.int .u32 o), st n, st w, u64 k] [] fun r S => r = .tup [.d (.agg [.sl 7 T, .sl 4 H]), i64 12] ∧ S = [] := by
  refine callR_of (R := R1) cx_ok Tryd.func89 (by kernel_rfl) rfl ?_
  conv => whnf
  refine ⟨_, kn, ?_⟩
  rintro _ _ ⟨rfl, rfl⟩
  conv => whnf
  refine ⟨_, ou, ?_⟩
  rintro _ _ ⟨rfl, rfl⟩
  conv => whnf
  refine ⟨_, ad, ?_⟩
  rintro _ _ ⟨rfl, rfl⟩
  conv => whnf
  refine brT (decide_eq_true h1) ?_
  conv => whnf
  exact ⟨rfl, rfl⟩

theorem rmint_c2 {T H : List D} {o k : Int} {n w : ByteArray} {to a b c d e x : Int} {tn : ByteArray} {mi lo : Int}
    (kn : CallR cx 120 [.d (.agg [.sl 7 T, .sl 4 H]), .d (.int .u32 o), st n] [] fun r S => r = .tup [.d (.agg [.int .u32 to, .str tn, .int .u64 a, .int .u64 b, .int .u64 c, .int .u64 d, .int .u64 e]), bo true] ∧ S = [])
    (ou : CallR cx 127 [.d (.agg [.int .u32 to, .str tn, .int .u64 a, .int .u64 b, .int .u64 c, .int .u64 d, .int .u64 e])] [] fun r S => r = .tup [u64 mi, u64 lo] ∧ S = [])
    (ad : CallR cx 112 [u64 d, u64 k] [] fun r S => r = .tup [u64 x, i64 0] ∧ S = [])
    (h1 : ¬ mi > a) (h2 : k > IntKind.u64.wrap (a - mi)) :
    CallR cx 89 [.d (.agg [.sl 7 T, .sl 4 H]), .d (.int .u32 o), st n, st w, u64 k] [] fun r S => r = .tup [.d (.agg [.sl 7 T, .sl 4 H]), i64 12] ∧ S = [] := by
  refine callR_of (R := R1) cx_ok Tryd.func89 (by kernel_rfl) rfl ?_
  conv => whnf
  refine ⟨_, kn, ?_⟩
  rintro _ _ ⟨rfl, rfl⟩
  conv => whnf
  refine ⟨_, ou, ?_⟩
  rintro _ _ ⟨rfl, rfl⟩
  conv => whnf
  refine ⟨_, ad, ?_⟩
  rintro _ _ ⟨rfl, rfl⟩
  conv => whnf
  refine brF (decide_eq_false h1) ?_
  conv => whnf
  refine brT (decide_eq_true h2) ?_
  conv => whnf
  exact ⟨rfl, rfl⟩

theorem rmint_ge {T H T2 H2 : List D} {o k : Int} {n w : ByteArray} {to a b c d e x : Int} {tn : ByteArray} {mi lo : Int} {e9 : Int} (he : e9 ≠ 0)
    (kn : CallR cx 120 [.d (.agg [.sl 7 T, .sl 4 H]), .d (.int .u32 o), st n] [] fun r S => r = .tup [.d (.agg [.int .u32 to, .str tn, .int .u64 a, .int .u64 b, .int .u64 c, .int .u64 d, .int .u64 e]), bo true] ∧ S = [])
    (ou : CallR cx 127 [.d (.agg [.int .u32 to, .str tn, .int .u64 a, .int .u64 b, .int .u64 c, .int .u64 d, .int .u64 e])] [] fun r S => r = .tup [u64 mi, u64 lo] ∧ S = [])
    (ad : CallR cx 112 [u64 d, u64 k] [] fun r S => r = .tup [u64 x, i64 0] ∧ S = [])
    (h1 : ¬ mi > a) (h2 : ¬ k > IntKind.u64.wrap (a - mi))
    (gr : CallR cx 84 [.d (.agg [.sl 7 T, .sl 4 H]), .d (.int .u32 o), st n, st w, u64 k] [] fun r S => r = .tup [.d (.agg [.sl 7 T2, .sl 4 H2]), i64 e9] ∧ S = []) :
    CallR cx 89 [.d (.agg [.sl 7 T, .sl 4 H]), .d (.int .u32 o), st n, st w, u64 k] [] fun r S => r = .tup [.d (.agg [.sl 7 T, .sl 4 H]), i64 e9] ∧ S = [] := by
  refine callR_of (R := R1) cx_ok Tryd.func89 (by kernel_rfl) rfl ?_
  conv => whnf
  refine ⟨_, kn, ?_⟩
  rintro _ _ ⟨rfl, rfl⟩
  conv => whnf
  refine ⟨_, ou, ?_⟩
  rintro _ _ ⟨rfl, rfl⟩
  conv => whnf
  refine ⟨_, ad, ?_⟩
  rintro _ _ ⟨rfl, rfl⟩
  conv => whnf
  refine brF (decide_eq_false h1) ?_
  conv => whnf
  refine brF (decide_eq_false h2) ?_
  conv => whnf
  refine ⟨_, gr, ?_⟩
  rintro _ _ ⟨rfl, rfl⟩
  conv => whnf
  refine brT (bne_iff_ne.2 he) ?_
  conv => whnf
  exact ⟨rfl, rfl⟩

theorem rmint_ok {T H T2 H2 T3 H3 : List D} {o k : Int} {n w : ByteArray} {to a b c d e x : Int} {tn : ByteArray} {mi lo : Int}
    (kn : CallR cx 120 [.d (.agg [.sl 7 T, .sl 4 H]), .d (.int .u32 o), st n] [] fun r S => r = .tup [.d (.agg [.int .u32 to, .str tn, .int .u64 a, .int .u64 b, .int .u64 c, .int .u64 d, .int .u64 e]), bo true] ∧ S = [])
    (ou : CallR cx 127 [.d (.agg [.int .u32 to, .str tn, .int .u64 a, .int .u64 b, .int .u64 c, .int .u64 d, .int .u64 e])] [] fun r S => r = .tup [u64 mi, u64 lo] ∧ S = [])
    (ad : CallR cx 112 [u64 d, u64 k] [] fun r S => r = .tup [u64 x, i64 0] ∧ S = [])
    (h1 : ¬ mi > a) (h2 : ¬ k > IntKind.u64.wrap (a - mi))
    (gr : CallR cx 84 [.d (.agg [.sl 7 T, .sl 4 H]), .d (.int .u32 o), st n, st w, u64 k] [] fun r S => r = .tup [.d (.agg [.sl 7 T2, .sl 4 H2]), i64 0] ∧ S = [])
    (se : CallR cx 126 [.d (.agg [.sl 7 T2, .sl 4 H2]), .d (.agg [.int .u32 to, .str tn, .int .u64 a, .int .u64 b, .int .u64 c, .int .u64 x, .int .u64 e])] [] fun r S => r = .d (.agg [.sl 7 T3, .sl 4 H3]) ∧ S = []) :
    CallR cx 89 [.d (.agg [.sl 7 T, .sl 4 H]), .d (.int .u32 o), st n, st w, u64 k] [] fun r S => r = .tup [.d (.agg [.sl 7 T3, .sl 4 H3]), i64 0] ∧ S = [] := by
  refine callR_of (R := R1) cx_ok Tryd.func89 (by kernel_rfl) rfl ?_
  conv => whnf
  refine ⟨_, kn, ?_⟩
  rintro _ _ ⟨rfl, rfl⟩
  conv => whnf
  refine ⟨_, ou, ?_⟩
  rintro _ _ ⟨rfl, rfl⟩
  conv => whnf
  refine ⟨_, ad, ?_⟩
  rintro _ _ ⟨rfl, rfl⟩
  conv => whnf
  refine brF (decide_eq_false h1) ?_
  conv => whnf
  refine brF (decide_eq_false h2) ?_
  conv => whnf
  refine ⟨_, gr, ?_⟩
  rintro _ _ ⟨rfl, rfl⟩
  conv => whnf
  refine ⟨_, se, ?_⟩
  rintro _ _ ⟨rfl, rfl⟩
  conv => whnf
  exact ⟨rfl, rfl⟩

end Go.Proofs.YtmdfpifcghmpfaaDoor

set_option linter.unusedVariables false
namespace Go.Proofs.YtmdfpifcghmpfaaDoor
open Go.Ab Go.RowKit

section
variable {p : Pu} {o k : Int} {n w : ByteArray} (hp : p.ok) (hn : n.size ≤ 200) (hw : w.size ≤ 200) (hk : U k)
include hp hn hw hk

theorem less_cc : CallR cx 125 [.d p.d, .d (.int .u32 o), st n, st w, u64 k] [] fun r S => r = .tup [.d (takeP p o n w k).1.d, i64 (takeP p o n w k).2] ∧ S = [] := by
  have kc := rknown_c (o := o) (n := n) hp
  have hv := rheld_c (o := o) (n := n) (w := w) hp
  have hU := heldV_U hp o n w
  unfold knownP at kc
  unfold takeP
  cases hx : lookP (tkP o n) p.toks with
  | none =>
    rw [hx] at kc
    exact less_no (x := 0) kc
  | some t =>
    rw [hx] at kc
    simp only
    by_cases c : heldV p o n w < k
    · rw [if_pos c]
      exact less_er (x := 0) kc hv c
    · rw [if_neg c]
      have hq : U (heldV p o n w - k) := by unfold U at *; omega
      refine less_ok (x := 0) kc hv c ?_
      rw [wrapU hq]
      exact hold_c hp hn hw hq

theorem rgrant_cc : CallR cx 84 [.d p.d, .d (.int .u32 o), st n, st w, u64 k] [] fun r S => r = .tup [.d (grantP p o n w k).1.d, i64 (grantP p o n w k).2] ∧ S = [] := by
  have kc := rknown_c (o := o) (n := n) hp
  have hv := rheld_c (o := o) (n := n) (w := w) hp
  have hU := heldV_U hp o n w
  have ad := radd_c hU hk
  have rn := rright_c (s := w) (by omega)
  unfold knownP at kc
  unfold grantP
  cases hx : lookP (tkP o n) p.toks with
  | none =>
    rw [hx] at kc
    exact rgrant_no (x := 0) kc
  | some t =>
    rw [hx] at kc
    simp only
    cases hr : rightT w with
    | false =>
      rw [hr] at rn
      rw [if_pos rfl]
      exact rgrant_nm (x := 0) kc rn
    | true =>
      rw [hr] at rn
      rw [if_neg (by decide)]
      by_cases c : heldV p o n w + k < 18446744073709551616
      · rw [if_pos c, if_pos c] at ad
        rw [if_pos c]
        exact rgrant_ok kc rn hv ad (hold_c hp hn hw (by unfold U at *; omega))
      · rw [if_neg c, if_neg c] at ad
        rw [if_neg c]
        exact rgrant_er kc rn hv ad
end

theorem ptwin_c {p : Pu} (hp : p.ok) : CallR cx 124 [.d p.d] [] fun r S => r = .d p.d ∧ S = [] := by
  have c1 := cloneT_c (l := p.toks) hp.nt
  have c2 := cloneH_c (l := p.holds) hp.nh
  obtain ⟨ts, hs⟩ := p
  simp only at c1 c2
  refine callR_of (R := R1) cx_ok Tryd.func124 (by kernel_rfl) rfl ?_
  conv => whnf
  refine ⟨by kernel_rfl, ?_⟩
  conv => whnf
  refine ⟨_, _, _, c1, ?_⟩
  conv => whnf
  refine ⟨_, _, _, c2, ?_⟩
  conv => whnf
  refine ⟨by kernel_rfl, ?_⟩
  conv => whnf
  exact ⟨rfl, rfl⟩

def moveP (p : Pu) (o : Int) (n a b : ByteArray) (k : Int) : Pu × Int :=
  if (takeP p o n a k).2 ≠ 0 then (p, (takeP p o n a k).2)
  else if (grantP (takeP p o n a k).1 o n b k).2 ≠ 0 then (p, (grantP (takeP p o n a k).1 o n b k).2)
  else if a = b then (p, 0) else ((grantP (takeP p o n a k).1 o n b k).1, 0)

section
variable {p : Pu} {N : Nat} {o k : Int} {n w w2 : ByteArray} (hp : p.fine N) (hN : N ≤ 99999) (hn : n.size ≤ 200) (hw : w.size ≤ 200) (hk : U k)
include hp hN hn hw hk

theorem move_cc (hw2 : w2.size ≤ 200) : CallR cx 85 [.d p.d, .d (.int .u32 o), st n, st w, st w2, u64 k] [] fun r S => r = .tup [.d (moveP p o n w w2 k).1.d, i64 (moveP p o n w w2 k).2] ∧ S = [] := by
  have hpo := hp.ok (by omega)
  have tk := take_cc (o := o) (n := n) (w := w) (k := k) hpo hn hw hk
  have hq := takeP_fine (o := o) (n := n) (w := w) (k := k) hp (by omega) hn hw hk
  have gr := grant_cc (o := o) (n := n) (w := w2) (k := k) (hq.ok (by omega)) hn hw2 hk
  unfold moveP
  generalize takeP p o n w k = Q at *
  obtain ⟨Q, e⟩ := Q
  simp only at tk gr ⊢
  by_cases he : e = 0
  · subst he
    rw [if_neg (by simp)]
    generalize grantP Q o n w2 k = R at *
    obtain ⟨R, e⟩ := R
    simp only at gr ⊢
    by_cases he : e = 0
    · subst he
      rw [if_neg (by simp)]
      by_cases c : w = w2
      · rw [if_pos c]
        exact move_eq tk gr c (ptwin_c hpo)
      · rw [if_neg c]
        exact move_ok tk gr c
    · rw [if_pos he]
      exact move_ge he tk gr
  · rw [if_pos he]
    exact move_no he tk

theorem rmove_cc (hw2 : w2.size ≤ 200) : CallR cx 86 [.d p.d, .d (.int .u32 o), st n, st w, st w2, u64 k] [] fun r S => r = .tup [.d (moveP p o n w w2 k).1.d, i64 (moveP p o n w w2 k).2] ∧ S = [] := by
  have hpo := hp.ok (by omega)
  have tk := less_cc (o := o) (n := n) (w := w) (k := k) hpo hn hw hk
  have hq := takeP_fine (o := o) (n := n) (w := w) (k := k) hp (by omega) hn hw hk
  have gr := rgrant_cc (o := o) (n := n) (w := w2) (k := k) (hq.ok (by omega)) hn hw2 hk
  unfold moveP
  generalize takeP p o n w k = Q at *
  obtain ⟨Q, e⟩ := Q
  simp only at tk gr ⊢
  by_cases he : e = 0
  · subst he
    rw [if_neg (by simp)]
    generalize grantP Q o n w2 k = R at *
    obtain ⟨R, e⟩ := R
    simp only at gr ⊢
    by_cases he : e = 0
    · subst he
      rw [if_neg (by simp)]
      by_cases c : w = w2
      · rw [if_pos c]
        exact rmove_eq tk gr c
      · rw [if_neg c]
        exact rmove_ok tk gr c
    · rw [if_pos he]
      exact rmove_ge he tk gr
  · rw [if_pos he]
    exact rmove_no he tk

theorem rlock_cc : CallR cx 87 [.d p.d, .d (.int .u32 o), st n, st w, u64 k] [] fun r S => r = .tup [.d (lockP p o n w k).1.d, i64 (lockP p o n w k).2] ∧ S = [] := by
  have hpo := hp.ok (by omega)
  have le := less_cc (o := o) (n := n) (w := w) (k := k) hpo hn hw hk
  have kc := rknown_c (o := o) (n := n) hpo
  have hq := takeP_fine (o := o) (n := n) (w := w) (k := k) hp (by omega) hn hw hk
  have hqt := takeP_toks p o n w k
  have hno : lookP (tkP o n) p.toks = none → (takeP p o n w k).2 = 40 := fun h => by unfold takeP; rw [h]
  unfold knownP at kc
  unfold lockP
  generalize takeP p o n w k = Q at *
  obtain ⟨⟨qt, qh⟩, e⟩ := Q
  simp only at le hq hqt hno ⊢
  subst hqt
  by_cases he : e = 0
  · subst he
    rw [if_neg (by simp)]
    cases hx : lookP (tkP o n) p.toks with
    | none => exact absurd (hno hx) (by decide)
    | some t =>
      rw [hx] at kc
      simp only at kc ⊢
      obtain ⟨hm, hkey⟩ := lookP_mem hx
      have ht := hp.t _ hm
      obtain ⟨to, tn, a, b, c, d, e⟩ := t
      obtain ⟨rfl, rfl⟩ := tkP_iff.1 hkey
      have ad := radd_c ht.2.1 hk
      simp only at ad kc ⊢
      by_cases q : b + k < 18446744073709551616
      · rw [if_pos q, if_pos q] at ad
        rw [if_pos q]
        exact rlock_ok le kc ad (pset_c (b := ⟨to, tn, a, b + k, c, d, e⟩) (hq.ok (by omega)))
      · rw [if_neg q, if_neg q] at ad
        rw [if_neg q]
        exact rlock_er le kc ad
  · rw [if_pos he]
    exact rlock_no he le

theorem rburn_cc : CallR cx 90 [.d p.d, .d (.int .u32 o), st n, st w, u64 k] [] fun r S => r = .tup [.d (burnP p o n w k).1.d, i64 (burnP p o n w k).2] ∧ S = [] := by
  have hpo := hp.ok (by omega)
  have le := less_cc (o := o) (n := n) (w := w) (k := k) hpo hn hw hk
  have kc := rknown_c (o := o) (n := n) hpo
  have hq := takeP_fine (o := o) (n := n) (w := w) (k := k) hp (by omega) hn hw hk
  have hqt := takeP_toks p o n w k
  have hno : lookP (tkP o n) p.toks = none → (takeP p o n w k).2 = 40 := fun h => by unfold takeP; rw [h]
  unfold knownP at kc
  unfold burnP
  generalize takeP p o n w k = Q at *
  obtain ⟨⟨qt, qh⟩, e⟩ := Q
  simp only at le hq hqt hno ⊢
  subst hqt
  by_cases he : e = 0
  · subst he
    rw [if_neg (by simp)]
    cases hx : lookP (tkP o n) p.toks with
    | none => exact absurd (hno hx) (by decide)
    | some t =>
      rw [hx] at kc
      simp only at kc ⊢
      obtain ⟨hm, hkey⟩ := lookP_mem hx
      have ht := hp.t _ hm
      obtain ⟨to, tn, a, b, c, d, e⟩ := t
      obtain ⟨rfl, rfl⟩ := tkP_iff.1 hkey
      have ad := radd_c ht.2.2.2.2.1 hk
      simp only at ad kc ⊢
      by_cases q : e + k < 18446744073709551616
      · rw [if_pos q, if_pos q] at ad
        rw [if_pos q]
        exact rburn_ok le kc ad (pset_c (b := ⟨to, tn, a, b, c, d, e + k⟩) (hq.ok (by omega)))
      · rw [if_neg q, if_neg q] at ad
        rw [if_neg q]
        exact rburn_er le kc ad
  · rw [if_pos he]
    exact rburn_no he le

theorem runlock_cc : CallR cx 88 [.d p.d, .d (.int .u32 o), st n, st w, u64 k] [] fun r S => r = .tup [.d (unlockP p o n w k).1.d, i64 (unlockP p o n w k).2] ∧ S = [] := by
  have hpo := hp.ok (by omega)
  have gr := rgrant_cc (o := o) (n := n) (w := w) (k := k) hpo hn hw hk
  have kc := rknown_c (o := o) (n := n) hpo
  have hq := grantP_fine (o := o) (n := n) (w := w) (k := k) hp (by omega) hn hw hk
  have hqt := grantP_toks p o n w k
  unfold knownP at kc
  unfold unlockP
  generalize grantP p o n w k = Q at *
  obtain ⟨⟨qt, qh⟩, e9⟩ := Q
  simp only at gr hq hqt ⊢
  subst hqt
  cases hx : lookP (tkP o n) p.toks with
  | none =>
    rw [hx] at kc
    exact runlock_no (x := 0) kc
  | some t =>
    rw [hx] at kc
    simp only at kc ⊢
    obtain ⟨hm, hkey⟩ := lookP_mem hx
    have ht := hp.t _ hm
    have ou := rout_c ht
    have ad := radd_c ht.2.2.1 hk
    generalize hmi : outM t = mi at *
    generalize hlo : outL t = lo at *
    obtain ⟨to, tn, a, b, c, d, e⟩ := t
    obtain ⟨rfl, rfl⟩ := tkP_iff.1 hkey
    simp only at ad kc ou ⊢
    by_cases c0 : lo < k
    · rw [if_pos c0]
      exact runlock_un (x := 0) kc ou c0
    rw [if_neg c0]
    by_cases q : c + k < 18446744073709551616
    · rw [if_pos q, if_pos q] at ad
      rw [if_pos q]
      by_cases he : e9 = 0
      · subst he
        rw [if_neg (by simp)]
        exact runlock_ok kc ou c0 ad gr (pset_c (b := ⟨to, tn, a, b, c + k, d, e⟩) (hq.ok (by omega)))
      · rw [if_pos he]
        exact runlock_ge he kc ou c0 ad gr
    · rw [if_neg q, if_neg q] at ad
      rw [if_neg q]
      exact runlock_er kc ou c0 ad

theorem rmint_cc : CallR cx 89 [.d p.d, .d (.int .u32 o), st n, st w, u64 k] [] fun r S => r = .tup [.d (mintP p o n w k).1.d, i64 (mintP p o n w k).2] ∧ S = [] := by
  have hpo := hp.ok (by omega)
  have gr := rgrant_cc (o := o) (n := n) (w := w) (k := k) hpo hn hw hk
  have kc := rknown_c (o := o) (n := n) hpo
  have hq := grantP_fine (o := o) (n := n) (w := w) (k := k) hp (by omega) hn hw hk
  have hqt := grantP_toks p o n w k
  unfold knownP at kc
  unfold mintP
  generalize grantP p o n w k = Q at *
  obtain ⟨⟨qt, qh⟩, e9⟩ := Q
  simp only at gr hq hqt ⊢
  subst hqt
  cases hx : lookP (tkP o n) p.toks with
  | none =>
    rw [hx] at kc
    exact rmint_no (x := 0) kc
  | some t =>
    rw [hx] at kc
    simp only at kc ⊢
    obtain ⟨hm, hkey⟩ := lookP_mem hx
    have ht := hp.t _ hm
    have ou := rout_c ht
    have hmU := outM_U ht
    have ad := radd_c ht.2.2.2.1 hk
    generalize hmi : outM t = mi at *
    generalize hlo : outL t = lo at *
    obtain ⟨to, tn, a, b, c, d, e⟩ := t
    obtain ⟨rfl, rfl⟩ := tkP_iff.1 hkey
    have haU : U a := ht.1
    simp only at ad kc ou ⊢
    by_cases q : d + k < 18446744073709551616
    · rw [if_pos q, if_pos q] at ad
      rw [if_pos q]
      by_cases c1 : mi > a
      · have : (if mi + k < 18446744073709551616 then if mi + k > a then (p, (12 : Int)) else if e9 ≠ 0 then (p, e9) else (⟨putP (tkP to tn) p.toks ⟨to, tn, a, b, c, d + k, e⟩, qh⟩, 0) else (p, 12)) = (p, 12) := by
          split
          · rw [if_pos (by unfold U at *; omega)]
          · rfl
        rw [this]
        exact rmint_c1 kc ou ad c1
      · have hwr : IntKind.u64.wrap (a - mi) = a - mi := wrapU (by unfold U at *; omega)
        by_cases c2 : k > a - mi
        · have : (if mi + k < 18446744073709551616 then if mi + k > a then (p, (12 : Int)) else if e9 ≠ 0 then (p, e9) else (⟨putP (tkP to tn) p.toks ⟨to, tn, a, b, c, d + k, e⟩, qh⟩, 0) else (p, 12)) = (p, 12) := by
            split
            · rw [if_pos (by omega)]
            · rfl
          rw [this]
          exact rmint_c2 kc ou ad c1 (by rw [hwr]; exact c2)
        · rw [if_pos (by unfold U at *; omega), if_neg (by omega)]
          by_cases he : e9 = 0
          · subst he
            rw [if_neg (by simp)]
            exact rmint_ok kc ou ad c1 (by rw [hwr]; exact c2) gr (pset_c (b := ⟨to, tn, a, b, c, d + k, e⟩) (hq.ok (by omega)))
          · rw [if_pos he]
            exact rmint_ge he kc ou ad c1 (by rw [hwr]; exact c2) gr
    · rw [if_neg q, if_neg q] at ad
      rw [if_neg q]
      exact rmint_er kc ou ad
end
end Go.Proofs.YtmdfpifcghmpfaaDoor

set_option linter.unusedVariables false
namespace Go.Proofs.YtmdfpifcghmpfaaDoor
open Go.Ab Go.RowKit

def doP (p : Pu) (q o : Int) (n a b : ByteArray) (k : Int) : Pu × Int :=
  if q = 0 then enlistP p o n k else if q = 1 ∨ q = -1 then grantP p o n a k else if q = 2 ∨ q = -2 then moveP p o n a b k else if q = 3 ∨ q = -3 then lockP p o n a k else if q = 4 ∨ q = -4 then unlockP p o n a k else if q = 5 ∨ q = -5 then mintP p o n a k else if q = 6 ∨ q = -6 then burnP p o n a k else (p, 0)

theorem pdo_c {p : Pu} {N : Nat} {d o k : Int} {n a b : ByteArray} (hp : p.fine N) (hN : N ≤ 99999) (hn : n.size ≤ 200) (ha : a.size ≤ 200) (hb : b.size ≤ 200) (hk : U k) :
    CallR cx 38 [.d p.d, .d p.d, .d (actP d o n a b k)] [] fun r S => r = .tup [.d (doP p (Int.tmod d 8) o n a b k).1.d, .d (doP p (Int.tmod d 8) o n a b k).1.d, i64 (doP p (Int.tmod d 8) o n a b k).2, bo true] ∧ S = [] := by
  have hpo := hp.ok (by omega)
  have hpd : ∃ x, x = p.d := ⟨_, rfl⟩
  refine callR_of (R := R1) cx_ok Tryd.func38 (by kernel_rfl) rfl ?_
  conv => whnf
  refine ⟨by decide, ?_⟩
  generalize Int.tmod d 8 = q
  have hcase : (q = 0 ∨ q = 1 ∨ q = -1 ∨ q = 2 ∨ q = -2 ∨ q = 3 ∨ q = -3 ∨ q = 4 ∨ q = -4 ∨ q = 5 ∨ q = -5 ∨ q = 6 ∨ q = -6) ∨ (q ≠ 0 ∧ q ≠ 1 ∧ q ≠ -1 ∧ q ≠ 2 ∧ q ≠ -2 ∧ q ≠ 3 ∧ q ≠ -3 ∧ q ≠ 4 ∧ q ≠ -4 ∧ q ≠ 5 ∧ q ≠ -5 ∧ q ≠ 6 ∧ q ≠ -6) := by omega
  rcases hcase with (rfl | rfl | rfl | rfl | rfl | rfl | rfl | rfl | rfl | rfl | rfl | rfl | rfl) | hne
  · conv => whnf
    refine ⟨_, enlist_c hpo hn, ?_⟩
    rintro _ _ ⟨rfl, rfl⟩
    conv => whnf
    refine ⟨_, renlist_c hpo hn, ?_⟩
    rintro _ _ ⟨rfl, rfl⟩
    conv => whnf
    refine ⟨by kernel_rfl, ?_⟩
    conv => whnf
    refine ⟨by kernel_rfl, ?_⟩
    conv => whnf
    refine ⟨?_, rfl⟩
    show AV.tup [_, _, _, bo (decide (_ = _))] = _
    rw [decide_eq_true rfl]
    rfl
  · conv => whnf
    refine ⟨_, grant_cc hpo hn ha hk, ?_⟩
    rintro _ _ ⟨rfl, rfl⟩
    conv => whnf
    refine ⟨_, rgrant_cc hpo hn ha hk, ?_⟩
    rintro _ _ ⟨rfl, rfl⟩
    conv => whnf
    refine ⟨by kernel_rfl, ?_⟩
    conv => whnf
    refine ⟨by kernel_rfl, ?_⟩
    conv => whnf
    refine ⟨?_, rfl⟩
    show AV.tup [_, _, _, bo (decide (_ = _))] = _
    rw [decide_eq_true rfl]
    rfl
  · conv => whnf
    refine ⟨_, grant_cc hpo hn ha hk, ?_⟩
    rintro _ _ ⟨rfl, rfl⟩
    conv => whnf
    refine ⟨_, rgrant_cc hpo hn ha hk, ?_⟩
    rintro _ _ ⟨rfl, rfl⟩
    conv => whnf
    refine ⟨by kernel_rfl, ?_⟩
    conv => whnf
    refine ⟨by kernel_rfl, ?_⟩
    conv => whnf
    refine ⟨?_, rfl⟩
    show AV.tup [_, _, _, bo (decide (_ = _))] = _
    rw [decide_eq_true rfl]
    rfl
  · conv => whnf
    refine ⟨_, move_cc hp hN hn ha hk hb, ?_⟩
    rintro _ _ ⟨rfl, rfl⟩
    conv => whnf
    refine ⟨_, rmove_cc hp hN hn ha hk hb, ?_⟩
    rintro _ _ ⟨rfl, rfl⟩
    conv => whnf
    refine ⟨by kernel_rfl, ?_⟩
    conv => whnf
    refine ⟨by kernel_rfl, ?_⟩
    conv => whnf
    refine ⟨?_, rfl⟩
    show AV.tup [_, _, _, bo (decide (_ = _))] = _
    rw [decide_eq_true rfl]
    rfl
  · conv => whnf
    refine ⟨_, move_cc hp hN hn ha hk hb, ?_⟩
    rintro _ _ ⟨rfl, rfl⟩
    conv => whnf
    refine ⟨_, rmove_cc hp hN hn ha hk hb, ?_⟩
    rintro _ _ ⟨rfl, rfl⟩
    conv => whnf
    refine ⟨by kernel_rfl, ?_⟩
    conv => whnf
    refine ⟨by kernel_rfl, ?_⟩
    conv => whnf
    refine ⟨?_, rfl⟩
    show AV.tup [_, _, _, bo (decide (_ = _))] = _
    rw [decide_eq_true rfl]
    rfl
  · conv => whnf
    refine ⟨_, lock_cc hp hN hn ha hk, ?_⟩
    rintro _ _ ⟨rfl, rfl⟩
    conv => whnf
    refine ⟨_, rlock_cc hp hN hn ha hk, ?_⟩
    rintro _ _ ⟨rfl, rfl⟩
    conv => whnf
    refine ⟨by kernel_rfl, ?_⟩
    conv => whnf
    refine ⟨by kernel_rfl, ?_⟩
    conv => whnf
    refine ⟨?_, rfl⟩
    show AV.tup [_, _, _, bo (decide (_ = _))] = _
    rw [decide_eq_true rfl]
    rfl
  · conv => whnf
    refine ⟨_, lock_cc hp hN hn ha hk, ?_⟩
    rintro _ _ ⟨rfl, rfl⟩
    conv => whnf
    refine ⟨_, rlock_cc hp hN hn ha hk, ?_⟩
    rintro _ _ ⟨rfl, rfl⟩
    conv => whnf
    refine ⟨by kernel_rfl, ?_⟩
    conv => whnf
    refine ⟨by kernel_rfl, ?_⟩
    conv => whnf
    refine ⟨?_, rfl⟩
    show AV.tup [_, _, _, bo (decide (_ = _))] = _
    rw [decide_eq_true rfl]
    rfl
  · conv => whnf
    refine ⟨_, unlock_cc hp hN hn ha hk, ?_⟩
    rintro _ _ ⟨rfl, rfl⟩
    conv => whnf
    refine ⟨_, runlock_cc hp hN hn ha hk, ?_⟩
    rintro _ _ ⟨rfl, rfl⟩
    conv => whnf
    refine ⟨by kernel_rfl, ?_⟩
    conv => whnf
    refine ⟨by kernel_rfl, ?_⟩
    conv => whnf
    refine ⟨?_, rfl⟩
    show AV.tup [_, _, _, bo (decide (_ = _))] = _
    rw [decide_eq_true rfl]
    rfl
  · conv => whnf
    refine ⟨_, unlock_cc hp hN hn ha hk, ?_⟩
    rintro _ _ ⟨rfl, rfl⟩
    conv => whnf
    refine ⟨_, runlock_cc hp hN hn ha hk, ?_⟩
    rintro _ _ ⟨rfl, rfl⟩
    conv => whnf
    refine ⟨by kernel_rfl, ?_⟩
    conv => whnf
    refine ⟨by kernel_rfl, ?_⟩
    conv => whnf
    refine ⟨?_, rfl⟩
    show AV.tup [_, _, _, bo (decide (_ = _))] = _
    rw [decide_eq_true rfl]
    rfl
  · conv => whnf
    refine ⟨_, mint_cc hp hN hn ha hk, ?_⟩
    rintro _ _ ⟨rfl, rfl⟩
    conv => whnf
    refine ⟨_, rmint_cc hp hN hn ha hk, ?_⟩
    rintro _ _ ⟨rfl, rfl⟩
    conv => whnf
    refine ⟨by kernel_rfl, ?_⟩
    conv => whnf
    refine ⟨by kernel_rfl, ?_⟩
    conv => whnf
    refine ⟨?_, rfl⟩
    show AV.tup [_, _, _, bo (decide (_ = _))] = _
    rw [decide_eq_true rfl]
    rfl
  · conv => whnf
    refine ⟨_, mint_cc hp hN hn ha hk, ?_⟩
    rintro _ _ ⟨rfl, rfl⟩
    conv => whnf
    refine ⟨_, rmint_cc hp hN hn ha hk, ?_⟩
    rintro _ _ ⟨rfl, rfl⟩
    conv => whnf
    refine ⟨by kernel_rfl, ?_⟩
    conv => whnf
    refine ⟨by kernel_rfl, ?_⟩
    conv => whnf
    refine ⟨?_, rfl⟩
    show AV.tup [_, _, _, bo (decide (_ = _))] = _
    rw [decide_eq_true rfl]
    rfl
  · conv => whnf
    refine ⟨_, burn_cc hp hN hn ha hk, ?_⟩
    rintro _ _ ⟨rfl, rfl⟩
    conv => whnf
    refine ⟨_, rburn_cc hp hN hn ha hk, ?_⟩
    rintro _ _ ⟨rfl, rfl⟩
    conv => whnf
    refine ⟨by kernel_rfl, ?_⟩
    conv => whnf
    refine ⟨by kernel_rfl, ?_⟩
    conv => whnf
    refine ⟨?_, rfl⟩
    show AV.tup [_, _, _, bo (decide (_ = _))] = _
    rw [decide_eq_true rfl]
    rfl
  · conv => whnf
    refine ⟨_, burn_cc hp hN hn ha hk, ?_⟩
    rintro _ _ ⟨rfl, rfl⟩
    conv => whnf
    refine ⟨_, rburn_cc hp hN hn ha hk, ?_⟩
    rintro _ _ ⟨rfl, rfl⟩
    conv => whnf
    refine ⟨by kernel_rfl, ?_⟩
    conv => whnf
    refine ⟨by kernel_rfl, ?_⟩
    conv => whnf
    refine ⟨?_, rfl⟩
    show AV.tup [_, _, _, bo (decide (_ = _))] = _
    rw [decide_eq_true rfl]
    rfl
  · obtain ⟨h0, h1, h2, h3, h4, h5, h6, h7, h8, h9, h10, h11, h12⟩ := hne
    have hd : doP p q o n a b k = (p, 0) := by
      unfold doP
      rw [if_neg h0, if_neg (by omega), if_neg (by omega), if_neg (by omega), if_neg (by omega), if_neg (by omega), if_neg (by omega)]
    rw [hd]
    conv => whnf
    refine brF (decide_eq_false h0) ?_
    conv => whnf
    refine brF (decide_eq_false h1) ?_
    conv => whnf
    refine brF (decide_eq_false h2) ?_
    conv => whnf
    refine brF (decide_eq_false h3) ?_
    conv => whnf
    refine brF (decide_eq_false h4) ?_
    conv => whnf
    refine brF (decide_eq_false h5) ?_
    conv => whnf
    refine brF (decide_eq_false h6) ?_
    conv => whnf
    refine brF (decide_eq_false h7) ?_
    conv => whnf
    refine brF (decide_eq_false h8) ?_
    conv => whnf
    refine brF (decide_eq_false h9) ?_
    conv => whnf
    refine brF (decide_eq_false h10) ?_
    conv => whnf
    refine brF (decide_eq_false h11) ?_
    conv => whnf
    refine brF (decide_eq_false h12) ?_
    conv => whnf
    refine ⟨by kernel_rfl, ?_⟩
    conv => whnf
    refine ⟨by kernel_rfl, ?_⟩
    conv => whnf
    refine ⟨?_, rfl⟩
    first | rfl | (show AV.tup [_, _, _, bo (decide (_ = _))] = _; rw [decide_eq_true rfl]; rfl)
end Go.Proofs.YtmdfpifcghmpfaaDoor
