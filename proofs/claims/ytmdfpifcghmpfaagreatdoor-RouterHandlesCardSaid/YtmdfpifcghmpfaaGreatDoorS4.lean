/- What one statement needs of the texts, by slice.py. -/
import Derived.Test.YtmdfpifcghmpfaaGreatDoorS3
import Derived.Test.YtmdfpifcghmpfaaGreatDoorAbX

/- Purses, the model's: walks, from the contracts of what they call; the program's Move. Purses, the model's: what is taken, granted, moved, locked, unlocked, minted, burned; the program's Move. Purses: what both do. -/
set_option linter.unusedVariables false
namespace Go.Proofs.YtmdfpifcghmpfaaGreatDoor
open Go.Ab Go.RowKit

theorem rgrant_no {T H : List D} {o k : Int} {n w : ByteArray} {to a b c d e x : Int} {tn : ByteArray}
    (kn : CallR cx 23 [.d (.agg [.sl 7 T, .sl 4 H]), .d (.int .u32 o), st n] [] fun r S => r = .tup [.d (.agg [.int .u32 to, .str tn, .int .u64 a, .int .u64 b, .int .u64 c, .int .u64 d, .int .u64 e]), bo false] ∧ S = []) :
    CallR cx 43 [.d (.agg [.sl 7 T, .sl 4 H]), .d (.int .u32 o), st n, st w, u64 k] [] fun r S => r = .tup [.d (.agg [.sl 7 T, .sl 4 H]), i64 40] ∧ S = [] := by
  refine callR_of (R := R1) cx_ok Tryz.func43 (by kernel_rfl) rfl ?_
  conv => whnf
  refine ⟨_, kn, ?_⟩
  rintro _ _ ⟨rfl, rfl⟩
  conv => whnf
  exact ⟨rfl, rfl⟩

theorem rgrant_nm {T H : List D} {o k : Int} {n w : ByteArray} {to a b c d e x : Int} {tn : ByteArray}
    (kn : CallR cx 23 [.d (.agg [.sl 7 T, .sl 4 H]), .d (.int .u32 o), st n] [] fun r S => r = .tup [.d (.agg [.int .u32 to, .str tn, .int .u64 a, .int .u64 b, .int .u64 c, .int .u64 d, .int .u64 e]), bo true] ∧ S = [])
    (rn : CallR cx 45 [st w] [] fun r S => r = bo false ∧ S = []) :
    CallR cx 43 [.d (.agg [.sl 7 T, .sl 4 H]), .d (.int .u32 o), st n, st w, u64 k] [] fun r S => r = .tup [.d (.agg [.sl 7 T, .sl 4 H]), i64 7] ∧ S = [] := by
  refine callR_of (R := R1) cx_ok Tryz.func43 (by kernel_rfl) rfl ?_
  conv => whnf
  refine ⟨_, kn, ?_⟩
  rintro _ _ ⟨rfl, rfl⟩
  conv => whnf
  refine ⟨_, rn, ?_⟩
  rintro _ _ ⟨rfl, rfl⟩
  conv => whnf
  exact ⟨rfl, rfl⟩

theorem rgrant_er {T H : List D} {o k : Int} {n w : ByteArray} {to a b c d e x : Int} {tn : ByteArray} {v : Int}
    (kn : CallR cx 23 [.d (.agg [.sl 7 T, .sl 4 H]), .d (.int .u32 o), st n] [] fun r S => r = .tup [.d (.agg [.int .u32 to, .str tn, .int .u64 a, .int .u64 b, .int .u64 c, .int .u64 d, .int .u64 e]), bo true] ∧ S = [])
    (rn : CallR cx 45 [st w] [] fun r S => r = bo true ∧ S = [])
    (hv : CallR cx 71 [.d (.agg [.sl 7 T, .sl 4 H]), .d (.int .u32 o), st n, st w] [] fun r S => r = u64 v ∧ S = [])
    (ad : CallR cx 42 [u64 v, u64 k] [] fun r S => r = .tup [u64 x, i64 10] ∧ S = []) :
    CallR cx 43 [.d (.agg [.sl 7 T, .sl 4 H]), .d (.int .u32 o), st n, st w, u64 k] [] fun r S => r = .tup [.d (.agg [.sl 7 T, .sl 4 H]), i64 10] ∧ S = [] := by
  refine callR_of (R := R1) cx_ok Tryz.func43 (by kernel_rfl) rfl ?_
  conv => whnf
  refine ⟨_, kn, ?_⟩
  rintro _ _ ⟨rfl, rfl⟩
  conv => whnf
  refine ⟨_, rn, ?_⟩
  rintro _ _ ⟨rfl, rfl⟩
  conv => whnf
  refine ⟨_, hv, ?_⟩
  rintro _ _ ⟨rfl, rfl⟩
  conv => whnf
  refine ⟨_, ad, ?_⟩
  rintro _ _ ⟨rfl, rfl⟩
  conv => whnf
  exact ⟨rfl, rfl⟩

theorem rgrant_ok {T H T2 H2 : List D} {o k : Int} {n w : ByteArray} {to a b c d e x : Int} {tn : ByteArray} {v : Int}
    (kn : CallR cx 23 [.d (.agg [.sl 7 T, .sl 4 H]), .d (.int .u32 o), st n] [] fun r S => r = .tup [.d (.agg [.int .u32 to, .str tn, .int .u64 a, .int .u64 b, .int .u64 c, .int .u64 d, .int .u64 e]), bo true] ∧ S = [])
    (rn : CallR cx 45 [st w] [] fun r S => r = bo true ∧ S = [])
    (hv : CallR cx 71 [.d (.agg [.sl 7 T, .sl 4 H]), .d (.int .u32 o), st n, st w] [] fun r S => r = u64 v ∧ S = [])
    (ad : CallR cx 42 [u64 v, u64 k] [] fun r S => r = .tup [u64 x, i64 0] ∧ S = [])
    (ho : CallR cx 72 [.d (.agg [.sl 7 T, .sl 4 H]), .d (.int .u32 o), st n, st w, u64 x] [] fun r S => r = .d (.agg [.sl 7 T2, .sl 4 H2]) ∧ S = []) :
    CallR cx 43 [.d (.agg [.sl 7 T, .sl 4 H]), .d (.int .u32 o), st n, st w, u64 k] [] fun r S => r = .tup [.d (.agg [.sl 7 T2, .sl 4 H2]), i64 0] ∧ S = [] := by
  refine callR_of (R := R1) cx_ok Tryz.func43 (by kernel_rfl) rfl ?_
  conv => whnf
  refine ⟨_, kn, ?_⟩
  rintro _ _ ⟨rfl, rfl⟩
  conv => whnf
  refine ⟨_, rn, ?_⟩
  rintro _ _ ⟨rfl, rfl⟩
  conv => whnf
  refine ⟨_, hv, ?_⟩
  rintro _ _ ⟨rfl, rfl⟩
  conv => whnf
  refine ⟨_, ad, ?_⟩
  rintro _ _ ⟨rfl, rfl⟩
  conv => whnf
  refine ⟨_, ho, ?_⟩
  rintro _ _ ⟨rfl, rfl⟩
  conv => whnf
  exact ⟨rfl, rfl⟩

theorem runlock_no {T H : List D} {o k : Int} {n w : ByteArray} {to a b c d e x : Int} {tn : ByteArray}
    (kn : CallR cx 23 [.d (.agg [.sl 7 T, .sl 4 H]), .d (.int .u32 o), st n] [] fun r S => r = .tup [.d (.agg [.int .u32 to, .str tn, .int .u64 a, .int .u64 b, .int .u64 c, .int .u64 d, .int .u64 e]), bo false] ∧ S = []) :
    CallR cx 21 [.d (.agg [.sl 7 T, .sl 4 H]), .d (.int .u32 o), st n, st w, u64 k] [] fun r S => r = .tup [.d (.agg [.sl 7 T, .sl 4 H]), i64 40] ∧ S = [] := by
  refine callR_of (R := R1) cx_ok Tryz.func21 (by kernel_rfl) rfl ?_
  conv => whnf
  refine ⟨_, kn, ?_⟩
  rintro _ _ ⟨rfl, rfl⟩
  conv => whnf
  exact ⟨rfl, rfl⟩

theorem runlock_un {T H : List D} {o k : Int} {n w : ByteArray} {to a b c d e x : Int} {tn : ByteArray} {mi lo : Int}
    (kn : CallR cx 23 [.d (.agg [.sl 7 T, .sl 4 H]), .d (.int .u32 o), st n] [] fun r S => r = .tup [.d (.agg [.int .u32 to, .str tn, .int .u64 a, .int .u64 b, .int .u64 c, .int .u64 d, .int .u64 e]), bo true] ∧ S = [])
    (ou : CallR cx 41 [.d (.agg [.int .u32 to, .str tn, .int .u64 a, .int .u64 b, .int .u64 c, .int .u64 d, .int .u64 e])] [] fun r S => r = .tup [u64 mi, u64 lo] ∧ S = [])
    (hlo : lo < k) :
    CallR cx 21 [.d (.agg [.sl 7 T, .sl 4 H]), .d (.int .u32 o), st n, st w, u64 k] [] fun r S => r = .tup [.d (.agg [.sl 7 T, .sl 4 H]), i64 11] ∧ S = [] := by
  refine callR_of (R := R1) cx_ok Tryz.func21 (by kernel_rfl) rfl ?_
  conv => whnf
  refine ⟨_, kn, ?_⟩
  rintro _ _ ⟨rfl, rfl⟩
  conv => whnf
  refine ⟨_, ou, ?_⟩
  rintro _ _ ⟨rfl, rfl⟩
  conv => whnf
  refine brT (decide_eq_true hlo) ?_
  conv => whnf
  exact ⟨rfl, rfl⟩

theorem runlock_er {T H : List D} {o k : Int} {n w : ByteArray} {to a b c d e x : Int} {tn : ByteArray} {mi lo : Int}
    (kn : CallR cx 23 [.d (.agg [.sl 7 T, .sl 4 H]), .d (.int .u32 o), st n] [] fun r S => r = .tup [.d (.agg [.int .u32 to, .str tn, .int .u64 a, .int .u64 b, .int .u64 c, .int .u64 d, .int .u64 e]), bo true] ∧ S = [])
    (ou : CallR cx 41 [.d (.agg [.int .u32 to, .str tn, .int .u64 a, .int .u64 b, .int .u64 c, .int .u64 d, .int .u64 e])] [] fun r S => r = .tup [u64 mi, u64 lo] ∧ S = [])
    (hlo : ¬ lo < k)
    (ad : CallR cx 42 [u64 c, u64 k] [] fun r S => r = .tup [u64 x, i64 10] ∧ S = []) :
    CallR cx 21 [.d (.agg [.sl 7 T, .sl 4 H]), .d (.int .u32 o), st n, st w, u64 k] [] fun r S => r = .tup [.d (.agg [.sl 7 T, .sl 4 H]), i64 10] ∧ S = [] := by
  refine callR_of (R := R1) cx_ok Tryz.func21 (by kernel_rfl) rfl ?_
  conv => whnf
  refine ⟨_, kn, ?_⟩
  rintro _ _ ⟨rfl, rfl⟩
  conv => whnf
  refine ⟨_, ou, ?_⟩
  rintro _ _ ⟨rfl, rfl⟩
  conv => whnf
  refine brF (decide_eq_false hlo) ?_
  conv => whnf
  refine ⟨_, ad, ?_⟩
  rintro _ _ ⟨rfl, rfl⟩
  conv => whnf
  exact ⟨rfl, rfl⟩

theorem runlock_ge {T H T2 H2 : List D} {o k : Int} {n w : ByteArray} {to a b c d e x : Int} {tn : ByteArray} {mi lo : Int} {e9 : Int} (he : e9 ≠ 0)
    (kn : CallR cx 23 [.d (.agg [.sl 7 T, .sl 4 H]), .d (.int .u32 o), st n] [] fun r S => r = .tup [.d (.agg [.int .u32 to, .str tn, .int .u64 a, .int .u64 b, .int .u64 c, .int .u64 d, .int .u64 e]), bo true] ∧ S = [])
    (ou : CallR cx 41 [.d (.agg [.int .u32 to, .str tn, .int .u64 a, .int .u64 b, .int .u64 c, .int .u64 d, .int .u64 e])] [] fun r S => r = .tup [u64 mi, u64 lo] ∧ S = [])
    (hlo : ¬ lo < k)
    (ad : CallR cx 42 [u64 c, u64 k] [] fun r S => r = .tup [u64 x, i64 0] ∧ S = [])
    (gr : CallR cx 43 [.d (.agg [.sl 7 T, .sl 4 H]), .d (.int .u32 o), st n, st w, u64 k] [] fun r S => r = .tup [.d (.agg [.sl 7 T2, .sl 4 H2]), i64 e9] ∧ S = []) :
    CallR cx 21 [.d (.agg [.sl 7 T, .sl 4 H]), .d (.int .u32 o), st n, st w, u64 k] [] fun r S => r = .tup [.d (.agg [.sl 7 T, .sl 4 H]), i64 e9] ∧ S = [] := by
  refine callR_of (R := R1) cx_ok Tryz.func21 (by kernel_rfl) rfl ?_
  conv => whnf
  refine ⟨_, kn, ?_⟩
  rintro _ _ ⟨rfl, rfl⟩
  conv => whnf
  refine ⟨_, ou, ?_⟩
  rintro _ _ ⟨rfl, rfl⟩
  conv => whnf
  refine brF (decide_eq_false hlo) ?_
  conv => whnf
  refine ⟨_, ad, ?_⟩
  rintro _ _ ⟨rfl, rfl⟩
  conv => whnf
  refine ⟨_, gr, ?_⟩
  rintro _ _ ⟨rfl, rfl⟩
  conv => whnf
  refine brT (bne_iff_ne.2 he) ?_
  conv => whnf
  exact ⟨rfl, rfl⟩

theorem runlock_ok {T H T2 H2 T3 H3 : List D} {o k : Int} {n w : ByteArray} {to a b c d e x : Int} {tn : ByteArray} {mi lo : Int}
    (kn : CallR cx 23 [.d (.agg [.sl 7 T, .sl 4 H]), .d (.int .u32 o), st n] [] fun r S => r = .tup [.d (.agg [.int .u32 to, .str tn, .int .u64 a, .int .u64 b, .int .u64 c, .int .u64 d, .int .u64 e]), bo true] ∧ S = [])
    (ou : CallR cx 41 [.d (.agg [.int .u32 to, .str tn, .int .u64 a, .int .u64 b, .int .u64 c, .int .u64 d, .int .u64 e])] [] fun r S => r = .tup [u64 mi, u64 lo] ∧ S = [])
    (hlo : ¬ lo < k)
    (ad : CallR cx 42 [u64 c, u64 k] [] fun r S => r = .tup [u64 x, i64 0] ∧ S = [])
    (gr : CallR cx 43 [.d (.agg [.sl 7 T, .sl 4 H]), .d (.int .u32 o), st n, st w, u64 k] [] fun r S => r = .tup [.d (.agg [.sl 7 T2, .sl 4 H2]), i64 0] ∧ S = [])
    (se : CallR cx 44 [.d (.agg [.sl 7 T2, .sl 4 H2]), .d (.agg [.int .u32 to, .str tn, .int .u64 a, .int .u64 b, .int .u64 x, .int .u64 d, .int .u64 e])] [] fun r S => r = .d (.agg [.sl 7 T3, .sl 4 H3]) ∧ S = []) :
    CallR cx 21 [.d (.agg [.sl 7 T, .sl 4 H]), .d (.int .u32 o), st n, st w, u64 k] [] fun r S => r = .tup [.d (.agg [.sl 7 T3, .sl 4 H3]), i64 0] ∧ S = [] := by
  refine callR_of (R := R1) cx_ok Tryz.func21 (by kernel_rfl) rfl ?_
  conv => whnf
  refine ⟨_, kn, ?_⟩
  rintro _ _ ⟨rfl, rfl⟩
  conv => whnf
  refine ⟨_, ou, ?_⟩
  rintro _ _ ⟨rfl, rfl⟩
  conv => whnf
  refine brF (decide_eq_false hlo) ?_
  conv => whnf
  refine ⟨_, ad, ?_⟩
  rintro _ _ ⟨rfl, rfl⟩
  conv => whnf
  refine ⟨_, gr, ?_⟩
  rintro _ _ ⟨rfl, rfl⟩
  conv => whnf
  refine ⟨_, se, ?_⟩
  rintro _ _ ⟨rfl, rfl⟩
  conv => whnf
  exact ⟨rfl, rfl⟩

theorem rmint_no {T H : List D} {o k : Int} {n w : ByteArray} {to a b c d e x : Int} {tn : ByteArray}
    (kn : CallR cx 23 [.d (.agg [.sl 7 T, .sl 4 H]), .d (.int .u32 o), st n] [] fun r S => r = .tup [.d (.agg [.int .u32 to, .str tn, .int .u64 a, .int .u64 b, .int .u64 c, .int .u64 d, .int .u64 e]), bo false] ∧ S = []) :
    CallR cx 22 [.d (.agg [.sl 7 T, .sl 4 H]), .d (.int .u32 o), st n, st w, u64 k] [] fun r S => r = .tup [.d (.agg [.sl 7 T, .sl 4 H]), i64 40] ∧ S = [] := by
  refine callR_of (R := R1) cx_ok Tryz.func22 (by kernel_rfl) rfl ?_
  conv => whnf
  refine ⟨_, kn, ?_⟩
  rintro _ _ ⟨rfl, rfl⟩
  conv => whnf
  exact ⟨rfl, rfl⟩

theorem rmint_er {T H : List D} {o k : Int} {n w : ByteArray} {to a b c d e x : Int} {tn : ByteArray} {mi lo : Int}
    (kn : CallR cx 23 [.d (.agg [.sl 7 T, .sl 4 H]), .d (.int .u32 o), st n] [] fun r S => r = .tup [.d (.agg [.int .u32 to, .str tn, .int .u64 a, .int .u64 b, .int .u64 c, .int .u64 d, .int .u64 e]), bo true] ∧ S = [])
    (ou : CallR cx 41 [.d (.agg [.int .u32 to, .str tn, .int .u64 a, .int .u64 b, .int .u64 c, .int .u64 d, .int .u64 e])] [] fun r S => r = .tup [u64 mi, u64 lo] ∧ S = [])
    (ad : CallR cx 42 [u64 d, u64 k] [] fun r S => r = .tup [u64 x, i64 10] ∧ S = []) :
    CallR cx 22 [.d (.agg [.sl 7 T, .sl 4 H]), .d (.int .u32 o), st n, st w, u64 k] [] fun r S => r = .tup [.d (.agg [.sl 7 T, .sl 4 H]), i64 10] ∧ S = [] := by
  refine callR_of (R := R1) cx_ok Tryz.func22 (by kernel_rfl) rfl ?_
  conv => whnf
  refine ⟨_, kn, ?_⟩
  rintro _ _ ⟨rfl, rfl⟩
  conv => whnf
  refine ⟨_, ou, ?_⟩
  rintro _ _ ⟨rfl, rfl⟩
  conv => whnf
  refine ⟨_, ad, ?_⟩
  rintro _ _ ⟨rfl, rfl⟩
  conv => whnf
  exact ⟨rfl, rfl⟩

theorem rmint_c1 {T H : List D} {o k : Int} {n w : ByteArray} {to a b c d e x : Int} {tn : ByteArray} {mi lo : Int}
    (kn : CallR cx 23 [.d (.agg [.sl 7 T, .sl 4 H]), .d (.int .u32 o), st n] [] fun r S => r = .tup [.d (.agg [.int .u32 to, .str tn, .int .u64 a, .int .u64 b, .int .u64 c, .int .u64 d, .int .u64 e]), bo true] ∧ S = [])
    (ou : CallR cx 41 [.d (.agg [.int .u32 to, .str tn, .int .u64 a, .int .u64 b, .int .u64 c, .int .u64 d, .int .u64 e])] [] fun r S => r = .tup [u64 mi, u64 lo] ∧ S = [])
    (ad : CallR cx 42 [u64 d, u64 k] [] fun r S => r = .tup [u64 x, i64 0] ∧ S = [])
    (h1 : mi > a) :
    CallR cx 22 [.d (.agg [.sl 7 T, .sl 4 H]), .d (.int .u32 o), st n, st w, u64 k] [] fun r S => r = .tup [.d (.agg [.sl 7 T, .sl 4 H]), i64 12] ∧ S = [] := by
  refine callR_of (R := R1) cx_ok Tryz.func22 (by kernel_rfl) rfl ?_
  conv => whnf
  refine ⟨_, kn, ?_⟩
  rintro _ _ ⟨rfl, rfl⟩
  conv => whnf
  refine ⟨_, ou, ?_⟩
  rintro _ _ ⟨rfl, rfl⟩
  conv => whnf
  refine ⟨_, ad, ?_⟩
  rintro _ _ ⟨rfl, rfl⟩
  conv => whnf
  refine brT (decide_eq_true h1) ?_
  conv => whnf
  exact ⟨rfl, rfl⟩

theorem rmint_c2 {T H : List D} {o k : Int} {n w : ByteArray} {to a b c d e x : Int} {tn : ByteArray} {mi lo : Int}
    (kn : CallR cx 23 [.d (.agg [.sl 7 T, .sl 4 H]), .d (.int .u32 o), st n] [] fun r S => r = .tup [.d (.agg [.int .u32 to, .str tn, .int .u64 a, .int .u64 b, .int .u64 c, .int .u64 d, .int .u64 e]), bo true] ∧ S = [])
    (ou : CallR cx 41 [.d (.agg [.int .u32 to, .str tn, .int .u64 a, .int .u64 b, .int .u64 c, .int .u64 d, .int .u64 e])] [] fun r S => r = .tup [u64 mi, u64 lo] ∧ S = [])
    (ad : CallR cx 42 [u64 d, u64 k] [] fun r S => r = .tup [u64 x, i64 0] ∧ S = [])
    (h1 : ¬ mi > a) (h2 : k > IntKind.u64.wrap (a - mi)) :
    CallR cx 22 [.d (.agg [.sl 7 T, .sl 4 H]), .d (.int .u32 o), st n, st w, u64 k] [] fun r S => r = .tup [.d (.agg [.sl 7 T, .sl 4 H]), i64 12] ∧ S = [] := by
  refine callR_of (R := R1) cx_ok Tryz.func22 (by kernel_rfl) rfl ?_
  conv => whnf
  refine ⟨_, kn, ?_⟩
  rintro _ _ ⟨rfl, rfl⟩
  conv => whnf
  refine ⟨_, ou, ?_⟩
  rintro _ _ ⟨rfl, rfl⟩
  conv => whnf
  refine ⟨_, ad, ?_⟩
  rintro _ _ ⟨rfl, rfl⟩
  conv => whnf
  refine brF (decide_eq_false h1) ?_
  conv => whnf
  refine brT (decide_eq_true h2) ?_
  conv => whnf
  exact ⟨rfl, rfl⟩

theorem rmint_ge {T H T2 H2 : List D} {o k : Int} {n w : ByteArray} {to a b c d e x : Int} {tn : ByteArray} {mi lo : Int} {e9 : Int} (he : e9 ≠ 0)
    (kn : CallR cx 23 [.d (.agg [.sl 7 T, .sl 4 H]), .d (.int .u32 o), st n] [] fun r S => r = .tup [.d (.agg [.int .u32 to, .str tn, .int .u64 a, .int .u64 b, .int .u64 c, .int .u64 d, .int .u64 e]), bo true] ∧ S = [])
    (ou : CallR cx 41 [.d (.agg [.int .u32 to, .str tn, .int .u64 a, .int .u64 b, .int .u64 c, .int .u64 d, .int .u64 e])] [] fun r S => r = .tup [u64 mi, u64 lo] ∧ S = [])
    (ad : CallR cx 42 [u64 d, u64 k] [] fun r S => r = .tup [u64 x, i64 0] ∧ S = [])
    (h1 : ¬ mi > a) (h2 : ¬ k > IntKind.u64.wrap (a - mi))
    (gr : CallR cx 43 [.d (.agg [.sl 7 T, .sl 4 H]), .d (.int .u32 o), st n, st w, u64 k] [] fun r S => r = .tup [.d (.agg [.sl 7 T2, .sl 4 H2]), i64 e9] ∧ S = []) :
    CallR cx 22 [.d (.agg [.sl 7 T, .sl 4 H]), .d (.int .u32 o), st n, st w, u64 k] [] fun r S => r = .tup [.d (.agg [.sl 7 T, .sl 4 H]), i64 e9] ∧ S = [] := by
  refine callR_of (R := R1) cx_ok Tryz.func22 (by kernel_rfl) rfl ?_
  conv => whnf
  refine ⟨_, kn, ?_⟩
  rintro _ _ ⟨rfl, rfl⟩
  conv => whnf
  refine ⟨_, ou, ?_⟩
  rintro _ _ ⟨rfl, rfl⟩
  conv => whnf
  refine ⟨_, ad, ?_⟩
  rintro _ _ ⟨rfl, rfl⟩
  conv => whnf
  refine brF (decide_eq_false h1) ?_
  conv => whnf
  refine brF (decide_eq_false h2) ?_
  conv => whnf
  refine ⟨_, gr, ?_⟩
  rintro _ _ ⟨rfl, rfl⟩
  conv => whnf
  refine brT (bne_iff_ne.2 he) ?_
  conv => whnf
  exact ⟨rfl, rfl⟩

theorem rmint_ok {T H T2 H2 T3 H3 : List D} {o k : Int} {n w : ByteArray} {to a b c d e x : Int} {tn : ByteArray} {mi lo : Int}
    (kn : CallR cx 23 [.d (.agg [.sl 7 T, .sl 4 H]), .d (.int .u32 o), st n] [] fun r S => r = .tup [.d (.agg [.int .u32 to, .str tn, .int .u64 a, .int .u64 b, .int .u64 c, .int .u64 d, .int .u64 e]), bo true] ∧ S = [])
    (ou : CallR cx 41 [.d (.agg [.int .u32 to, .str tn, .int .u64 a, .int .u64 b, .int .u64 c, .int .u64 d, .int .u64 e])] [] fun r S => r = .tup [u64 mi, u64 lo] ∧ S = [])
    (ad : CallR cx 42 [u64 d, u64 k] [] fun r S => r = .tup [u64 x, i64 0] ∧ S = [])
    (h1 : ¬ mi > a) (h2 : ¬ k > IntKind.u64.wrap (a - mi))
    (gr : CallR cx 43 [.d (.agg [.sl 7 T, .sl 4 H]), .d (.int .u32 o), st n, st w, u64 k] [] fun r S => r = .tup [.d (.agg [.sl 7 T2, .sl 4 H2]), i64 0] ∧ S = [])
    (se : CallR cx 44 [.d (.agg [.sl 7 T2, .sl 4 H2]), .d (.agg [.int .u32 to, .str tn, .int .u64 a, .int .u64 b, .int .u64 c, .int .u64 x, .int .u64 e])] [] fun r S => r = .d (.agg [.sl 7 T3, .sl 4 H3]) ∧ S = []) :
    CallR cx 22 [.d (.agg [.sl 7 T, .sl 4 H]), .d (.int .u32 o), st n, st w, u64 k] [] fun r S => r = .tup [.d (.agg [.sl 7 T3, .sl 4 H3]), i64 0] ∧ S = [] := by
  refine callR_of (R := R1) cx_ok Tryz.func22 (by kernel_rfl) rfl ?_
  conv => whnf
  refine ⟨_, kn, ?_⟩
  rintro _ _ ⟨rfl, rfl⟩
  conv => whnf
  refine ⟨_, ou, ?_⟩
  rintro _ _ ⟨rfl, rfl⟩
  conv => whnf
  refine ⟨_, ad, ?_⟩
  rintro _ _ ⟨rfl, rfl⟩
  conv => whnf
  refine brF (decide_eq_false h1) ?_
  conv => whnf
  refine brF (decide_eq_false h2) ?_
  conv => whnf
  refine ⟨_, gr, ?_⟩
  rintro _ _ ⟨rfl, rfl⟩
  conv => whnf
  refine ⟨_, se, ?_⟩
  rintro _ _ ⟨rfl, rfl⟩
  conv => whnf
  exact ⟨rfl, rfl⟩

end Go.Proofs.YtmdfpifcghmpfaaGreatDoor

set_option linter.unusedVariables false
namespace Go.Proofs.YtmdfpifcghmpfaaGreatDoor
open Go.Ab Go.RowKit

section
variable {p : Pu} {o k : Int} {n w : ByteArray} (hp : p.ok) (hn : n.size ≤ 1000) (hw : w.size ≤ 1000) (hk : U k)
include hp hn hw hk

theorem rgrant_cc : CallR cx 43 [.d p.d, .d (.int .u32 o), st n, st w, u64 k] [] fun r S => r = .tup [.d (grantP p o n w k).1.d, i64 (grantP p o n w k).2] ∧ S = [] := by
  have kc := rknown_c (o := o) (n := n) hp
  have hv := rheld_c (o := o) (n := n) (w := w) hp
  have hU := heldV_U hp o n w
  have ad := radd_c hU hk
  have rn := rright_c (s := w) (by omega)
  unfold knownP at kc
  unfold grantP
  cases hx : lookP (tkP o n) p.toks with
  | none =>
    rw [hx] at kc
    exact rgrant_no (x := 0) kc
  | some t =>
    rw [hx] at kc
    simp only
    cases hr : rightT w with
    | false =>
      rw [hr] at rn
      rw [if_pos rfl]
      exact rgrant_nm (x := 0) kc rn
    | true =>
      rw [hr] at rn
      rw [if_neg (by decide)]
      by_cases c : heldV p o n w + k < 18446744073709551616
      · rw [if_pos c, if_pos c] at ad
        rw [if_pos c]
        exact rgrant_ok kc rn hv ad (hold_c hp hn hw (by unfold U at *; omega))
      · rw [if_neg c, if_neg c] at ad
        rw [if_neg c]
        exact rgrant_er kc rn hv ad
end

theorem ptwin_c {p : Pu} (hp : p.ok) : CallR cx 7 [.d p.d] [] fun r S => r = .d p.d ∧ S = [] := by
  have c1 := cloneT_c (l := p.toks) hp.nt
  have c2 := cloneH_c (l := p.holds) hp.nh
  obtain ⟨ts, hs⟩ := p
  simp only at c1 c2
  refine callR_of (R := R1) cx_ok Tryz.func7 (by kernel_rfl) rfl ?_
  conv => whnf
  refine ⟨by kernel_rfl, ?_⟩
  conv => whnf
  refine ⟨_, _, _, c1, ?_⟩
  conv => whnf
  refine ⟨_, _, _, c2, ?_⟩
  conv => whnf
  refine ⟨by kernel_rfl, ?_⟩
  conv => whnf
  exact ⟨rfl, rfl⟩

section
variable {p : Pu} {N : Nat} {o k : Int} {n w w2 : ByteArray} (hp : p.fine N) (hN : N ≤ 99999) (hn : n.size ≤ 1000) (hw : w.size ≤ 1000) (hk : U k)
include hp hN hn hw hk

theorem runlock_cc : CallR cx 21 [.d p.d, .d (.int .u32 o), st n, st w, u64 k] [] fun r S => r = .tup [.d (unlockP p o n w k).1.d, i64 (unlockP p o n w k).2] ∧ S = [] := by
  have hpo := hp.ok (by omega)
  have gr := rgrant_cc (o := o) (n := n) (w := w) (k := k) hpo hn hw hk
  have kc := rknown_c (o := o) (n := n) hpo
  have hq := grantP_fine (o := o) (n := n) (w := w) (k := k) hp (by omega) hn hw hk
  have hqt := grantP_toks p o n w k
  unfold knownP at kc
  unfold unlockP
  generalize grantP p o n w k = Q at *
  obtain ⟨⟨qt, qh⟩, e9⟩ := Q
  simp only at gr hq hqt ⊢
  subst hqt
  cases hx : lookP (tkP o n) p.toks with
  | none =>
    rw [hx] at kc
    exact runlock_no (x := 0) kc
  | some t =>
    rw [hx] at kc
    simp only at kc ⊢
    obtain ⟨hm, hkey⟩ := lookP_mem hx
    have ht := hp.t _ hm
    have ou := rout_c ht
    have ad := radd_c ht.2.2.1 hk
    generalize hmi : outM t = mi at *
    generalize hlo : outL t = lo at *
    obtain ⟨to, tn, a, b, c, d, e⟩ := t
    obtain ⟨rfl, rfl⟩ := tkP_iff.1 hkey
    simp only at ad kc ou ⊢
    by_cases c0 : lo < k
    · rw [if_pos c0]
      exact runlock_un (x := 0) kc ou c0
    rw [if_neg c0]
    by_cases q : c + k < 18446744073709551616
    · rw [if_pos q, if_pos q] at ad
      rw [if_pos q]
      by_cases he : e9 = 0
      · subst he
        rw [if_neg (by simp)]
        exact runlock_ok kc ou c0 ad gr (pset_c (b := ⟨to, tn, a, b, c + k, d, e⟩) (hq.ok (by omega)))
      · rw [if_pos he]
        exact runlock_ge he kc ou c0 ad gr
    · rw [if_neg q, if_neg q] at ad
      rw [if_neg q]
      exact runlock_er kc ou c0 ad

theorem rmint_cc : CallR cx 22 [.d p.d, .d (.int .u32 o), st n, st w, u64 k] [] fun r S => r = .tup [.d (mintP p o n w k).1.d, i64 (mintP p o n w k).2] ∧ S = [] := by
  have hpo := hp.ok (by omega)
  have gr := rgrant_cc (o := o) (n := n) (w := w) (k := k) hpo hn hw hk
  have kc := rknown_c (o := o) (n := n) hpo
  have hq := grantP_fine (o := o) (n := n) (w := w) (k := k) hp (by omega) hn hw hk
  have hqt := grantP_toks p o n w k
  unfold knownP at kc
  unfold mintP
  generalize grantP p o n w k = Q at *
  obtain ⟨⟨qt, qh⟩, e9⟩ := Q
  simp only at gr hq hqt ⊢
  subst hqt
  cases hx : lookP (tkP o n) p.toks with
  | none =>
    rw [hx] at kc
    exact rmint_no (x := 0) kc
  | some t =>
    rw [hx] at kc
    simp only at kc ⊢
    obtain ⟨hm, hkey⟩ := lookP_mem hx
    have ht := hp.t _ hm
    have ou := rout_c ht
    have hmU := outM_U ht
    have ad := radd_c ht.2.2.2.1 hk
    generalize hmi : outM t = mi at *
    generalize hlo : outL t = lo at *
    obtain ⟨to, tn, a, b, c, d, e⟩ := t
    obtain ⟨rfl, rfl⟩ := tkP_iff.1 hkey
    have haU : U a := ht.1
    simp only at ad kc ou ⊢
    by_cases q : d + k < 18446744073709551616
    · rw [if_pos q, if_pos q] at ad
      rw [if_pos q]
      by_cases c1 : mi > a
      · have : (if mi + k < 18446744073709551616 then if mi + k > a then (p, (12 : Int)) else if e9 ≠ 0 then (p, e9) else (⟨putP (tkP to tn) p.toks ⟨to, tn, a, b, c, d + k, e⟩, qh⟩, 0) else (p, 12)) = (p, 12) := by
          split
          · rw [if_pos (by unfold U at *; omega)]
          · rfl
        rw [this]
        exact rmint_c1 kc ou ad c1
      · have hwr : IntKind.u64.wrap (a - mi) = a - mi := wrapU (by unfold U at *; omega)
        by_cases c2 : k > a - mi
        · have : (if mi + k < 18446744073709551616 then if mi + k > a then (p, (12 : Int)) else if e9 ≠ 0 then (p, e9) else (⟨putP (tkP to tn) p.toks ⟨to, tn, a, b, c, d + k, e⟩, qh⟩, 0) else (p, 12)) = (p, 12) := by
            split
            · rw [if_pos (by omega)]
            · rfl
          rw [this]
          exact rmint_c2 kc ou ad c1 (by rw [hwr]; exact c2)
        · rw [if_pos (by unfold U at *; omega), if_neg (by omega)]
          by_cases he : e9 = 0
          · subst he
            rw [if_neg (by simp)]
            exact rmint_ok kc ou ad c1 (by rw [hwr]; exact c2) gr (pset_c (b := ⟨to, tn, a, b, c, d + k, e⟩) (hq.ok (by omega)))
          · rw [if_pos he]
            exact rmint_ge he kc ou ad c1 (by rw [hwr]; exact c2) gr
    · rw [if_neg q, if_neg q] at ad
      rw [if_neg q]
      exact rmint_er kc ou ad
end
end Go.Proofs.YtmdfpifcghmpfaaGreatDoor

set_option linter.unusedVariables false
namespace Go.Proofs.YtmdfpifcghmpfaaGreatDoor
open Go.Ab Go.RowKit

end Go.Proofs.YtmdfpifcghmpfaaGreatDoor

/- Purses: what comes of a right purse is right, but for what is burned. No program in sight. Purses: the law PursePlays. -/
set_option linter.unusedVariables false
namespace Go.Proofs.YtmdfpifcghmpfaaGreatDoor
open Go.Ab Go.RowKit

section
variable {α : Type} {lt : α → α → Bool}
theorem insP_in {q : α → Bool} : ∀ {l : List α} {b x : α}, x ∈ insP q l b → x = b ∨ x ∈ l
  | [], b, x, h => by rw [insP] at h; exact .inl (List.mem_singleton.1 h)
  | a :: l, b, x, h => by
    rw [insP] at h
    split at h
    · rcases List.mem_cons.1 h with rfl | h
      · exact .inl rfl
      · exact .inr h
    · rcases List.mem_cons.1 h with rfl | h
      · exact .inr (by simp)
      · rcases insP_in h with h | h
        · exact .inl h
        · exact .inr (by simp [h])
end

section
variable {p : Pu} {N : Nat} {o k : Int} {n w : ByteArray} (hp : p.fine N) (hN : N ≤ 99999) (hn : n.size ≤ 1000) (hw : w.size ≤ 1000) (hk : U k)
include hp hN hn hw hk
omit hw hN in
theorem enlistP_fine : (enlistP p o n k).1.fine (N + 1) := by
  unfold enlistP
  split
  · exact hp.mono (by omega)
  split
  · exact hp.mono (by omega)
  split
  · exact hp.mono (by omega)
  · refine ⟨fun x hx => ?_, hp.h, by rw [insP_len]; have := hp.nt; omega, by have := hp.nh; simp only; omega⟩
    rcases insP_in hx with rfl | hx
    · refine ⟨hk, ?_, ?_, ?_, ?_, hn⟩ <;> (unfold U; simp only; omega)
    · exact hp.t x hx
end
end Go.Proofs.YtmdfpifcghmpfaaGreatDoor

set_option linter.unusedVariables false
namespace Go.Proofs.YtmdfpifcghmpfaaGreatDoor
open Go.Ab Go.RowKit

end Go.Proofs.YtmdfpifcghmpfaaGreatDoor

/- Purses: what each act does to the sums. No program in sight. -/
set_option linter.unusedVariables false
namespace Go.Proofs.YtmdfpifcghmpfaaGreatDoor
open Go.Ab Go.RowKit

def one (o : Int) (n : ByteArray) (o' : Int) (n' : ByteArray) (k : Int) : Int := if same2 o n o' n' = true then k else 0
end Go.Proofs.YtmdfpifcghmpfaaGreatDoor

/- Readers of bytes: what they do. Payloads: what they are, their bytes. Payloads: read; what is written is read as it was. -/
set_option linter.unusedVariables false
namespace Go.Proofs.YtmdfpifcghmpfaaGreatDoor
open Go.Ab Go.RowKit

/-- A reader: what is left, what is wrong. -/
abbrev rd (s : ByteArray) (e : Int) : D := .agg [.str s, .int .i64 e]

def tkS (s : ByteArray) (e n : Int) : ByteArray := if e = 0 ∧ n ≤ s.size then s.extract 0 n.toNat else .empty

def tkR (s : ByteArray) (e n : Int) : ByteArray := if e = 0 ∧ n ≤ s.size then s.extract n.toNat s.size else s

def rd_tkE (s : ByteArray) (e n : Int) : Int := if e = 0 then (if n ≤ s.size then 0 else 3) else e

theorem rd_take_c {s : ByteArray} {e n : Int} (hn : 0 ≤ n) : CallR cx 77 [.ptr 0 [], i64 n] [.var (.d (rd s e))] fun r S =>
    r = st (tkS s e n) ∧ S = [.var (.d (rd (tkR s e n) (rd_tkE s e n)))] := by
  refine callR_of (R := R1) cx_ok Tryz.func77 (by kernel_rfl) rfl ?_
  conv => whnf
  refine brec (fun h => ?_) (fun h => ?_)
  · have h : ¬ e = 0 := by simpa using h
    have e1 : tkS s e n = .empty := if_neg fun g => h g.1
    have e2 : tkR s e n = s := if_neg fun g => h g.1
    have e3 : rd_tkE s e n = e := if_neg h
    rw [e1, e2, e3]
    conv => whnf
    exact ⟨rfl, rfl⟩
  · have h : e = 0 := by simpa using h
    subst h
    conv => whnf
    refine brec (fun g => ?_) (fun g => ?_)
    · have g := of_decide_eq_true g
      have e1 : tkS s 0 n = .empty := if_neg fun k => by omega
      have e2 : tkR s 0 n = s := if_neg fun k => by omega
      have e3 : rd_tkE s 0 n = 3 := by unfold rd_tkE; rw [if_pos rfl, if_neg (by omega)]
      rw [e1, e2, e3]
      conv => whnf
      exact ⟨rfl, rfl⟩
    · have g := of_decide_eq_false g
      have g : n ≤ s.size := by omega
      have e1 : tkS s 0 n = s.extract 0 n.toNat := if_pos ⟨rfl, g⟩
      have e2 : tkR s 0 n = s.extract n.toNat s.size := if_pos ⟨rfl, g⟩
      have e3 : rd_tkE s 0 n = 0 := by unfold rd_tkE; rw [if_pos rfl, if_pos g]
      rw [e1, e2, e3]
      conv => whnf
      refine ⟨⟨by decide, hn, g⟩, ?_⟩
      conv => whnf
      refine ⟨⟨hn, g, Int.le_refl _⟩, ?_⟩
      conv => whnf
      exact ⟨rfl, rfl⟩

theorem fail_c {s : ByteArray} {e f : Int} : CallR cx 54 [.ptr 0 [], i64 f] [.var (.d (rd s e))] fun r S =>
    r = .tup [] ∧ S = [.var (.d (rd s (if e = 0 then f else e)))] := by
  refine callR_of (R := R1) cx_ok Tryz.func54 (by kernel_rfl) rfl ?_
  conv => whnf
  refine brec (fun h => ?_) (fun h => ?_)
  · have h : e = 0 := by simpa using h
    rw [if_pos h]
    conv => whnf
    exact ⟨rfl, rfl⟩
  · have h : ¬ e = 0 := by simpa using h
    rw [if_neg h]
    conv => whnf
    exact ⟨rfl, rfl⟩

theorem end_c {s : ByteArray} {e : Int} : CallR cx 29 [.ptr 0 []] [.var (.d (rd s e))] fun r S =>
    r = i64 (if e = 0 then (if s = .empty then 0 else 4) else e) ∧ S = [.var (.d (rd s e))] := by
  refine callR_of (R := R1) cx_ok Tryz.func29 (by kernel_rfl) rfl ?_
  conv => whnf
  refine brec (fun h => ?_) (fun h => ?_)
  · have h : e = 0 := by simpa using h
    subst h
    rw [if_pos rfl]
    conv => whnf
    refine brec (fun g => ?_) (fun g => ?_)
    · have g : ¬ s = .empty := by
        intro e; subst e; simp at g; exact g rfl
      rw [if_neg g]
      conv => whnf
      exact ⟨rfl, rfl⟩
    · have g : s = .empty := (by simpa using g : s = ⟨#[]⟩)
      rw [if_pos g]
      conv => whnf
      exact ⟨rfl, rfl⟩
  · have h : ¬ e = 0 := by simpa using h
    rw [if_neg h]
    conv => whnf
    exact ⟨rfl, rfl⟩

/-- Bytes as a number, the highest first. -/
def be (l : List UInt8) (a : Nat) : Nat := l.foldl (fun a b => (a * 256 + b.toNat) % 18446744073709551616) a

theorem be_lt (l : List UInt8) {a : Nat} (h : a < 18446744073709551616) : be l a < 18446744073709551616 := by
  induction l generalizing a with
  | nil => exact h
  | cons b l ih => exact ih (Nat.mod_lt _ (by decide))

theorem wrapN {n : Nat} (h : n < 18446744073709551616) : IntKind.u64.wrap (n : Int) = n := wrapU ⟨by omega, by omega⟩

theorem or_sum {a b s : Nat} (hb : b < 2 ^ s) : a * 2 ^ s ||| b = a * 2 ^ s + b := by
  rw [← Nat.shiftLeft_eq, ← Nat.shiftLeft_add_eq_or_of_lt hb]

theorem be_step {a : Nat} (b : UInt8) (ha : a < 18446744073709551616) :
    IntKind.u64.wrap ((BitVec.ofInt IntKind.u64.bits (IntKind.u64.wrap ((a : Int) * 2 ^ min (8 : Int).toNat IntKind.u64.bits)) ||| BitVec.ofInt IntKind.u64.bits (IntKind.u64.wrap (b.toNat : Int))).toNat : Int) =
      (((a * 256 + b.toNat) % 18446744073709551616 : Nat) : Int) := by
  have hb : b.toNat < 256 := b.toNat_lt
  have e1 : IntKind.u64.wrap ((a : Int) * 2 ^ min (8 : Int).toNat IntKind.u64.bits) = ((a % 72057594037927936 * 2 ^ 8 : Nat) : Int) := by
    rw [Go.Ab.wrap64]
    show (a : Int) * 2 ^ 8 % _ = _
    omega
  have e2 : IntKind.u64.wrap (b.toNat : Int) = (b.toNat : Int) := wrapN (by omega)
  rw [e1, e2]
  have e : (BitVec.ofInt IntKind.u64.bits ((a % 72057594037927936 * 2 ^ 8 : Nat) : Int) ||| BitVec.ofInt IntKind.u64.bits (b.toNat : Int)).toNat = a % 72057594037927936 * 2 ^ 8 + b.toNat := by
    show (BitVec.ofInt 64 ((a % 72057594037927936 * 2 ^ 8 : Nat) : Int) ||| BitVec.ofInt 64 (b.toNat : Int)).toNat = _
    rw [BitVec.toNat_or, BitVec.toNat_ofInt, BitVec.toNat_ofInt]
    have g1 : ((a % 72057594037927936 * 2 ^ 8 : Nat) : Int) % ((2 ^ 64 : Nat) : Int) = ((a % 72057594037927936 * 2 ^ 8 : Nat) : Int) := by omega
    have g2 : (b.toNat : Int) % ((2 ^ 64 : Nat) : Int) = (b.toNat : Int) := by omega
    rw [g1, g2, Int.toNat_natCast, Int.toNat_natCast]
    exact or_sum hb
  rw [e, wrapN (by omega)]
  omega

theorem bytes_getD {s : ByteArray} {j : Nat} (h : j < s.data.toList.length) : (D.bytes s).getD (j : Int).toNat .nilP = .int .u8 ((s.data.toList[j]'h).toNat : Int) := by
  rw [Int.toNat_natCast, List.getD_eq_getElem?_getD]
  unfold D.bytes
  rw [List.getElem?_map, List.getElem?_eq_getElem h]
  rfl

theorem number_c {s : ByteArray} {e n : Int} (hn : 0 ≤ n) (hm : s.size < 9223372036854775807) : CallR cx 55 [.ptr 0 [], i64 n] [.var (.d (rd s e))] fun r S =>
    r = u64 ((be (tkS s e n).data.toList 0 : Nat) : Int) ∧ S = [.var (.d (rd (tkR s e n) (rd_tkE s e n)))] := by
  have ht : (tkS s e n).size ≤ s.size := by
    unfold tkS
    split
    · rw [ByteArray.size_extract]; omega
    · exact Nat.zero_le _
  have tk := rd_take_c (s := s) (e := e) hn
  generalize tkS s e n = t at *
  generalize rd (tkR s e n) (rd_tkE s e n) = R at *
  refine callR_of (R := R1) cx_ok Tryz.func55 (by kernel_rfl) rfl ?_
  conv => whnf
  refine ⟨_, tk, ?_⟩
  rintro _ _ ⟨rfl, rfl⟩
  conv => whnf
  refine ⟨by unfold maxLen; omega, ?_⟩
  conv => whnf
  refine .inl ⟨fun k l S => ∃ j : Nat, j ≤ t.data.toList.length ∧ k = t.data.toList.length - j ∧
      l = [(5, u64 ((be (t.data.toList.take j) 0 : Nat) : Int)), (11, .d (.sl 1 (D.bytes t))), (12, i64 (((D.bytes t).length : Nat) : Int)), (13, i64 (j : Int))] ∧ S = [.var (.d R)],
    ⟨_, _, ⟨0, Nat.zero_le _, rfl, rfl, rfl⟩, ⟨rfl, rfl, rfl, rfl, trivial⟩⟩, ?_⟩
  rintro _ _ _ ⟨j, hj, rfl, rfl, rfl⟩
  have hlen : (D.bytes t).length = t.data.toList.length := by simp [D.bytes]
  have hts : t.data.toList.length = t.size := by rw [Array.length_toList]; rfl
  conv => whnf
  refine brec (fun h1 => ?_) (fun h1 => ?_)
  · have h1 := of_decide_eq_true h1
    rw [hlen] at h1
    have hlt : j < t.data.toList.length := by omega
    conv => whnf
    refine ⟨⟨by omega, by rw [hlen]; omega⟩, ?_⟩
    rw [bytes_getD hlt]
    conv => whnf
    refine ⟨by decide, ?_⟩
    conv => whnf
    have e1 := be_step (a := be (t.data.toList.take j) 0) (t.data.toList[j]'hlt) (be_lt _ (by decide))
    have e2 : (be (t.data.toList.take j) 0 * 256 + (t.data.toList[j]'hlt).toNat) % 18446744073709551616 = be (t.data.toList.take (j + 1)) 0 := by
      rw [List.take_add_one, List.getElem?_eq_getElem hlt]
      unfold be
      rw [List.foldl_append]
      rfl
    rw [e2] at e1
    have e3 : IntKind.i64.wrap ((j : Int) + 1) = ((j + 1 : Nat) : Int) := by rw [IntKind.wrap_i64]; omega
    exact ⟨_, _, 1, (by omega : t.data.toList.length - (j + 1) < t.data.toList.length - j), ⟨j + 1, hlt, rfl, rfl, rfl⟩,
      ⟨congrArg (fun z => some (u64 z)) e1, rfl, rfl, congrArg (fun z => some (i64 z)) e3, trivial⟩, rfl⟩
  · have h1 := of_decide_eq_false h1
    rw [hlen] at h1
    have : j = t.data.toList.length := by omega
    subst this
    conv => whnf
    rw [List.take_length]
    exact ⟨rfl, rfl⟩

theorem byte_c {s : ByteArray} {e : Int} (hm : s.size < 9223372036854775807) : CallR cx 28 [.ptr 0 []] [.var (.d (rd s e))] fun r S =>
    r = u8 (IntKind.u8.wrap ((be (tkS s e 1).data.toList 0 : Nat) : Int)) ∧ S = [.var (.d (rd (tkR s e 1) (rd_tkE s e 1)))] := by
  refine callR_of (R := R1) cx_ok Tryz.func28 (by kernel_rfl) rfl ?_
  conv => whnf
  refine ⟨_, number_c (by decide) hm, ?_⟩
  rintro _ _ ⟨rfl, rfl⟩
  conv => whnf
  exact ⟨rfl, rfl⟩

theorem over_c {s : ByteArray} : CallR cx 26 [st s] [] fun r S => r = .ptr 0 [] ∧ S = [.var (.d (rd s 0))] := by
  refine callR_of (R := R1) cx_ok Tryz.func26 (by kernel_rfl) rfl ?_
  conv => whnf
  exact ⟨rfl, rfl⟩
end Go.Proofs.YtmdfpifcghmpfaaGreatDoor

set_option linter.unusedVariables false
namespace Go.Proofs.YtmdfpifcghmpfaaGreatDoor
open Go.Ab Go.RowKit

theorem must_c {o n : Int} {a b : ByteArray} : CallR cx 18 [.d (.iface 64 (.agg [.int .u32 o, .str a, .str b, .int .u64 n]))] [] fun r S => r = .d (.agg [.int .u32 o, .str a, .str b, .int .u64 n]) ∧ S = [] := by
  refine callR_of (R := R1) cx_ok Tryz.func18 (by kernel_rfl) rfl ?_
  conv => whnf
  exact ⟨rfl, rfl⟩

/-- A payload: a transfer, a saying, a detail, nothing, a number. -/
inductive Pl where
  | tr (o : Int) (a b : ByteArray) (n : Int)
  | sy (a b : ByteArray)
  | de (o : Int) (a : ByteArray) (n : Int)
  | no
  | nu

def Pl.d : Pl → D
  | .tr o a b n => .iface 64 (.agg [.int .u32 o, .str a, .str b, .int .u64 n])
  | .sy a b => .iface 78 (.agg [.str a, .str b])
  | .de o a n => .iface 68 (.agg [.int .u32 o, .str a, .int .u64 n])
  | .no => .nilI
  | .nu => .iface 3 (.int .i64 7)

def Pl.kd : Pl → Int
  | .tr .. => 1
  | .sy .. => 2
  | .de .. => 3
  | _ => 0

def Pl.og : Pl → Int
  | .tr o .. => o
  | .de o .. => o
  | _ => 0

def Pl.fa : Pl → ByteArray
  | .tr _ a _ _ => a
  | .sy a _ => a
  | .de _ a _ => a
  | _ => .empty

def Pl.fb : Pl → ByteArray
  | .tr _ _ b _ => b
  | .sy _ b => b
  | _ => .empty

def Pl.fn : Pl → Int
  | .tr _ _ _ n => n
  | .de _ _ n => n
  | _ => 0

def Pl.isT : Pl → Bool
  | .tr .. => true
  | _ => false

/-- A payload's fields. -/
abbrev fld (p : Pl) : D := .agg [.int .i64 p.kd, .int .u32 p.og, .str p.fa, .str p.fb, .int .u64 p.fn]

abbrev tr4 (o : Int) (a b : ByteArray) (n : Int) : D := .agg [.int .u32 o, .str a, .str b, .int .u64 n]

/-- The transfer that it is, if it is one. -/
def trD (p : Pl) : D := match p with
  | .tr o a b n => tr4 o a b n
  | _ => tr4 0 .empty .empty 0

theorem mustP_c {p : Pl} (h : p.isT = true) : CallR cx 18 [.d p.d] [] fun r S => r = .d (trD p) ∧ S = [] := by
  cases p with
  | tr o a b n => exact must_c
  | _ => cases h

theorem goS_cons (k : Nat) (l : List Nat) (n : Nat) : goS (k :: l) n = (!(decide (k < 32) || decide (k = 127) || decide (2000000 ≤ k)) && goS l (n + 1)) := rfl

theorem says_c {s : ByteArray} (hm : s.size < 1000000000) : CallR cx 57 [st s] [] fun r S => r = bo (saysT s) ∧ S = [] := by
  refine callR_of (R := R1) cx_ok Tryz.func57 (by kernel_rfl) rfl ?_
  conv => whnf
  refine .inl ⟨fun m l S => ∃ (i n : Nat), goS (keysAt s i) n = saysT s ∧ n ≤ i ∧ i ≤ s.size + 3 ∧ m = s.size + 4 - i ∧
      l = [(0, st s), (3, i64 (n : Int)), (7, .ptr 0 [])] ∧ S = [.iter s i],
    ⟨_, _, ⟨0, 0, rfl, Nat.le_refl _, by omega, rfl, rfl, rfl⟩, ⟨rfl, rfl, rfl, trivial⟩⟩, ?_⟩
  rintro _ _ _ ⟨i, n, h1, h2, h3, rfl, rfl, rfl⟩
  conv => whnf
  refine brec (fun h4 => ?_) (fun h4 => ?_)
  · have hi := of_decide_eq_true h4
    have hd := decode_range s i
    have br := broken_c (s := s) hi
    rw [keysAt_lt hi, goS_cons, key_two] at h1
    have e1 : IntKind.i64.wrap ((n : Int) + 1) = ((n + 1 : Nat) : Int) := by rw [w64 (by omega)]; omega
    have hkey : (decide ((key s i).1 < 32) || decide ((key s i).1 = 127) || decide (2000000 ≤ (key s i).1)) = (decide ((Utf8.decode s i).1 < 32) || decide ((Utf8.decode s i).1 = 127) || stray s i) := by
      cases h : stray s i with
      | false =>
        rw [key_plain h, decide_eq_false (p := 2000000 ≤ (Utf8.decode s i).1) (by omega)]
      | true =>
        rw [(key_stray h).1]
        simp
    rw [hkey] at h1
    generalize stray s i = q at *
    generalize hk : Utf8.decode s i = d at *
    obtain ⟨r, w⟩ := d
    simp only at hd h1 br
    generalize hr : (r : Int) = R at *
    conv => whnf
    by_cases hs : R < 32
    · refine brT (decide_eq_true (by omega)) ?_
      conv => whnf
      rw [decide_eq_true (show r < 32 by omega)] at h1
      simp only [Bool.true_or, Bool.not_true, Bool.false_and] at h1
      rw [← h1]
      exact ⟨rfl, rfl⟩
    · refine brF (decide_eq_false (by omega)) ?_
      conv => whnf
      rw [decide_eq_false (show ¬ r < 32 by omega)] at h1
      by_cases hl : R = 127
      · refine brT (beq_iff_eq.2 (by omega)) ?_
        conv => whnf
        rw [decide_eq_true (show r = 127 by omega)] at h1
        simp only [Bool.or_true, Bool.true_or, Bool.not_true, Bool.false_and] at h1
        rw [← h1]
        exact ⟨rfl, rfl⟩
      · refine brF (beq_eq_false_iff_ne.2 (by omega)) ?_
        conv => whnf
        rw [decide_eq_false (show ¬ r = 127 by omega)] at h1
        refine ⟨_, br, ?_⟩
        rintro _ _ ⟨rfl, rfl⟩
        conv => whnf
        refine brec (fun h5 => ?_) (fun h5 => ?_)
        · subst h5
          conv => whnf
          simp only [Bool.or_true, Bool.not_true, Bool.false_and] at h1
          rw [← h1]
          exact ⟨rfl, rfl⟩
        · subst h5
          conv => whnf
          simp only [Bool.or_false, Bool.not_false, Bool.true_and] at h1
          exact ⟨_, _, 1, (by omega : s.size + 4 - (i + w) < s.size + 4 - i), ⟨i + w, n + 1, h1, by omega, by omega, rfl, rfl, rfl⟩,
            ⟨rfl, congrArg (fun z => some (i64 z)) e1, rfl, trivial⟩, rfl⟩
  · have h4 := of_decide_eq_false h4
    rw [keysAt_ge (by omega)] at h1
    conv => whnf
    have e0 : saysT s = decide ((n : Int) ≤ 64) := by
      rw [← h1]
      show decide (n ≤ 64) = _
      have a2 : ((n : Int) ≤ 64) = (n ≤ 64) := propext ⟨fun h => by omega, fun h => by omega⟩
      simp only [a2]
    rw [e0]
    exact ⟨rfl, rfl⟩

/-- A number's bytes, the highest first. -/
def bigB (n k : Nat) : ByteArray := ⟨((List.range k).map fun i => UInt8.ofNat (n / 256 ^ (k - 1 - i))).toArray⟩

abbrev by8 (n e : Nat) : D := .int .u8 ((UInt8.ofNat (n / 256 ^ e)).toNat : Int)

theorem bigB_bytes (n k : Nat) : D.bytes (bigB n k) = (List.range k).map fun i => by8 n (k - 1 - i) := by
  unfold D.bytes bigB
  rw [List.toList_toArray, List.map_map]
  rfl

theorem bigB_size (n k : Nat) : (bigB n k).size = k := by
  show ((List.range k).map _).toArray.size = k
  rw [List.size_toArray, List.length_map, List.length_range]

theorem pow256 (e : Nat) : 256 ^ e = 2 ^ (8 * e) := by rw [Nat.pow_mul]

theorem by8_eq (n e : Nat) {z : Int} (h : z = ((n / 256 ^ e : Nat) : Int)) : D.int .u8 (IntKind.u8.wrap z) = by8 n e := by
  subst h
  have e1 : IntKind.u8.wrap ((n / 256 ^ e : Nat) : Int) = ((n / 256 ^ e : Nat) : Int) % 256 := by simp [IntKind.wrap, IntKind.bits, IntKind.signed]
  show D.int .u8 _ = D.int .u8 _
  rw [e1, UInt8.toNat_ofNat']
  congr 1

theorem shr_e (n e : Nat) (b : Int) (hb : b = ((8 * e : Nat) : Int)) (h8 : 8 * e ≤ 64) : (n : Int).fdiv (2 ^ min b.toNat IntKind.u64.bits) = ((n / 256 ^ e : Nat) : Int) := by
  subst hb
  have : min ((8 * e : Nat) : Int).toNat IntKind.u64.bits = 8 * e := by rw [Int.toNat_natCast]; exact Nat.min_eq_left h8
  rw [this, Int.fdiv_eq_ediv_of_nonneg _ (by exact Int.le_of_lt (Int.pow_pos (by decide))), pow256, Int.natCast_ediv, Int.natCast_pow]
  rfl

abbrev z8 : D := .int .u8 0

theorem big1_c {n : Nat} : CallR cx 76 [u64 n, i64 1] [] fun r S => r = st (bigB n 1) ∧ S = [] := by
  let f : Nat → List D := fun i => match i with
    | 0 => [z8, z8, z8, z8, z8, z8, z8, z8]
    | _ => [by8 n 0, z8, z8, z8, z8, z8, z8, z8]
  refine callR_of (R := R1) cx_ok Tryz.func76 (by kernel_rfl) rfl ?_
  conv => whnf
  refine .inl ⟨fun m l S => ∃ i : Nat, i ≤ 1 ∧ m = 1 - i ∧ l = [(0, u64 n), (1, i64 1), (5, .ptr 0 []), (7, i64 1), (8, i64 (i : Int))] ∧
    S = [.var (.d (.arr 8 1 (f i)))], ⟨1, _, ⟨0, by decide, rfl, rfl, rfl⟩, ⟨rfl, rfl, rfl, rfl, rfl, trivial⟩⟩, ?_⟩
  rintro _ _ _ ⟨i, hi, rfl, rfl, rfl⟩
  rcases i with _ | _ | i
  · conv => whnf
    refine ⟨by decide, ?_⟩
    conv => whnf
    refine ⟨by decide, ?_⟩
    conv => whnf
    exact ⟨0, _, 1, by decide, ⟨1, by decide, rfl, rfl, congrArg (fun z => [Blk.var (.d (.arr 8 1 [z, z8, z8, z8, z8, z8, z8, z8]))]) (by8_eq n 0 (shr_e n 0 _ (by rfl) (by decide)))⟩, ⟨rfl, rfl, rfl, rfl, rfl, trivial⟩, rfl⟩
  · conv => whnf
    refine ⟨by decide, ?_⟩
    conv => whnf
    refine ⟨bigB n 1, ⟨by rw [bigB_bytes]; rfl, by rw [bigB_size]; rfl⟩, ?_⟩
    conv => whnf
    exact ⟨rfl, rfl⟩
  · omega

theorem big4_c {n : Nat} : CallR cx 76 [u64 n, i64 4] [] fun r S => r = st (bigB n 4) ∧ S = [] := by
  let f : Nat → List D := fun i => match i with
    | 0 => [z8, z8, z8, z8, z8, z8, z8, z8]
    | 1 => [by8 n 3, z8, z8, z8, z8, z8, z8, z8]
    | 2 => [by8 n 3, by8 n 2, z8, z8, z8, z8, z8, z8]
    | 3 => [by8 n 3, by8 n 2, by8 n 1, z8, z8, z8, z8, z8]
    | _ => [by8 n 3, by8 n 2, by8 n 1, by8 n 0, z8, z8, z8, z8]
  refine callR_of (R := R1) cx_ok Tryz.func76 (by kernel_rfl) rfl ?_
  conv => whnf
  refine .inl ⟨fun m l S => ∃ i : Nat, i ≤ 4 ∧ m = 4 - i ∧ l = [(0, u64 n), (1, i64 4), (5, .ptr 0 []), (7, i64 4), (8, i64 (i : Int))] ∧
    S = [.var (.d (.arr 8 1 (f i)))], ⟨4, _, ⟨0, by decide, rfl, rfl, rfl⟩, ⟨rfl, rfl, rfl, rfl, rfl, trivial⟩⟩, ?_⟩
  rintro _ _ _ ⟨i, hi, rfl, rfl, rfl⟩
  rcases i with _ | _ | _ | _ | _ | i
  · conv => whnf
    refine ⟨by decide, ?_⟩
    conv => whnf
    refine ⟨by decide, ?_⟩
    conv => whnf
    exact ⟨3, _, 1, by decide, ⟨1, by decide, rfl, rfl, congrArg (fun z => [Blk.var (.d (.arr 8 1 [z, z8, z8, z8, z8, z8, z8, z8]))]) (by8_eq n 3 (shr_e n 3 _ (by rfl) (by decide)))⟩, ⟨rfl, rfl, rfl, rfl, rfl, trivial⟩, rfl⟩
  · conv => whnf
    refine ⟨by decide, ?_⟩
    conv => whnf
    refine ⟨by decide, ?_⟩
    conv => whnf
    exact ⟨2, _, 1, by decide, ⟨2, by decide, rfl, rfl, congrArg (fun z => [Blk.var (.d (.arr 8 1 [by8 n 3, z, z8, z8, z8, z8, z8, z8]))]) (by8_eq n 2 (shr_e n 2 _ (by rfl) (by decide)))⟩, ⟨rfl, rfl, rfl, rfl, rfl, trivial⟩, rfl⟩
  · conv => whnf
    refine ⟨by decide, ?_⟩
    conv => whnf
    refine ⟨by decide, ?_⟩
    conv => whnf
    exact ⟨1, _, 1, by decide, ⟨3, by decide, rfl, rfl, congrArg (fun z => [Blk.var (.d (.arr 8 1 [by8 n 3, by8 n 2, z, z8, z8, z8, z8, z8]))]) (by8_eq n 1 (shr_e n 1 _ (by rfl) (by decide)))⟩, ⟨rfl, rfl, rfl, rfl, rfl, trivial⟩, rfl⟩
  · conv => whnf
    refine ⟨by decide, ?_⟩
    conv => whnf
    refine ⟨by decide, ?_⟩
    conv => whnf
    exact ⟨0, _, 1, by decide, ⟨4, by decide, rfl, rfl, congrArg (fun z => [Blk.var (.d (.arr 8 1 [by8 n 3, by8 n 2, by8 n 1, z, z8, z8, z8, z8]))]) (by8_eq n 0 (shr_e n 0 _ (by rfl) (by decide)))⟩, ⟨rfl, rfl, rfl, rfl, rfl, trivial⟩, rfl⟩
  · conv => whnf
    refine ⟨by decide, ?_⟩
    conv => whnf
    refine ⟨bigB n 4, ⟨by rw [bigB_bytes]; rfl, by rw [bigB_size]; rfl⟩, ?_⟩
    conv => whnf
    exact ⟨rfl, rfl⟩
  · omega

theorem big8_c {n : Nat} : CallR cx 76 [u64 n, i64 8] [] fun r S => r = st (bigB n 8) ∧ S = [] := by
  let f : Nat → List D := fun i => match i with
    | 0 => [z8, z8, z8, z8, z8, z8, z8, z8]
    | 1 => [by8 n 7, z8, z8, z8, z8, z8, z8, z8]
    | 2 => [by8 n 7, by8 n 6, z8, z8, z8, z8, z8, z8]
    | 3 => [by8 n 7, by8 n 6, by8 n 5, z8, z8, z8, z8, z8]
    | 4 => [by8 n 7, by8 n 6, by8 n 5, by8 n 4, z8, z8, z8, z8]
    | 5 => [by8 n 7, by8 n 6, by8 n 5, by8 n 4, by8 n 3, z8, z8, z8]
    | 6 => [by8 n 7, by8 n 6, by8 n 5, by8 n 4, by8 n 3, by8 n 2, z8, z8]
    | 7 => [by8 n 7, by8 n 6, by8 n 5, by8 n 4, by8 n 3, by8 n 2, by8 n 1, z8]
    | _ => [by8 n 7, by8 n 6, by8 n 5, by8 n 4, by8 n 3, by8 n 2, by8 n 1, by8 n 0]
  refine callR_of (R := R1) cx_ok Tryz.func76 (by kernel_rfl) rfl ?_
  conv => whnf
  refine .inl ⟨fun m l S => ∃ i : Nat, i ≤ 8 ∧ m = 8 - i ∧ l = [(0, u64 n), (1, i64 8), (5, .ptr 0 []), (7, i64 8), (8, i64 (i : Int))] ∧
    S = [.var (.d (.arr 8 1 (f i)))], ⟨8, _, ⟨0, by decide, rfl, rfl, rfl⟩, ⟨rfl, rfl, rfl, rfl, rfl, trivial⟩⟩, ?_⟩
  rintro _ _ _ ⟨i, hi, rfl, rfl, rfl⟩
  rcases i with _ | _ | _ | _ | _ | _ | _ | _ | _ | i
  · conv => whnf
    refine ⟨by decide, ?_⟩
    conv => whnf
    refine ⟨by decide, ?_⟩
    conv => whnf
    exact ⟨7, _, 1, by decide, ⟨1, by decide, rfl, rfl, congrArg (fun z => [Blk.var (.d (.arr 8 1 [z, z8, z8, z8, z8, z8, z8, z8]))]) (by8_eq n 7 (shr_e n 7 _ (by rfl) (by decide)))⟩, ⟨rfl, rfl, rfl, rfl, rfl, trivial⟩, rfl⟩
  · conv => whnf
    refine ⟨by decide, ?_⟩
    conv => whnf
    refine ⟨by decide, ?_⟩
    conv => whnf
    exact ⟨6, _, 1, by decide, ⟨2, by decide, rfl, rfl, congrArg (fun z => [Blk.var (.d (.arr 8 1 [by8 n 7, z, z8, z8, z8, z8, z8, z8]))]) (by8_eq n 6 (shr_e n 6 _ (by rfl) (by decide)))⟩, ⟨rfl, rfl, rfl, rfl, rfl, trivial⟩, rfl⟩
  · conv => whnf
    refine ⟨by decide, ?_⟩
    conv => whnf
    refine ⟨by decide, ?_⟩
    conv => whnf
    exact ⟨5, _, 1, by decide, ⟨3, by decide, rfl, rfl, congrArg (fun z => [Blk.var (.d (.arr 8 1 [by8 n 7, by8 n 6, z, z8, z8, z8, z8, z8]))]) (by8_eq n 5 (shr_e n 5 _ (by rfl) (by decide)))⟩, ⟨rfl, rfl, rfl, rfl, rfl, trivial⟩, rfl⟩
  · conv => whnf
    refine ⟨by decide, ?_⟩
    conv => whnf
    refine ⟨by decide, ?_⟩
    conv => whnf
    exact ⟨4, _, 1, by decide, ⟨4, by decide, rfl, rfl, congrArg (fun z => [Blk.var (.d (.arr 8 1 [by8 n 7, by8 n 6, by8 n 5, z, z8, z8, z8, z8]))]) (by8_eq n 4 (shr_e n 4 _ (by rfl) (by decide)))⟩, ⟨rfl, rfl, rfl, rfl, rfl, trivial⟩, rfl⟩
  · conv => whnf
    refine ⟨by decide, ?_⟩
    conv => whnf
    refine ⟨by decide, ?_⟩
    conv => whnf
    exact ⟨3, _, 1, by decide, ⟨5, by decide, rfl, rfl, congrArg (fun z => [Blk.var (.d (.arr 8 1 [by8 n 7, by8 n 6, by8 n 5, by8 n 4, z, z8, z8, z8]))]) (by8_eq n 3 (shr_e n 3 _ (by rfl) (by decide)))⟩, ⟨rfl, rfl, rfl, rfl, rfl, trivial⟩, rfl⟩
  · conv => whnf
    refine ⟨by decide, ?_⟩
    conv => whnf
    refine ⟨by decide, ?_⟩
    conv => whnf
    exact ⟨2, _, 1, by decide, ⟨6, by decide, rfl, rfl, congrArg (fun z => [Blk.var (.d (.arr 8 1 [by8 n 7, by8 n 6, by8 n 5, by8 n 4, by8 n 3, z, z8, z8]))]) (by8_eq n 2 (shr_e n 2 _ (by rfl) (by decide)))⟩, ⟨rfl, rfl, rfl, rfl, rfl, trivial⟩, rfl⟩
  · conv => whnf
    refine ⟨by decide, ?_⟩
    conv => whnf
    refine ⟨by decide, ?_⟩
    conv => whnf
    exact ⟨1, _, 1, by decide, ⟨7, by decide, rfl, rfl, congrArg (fun z => [Blk.var (.d (.arr 8 1 [by8 n 7, by8 n 6, by8 n 5, by8 n 4, by8 n 3, by8 n 2, z, z8]))]) (by8_eq n 1 (shr_e n 1 _ (by rfl) (by decide)))⟩, ⟨rfl, rfl, rfl, rfl, rfl, trivial⟩, rfl⟩
  · conv => whnf
    refine ⟨by decide, ?_⟩
    conv => whnf
    refine ⟨by decide, ?_⟩
    conv => whnf
    exact ⟨0, _, 1, by decide, ⟨8, by decide, rfl, rfl, congrArg (fun z => [Blk.var (.d (.arr 8 1 [by8 n 7, by8 n 6, by8 n 5, by8 n 4, by8 n 3, by8 n 2, by8 n 1, z]))]) (by8_eq n 0 (shr_e n 0 _ (by rfl) (by decide)))⟩, ⟨rfl, rfl, rfl, rfl, rfl, trivial⟩, rfl⟩
  · conv => whnf
    refine ⟨by decide, ?_⟩
    conv => whnf
    refine ⟨bigB n 8, ⟨by rw [bigB_bytes]; rfl, by rw [bigB_size]; rfl⟩, ?_⟩
    conv => whnf
    exact ⟨rfl, rfl⟩
  · omega

abbrev u32 (n : Int) : AV := .d (.int .u32 n)

theorem wrap32 {n : Int} (h : 0 ≤ n ∧ n < 4294967296) : IntKind.u32.wrap n = n := by
  simp [IntKind.wrap, IntKind.bits, IntKind.signed]; omega

theorem wrap8 {n : Int} (h : 0 ≤ n ∧ n < 256) : IntKind.u8.wrap n = n := by
  simp [IntKind.wrap, IntKind.bits, IntKind.signed]; omega

/-- A text's length, and it. -/
def textB (s : ByteArray) : ByteArray := bigB s.size 4 ++ s

theorem textB_size (s : ByteArray) : (textB s).size = 4 + s.size := by unfold textB; rw [ByteArray.size_append, bigB_size]

theorem wbyte_c {n : Nat} (h : n < 256) : CallR cx 47 [u8 n] [] fun r S => r = st (bigB n 1) ∧ S = [] := by
  have w : CallR cx 76 [u64 (IntKind.u64.wrap (n : Int)), i64 1] [] fun r S => r = st (bigB n 1) ∧ S = [] := by rw [wrapN (by omega)]; exact big1_c
  refine callR_of (R := R1) cx_ok Tryz.func47 (by kernel_rfl) rfl ?_
  conv => whnf
  refine ⟨_, w, ?_⟩
  rintro _ _ ⟨rfl, rfl⟩
  conv => whnf
  exact ⟨rfl, rfl⟩

theorem wword_c {n : Nat} (h : n < 4294967296) : CallR cx 48 [u32 n] [] fun r S => r = st (bigB n 4) ∧ S = [] := by
  have w : CallR cx 76 [u64 (IntKind.u64.wrap (n : Int)), i64 4] [] fun r S => r = st (bigB n 4) ∧ S = [] := by rw [wrapN (by omega)]; exact big4_c
  refine callR_of (R := R1) cx_ok Tryz.func48 (by kernel_rfl) rfl ?_
  conv => whnf
  refine ⟨_, w, ?_⟩
  rintro _ _ ⟨rfl, rfl⟩
  conv => whnf
  exact ⟨rfl, rfl⟩

theorem wlong_c {n : Nat} : CallR cx 50 [u64 n] [] fun r S => r = st (bigB n 8) ∧ S = [] := by
  refine callR_of (R := R1) cx_ok Tryz.func50 (by kernel_rfl) rfl ?_
  conv => whnf
  refine ⟨_, big8_c, ?_⟩
  rintro _ _ ⟨rfl, rfl⟩
  conv => whnf
  exact ⟨rfl, rfl⟩

theorem wtext_c {s : ByteArray} (h : s.size < 4294967296) : CallR cx 49 [st s] [] fun r S => r = st (textB s) ∧ S = [] := by
  have w : CallR cx 48 [u32 (IntKind.u32.wrap (s.size : Int))] [] fun r S => r = st (bigB s.size 4) ∧ S = [] := by rw [wrap32 (by omega)]; exact wword_c h
  refine callR_of (R := R1) cx_ok Tryz.func49 (by kernel_rfl) rfl ?_
  conv => whnf
  refine ⟨_, w, ?_⟩
  rintro _ _ ⟨rfl, rfl⟩
  conv => whnf
  refine ⟨by rw [bigB_size]; omega, ?_⟩
  conv => whnf
  exact ⟨rfl, rfl⟩

/-- A payload whose numbers are in range and whose texts are no longer than so much. -/
def Pl.fit : Pl → Prop
  | .tr o a b n => (0 ≤ o ∧ o < 4294967296) ∧ (0 ≤ n ∧ n < 18446744073709551616) ∧ a.size < 100000 ∧ b.size < 100000
  | .sy a b => a.size < 100000 ∧ b.size < 100000
  | .de o a n => (0 ≤ o ∧ o < 4294967296) ∧ (0 ≤ n ∧ n < 18446744073709551616) ∧ a.size < 100000
  | _ => True

def Pl.right : Pl → Bool
  | .tr _ a b n => (rightT a && rightT b) && decide (n ≠ 0)
  | .sy a b => rightT a && saysT b
  | .de _ a _ => rightT a
  | _ => false

theorem pright_c {p : Pl} (h : p.fit) : CallR cx 30 [.d p.d] [] fun r S => r = bo p.right ∧ S = [] := by
  cases p with
  | tr o a b n =>
    have r1 := right_c (s := a) (by have := h.2.2.1; omega)
    have r2 := right_c (s := b) (by have := h.2.2.2; omega)
    refine callR_of (R := R1) cx_ok Tryz.func30 (by kernel_rfl) rfl ?_
    conv => whnf
    refine ⟨_, r1, ?_⟩
    rintro _ _ ⟨rfl, rfl⟩
    conv => whnf
    refine brec (fun h1 => ?_) (fun h1 => ?_)
    · conv => whnf
      refine ⟨_, r2, ?_⟩
      rintro _ _ ⟨rfl, rfl⟩
      conv => whnf
      refine brec (fun h2 => ?_) (fun h2 => ?_)
      · conv => whnf
        refine ⟨?_, rfl⟩
        show _ = bo ((rightT a && rightT b) && decide (n ≠ 0))
        rw [h1, h2, Bool.true_and, Bool.true_and]
        refine congrArg bo ?_
        by_cases hn : n = 0
        · subst hn; rfl
        · rw [decide_eq_true hn]; simp [hn]
      · conv => whnf
        refine ⟨?_, rfl⟩
        show _ = bo ((rightT a && rightT b) && decide (n ≠ 0))
        rw [h2, Bool.and_false, Bool.false_and]; rfl
    · conv => whnf
      refine ⟨?_, rfl⟩
      show _ = bo ((rightT a && rightT b) && decide (n ≠ 0))
      rw [h1, Bool.false_and, Bool.false_and]; rfl
  | sy a b =>
    have r1 := right_c (s := a) (by have := h.1; omega)
    have r2 := says_c (s := b) (by have := h.2; omega)
    refine callR_of (R := R1) cx_ok Tryz.func30 (by kernel_rfl) rfl ?_
    conv => whnf
    refine ⟨_, r1, ?_⟩
    rintro _ _ ⟨rfl, rfl⟩
    conv => whnf
    refine brec (fun h1 => ?_) (fun h1 => ?_)
    · conv => whnf
      refine ⟨_, r2, ?_⟩
      rintro _ _ ⟨rfl, rfl⟩
      conv => whnf
      refine ⟨?_, rfl⟩
      show _ = bo (rightT a && saysT b)
      rw [h1, Bool.true_and]; rfl
    · conv => whnf
      refine ⟨?_, rfl⟩
      show _ = bo (rightT a && saysT b)
      rw [h1, Bool.false_and]; rfl
  | de o a n =>
    have r1 := right_c (s := a) (by have := h.2.2; omega)
    refine callR_of (R := R1) cx_ok Tryz.func30 (by kernel_rfl) rfl ?_
    conv => whnf
    refine ⟨_, r1, ?_⟩
    rintro _ _ ⟨rfl, rfl⟩
    conv => whnf
    exact ⟨rfl, rfl⟩
  | _ =>
    refine callR_of (R := R1) cx_ok Tryz.func30 (by kernel_rfl) rfl ?_
    conv => whnf
    exact ⟨rfl, rfl⟩

theorem tag_c {p : Pl} : CallR cx 16 [.d p.d] [] fun r S => r = i64 p.kd ∧ S = [] := by
  cases p <;>
  · refine callR_of (R := R1) cx_ok Tryz.func16 (by kernel_rfl) rfl ?_
    conv => whnf
    exact ⟨rfl, rfl⟩

/-- A payload's bytes. -/
def Pl.bytes : Pl → ByteArray
  | .tr o a b n => bigB 1 1 ++ (((bigB o.toNat 4 ++ textB a) ++ textB b) ++ bigB n.toNat 8)
  | .sy a b => bigB 2 1 ++ (textB a ++ textB b)
  | .de o a n => bigB 3 1 ++ ((bigB o.toNat 4 ++ textB a) ++ bigB n.toNat 8)
  | _ => .empty

/-- What 'Bytes' hands back. -/
def Pl.outS (p : Pl) : ByteArray := if p.right then p.bytes else .empty

def Pl.outE (p : Pl) : Int := if p.kd = 0 then 2 else if p.right then 0 else 4

theorem bytes_c {p : Pl} (h : p.fit) : CallR cx 25 [.d p.d] [] fun r S => r = .tup [st p.outS, i64 p.outE] ∧ S = [] := by
  have pr := pright_c h
  have tg := tag_c (p := p)
  cases p with
  | tr o a b n =>
    obtain ⟨⟨ho, ho'⟩, ⟨hn, hn'⟩, ha, hb⟩ := h
    obtain ⟨O, rfl⟩ := Int.eq_ofNat_of_zero_le ho
    obtain ⟨M, rfl⟩ := Int.eq_ofNat_of_zero_le hn
    have wo := wword_c (n := O) (by omega)
    have wl := wlong_c (n := M)
    have wa := wtext_c (s := a) (by omega)
    have wc := wtext_c (s := b) (by omega)
    have wb : CallR cx 47 [u8 (IntKind.u8.wrap 1)] [] fun r S => r = st (bigB 1 1) ∧ S = [] := by rw [wrap8 (by omega)]; exact wbyte_c (n := 1) (by omega)
    refine callR_of (R := R1) cx_ok Tryz.func25 (by kernel_rfl) rfl ?_
    conv => whnf
    refine ⟨_, tg, ?_⟩
    rintro _ _ ⟨rfl, rfl⟩
    conv => whnf
    refine ⟨_, wb, ?_⟩
    rintro _ _ ⟨rfl, rfl⟩
    conv => whnf
    refine ⟨by kernel_rfl, ?_⟩
    conv => whnf
    refine ⟨_, wo, ?_⟩
    conv => whnf
    refine ⟨_, wa, ?_⟩
    conv => whnf
    refine ⟨by (repeat (first | rw [ByteArray.size_append] | rw [bigB_size] | rw [textB_size])); omega, ?_⟩
    conv => whnf
    refine ⟨_, wc, ?_⟩
    conv => whnf
    refine ⟨by (repeat (first | rw [ByteArray.size_append] | rw [bigB_size] | rw [textB_size])); omega, ?_⟩
    conv => whnf
    refine ⟨_, wl, ?_⟩
    conv => whnf
    refine ⟨by (repeat (first | rw [ByteArray.size_append] | rw [bigB_size] | rw [textB_size])); omega, ?_⟩
    conv => whnf
    refine ⟨by (repeat (first | rw [ByteArray.size_append] | rw [bigB_size] | rw [textB_size])); omega, ?_⟩
    conv => whnf
    refine ⟨by kernel_rfl, ?_⟩
    conv => whnf
    refine ⟨_, pr, ?_⟩
    rintro _ _ ⟨rfl, rfl⟩
    conv => whnf
    refine brec (fun h1 => ?_) (fun h1 => ?_)
    · conv => whnf
      have h1 : Pl.right (Pl.tr (O : Int) a b (M : Int)) = false := by simpa using h1
      refine ⟨?_, rfl⟩
      show _ = AV.tup [st (if Pl.right (Pl.tr (O : Int) a b (M : Int)) then _ else _), i64 (if (1 : Int) = 0 then 2 else if Pl.right (Pl.tr (O : Int) a b (M : Int)) then 0 else 4)]
      rw [h1]
      rfl
    · conv => whnf
      have h1 : Pl.right (Pl.tr (O : Int) a b (M : Int)) = true := by simpa using h1
      refine ⟨?_, rfl⟩
      show _ = AV.tup [st (if Pl.right (Pl.tr (O : Int) a b (M : Int)) then _ else _), i64 (if (1 : Int) = 0 then 2 else if Pl.right (Pl.tr (O : Int) a b (M : Int)) then 0 else 4)]
      rw [h1]
      rfl
  | sy a b =>
    obtain ⟨ha, hb⟩ := h
    have wa := wtext_c (s := a) (by omega)
    have wc := wtext_c (s := b) (by omega)
    have wb : CallR cx 47 [u8 (IntKind.u8.wrap 2)] [] fun r S => r = st (bigB 2 1) ∧ S = [] := by rw [wrap8 (by omega)]; exact wbyte_c (n := 2) (by omega)
    refine callR_of (R := R1) cx_ok Tryz.func25 (by kernel_rfl) rfl ?_
    conv => whnf
    refine ⟨_, tg, ?_⟩
    rintro _ _ ⟨rfl, rfl⟩
    conv => whnf
    refine ⟨_, wb, ?_⟩
    rintro _ _ ⟨rfl, rfl⟩
    conv => whnf
    refine ⟨by kernel_rfl, ?_⟩
    conv => whnf
    refine ⟨_, wa, ?_⟩
    conv => whnf
    refine ⟨_, wc, ?_⟩
    conv => whnf
    refine ⟨by (repeat (first | rw [ByteArray.size_append] | rw [bigB_size] | rw [textB_size])); omega, ?_⟩
    conv => whnf
    refine ⟨by (repeat (first | rw [ByteArray.size_append] | rw [bigB_size] | rw [textB_size])); omega, ?_⟩
    conv => whnf
    refine ⟨by kernel_rfl, ?_⟩
    conv => whnf
    refine ⟨_, pr, ?_⟩
    rintro _ _ ⟨rfl, rfl⟩
    conv => whnf
    refine brec (fun h1 => ?_) (fun h1 => ?_)
    · conv => whnf
      have h1 : Pl.right (Pl.sy a b) = false := by simpa using h1
      refine ⟨?_, rfl⟩
      show _ = AV.tup [st (if Pl.right (Pl.sy a b) then _ else _), i64 (if (2 : Int) = 0 then 2 else if Pl.right (Pl.sy a b) then 0 else 4)]
      rw [h1]
      rfl
    · conv => whnf
      have h1 : Pl.right (Pl.sy a b) = true := by simpa using h1
      refine ⟨?_, rfl⟩
      show _ = AV.tup [st (if Pl.right (Pl.sy a b) then _ else _), i64 (if (2 : Int) = 0 then 2 else if Pl.right (Pl.sy a b) then 0 else 4)]
      rw [h1]
      rfl
  | de o a n =>
    obtain ⟨⟨ho, ho'⟩, ⟨hn, hn'⟩, ha⟩ := h
    obtain ⟨O, rfl⟩ := Int.eq_ofNat_of_zero_le ho
    obtain ⟨M, rfl⟩ := Int.eq_ofNat_of_zero_le hn
    have wo := wword_c (n := O) (by omega)
    have wl := wlong_c (n := M)
    have wa := wtext_c (s := a) (by omega)
    have wb : CallR cx 47 [u8 (IntKind.u8.wrap 3)] [] fun r S => r = st (bigB 3 1) ∧ S = [] := by rw [wrap8 (by omega)]; exact wbyte_c (n := 3) (by omega)
    refine callR_of (R := R1) cx_ok Tryz.func25 (by kernel_rfl) rfl ?_
    conv => whnf
    refine ⟨_, tg, ?_⟩
    rintro _ _ ⟨rfl, rfl⟩
    conv => whnf
    refine ⟨_, wb, ?_⟩
    rintro _ _ ⟨rfl, rfl⟩
    conv => whnf
    refine ⟨by kernel_rfl, ?_⟩
    conv => whnf
    refine ⟨_, wo, ?_⟩
    conv => whnf
    refine ⟨_, wa, ?_⟩
    conv => whnf
    refine ⟨by (repeat (first | rw [ByteArray.size_append] | rw [bigB_size] | rw [textB_size])); omega, ?_⟩
    conv => whnf
    refine ⟨_, wl, ?_⟩
    conv => whnf
    refine ⟨by (repeat (first | rw [ByteArray.size_append] | rw [bigB_size] | rw [textB_size])); omega, ?_⟩
    conv => whnf
    refine ⟨by (repeat (first | rw [ByteArray.size_append] | rw [bigB_size] | rw [textB_size])); omega, ?_⟩
    conv => whnf
    refine ⟨by kernel_rfl, ?_⟩
    conv => whnf
    refine ⟨_, pr, ?_⟩
    rintro _ _ ⟨rfl, rfl⟩
    conv => whnf
    refine brec (fun h1 => ?_) (fun h1 => ?_)
    · conv => whnf
      have h1 : Pl.right (Pl.de (O : Int) a (M : Int)) = false := by simpa using h1
      refine ⟨?_, rfl⟩
      show _ = AV.tup [st (if Pl.right (Pl.de (O : Int) a (M : Int)) then _ else _), i64 (if (3 : Int) = 0 then 2 else if Pl.right (Pl.de (O : Int) a (M : Int)) then 0 else 4)]
      rw [h1]
      rfl
    · conv => whnf
      have h1 : Pl.right (Pl.de (O : Int) a (M : Int)) = true := by simpa using h1
      refine ⟨?_, rfl⟩
      show _ = AV.tup [st (if Pl.right (Pl.de (O : Int) a (M : Int)) then _ else _), i64 (if (3 : Int) = 0 then 2 else if Pl.right (Pl.de (O : Int) a (M : Int)) then 0 else 4)]
      rw [h1]
      rfl
  | _ =>
    have wb : CallR cx 47 [u8 (IntKind.u8.wrap 0)] [] fun r S => r = st (bigB 0 1) ∧ S = [] := by rw [wrap8 (by omega)]; exact wbyte_c (n := 0) (by omega)
    refine callR_of (R := R1) cx_ok Tryz.func25 (by kernel_rfl) rfl ?_
    conv => whnf
    refine ⟨_, tg, ?_⟩
    rintro _ _ ⟨rfl, rfl⟩
    conv => whnf
    refine ⟨_, wb, ?_⟩
    rintro _ _ ⟨rfl, rfl⟩
    conv => whnf
    exact ⟨rfl, rfl⟩
end Go.Proofs.YtmdfpifcghmpfaaGreatDoor

set_option linter.unusedVariables false
namespace Go.Proofs.YtmdfpifcghmpfaaGreatDoor
open Go.Ab Go.RowKit

/-- A reader: what is left, what is wrong. -/
structure Rs where
  s : ByteArray
  e : Int

def Rs.d (r : Rs) : D := rd r.s r.e

def Rs.got (r : Rs) (n : Int) : ByteArray := tkS r.s r.e n

def Rs.take (r : Rs) (n : Int) : Rs := ⟨tkR r.s r.e n, rd_tkE r.s r.e n⟩

def Rs.num (r : Rs) (n : Int) : Nat := be (r.got n).data.toList 0

def Rs.fail (r : Rs) (f : Int) : Rs := ⟨r.s, if r.e = 0 then f else r.e⟩

def Rs.cnt (r : Rs) (m : Int) : Int := if (r.num 4 : Int) > m then 0 else r.num 4

def Rs.cntR (r : Rs) (m : Int) : Rs := if (r.num 4 : Int) > m then (r.take 4).fail 5 else r.take 4

def Rs.txt (r : Rs) (m : Int) : ByteArray := (r.cntR m).got (r.cnt m)

def Rs.txtR (r : Rs) (m : Int) : Rs := (r.cntR m).take (r.cnt m)

def Rs.out (r : Rs) : Int := if r.e = 0 then (if r.s = .empty then 0 else 4) else r.e

theorem tkR_size (s : ByteArray) (e n : Int) : (tkR s e n).size ≤ s.size := by
  unfold tkR; split
  · rw [ByteArray.size_extract]; omega
  · omega

theorem take_size (r : Rs) (n : Int) : (r.take n).s.size ≤ r.s.size := tkR_size ..

theorem fail_size (r : Rs) (f : Int) : (r.fail f).s.size = r.s.size := rfl

theorem cntR_size (r : Rs) (m : Int) : (r.cntR m).s.size ≤ r.s.size := by
  unfold Rs.cntR; split
  · rw [fail_size]; exact take_size ..
  · exact take_size ..

theorem txtR_size (r : Rs) (m : Int) : (r.txtR m).s.size ≤ r.s.size := Nat.le_trans (take_size ..) (cntR_size ..)

theorem got_size (r : Rs) (n : Int) : (r.got n).size ≤ r.s.size := by
  unfold Rs.got tkS; split
  · rw [ByteArray.size_extract]; omega
  · exact Nat.zero_le _

theorem got_le {r : Rs} {n : Int} (hn : 0 ≤ n) : ((r.got n).size : Int) ≤ n := by
  unfold Rs.got tkS; split
  · rw [ByteArray.size_extract]; omega
  · exact hn

theorem txt_size (r : Rs) (m : Int) : (r.txt m).size ≤ r.s.size := Nat.le_trans (got_size ..) (cntR_size ..)

theorem cnt_nonneg (r : Rs) (m : Int) : 0 ≤ r.cnt m := by unfold Rs.cnt; split <;> omega

theorem be_pow : ∀ (l : List UInt8) {a k : Nat}, a < 256 ^ k → be l a < 256 ^ (k + l.length)
  | [], _, _, h => h
  | b :: l, a, k, h => by
    have hb := b.toNat_lt
    have h1 : (a * 256 + b.toNat) % 18446744073709551616 < 256 ^ (k + 1) := by
      refine Nat.lt_of_le_of_lt (Nat.mod_le _ _) ?_
      rw [Nat.pow_succ]
      omega
    have := be_pow l h1
    rw [List.length_cons, show k + (l.length + 1) = k + 1 + l.length by omega]
    exact this

theorem num_lt {r : Rs} {n : Nat} : r.num n < 256 ^ n := by
  have h := be_pow (r.got n).data.toList (a := 0) (k := 0) (by decide)
  have g := got_le (r := r) (n := (n : Int)) (by omega)
  have e : (r.got n).data.toList.length = (r.got n).size := Array.length_toList
  rw [Nat.zero_add, e] at h
  exact Nat.lt_of_lt_of_le h (Nat.pow_le_pow_right (by decide) (by omega))

theorem num1_lt (r : Rs) : r.num 1 < 256 := num_lt (n := 1)

theorem num4_lt (r : Rs) : r.num 4 < 4294967296 := num_lt (n := 4)

theorem num8_lt (r : Rs) : r.num 8 < 18446744073709551616 := num_lt (n := 8)

theorem nfail_c {r : Rs} {f : Int} : CallR cx 54 [.ptr 0 [], i64 f] [.var (.d r.d)] fun v S => v = .tup [] ∧ S = [.var (.d (r.fail f).d)] := fail_c

theorem nend_c {r : Rs} : CallR cx 29 [.ptr 0 []] [.var (.d r.d)] fun v S => v = i64 r.out ∧ S = [.var (.d r.d)] := end_c

theorem ntake_c {r : Rs} {n : Int} (hn : 0 ≤ n) : CallR cx 77 [.ptr 0 [], i64 n] [.var (.d r.d)] fun v S => v = st (r.got n) ∧ S = [.var (.d (r.take n).d)] := rd_take_c hn

theorem nnum_c {r : Rs} {n : Int} (hn : 0 ≤ n) (hm : r.s.size < 9223372036854775807) : CallR cx 55 [.ptr 0 [], i64 n] [.var (.d r.d)] fun v S => v = u64 ((r.num n : Nat) : Int) ∧ S = [.var (.d (r.take n).d)] := number_c hn hm

theorem nbyte_c {r : Rs} (hm : r.s.size < 9223372036854775807) : CallR cx 28 [.ptr 0 []] [.var (.d r.d)] fun v S => v = u8 ((r.num 1 : Nat) : Int) ∧ S = [.var (.d (r.take 1).d)] := by
  have h := byte_c (s := r.s) (e := r.e) hm
  have := num1_lt r
  rw [show IntKind.u8.wrap ((be (tkS r.s r.e 1).data.toList 0 : Nat) : Int) = ((r.num 1 : Nat) : Int) from wrap8 ⟨by omega, by show ((r.num 1 : Nat) : Int) < 256; omega⟩] at h
  exact h

theorem nword_c {r : Rs} (hm : r.s.size < 9223372036854775807) : CallR cx 51 [.ptr 0 []] [.var (.d r.d)] fun v S => v = u32 ((r.num 4 : Nat) : Int) ∧ S = [.var (.d (r.take 4).d)] := by
  have nu := nnum_c (r := r) (n := 4) (by decide) hm
  have e := wrap32 (n := ((r.num 4 : Nat) : Int)) (by have := num4_lt r; omega)
  generalize ((r.num 4 : Nat) : Int) = m at *
  generalize (r.take 4).d = R at *
  generalize r.d = R0 at *
  refine callR_of (R := R1) cx_ok Tryz.func51 (by kernel_rfl) rfl ?_
  conv => whnf
  refine ⟨_, nu, ?_⟩
  rintro _ _ ⟨rfl, rfl⟩
  conv => whnf
  exact ⟨congrArg u32 e, rfl⟩

theorem nlong_c {r : Rs} (hm : r.s.size < 9223372036854775807) : CallR cx 53 [.ptr 0 []] [.var (.d r.d)] fun v S => v = u64 ((r.num 8 : Nat) : Int) ∧ S = [.var (.d (r.take 8).d)] := by
  have nu := nnum_c (r := r) (n := 8) (by decide) hm
  generalize ((r.num 8 : Nat) : Int) = m at *
  generalize (r.take 8).d = R at *
  generalize r.d = R0 at *
  refine callR_of (R := R1) cx_ok Tryz.func53 (by kernel_rfl) rfl ?_
  conv => whnf
  refine ⟨_, nu, ?_⟩
  rintro _ _ ⟨rfl, rfl⟩
  conv => whnf
  exact ⟨rfl, rfl⟩

theorem ncount_c {r : Rs} {m : Int} (h0 : 0 ≤ m) (hmm : m < 4611686018427387904) (hm : r.s.size < 9223372036854775807) :
    CallR cx 78 [.ptr 0 [], i64 m] [.var (.d r.d)] fun v S => v = i64 (r.cnt m) ∧ S = [.var (.d (r.cntR m).d)] := by
  have nu := nnum_c (r := r) (n := 4) (by decide) hm
  have fa := nfail_c (r := r.take 4) (f := 5)
  unfold Rs.cnt Rs.cntR
  have hlt := num4_lt r
  generalize hk : ((r.num 4 : Nat) : Int) = k at *
  generalize r.d = R0 at *
  have e1 : IntKind.u64.wrap (if (0 : Int) > m then 0 else m) = m := by rw [if_neg (by omega)]; exact wrapU ⟨h0, by omega⟩
  refine callR_of (R := R1) cx_ok Tryz.func78 (by kernel_rfl) rfl ?_
  conv => whnf
  refine ⟨_, nu, ?_⟩
  rintro _ _ ⟨rfl, rfl⟩
  conv => whnf
  refine brec (fun h => ?_) (fun h => ?_)
  · have h := of_decide_eq_true h
    rw [e1] at h
    rw [if_pos h, if_pos h]
    conv => whnf
    refine ⟨_, fa, ?_⟩
    rintro _ _ ⟨rfl, rfl⟩
    conv => whnf
    exact ⟨rfl, rfl⟩
  · have h := of_decide_eq_false h
    rw [e1] at h
    rw [if_neg h, if_neg h]
    conv => whnf
    exact ⟨congrArg i64 (w64 (by omega)), rfl⟩

theorem ntext_c {r : Rs} {m : Int} (h0 : 0 ≤ m) (hmm : m < 4611686018427387904) (hm : r.s.size < 9223372036854775807) :
    CallR cx 52 [.ptr 0 [], i64 m] [.var (.d r.d)] fun v S => v = st (r.txt m) ∧ S = [.var (.d (r.txtR m).d)] := by
  have nc := ncount_c (r := r) h0 hmm hm
  have nt := ntake_c (r := r.cntR m) (cnt_nonneg r m)
  unfold Rs.txt Rs.txtR
  generalize r.cnt m = k at *
  generalize r.cntR m = q at *
  refine callR_of (R := R1) cx_ok Tryz.func52 (by kernel_rfl) rfl ?_
  conv => whnf
  refine ⟨_, nc, ?_⟩
  rintro _ _ ⟨rfl, rfl⟩
  conv => whnf
  refine ⟨_, nt, ?_⟩
  rintro _ _ ⟨rfl, rfl⟩
  conv => whnf
  exact ⟨rfl, rfl⟩

theorem fail_bad (r : Rs) {f : Int} (hf : f ≠ 0) : (r.fail f).e ≠ 0 := by show (if r.e = 0 then f else r.e) ≠ 0; split <;> assumption

/-- What stands behind a tag, and the reader behind it. -/
def readB (t : Nat) (r : Rs) : Pl × Rs :=
  if t = 1 then (.tr ((r.num 4 : Nat) : Int) ((r.take 4).txt 48) (((r.take 4).txtR 48).txt 48) (((((r.take 4).txtR 48).txtR 48).num 8 : Nat) : Int), (((r.take 4).txtR 48).txtR 48).take 8)
  else if t = 2 then (.sy (r.txt 48) ((r.txtR 48).txt 256), (r.txtR 48).txtR 256)
  else if t = 3 then (.de ((r.num 4 : Nat) : Int) ((r.take 4).txt 48) ((((r.take 4).txtR 48).num 8 : Nat) : Int), ((r.take 4).txtR 48).take 8)
  else (.no, r.fail 4)

/-- The payload that bytes are, and what is wrong. -/
def readQ (s : ByteArray) : Pl × Rs := readB ((Rs.mk s 0).num 1) ((Rs.mk s 0).take 1)

def readP (s : ByteArray) : Pl × Int := if (readQ s).2.out = 0 then (if (readQ s).1.right then ((readQ s).1, 0) else (.no, 4)) else (.no, (readQ s).2.out)

theorem readB_fit {t : Nat} {r : Rs} (h : r.s.size < 100000) : (readB t r).1.fit := by
  have a1 := take_size r 4
  have a2 := txt_size (r.take 4) 48
  have a3 := txtR_size (r.take 4) 48
  have a4 := txt_size ((r.take 4).txtR 48) 48
  have a5 := txt_size r 48
  have a6 := txtR_size r 48
  have a7 := txt_size (r.txtR 48) 256
  have b1 := num4_lt r
  have b2 := num8_lt (((r.take 4).txtR 48).txtR 48)
  have b3 := num8_lt ((r.take 4).txtR 48)
  unfold readB
  split
  · exact ⟨⟨by omega, by omega⟩, ⟨by omega, by omega⟩, by omega, by omega⟩
  split
  · exact ⟨by omega, by omega⟩
  split
  · exact ⟨⟨by omega, by omega⟩, ⟨by omega, by omega⟩, by omega⟩
  · trivial

theorem body_c {t : Nat} {r : Rs} (hm : r.s.size < 9223372036854775807) :
    CallR cx 27 [.ptr 0 [], u8 (t : Int)] [.var (.d r.d)] fun v S => v = .d (readB t r).1.d ∧ S = [.var (.d (readB t r).2.d)] := by
  have a1 := take_size r 4
  have a3 := txtR_size (r.take 4) 48
  have a6 := txtR_size r 48
  have a8 := txtR_size ((r.take 4).txtR 48) 48
  unfold readB
  by_cases h1 : t = 1
  · rw [if_pos h1]
    subst h1
    have c1 := nword_c (r := r) hm
    have c2 := ntext_c (r := r.take 4) (m := 48) (by decide) (by decide) (by omega)
    have c3 := ntext_c (r := (r.take 4).txtR 48) (m := 48) (by decide) (by decide) (by omega)
    have c4 := nlong_c (r := ((r.take 4).txtR 48).txtR 48) (by omega)
    refine callR_of (R := R1) cx_ok Tryz.func27 (by kernel_rfl) rfl ?_
    conv => whnf
    refine ⟨_, c1, ?_⟩
    rintro _ _ ⟨rfl, rfl⟩
    conv => whnf
    refine ⟨_, c2, ?_⟩
    rintro _ _ ⟨rfl, rfl⟩
    conv => whnf
    refine ⟨_, c3, ?_⟩
    rintro _ _ ⟨rfl, rfl⟩
    conv => whnf
    refine ⟨_, c4, ?_⟩
    rintro _ _ ⟨rfl, rfl⟩
    conv => whnf
    exact ⟨rfl, rfl⟩
  rw [if_neg h1]
  by_cases h2 : t = 2
  · rw [if_pos h2]
    subst h2
    have c1 := ntext_c (r := r) (m := 48) (by decide) (by decide) (by omega)
    have c2 := ntext_c (r := r.txtR 48) (m := 256) (by decide) (by decide) (by omega)
    refine callR_of (R := R1) cx_ok Tryz.func27 (by kernel_rfl) rfl ?_
    conv => whnf
    refine ⟨_, c1, ?_⟩
    rintro _ _ ⟨rfl, rfl⟩
    conv => whnf
    refine ⟨_, c2, ?_⟩
    rintro _ _ ⟨rfl, rfl⟩
    conv => whnf
    exact ⟨rfl, rfl⟩
  rw [if_neg h2]
  by_cases h3 : t = 3
  · rw [if_pos h3]
    subst h3
    have c1 := nword_c (r := r) hm
    have c2 := ntext_c (r := r.take 4) (m := 48) (by decide) (by decide) (by omega)
    have c4 := nlong_c (r := (r.take 4).txtR 48) (by omega)
    refine callR_of (R := R1) cx_ok Tryz.func27 (by kernel_rfl) rfl ?_
    conv => whnf
    refine ⟨_, c1, ?_⟩
    rintro _ _ ⟨rfl, rfl⟩
    conv => whnf
    refine ⟨_, c2, ?_⟩
    rintro _ _ ⟨rfl, rfl⟩
    conv => whnf
    refine ⟨_, c4, ?_⟩
    rintro _ _ ⟨rfl, rfl⟩
    conv => whnf
    exact ⟨rfl, rfl⟩
  rw [if_neg h3]
  have c1 := nfail_c (r := r) (f := 4)
  generalize hT : (t : Int) = T
  refine callR_of (R := R1) cx_ok Tryz.func27 (by kernel_rfl) rfl ?_
  conv => whnf
  refine brF (beq_eq_false_iff_ne.2 (by omega)) ?_
  conv => whnf
  refine brF (beq_eq_false_iff_ne.2 (by omega)) ?_
  conv => whnf
  refine brF (beq_eq_false_iff_ne.2 (by omega)) ?_
  conv => whnf
  refine ⟨_, c1, ?_⟩
  rintro _ _ ⟨rfl, rfl⟩
  conv => whnf
  exact ⟨rfl, rfl⟩

theorem over2_c {s : ByteArray} : CallR cx 26 [st s] [] fun r S => r = .ptr 0 [] ∧ S = [.var (.d (Rs.mk s 0).d)] := over_c

theorem read_c {s : ByteArray} (hm : s.size < 100000) : CallR cx 15 [st s] [] fun v S => v = .tup [.d (readP s).1.d, i64 (readP s).2] ∧ S = [] := by
  have ov := over2_c (s := s)
  have by' := nbyte_c (r := Rs.mk s 0) (by show s.size < _; omega)
  have hs := take_size (Rs.mk s 0) 1
  have hs : ((Rs.mk s 0).take 1).s.size ≤ s.size := hs
  have bo' := body_c (t := (Rs.mk s 0).num 1) (r := (Rs.mk s 0).take 1) (by omega)
  have fi := readB_fit (t := (Rs.mk s 0).num 1) (r := (Rs.mk s 0).take 1) (by omega)
  have en := nend_c (r := (readB ((Rs.mk s 0).num 1) ((Rs.mk s 0).take 1)).2)
  have ri := pright_c fi
  unfold readP readQ
  generalize readB ((Rs.mk s 0).num 1) ((Rs.mk s 0).take 1) = q at *
  obtain ⟨p, r⟩ := q
  simp only at bo' fi en ri ⊢
  generalize (((Rs.mk s 0).num 1 : Nat) : Int) = t at *
  generalize ((Rs.mk s 0).take 1).d = R2 at *
  generalize (Rs.mk s 0).d = R0 at *
  generalize hd : p.d = pd at *
  generalize r.d = rd' at *
  generalize r.out = e at *
  refine callR_of (R := R1) cx_ok Tryz.func15 (by kernel_rfl) rfl ?_
  conv => whnf
  refine ⟨_, ov, ?_⟩
  rintro _ _ ⟨rfl, rfl⟩
  conv => whnf
  refine ⟨_, by', ?_⟩
  rintro _ _ ⟨rfl, rfl⟩
  conv => whnf
  refine ⟨_, bo', ?_⟩
  rintro _ _ ⟨rfl, rfl⟩
  conv => whnf
  refine ⟨_, en, ?_⟩
  rintro _ _ ⟨rfl, rfl⟩
  conv => whnf
  refine brec (fun h => ?_) (fun h => ?_)
  · have h : ¬ e = 0 := by simpa using h
    rw [if_neg h]
    conv => whnf
    exact ⟨rfl, rfl⟩
  have h : e = 0 := by simpa using h
  rw [if_pos h]
  conv => whnf
  refine ⟨_, ri, ?_⟩
  rintro _ _ ⟨rfl, rfl⟩
  conv => whnf
  refine brec (fun g => ?_) (fun g => ?_)
  · have g : p.right = false := by simpa using g
    rw [g]
    conv => whnf
    exact ⟨rfl, rfl⟩
  have g : p.right = true := by simpa using g
  rw [g, if_pos rfl]
  conv => whnf
  subst hd
  exact ⟨rfl, rfl⟩

def bigL (n k : Nat) : List UInt8 := (List.range k).map fun i => UInt8.ofNat (n / 256 ^ (k - 1 - i))

theorem bigL_succ (n k : Nat) : bigL n (k + 1) = bigL (n / 256) k ++ [UInt8.ofNat n] := by
  unfold bigL
  rw [List.range_succ, List.map_append]
  congr 1
  · refine List.map_congr_left fun i hi => ?_
    have hi := List.mem_range.1 hi
    rw [Nat.div_div_eq_div_mul, ← Nat.pow_succ', show (k - 1 - i).succ = k + 1 - 1 - i by omega]
  · simp

theorem be_append (l : List UInt8) (b : UInt8) (a : Nat) : be (l ++ [b]) a = (be l a * 256 + b.toNat) % 18446744073709551616 := by
  unfold be; rw [List.foldl_append]; rfl

theorem pow_le8 {k : Nat} (h : k ≤ 8) : 256 ^ k ≤ 18446744073709551616 := Nat.pow_le_pow_right (n := 256) (by decide) h

theorem bigL_be : ∀ (k : Nat) (l : List UInt8), l.length = k → k ≤ 8 → bigL (be l 0) k = l
  | 0, l, hl, _ => by rw [List.eq_nil_of_length_eq_zero hl]; rfl
  | k + 1, l, hl, h => by
    have hne : l ≠ [] := by intro e; subst e; simp at hl
    have e := List.dropLast_concat_getLast hne
    have hd : l.dropLast.length = k := by rw [List.length_dropLast]; omega
    have hlt : be l.dropLast 0 < 256 ^ k := by have := be_pow l.dropLast (a := 0) (k := 0) (by decide); rw [Nat.zero_add, hd] at this; exact this
    have hp : 256 ^ k * 256 ≤ 18446744073709551616 := by rw [← Nat.pow_succ]; exact pow_le8 h
    have hb := (l.getLast hne).toNat_lt
    have e2 : be l 0 = be l.dropLast 0 * 256 + (l.getLast hne).toNat := by
      have q := be_append l.dropLast (l.getLast hne) 0
      rw [e] at q
      rw [q]
      exact Nat.mod_eq_of_lt (by omega)
    rw [bigL_succ, e2, show (be l.dropLast 0 * 256 + (l.getLast hne).toNat) / 256 = be l.dropLast 0 by omega, bigL_be k _ hd (by omega)]
    have e3 : UInt8.ofNat (be l.dropLast 0 * 256 + (l.getLast hne).toNat) = l.getLast hne := by
      apply UInt8.toNat_inj.1
      rw [UInt8.toNat_ofNat']
      omega
    rw [e3, e]

theorem bigB_list (n k : Nat) : (bigB n k).data.toList = bigL n k := by unfold bigB bigL; rw [List.toList_toArray]

theorem ba_ext {a b : ByteArray} (h : a.data.toList = b.data.toList) : a = b := by
  cases a; cases b; congr 1; exact Array.toList_inj.1 h

theorem bigB_be {x : ByteArray} {k : Nat} (hx : x.size = k) (hk : k ≤ 8) : bigB (be x.data.toList 0) k = x := by
  apply ba_ext
  rw [bigB_list]
  exact bigL_be k _ (by rw [Array.length_toList]; exact hx) hk

-- Forward: a reader over what was written.

theorem rd_take_ok {r : Rs} {n : Int} (hn : 0 ≤ n) (h : (r.take n).e = 0) : r.e = 0 ∧ ((r.got n).size : Int) = n ∧ r.s = r.got n ++ (r.take n).s := by
  have h : rd_tkE r.s r.e n = 0 := h
  have e0 : r.e = 0 := by
    unfold rd_tkE at h
    split at h
    · assumption
    · exact h
  have hle : n ≤ r.s.size := by
    unfold rd_tkE at h
    rw [if_pos e0] at h
    split at h
    · assumption
    · cases h
  have e1 : r.got n = r.s.extract 0 n.toNat := if_pos ⟨e0, hle⟩
  have e2 : (r.take n).s = r.s.extract n.toNat r.s.size := if_pos ⟨e0, hle⟩
  refine ⟨e0, ?_, ?_⟩
  · rw [e1, ByteArray.size_extract]; omega
  · rw [e1, e2, ByteArray.extract_append_extract, Nat.min_eq_left (Nat.zero_le _), Nat.max_eq_right (by omega), ByteArray.extract_zero_size]

theorem num_ok {r : Rs} {k : Nat} (hk : k ≤ 8) (h : (r.take (k : Int)).e = 0) : r.e = 0 ∧ r.s = bigB (r.num (k : Int)) k ++ (r.take (k : Int)).s := by
  obtain ⟨h1, h2, h3⟩ := rd_take_ok (by omega) h
  refine ⟨h1, ?_⟩
  unfold Rs.num
  rw [bigB_be (by omega) hk]
  exact h3

theorem fail_no {r : Rs} {f : Int} (hf : f ≠ 0) : (r.fail f).e ≠ 0 := fail_bad r hf

theorem txt_ok {r : Rs} {m : Int} (h : (r.txtR m).e = 0) : r.e = 0 ∧ r.s = textB (r.txt m) ++ (r.txtR m).s := by
  unfold Rs.txtR at h
  obtain ⟨h1, h2, h3⟩ := rd_take_ok (cnt_nonneg r m) h
  by_cases hc : (r.num 4 : Int) > m
  · have e : r.cntR m = (r.take 4).fail 5 := if_pos hc
    rw [e] at h1
    exact absurd h1 (fail_no (by decide))
  have e : r.cntR m = r.take 4 := if_neg hc
  have e' : r.cnt m = r.num 4 := if_neg hc
  rw [e] at h1
  obtain ⟨g1, g2⟩ := num_ok (k := 4) (by decide) h1
  refine ⟨g1, ?_⟩
  have e3 : (r.txt m).size = r.num 4 := by
    have : ((r.txt m).size : Int) = r.cnt m := h2
    rw [e'] at this
    omega
  have h3 : (r.cntR m).s = r.txt m ++ (r.txtR m).s := h3
  rw [e] at h3
  unfold textB
  rw [e3, ByteArray.append_assoc, ← h3]
  exact g2

-- Sizes of right names and texts.

theorem out_ok {r : Rs} (h : r.out = 0) : r.e = 0 ∧ r.s = .empty := by
  unfold Rs.out at h
  split at h
  · split at h
    · exact ⟨by assumption, by assumption⟩
    · cases h
  · exact absurd h (by assumption)

/-- What is read is written so. -/
theorem bytes_read {s : ByteArray} (h : (readP s).2 = 0) : (readP s).1.right = true ∧ (readP s).1.bytes = s := by
  unfold readP at h ⊢
  by_cases h1 : (readQ s).2.out = 0
  · rw [if_pos h1] at h ⊢
    by_cases h2 : (readQ s).1.right = true
    · rw [if_pos h2] at h ⊢
      refine ⟨h2, ?_⟩
      obtain ⟨e1, e2⟩ := out_ok h1
      clear h h1
      unfold readQ at *
      show (readB _ _).1.bytes = s
      have hs : ((Rs.mk s 0).take 1).e = 0 → s = bigB ((Rs.mk s 0).num 1) 1 ++ ((Rs.mk s 0).take 1).s := fun h => (num_ok (k := 1) (by decide) h).2
      generalize (Rs.mk s 0).num 1 = t at *
      generalize (Rs.mk s 0).take 1 = r at *
      unfold readB at *
      split at e1
      · rename_i ht
        rw [if_pos ht] at e2 ⊢
        obtain ⟨a1, a2⟩ := num_ok (k := 8) (by decide) e1
        obtain ⟨b1, b2⟩ := txt_ok a1
        obtain ⟨c1, c2⟩ := txt_ok b1
        obtain ⟨d1, d2⟩ := num_ok (k := 4) (by decide) c1
        have e2 : ((((r.take 4).txtR 48).txtR 48).take 8).s = .empty := e2
        have a2 : (((r.take 4).txtR 48).txtR 48).s = bigB ((((r.take 4).txtR 48).txtR 48).num 8) 8 ++ ((((r.take 4).txtR 48).txtR 48).take 8).s := a2
        rw [e2, ByteArray.append_empty] at a2
        have d2 : r.s = bigB (r.num 4) 4 ++ (r.take 4).s := d2
        rw [hs d1, d2, c2, b2, a2, ht]
        show bigB 1 1 ++ (((bigB ((r.num 4 : Nat) : Int).toNat 4 ++ _) ++ _) ++ bigB (((((r.take 4).txtR 48).txtR 48).num 8 : Nat) : Int).toNat 8) = _
        rw [Int.toNat_natCast, Int.toNat_natCast, ByteArray.append_assoc, ByteArray.append_assoc]
      · rename_i ht
        rw [if_neg ht] at e2 ⊢
        split at e1
        · rename_i ht
          rw [if_pos ht] at e2 ⊢
          obtain ⟨b1, b2⟩ := txt_ok e1
          obtain ⟨c1, c2⟩ := txt_ok b1
          have e2 : ((r.txtR 48).txtR 256).s = .empty := e2
          rw [e2, ByteArray.append_empty] at b2
          rw [hs c1, c2, b2, ht]
          rfl
        · rename_i ht
          rw [if_neg ht] at e2 ⊢
          split at e1
          · rename_i ht
            rw [if_pos ht] at e2 ⊢
            obtain ⟨a1, a2⟩ := num_ok (k := 8) (by decide) e1
            obtain ⟨c1, c2⟩ := txt_ok a1
            obtain ⟨d1, d2⟩ := num_ok (k := 4) (by decide) c1
            have e2 : (((r.take 4).txtR 48).take 8).s = .empty := e2
            have a2 : ((r.take 4).txtR 48).s = bigB (((r.take 4).txtR 48).num 8) 8 ++ (((r.take 4).txtR 48).take 8).s := a2
            rw [e2, ByteArray.append_empty] at a2
            have d2 : r.s = bigB (r.num 4) 4 ++ (r.take 4).s := d2
            rw [hs d1, d2, c2, a2, ht]
            show bigB 3 1 ++ ((bigB ((r.num 4 : Nat) : Int).toNat 4 ++ _) ++ bigB ((((r.take 4).txtR 48).num 8 : Nat) : Int).toNat 8) = _
            rw [Int.toNat_natCast, Int.toNat_natCast, ByteArray.append_assoc]
          · exact absurd e1 (fail_no (by decide))
    · rw [if_neg h2] at h
      cases h
  · rw [if_neg h1] at h
    exact absurd h h1
end Go.Proofs.YtmdfpifcghmpfaaGreatDoor

/- Routers: what sets out; what is given for what came. Routers: a token's cap is known. Routers: a letter does its work. Routers: a letter does its work: the contract. -/
set_option linter.unusedVariables false
namespace Go.Proofs.YtmdfpifcghmpfaaGreatDoor
open Go.Ab Go.RowKit

def transP (p : Pu) (here frm o : Int) (t w : ByteArray) (k : Int) : Pu × Int := if o = here then unlockP p o t w k else if o = frm then mintP p o t w k else (p, 40)

theorem trans_w {T H T2 H2 : List D} {here frm o k e : Int} {t w : ByteArray}
    (hF : (o = here ∧ CallR cx 31 [.d (.agg [.sl 7 T, .sl 4 H]), .d (.int .u32 o), st t, st w, u64 k] [] fun r S => r = .tup [.d (.agg [.sl 7 T2, .sl 4 H2]), i64 e] ∧ S = []) ∨
      (o ≠ here ∧ o = frm ∧ CallR cx 32 [.d (.agg [.sl 7 T, .sl 4 H]), .d (.int .u32 o), st t, st w, u64 k] [] fun r S => r = .tup [.d (.agg [.sl 7 T2, .sl 4 H2]), i64 e] ∧ S = []) ∨
      (o ≠ here ∧ o ≠ frm ∧ T2 = T ∧ H2 = H ∧ e = 40)) :
    CallR cx 17 [.d (.agg [.sl 7 T, .sl 4 H]), .d (.int .u32 here), .d (.int .u32 frm), .d (.agg [.int .u32 o, .str t, .str w, .int .u64 k])] [] fun r S => r = .tup [.d (.agg [.sl 7 T2, .sl 4 H2]), i64 e] ∧ S = [] := by
  refine callR_of (R := R1) cx_ok Tryz.func17 (by kernel_rfl) rfl ?_
  conv => whnf
  rcases hF with ⟨ho, oc⟩ | ⟨ho, hf, oc⟩ | ⟨ho, hf, rfl, rfl, rfl⟩
  · refine brT (decide_eq_true ho) ?_
    conv => whnf
    refine ⟨_, oc, ?_⟩
    rintro _ _ ⟨rfl, rfl⟩
    conv => whnf
    exact ⟨rfl, rfl⟩
  · refine brF (decide_eq_false ho) ?_
    conv => whnf
    refine brT (decide_eq_true hf) ?_
    conv => whnf
    refine ⟨_, oc, ?_⟩
    rintro _ _ ⟨rfl, rfl⟩
    conv => whnf
    exact ⟨rfl, rfl⟩
  · refine brF (decide_eq_false ho) ?_
    conv => whnf
    refine brF (decide_eq_false hf) ?_
    conv => whnf
    exact ⟨rfl, rfl⟩

theorem trans_c {p : Pu} {N : Nat} {here frm o k : Int} {t w : ByteArray} (hp : p.fine N) (hN : N ≤ 99999) (ht : t.size ≤ 1000) (hw : w.size ≤ 1000) (hk : U k) :
    CallR cx 17 [.d p.d, .d (.int .u32 here), .d (.int .u32 frm), .d (.agg [.int .u32 o, .str t, .str w, .int .u64 k])] [] fun r S => r = .tup [.d (transP p here frm o t w k).1.d, i64 (transP p here frm o t w k).2] ∧ S = [] := by
  have uc := unlock_cc (o := o) hp hN ht hw hk
  have mc := mint_cc (o := o) hp hN ht hw hk
  refine trans_w ?_
  unfold transP
  by_cases c1 : o = here
  · rw [if_pos c1]
    exact .inl ⟨c1, uc⟩
  · rw [if_neg c1]
    by_cases c2 : o = frm
    · rw [if_pos c2]
      exact .inr (.inl ⟨c1, c2, mc⟩)
    · rw [if_neg c2]
      exact .inr (.inr ⟨c1, c2, rfl, rfl, rfl⟩)
end Go.Proofs.YtmdfpifcghmpfaaGreatDoor

set_option linter.unusedVariables false
namespace Go.Proofs.YtmdfpifcghmpfaaGreatDoor
open Go.Ab Go.RowKit

theorem twin2_c {p : Pu} (hp : p.ok) : CallR cx 7 [.d p.d] [] fun r S => r = .agg [.row 4, .row 7] ∧ S = [.var (.d p.d), .var (.agg [.row 4, .row 7]), .dead, .dead, .own 52 7 (tks p.toks), .dead, .dead, .own 54 4 (hds p.holds), .dead, .dead] := by
  have c1 := cloneT_c (l := p.toks) hp.nt
  have c2 := cloneH_c (l := p.holds) hp.nh
  obtain ⟨ts, hs⟩ := p
  simp only at c1 c2
  refine callR_ofA (R := R1) cx_ok Tryz.func7 (by kernel_rfl) rfl ?_
  conv => whnf
  refine ⟨by kernel_rfl, ?_⟩
  conv => whnf
  refine ⟨_, _, _, c1, ?_⟩
  conv => whnf
  refine ⟨_, _, _, c2, ?_⟩
  conv => whnf
  refine ⟨by kernel_rfl, ?_⟩
  conv => whnf
  exact ⟨rfl, rfl⟩

theorem det1_c {t : Tk} {o k : Int} {n : ByteArray} : CallR cx 34 [.d t.d, .ptr 0 []] [.var (.d (.agg [.int .u32 o, .str n, .int .u64 k]))] fun r S => r = bo (tkP o n t) ∧ S = [.var (.d (.agg [.int .u32 o, .str n, .int .u64 k]))] := by
  obtain ⟨o', n', a, b, c, d, e⟩ := t
  unfold tkP same2
  simp only
  refine callR_of (R := R1) cx_ok Tryz.func34 (by kernel_rfl) rfl ?_
  conv => whnf
  by_cases c1 : o' = o
  · rw [decide_eq_true c1]
    refine brT (decide_eq_true c1) ?_
    conv => whnf
    exact ⟨rfl, rfl⟩
  · rw [decide_eq_false c1]
    refine brF (decide_eq_false c1) ?_
    conv => whnf
    exact ⟨rfl, rfl⟩

def detP (p : Pu) (here frm o : Int) (n : ByteArray) (k : Int) : Pu × Int := if o ≠ frm ∨ o = here then (p, 40) else match lookP (tkP o n) p.toks with
  | none => enlistP p o n k
  | some t => (⟨putP (tkP o n) p.toks { t with cap := k }, p.holds⟩, 0)

theorem det_no {T H : List D} {here frm o k : Int} {n : ByteArray} (h : o ≠ frm ∨ o = here) :
    CallR cx 19 [.d (.agg [.sl 7 T, .sl 4 H]), .d (.int .u32 here), .d (.int .u32 frm), .d (.agg [.int .u32 o, .str n, .int .u64 k])] [] fun r S => r = .tup [.d (.agg [.sl 7 T, .sl 4 H]), i64 40] ∧ S = [] := by
  refine callR_of (R := R1) cx_ok Tryz.func19 (by kernel_rfl) rfl ?_
  conv => whnf
  by_cases c1 : o = frm
  · refine brF (bne_eq_false_iff_eq.2 c1) ?_
    conv => whnf
    refine brT (decide_eq_true (h.resolve_left (fun z => z c1))) ?_
    conv => whnf
    exact ⟨rfl, rfl⟩
  · refine brT (bne_iff_ne.2 c1) ?_
    conv => whnf
    exact ⟨rfl, rfl⟩

theorem det_en {T H T2 H2 : List D} {here frm o k e : Int} {n : ByteArray} (h1 : o = frm) (h2 : ¬ o = here)
    (ix : CallR cx 33 [.d (.sl 7 T), .fn 34 [0]] [.var (.d (.agg [.int .u32 o, .str n, .int .u64 k]))] fun r S => r = i64 (-1) ∧ S = [.var (.d (.agg [.int .u32 o, .str n, .int .u64 k]))])
    (en : CallR cx 35 [.d (.agg [.sl 7 T, .sl 4 H]), .d (.int .u32 o), st n, u64 k] [] fun r S => r = .tup [.d (.agg [.sl 7 T2, .sl 4 H2]), i64 e] ∧ S = []) :
    CallR cx 19 [.d (.agg [.sl 7 T, .sl 4 H]), .d (.int .u32 here), .d (.int .u32 frm), .d (.agg [.int .u32 o, .str n, .int .u64 k])] [] fun r S => r = .tup [.d (.agg [.sl 7 T2, .sl 4 H2]), i64 e] ∧ S = [] := by
  refine callR_of (R := R1) cx_ok Tryz.func19 (by kernel_rfl) rfl ?_
  conv => whnf
  refine brF (bne_eq_false_iff_eq.2 h1) ?_
  conv => whnf
  refine brF (decide_eq_false h2) ?_
  conv => whnf
  refine ⟨_, ix, ?_⟩
  rintro _ _ ⟨rfl, rfl⟩
  conv => whnf
  refine ⟨_, en, ?_⟩
  rintro _ _ ⟨rfl, rfl⟩
  conv => whnf
  exact ⟨rfl, rfl⟩

theorem det_set {T H : List D} {here frm o k J : Int} {n : ByteArray} (hJ : 0 ≤ J) (hJT : J < T.length) {to a b c d e : Int} {tn : ByteArray} (h1 : o = frm) (h2 : ¬ o = here)
    (hgd : T.getD J.toNat .nilP = .agg [.int .u32 to, .str tn, .int .u64 a, .int .u64 b, .int .u64 c, .int .u64 d, .int .u64 e])
    (ix : CallR cx 33 [.d (.sl 7 T), .fn 34 [0]] [.var (.d (.agg [.int .u32 o, .str n, .int .u64 k]))] fun r S => r = i64 J ∧ S = [.var (.d (.agg [.int .u32 o, .str n, .int .u64 k]))])
    (tw : CallR cx 7 [.d (.agg [.sl 7 T, .sl 4 H])] [] fun r S => r = .agg [.row 4, .row 7] ∧ S = [.var (.d (.agg [.sl 7 T, .sl 4 H])), .var (.agg [.row 4, .row 7]), .dead, .dead, .own 52 7 T, .dead, .dead, .own 54 4 H, .dead, .dead]) :
    CallR cx 19 [.d (.agg [.sl 7 T, .sl 4 H]), .d (.int .u32 here), .d (.int .u32 frm), .d (.agg [.int .u32 o, .str n, .int .u64 k])] [] fun r S =>
      r = .tup [.d (.agg [.sl 7 (T.set J.toNat (.agg [.int .u32 to, .str tn, .int .u64 k, .int .u64 b, .int .u64 c, .int .u64 d, .int .u64 e])), .sl 4 H]), i64 0] ∧ S = [] := by
  refine callR_of (R := R1) cx_ok Tryz.func19 (by kernel_rfl) rfl ?_
  conv => whnf
  refine brF (bne_eq_false_iff_eq.2 h1) ?_
  conv => whnf
  refine brF (decide_eq_false h2) ?_
  conv => whnf
  refine ⟨_, ix, ?_⟩
  rintro _ _ ⟨rfl, rfl⟩
  conv => whnf
  refine brF (decide_eq_false (by omega)) ?_
  conv => whnf
  refine ⟨_, tw, ?_⟩
  rintro _ _ ⟨rfl, rfl⟩
  conv => whnf
  refine ⟨⟨by omega, by omega⟩, ?_⟩
  conv => whnf
  refine ⟨by omega, ?_⟩
  rw [hgd]
  conv => whnf
  exact ⟨rfl, rfl⟩

theorem det_c {p : Pu} {here frm o k : Int} {n : ByteArray} (hp : p.ok) (hn : n.size ≤ 1000) :
    CallR cx 19 [.d p.d, .d (.int .u32 here), .d (.int .u32 frm), .d (.agg [.int .u32 o, .str n, .int .u64 k])] [] fun r S => r = .tup [.d (detP p here frm o n k).1.d, i64 (detP p here frm o n k).2] ∧ S = [] := by
  have ix := ixT_c (f := 34) (p := tkP o n) (x0 := .agg [.int .u32 o, .str n, .int .u64 k]) hp.nt (fun t _ => det1_c)
  have hix := ix_look (tkP o n) p.toks 0
  have en := enlist_c (o := o) (n := n) (k := k) hp hn
  have tw := twin2_c hp
  have hll := hp.nt
  unfold detP
  by_cases c : o ≠ frm ∨ o = here
  · rw [if_pos c]
    exact det_no c
  rw [if_neg c]
  have c1 : o = frm := Classical.byContradiction fun z => c (.inl z)
  have c2 : ¬ o = here := fun z => c (.inr z)
  rcases hix with ⟨h1, h2⟩ | ⟨j, hj, h1, h2, h3, h4, h5⟩
  · rw [h1] at ix
    rw [h2]
    exact det_en c1 c2 ix en
  · rw [h1, Nat.zero_add] at ix
    rw [h2]
    simp only
    have hgd := tks_getD hj
    have hlt' : (tks p.toks).length = p.toks.length := List.length_map _
    rw [← h4]
    generalize p.toks[j]'hj = t at *
    have e := det_set (J := (j : Int)) (by omega) (by rw [hlt']; omega) c1 c2 hgd ix tw
    rw [Int.toNat_natCast] at e
    have hs : tks (p.toks.set j { t with cap := k }) = (tks p.toks).set j (Tk.d { t with cap := k }) := by simp [tks, List.map_set]
    unfold Pu.d
    simp only
    rw [hs]
    exact e
end Go.Proofs.YtmdfpifcghmpfaaGreatDoor

set_option linter.unusedVariables false
namespace Go.Proofs.YtmdfpifcghmpfaaGreatDoor
open Go.Ab Go.RowKit

def rtB : ByteArray := ⟨#[114, 111, 117, 116, 101, 114]⟩
/-- A letter. -/
def ltD (f q t : Int) (s r b : ByteArray) : D := .agg [.int .u32 f, .int .u32 q, .int .u32 t, .str s, .str r, .str b]

def doesP (p : Pu) (here frm : Int) : Pl → Pu × Int
  | .tr o t w k => transP p here frm o t w k
  | .de o n k => detP p here frm o n k
  | _ => (p, 0)
def handP (p : Pu) (here frm : Int) (remote s r b : ByteArray) : Pu × Pl × Int :=
  if remote = .empty ∨ s ≠ remote ∨ r ≠ rtB then (p, .no, 39)
  else if (readP b).2 ≠ 0 then (p, .no, 41)
  else if (doesP p here frm (readP b).1).2 ≠ 0 then (p, .no, (doesP p here frm (readP b).1).2)
  else ((doesP p here frm (readP b).1).1, (readP b).1, 0)

section
variable {T H : List D} {here f q t : Int} {remote s r b : ByteArray}

theorem hand_no (h : remote = .empty ∨ s ≠ remote ∨ r ≠ rtB) :
    CallR cx 8 [.d (.agg [.sl 7 T, .sl 4 H]), .d (.int .u32 here), st remote, .d (ltD f q t s r b)] [] fun r S => r = .tup [.d (.agg [.sl 7 T, .sl 4 H]), .d .nilI, i64 39] ∧ S = [] := by
  refine callR_of (R := R1) cx_ok Tryz.func8 (by kernel_rfl) rfl ?_
  conv => whnf
  by_cases c1 : remote = .empty
  · refine brT (decide_eq_true c1) ?_
    conv => whnf
    exact ⟨rfl, rfl⟩
  refine brF (decide_eq_false c1) ?_
  conv => whnf
  by_cases c2 : s = remote
  · refine brF (by rw [decide_eq_true c2]; rfl) ?_
    conv => whnf
    refine brT ?_ ?_
    · show (!decide (r = rtB)) = true
      rw [decide_eq_false (fun z => (h.resolve_left c1).resolve_left (fun y => y c2) z)]; rfl
    conv => whnf
    exact ⟨rfl, rfl⟩
  · refine brT (by rw [decide_eq_false c2]; rfl) ?_
    conv => whnf
    exact ⟨rfl, rfl⟩

theorem hand_rd {e : Int} {x : D} (h : ¬ (remote = .empty ∨ s ≠ remote ∨ r ≠ rtB)) (he : e ≠ 0)
    (rc : CallR cx 15 [st b] [] fun r S => r = .tup [.d x, i64 e] ∧ S = []) :
    CallR cx 8 [.d (.agg [.sl 7 T, .sl 4 H]), .d (.int .u32 here), st remote, .d (ltD f q t s r b)] [] fun r S => r = .tup [.d (.agg [.sl 7 T, .sl 4 H]), .d .nilI, i64 41] ∧ S = [] := by
  have c1 : ¬ remote = .empty := fun z => h (.inl z)
  have c2 : s = remote := Classical.byContradiction fun z => h (.inr (.inl z))
  have c3 : r = rtB := Classical.byContradiction fun z => h (.inr (.inr z))
  refine callR_of (R := R1) cx_ok Tryz.func8 (by kernel_rfl) rfl ?_
  conv => whnf
  refine brF (decide_eq_false c1) ?_
  conv => whnf
  refine brF (by rw [decide_eq_true c2]; rfl) ?_
  conv => whnf
  refine brF ?_ ?_
  · show (!decide (r = rtB)) = false
    rw [decide_eq_true c3]; rfl
  conv => whnf
  refine ⟨_, rc, ?_⟩
  rintro _ _ ⟨rfl, rfl⟩
  conv => whnf
  refine brT (bne_iff_ne.2 he) ?_
  conv => whnf
  exact ⟨rfl, rfl⟩

theorem hand_tr {o k e : Int} {n w : ByteArray} {T2 H2 : List D} (h : ¬ (remote = .empty ∨ s ≠ remote ∨ r ≠ rtB))
    (rc : CallR cx 15 [st b] [] fun r S => r = .tup [.d (Pl.tr o n w k).d, i64 0] ∧ S = [])
    (oc : CallR cx 17 [.d (.agg [.sl 7 T, .sl 4 H]), .d (.int .u32 here), .d (.int .u32 f), .d (.agg [.int .u32 o, .str n, .str w, .int .u64 k])] [] fun r S => r = .tup [.d (.agg [.sl 7 T2, .sl 4 H2]), i64 e] ∧ S = []) :
    CallR cx 8 [.d (.agg [.sl 7 T, .sl 4 H]), .d (.int .u32 here), st remote, .d (ltD f q t s r b)] [] fun r S =>
      r = (if e ≠ 0 then .tup [.d (.agg [.sl 7 T, .sl 4 H]), .d .nilI, i64 e] else .tup [.d (.agg [.sl 7 T2, .sl 4 H2]), .d (Pl.tr o n w k).d, i64 0]) ∧ S = [] := by
  have c1 : ¬ remote = .empty := fun z => h (.inl z)
  have c2 : s = remote := Classical.byContradiction fun z => h (.inr (.inl z))
  have c3 : r = rtB := Classical.byContradiction fun z => h (.inr (.inr z))
  have tc := tag_c (p := .tr o n w k)
  have mc := mustP_c (p := .tr o n w k) rfl
  refine callR_of (R := R1) cx_ok Tryz.func8 (by kernel_rfl) rfl ?_
  conv => whnf
  refine brF (decide_eq_false c1) ?_
  conv => whnf
  refine brF (by rw [decide_eq_true c2]; rfl) ?_
  conv => whnf
  refine brF ?_ ?_
  · show (!decide (r = rtB)) = false
    rw [decide_eq_true c3]; rfl
  conv => whnf
  refine ⟨_, rc, ?_⟩
  rintro _ _ ⟨rfl, rfl⟩
  conv => whnf
  refine ⟨_, tc, ?_⟩
  rintro _ _ ⟨rfl, rfl⟩
  conv => whnf
  refine ⟨by kernel_rfl, ?_⟩
  conv => whnf
  refine ⟨_, mc, ?_⟩
  conv => whnf
  refine ⟨_, oc, ?_⟩
  conv => whnf
  refine ⟨by kernel_rfl, ?_⟩
  conv => whnf
  by_cases he : e = 0
  · rw [if_neg (by simp [he])]
    refine brF (bne_eq_false_iff_eq.2 he) ?_
    conv => whnf
    exact ⟨rfl, rfl⟩
  · rw [if_pos he]
    refine brT (bne_iff_ne.2 he) ?_
    conv => whnf
    exact ⟨rfl, rfl⟩

theorem hand_de {o k e : Int} {n : ByteArray} {T2 H2 : List D} (h : ¬ (remote = .empty ∨ s ≠ remote ∨ r ≠ rtB))
    (rc : CallR cx 15 [st b] [] fun r S => r = .tup [.d (Pl.de o n k).d, i64 0] ∧ S = [])
    (oc : CallR cx 19 [.d (.agg [.sl 7 T, .sl 4 H]), .d (.int .u32 here), .d (.int .u32 f), .d (.agg [.int .u32 o, .str n, .int .u64 k])] [] fun r S => r = .tup [.d (.agg [.sl 7 T2, .sl 4 H2]), i64 e] ∧ S = []) :
    CallR cx 8 [.d (.agg [.sl 7 T, .sl 4 H]), .d (.int .u32 here), st remote, .d (ltD f q t s r b)] [] fun r S =>
      r = (if e ≠ 0 then .tup [.d (.agg [.sl 7 T, .sl 4 H]), .d .nilI, i64 e] else .tup [.d (.agg [.sl 7 T2, .sl 4 H2]), .d (Pl.de o n k).d, i64 0]) ∧ S = [] := by
  have c1 : ¬ remote = .empty := fun z => h (.inl z)
  have c2 : s = remote := Classical.byContradiction fun z => h (.inr (.inl z))
  have c3 : r = rtB := Classical.byContradiction fun z => h (.inr (.inr z))
  have tc := tag_c (p := .de o n k)
  refine callR_of (R := R1) cx_ok Tryz.func8 (by kernel_rfl) rfl ?_
  conv => whnf
  refine brF (decide_eq_false c1) ?_
  conv => whnf
  refine brF (by rw [decide_eq_true c2]; rfl) ?_
  conv => whnf
  refine brF ?_ ?_
  · show (!decide (r = rtB)) = false
    rw [decide_eq_true c3]; rfl
  conv => whnf
  refine ⟨_, rc, ?_⟩
  rintro _ _ ⟨rfl, rfl⟩
  conv => whnf
  refine ⟨_, tc, ?_⟩
  rintro _ _ ⟨rfl, rfl⟩
  conv => whnf
  refine ⟨by kernel_rfl, ?_⟩
  conv => whnf
  refine ⟨_, oc, ?_⟩
  conv => whnf
  refine ⟨by kernel_rfl, ?_⟩
  conv => whnf
  by_cases he : e = 0
  · rw [if_neg (by simp [he])]
    refine brF (bne_eq_false_iff_eq.2 he) ?_
    conv => whnf
    exact ⟨rfl, rfl⟩
  · rw [if_pos he]
    refine brT (bne_iff_ne.2 he) ?_
    conv => whnf
    exact ⟨rfl, rfl⟩

theorem hand_sy {a c : ByteArray} (h : ¬ (remote = .empty ∨ s ≠ remote ∨ r ≠ rtB))
    (rc : CallR cx 15 [st b] [] fun r S => r = .tup [.d (Pl.sy a c).d, i64 0] ∧ S = []) :
    CallR cx 8 [.d (.agg [.sl 7 T, .sl 4 H]), .d (.int .u32 here), st remote, .d (ltD f q t s r b)] [] fun r S =>
      r = .tup [.d (.agg [.sl 7 T, .sl 4 H]), .d (Pl.sy a c).d, i64 0] ∧ S = [] := by
  have c1 : ¬ remote = .empty := fun z => h (.inl z)
  have c2 : s = remote := Classical.byContradiction fun z => h (.inr (.inl z))
  have c3 : r = rtB := Classical.byContradiction fun z => h (.inr (.inr z))
  have tc := tag_c (p := .sy a c)
  refine callR_of (R := R1) cx_ok Tryz.func8 (by kernel_rfl) rfl ?_
  conv => whnf
  refine brF (decide_eq_false c1) ?_
  conv => whnf
  refine brF (by rw [decide_eq_true c2]; rfl) ?_
  conv => whnf
  refine brF ?_ ?_
  · show (!decide (r = rtB)) = false
    rw [decide_eq_true c3]; rfl
  conv => whnf
  refine ⟨_, rc, ?_⟩
  rintro _ _ ⟨rfl, rfl⟩
  conv => whnf
  refine ⟨_, tc, ?_⟩
  rintro _ _ ⟨rfl, rfl⟩
  conv => whnf
  exact ⟨rfl, rfl⟩
end
end Go.Proofs.YtmdfpifcghmpfaaGreatDoor

set_option linter.unusedVariables false
namespace Go.Proofs.YtmdfpifcghmpfaaGreatDoor
open Go.Ab Go.RowKit

theorem readP_fit {b : ByteArray} (h : b.size < 100000) : (readP b).1.fit := by
  have hs := take_size (Rs.mk b 0) 1
  have hs : ((Rs.mk b 0).take 1).s.size ≤ b.size := hs
  have f := readB_fit (t := (Rs.mk b 0).num 1) (r := (Rs.mk b 0).take 1) (by omega)
  unfold readP
  split
  · split
    · exact f
    · trivial
  · trivial
theorem tr_size {o k : Int} {n w : ByteArray} : n.size ≤ (Pl.tr o n w k).bytes.size ∧ w.size ≤ (Pl.tr o n w k).bytes.size := by
  unfold Pl.bytes
  simp only [ByteArray.size_append, textB_size]
  omega
theorem de_size {o k : Int} {n : ByteArray} : n.size ≤ (Pl.de o n k).bytes.size := by
  unfold Pl.bytes
  simp only [ByteArray.size_append, textB_size]
  omega

theorem hand_c {p : Pu} {N : Nat} {here f q t : Int} {remote s r b : ByteArray} (hp : p.fine N) (hN : N ≤ 99999) (hb : b.size ≤ 1000) :
    CallR cx 8 [.d p.d, .d (.int .u32 here), st remote, .d (ltD f q t s r b)] [] fun x S =>
      x = .tup [.d (handP p here f remote s r b).1.d, .d (handP p here f remote s r b).2.1.d, i64 (handP p here f remote s r b).2.2] ∧ S = [] := by
  have rc := read_c (s := b) (by omega)
  have fi := readP_fit (b := b) (by omega)
  have br := fun h => bytes_read (s := b) h
  unfold handP
  by_cases c : remote = .empty ∨ s ≠ remote ∨ r ≠ rtB
  · rw [if_pos c]
    exact hand_no c
  rw [if_neg c]
  generalize readP b = Q at *
  obtain ⟨pl, e⟩ := Q
  simp only at rc fi br ⊢
  by_cases he : e = 0
  · obtain ⟨b1, b2⟩ := br he
    rw [if_neg (by simp [he])]
    subst he
    cases pl with
    | tr o n w k =>
      obtain ⟨ho, hk, _, _⟩ := fi
      have sz := tr_size (o := o) (k := k) (n := n) (w := w)
      rw [b2] at sz
      have tc := trans_c (here := here) (frm := f) (o := o) (k := k) (t := n) (w := w) hp hN (by omega) (by omega) hk
      have h := hand_tr (q := q) (t := t) c rc tc
      refine h.mono fun x S ⟨h1, h2⟩ => ⟨?_, h2⟩
      rw [h1]
      rw [show doesP p here f (Pl.tr o n w k) = transP p here f o n w k from rfl]
      by_cases hq : (transP p here f o n w k).2 ≠ 0
      · rw [if_pos hq, if_pos hq]; rfl
      · rw [if_neg hq, if_neg hq]; rfl
    | sy a d =>
      exact hand_sy c rc
    | de o n k =>
      have sz := de_size (o := o) (k := k) (n := n)
      rw [b2] at sz
      have tc := det_c (here := here) (frm := f) (o := o) (k := k) (n := n) (hp.ok (by omega)) (by omega)
      have h := hand_de (q := q) (t := t) c rc tc
      refine h.mono fun x S ⟨h1, h2⟩ => ⟨?_, h2⟩
      rw [h1]
      rw [show doesP p here f (Pl.de o n k) = detP p here f o n k from rfl]
      by_cases hq : (detP p here f o n k).2 ≠ 0
      · rw [if_pos hq, if_pos hq]; rfl
      · rw [if_neg hq, if_neg hq]; rfl
    | no => cases b1
    | nu => cases b1
  · rw [if_pos he]
    exact hand_rd c he rc
end Go.Proofs.YtmdfpifcghmpfaaGreatDoor

/- Routers: the chapter's example; texts that are light. -/
set_option linter.unusedVariables false
namespace Go.Proofs.YtmdfpifcghmpfaaGreatDoor
open Go.Ab Go.RowKit

theorem rlight_c {l : List ByteArray} (hl : l.length ≤ 100) : CallR cx 6 [.d (.sl 1 (l.map D.str))] [] fun r S => ∃ b, r = bo b ∧ (b = true → ∀ s ∈ l, s.size ≤ 1000) ∧ S = [] := by
  have hlen : (l.map D.str).length = l.length := List.length_map _
  refine callR_of (R := R1) cx_ok Tryz.func6 (by kernel_rfl) rfl ?_
  conv => whnf
  refine .inl ⟨fun m L S => ∃ (j : Nat), (∀ s ∈ l.take j, s.size ≤ 1000) ∧ j ≤ l.length ∧ m = l.length - j ∧
      L = [(5, .d (.sl 1 (l.map D.str))), (6, i64 (((l.map D.str).length : Nat) : Int)), (7, i64 (j : Int))] ∧ S = [],
    ⟨_, _, ⟨0, by simp, Nat.zero_le _, rfl, rfl, rfl⟩, ⟨rfl, rfl, rfl, trivial⟩⟩, ?_⟩
  rintro _ _ _ ⟨j, h1, hj, rfl, rfl, rfl⟩
  conv => whnf
  refine brec (fun h4 => ?_) (fun h4 => ?_)
  · have h4 := of_decide_eq_true h4
    rw [hlen] at h4
    have hlt : j < l.length := by omega
    have hgd : (l.map D.str).getD (j : Int).toNat .nilP = .str (l[j]'hlt) := by
      rw [Int.toNat_natCast, List.getD_eq_getElem?_getD, List.getElem?_map, List.getElem?_eq_getElem hlt]; rfl
    have h2 : ∀ s ∈ l.take (j + 1), s.size ≤ 1000 ∨ s = l[j]'hlt := by
      intro s hs
      rw [List.take_succ_eq_append_getElem hlt] at hs
      rcases List.mem_append.1 hs with hs | hs
      · exact .inl (h1 s hs)
      · exact .inr (List.mem_singleton.1 hs)
    conv => whnf
    refine ⟨⟨by omega, by rw [hlen]; omega⟩, ?_⟩
    rw [hgd]
    generalize l[j]'hlt = a at *
    have e3 : IntKind.i64.wrap ((j : Int) + 1) = ((j + 1 : Nat) : Int) := by rw [w64 (by omega)]; omega
    conv => whnf
    by_cases c : (a.size : Int) > 1000
    · refine brT (decide_eq_true c) ?_
      conv => whnf
      exact ⟨false, rfl, by simp, rfl⟩
    · refine brF (decide_eq_false c) ?_
      conv => whnf
      exact ⟨_, _, 0, (by omega : l.length - (j + 1) < l.length - j), ⟨j + 1, fun s hs => (h2 s hs).elim id (fun e => by rw [e]; omega), by omega, rfl, rfl, rfl⟩, ⟨rfl, rfl, congrArg (fun z => some (i64 z)) e3, trivial⟩, rfl⟩
  · have h4 := of_decide_eq_false h4
    rw [hlen] at h4
    obtain rfl : j = l.length := by omega
    rw [List.take_length] at h1
    conv => whnf
    exact ⟨true, rfl, fun _ => h1, rfl⟩

theorem say_c {a b : ByteArray} {z1 z2 : D} (ha : a.size < 100000) (hb : b.size < 100000) : CallR cx 12 [.d (.agg [.str a, .str b, z1, z2])] [] fun r S => r = .tup [st (Pl.sy a b).outS, i64 (Pl.sy a b).outE] ∧ S = [] := by
  have bc := bytes_c (p := .sy a b) ⟨ha, hb⟩
  generalize (Pl.sy a b).outS = X at *
  generalize (Pl.sy a b).outE = Y at *
  refine callR_of (R := R1) cx_ok Tryz.func12 (by kernel_rfl) rfl ?_
  conv => whnf
  refine ⟨_, bc, ?_⟩
  rintro _ _ ⟨rfl, rfl⟩
  conv => whnf
  exact ⟨rfl, rfl⟩

def aB : ByteArray := ⟨#[97]⟩
def hiB : ByteArray := ⟨#[104, 105]⟩
theorem sayRight : (Pl.sy aB hiB).right = true := by decide +kernel

theorem awake18_c : CallR cx 4 [] [] fun r S => r = bo true ∧ S = [] := by
  have hc := hand_no (T := []) (H := []) (here := 1) (f := 2) (q := 0) (t := 1) (remote := ⟨#[98]⟩) (s := aB) (r := rtB) (b := .empty) (.inr (.inl (by decide)))
  have sc := say_c (a := aB) (b := hiB) (z1 := .int .u64 0) (z2 := .agg [.int .i64 0, .sl 32 [], .sl 32 [], .sl 32 []]) (by decide) (by decide)
  have e1 : (Pl.sy aB hiB).outS = (Pl.sy aB hiB).bytes := if_pos sayRight
  have e2 : (Pl.sy aB hiB).outE = 0 := (if_neg (show ¬ (2 : Int) = 0 by decide)).trans (if_pos sayRight)
  have e3 : (Pl.sy aB hiB).bytes.size = 12 := by
    unfold Pl.bytes
    simp only [ByteArray.size_append, textB_size, bigB_size]
    rfl
  rw [e1, e2] at sc
  generalize (Pl.sy aB hiB).bytes = X at *
  refine callR_of (R := R1) cx_ok Tryz.func4 (by kernel_rfl) rfl ?_
  conv => whnf
  refine ⟨_, hc, ?_⟩
  rintro _ _ ⟨rfl, rfl⟩
  conv => whnf
  refine ⟨_, sc, ?_⟩
  rintro _ _ ⟨rfl, rfl⟩
  conv => whnf
  rw [e3]
  exact ⟨rfl, rfl⟩
end Go.Proofs.YtmdfpifcghmpfaaGreatDoor

/- Routers: the law RouterSums. -/
set_option linter.unusedVariables false
namespace Go.Proofs.YtmdfpifcghmpfaaGreatDoor
open Go.Ab Go.RowKit

theorem transP_fine {p : Pu} {N : Nat} {here frm o k : Int} {n w : ByteArray} (hp : p.fine N) (hN : N ≤ 100000) (hn : n.size ≤ 1000) (hw : w.size ≤ 1000) (hk : U k) : (transP p here frm o n w k).1.fine (N + 1) := by
  unfold transP
  split
  · exact unlockP_fine hp hN hn hw hk
  split
  · exact mintP_fine hp hN hn hw hk
  · exact hp.mono (by omega)
theorem handP_err {p : Pu} {here frm : Int} {remote s r b : ByteArray} (h : (handP p here frm remote s r b).2.2 ≠ 0) : (handP p here frm remote s r b).1 = p := by
  unfold handP at *
  split
  · rfl
  rename_i c
  rw [if_neg c] at h
  split
  · rfl
  rename_i c2
  rw [if_neg c2] at h
  split
  · rfl
  rename_i c3
  rw [if_neg c3] at h
  exact absurd rfl h
theorem handP_ok {p : Pu} {here frm : Int} {remote s r b : ByteArray} (h : (handP p here frm remote s r b).2.2 = 0) :
    (readP b).2 = 0 ∧ (doesP p here frm (readP b).1).2 = 0 ∧ (handP p here frm remote s r b).1 = (doesP p here frm (readP b).1).1 ∧ (handP p here frm remote s r b).2.1 = (readP b).1 := by
  unfold handP at *
  by_cases c : remote = .empty ∨ s ≠ remote ∨ r ≠ rtB
  · rw [if_pos c] at h; cases h
  rw [if_neg c] at h ⊢
  by_cases c2 : (readP b).2 ≠ 0
  · rw [if_pos c2] at h; cases h
  rw [if_neg c2] at h ⊢
  by_cases c3 : (doesP p here frm (readP b).1).2 ≠ 0
  · rw [if_pos c3] at h; exact absurd h c3
  rw [if_neg c3]
  exact ⟨by omega, by omega, rfl, rfl⟩
theorem U32.of_wf {n : Int} (h : (Lit.int .u32 n).wf = true) : 0 ≤ n ∧ n < 4294967296 := by
  simp [Lit.wf, IntKind.min, IntKind.max, IntKind.signed, IntKind.bits] at h
  omega
abbrev tyLt : Ty := .st [.int .u32, .int .u32, .int .u32, .str, .str, .str]
end Go.Proofs.YtmdfpifcghmpfaaGreatDoor
