/- Purses: the walk of the law PurseSums, from the contracts of what it calls. -/
import Derived.Test.YtmdfpifcghmpfaaDoorV4
set_option linter.unusedVariables false
namespace Go.Proofs.YtmdfpifcghmpfaaDoor
open Go.Ab Go.RowKit

theorem sums_few {T H : List D} {d o k oo : Int} {n w w2 cc : ByteArray} (aw : CallR cx 28 [] [] fun r S => r = bo true ∧ S = [])
    (fc : CallR cx 29 [.d (.agg [.sl 7 T, .sl 4 H])] [] fun r S => r = bo false ∧ S = []) :
    CallR cx 9 [.d (.agg [.sl 7 T, .sl 4 H]), .d (actP d o n w w2 k), .d (.int .u32 oo), st cc] [] fun r S => r = bo true ∧ S = [] := by
  refine callR_of (R := R1) cx_ok Tryd.func9 (by kernel_rfl) rfl ?_
  conv => whnf
  refine ⟨_, aw, ?_⟩
  rintro _ _ ⟨rfl, rfl⟩
  conv => whnf
  refine ⟨_, fc, ?_⟩
  rintro _ _ ⟨rfl, rfl⟩
  conv => whnf
  exact ⟨rfl, rfl⟩

theorem sums_short {T H : List D} {d o k oo : Int} {n w w2 cc : ByteArray} (aw : CallR cx 28 [] [] fun r S => r = bo true ∧ S = [])
    (fc : CallR cx 29 [.d (.agg [.sl 7 T, .sl 4 H])] [] fun r S => ∃ b, r = bo b ∧ S = [])
    (sc : CallR cx 30 [.d (actP d o n w w2 k)] [] fun r S => r = bo false ∧ S = []) :
    CallR cx 9 [.d (.agg [.sl 7 T, .sl 4 H]), .d (actP d o n w w2 k), .d (.int .u32 oo), st cc] [] fun r S => r = bo true ∧ S = [] := by
  refine callR_of (R := R1) cx_ok Tryd.func9 (by kernel_rfl) rfl ?_
  conv => whnf
  refine ⟨_, aw, ?_⟩
  rintro _ _ ⟨rfl, rfl⟩
  conv => whnf
  refine ⟨_, fc, ?_⟩
  rintro _ _ ⟨b, rfl, rfl⟩
  cases b with
  | false =>
    conv => whnf
    exact ⟨rfl, rfl⟩
  | true =>
  conv => whnf
  refine ⟨_, sc, ?_⟩
  rintro _ _ ⟨rfl, rfl⟩
  conv => whnf
  exact ⟨rfl, rfl⟩

theorem sums_right {T H : List D} {d o k oo : Int} {n w w2 cc : ByteArray} (aw : CallR cx 28 [] [] fun r S => r = bo true ∧ S = [])
    (fc : CallR cx 29 [.d (.agg [.sl 7 T, .sl 4 H])] [] fun r S => ∃ b, r = bo b ∧ S = [])
    (sc : CallR cx 30 [.d (actP d o n w w2 k)] [] fun r S => ∃ b, r = bo b ∧ S = [])
    (rc : CallR cx 31 [.d (.agg [.sl 7 T, .sl 4 H])] [] fun r S => r = bo false ∧ S = []) :
    CallR cx 9 [.d (.agg [.sl 7 T, .sl 4 H]), .d (actP d o n w w2 k), .d (.int .u32 oo), st cc] [] fun r S => r = bo true ∧ S = [] := by
  refine callR_of (R := R1) cx_ok Tryd.func9 (by kernel_rfl) rfl ?_
  conv => whnf
  refine ⟨_, aw, ?_⟩
  rintro _ _ ⟨rfl, rfl⟩
  conv => whnf
  refine ⟨_, fc, ?_⟩
  rintro _ _ ⟨b, rfl, rfl⟩
  cases b with
  | false =>
    conv => whnf
    exact ⟨rfl, rfl⟩
  | true =>
  conv => whnf
  refine ⟨_, sc, ?_⟩
  rintro _ _ ⟨b, rfl, rfl⟩
  cases b with
  | false =>
    conv => whnf
    exact ⟨rfl, rfl⟩
  | true =>
  conv => whnf
  refine ⟨_, rc, ?_⟩
  rintro _ _ ⟨rfl, rfl⟩
  conv => whnf
  exact ⟨rfl, rfl⟩

theorem sums_er_neg {T H T2 H2 : List D} {d o k oo e q x0 x1 : Int} {n w w2 cc tn : ByteArray} (aw : CallR cx 28 [] [] fun r S => r = bo true ∧ S = [])
    (fc : CallR cx 29 [.d (.agg [.sl 7 T, .sl 4 H])] [] fun r S => ∃ b, r = bo b ∧ S = [])
    (sc : CallR cx 30 [.d (actP d o n w w2 k)] [] fun r S => ∃ b, r = bo b ∧ S = [])
    (rc : CallR cx 31 [.d (.agg [.sl 7 T, .sl 4 H])] [] fun r S => r = bo true ∧ S = [])
    (he : e ≠ 0)
    (hq : Int.tmod d 8 = q)
    (hq0 : q < 0)
    (dc : CallR cx 38 [.d (.agg [.sl 7 T, .sl 4 H]), .d (.agg [.sl 7 T, .sl 4 H]), .d (actP d o n w w2 k)] [] fun r S => r = .tup [.d (.agg [.sl 7 T, .sl 4 H]), .d (.agg [.sl 7 T, .sl 4 H]), i64 e, bo true] ∧ S = [])
    (s1 : CallR cx 39 [.d (.agg [.sl 7 T, .sl 4 H]), .d (.int .u32 o), st n] [] fun r S => r = .d (wd x0 x1) ∧ S = [])
    (sm : CallR cx 35 [.d (.agg [.sl 7 T, .sl 4 H]), .d (.agg [.sl 7 T, .sl 4 H])] [] fun r S => r = bo true ∧ S = []) :
    CallR cx 9 [.d (.agg [.sl 7 T, .sl 4 H]), .d (actP d o n w w2 k), .d (.int .u32 oo), st cc] [] fun r S => r = bo true ∧ S = [] := by
  refine callR_of (R := R1) cx_ok Tryd.func9 (by kernel_rfl) rfl ?_
  conv => whnf
  refine ⟨_, aw, ?_⟩
  rintro _ _ ⟨rfl, rfl⟩
  conv => whnf
  refine ⟨_, fc, ?_⟩
  rintro _ _ ⟨b, rfl, rfl⟩
  cases b with
  | false =>
    conv => whnf
    exact ⟨rfl, rfl⟩
  | true =>
  conv => whnf
  refine ⟨_, sc, ?_⟩
  rintro _ _ ⟨b, rfl, rfl⟩
  cases b with
  | false =>
    conv => whnf
    exact ⟨rfl, rfl⟩
  | true =>
  conv => whnf
  refine ⟨_, rc, ?_⟩
  rintro _ _ ⟨rfl, rfl⟩
  conv => whnf
  refine ⟨_, dc, ?_⟩
  rintro _ _ ⟨rfl, rfl⟩
  conv => whnf
  refine ⟨by kernel_rfl, ?_⟩
  conv => whnf
  refine ⟨_, s1, ?_⟩
  conv => whnf
  refine ⟨_, s1, ?_⟩
  conv => whnf
  refine ⟨by kernel_rfl, ?_⟩
  conv => whnf
  refine ⟨by decide, ?_⟩
  rw [hq]
  conv => whnf
  refine brT (decide_eq_true hq0) ?_
  conv => whnf
  refine brT (bne_iff_ne.2 he) ?_
  conv => whnf
  refine ⟨sideW _ _ _ _, ?_⟩
  rw [deq_self]
  conv => whnf
  refine brF (beq_eq_false_iff_ne.2 he) ?_
  conv => whnf
  refine ⟨_, sm, ?_⟩
  rintro _ _ ⟨rfl, rfl⟩
  conv => whnf
  exact ⟨rfl, rfl⟩

theorem sums_er_pos {T H T2 H2 : List D} {d o k oo e q x0 x1 : Int} {n w w2 cc tn : ByteArray} (aw : CallR cx 28 [] [] fun r S => r = bo true ∧ S = [])
    (fc : CallR cx 29 [.d (.agg [.sl 7 T, .sl 4 H])] [] fun r S => ∃ b, r = bo b ∧ S = [])
    (sc : CallR cx 30 [.d (actP d o n w w2 k)] [] fun r S => ∃ b, r = bo b ∧ S = [])
    (rc : CallR cx 31 [.d (.agg [.sl 7 T, .sl 4 H])] [] fun r S => r = bo true ∧ S = [])
    (he : e ≠ 0)
    (hq : Int.tmod d 8 = q)
    (hq0 : ¬ q < 0)
    (dc : CallR cx 38 [.d (.agg [.sl 7 T, .sl 4 H]), .d (.agg [.sl 7 T, .sl 4 H]), .d (actP d o n w w2 k)] [] fun r S => r = .tup [.d (.agg [.sl 7 T, .sl 4 H]), .d (.agg [.sl 7 T, .sl 4 H]), i64 e, bo true] ∧ S = [])
    (s1 : CallR cx 39 [.d (.agg [.sl 7 T, .sl 4 H]), .d (.int .u32 o), st n] [] fun r S => r = .d (wd x0 x1) ∧ S = [])
    (sm : CallR cx 35 [.d (.agg [.sl 7 T, .sl 4 H]), .d (.agg [.sl 7 T, .sl 4 H])] [] fun r S => r = bo true ∧ S = []) :
    CallR cx 9 [.d (.agg [.sl 7 T, .sl 4 H]), .d (actP d o n w w2 k), .d (.int .u32 oo), st cc] [] fun r S => r = bo true ∧ S = [] := by
  refine callR_of (R := R1) cx_ok Tryd.func9 (by kernel_rfl) rfl ?_
  conv => whnf
  refine ⟨_, aw, ?_⟩
  rintro _ _ ⟨rfl, rfl⟩
  conv => whnf
  refine ⟨_, fc, ?_⟩
  rintro _ _ ⟨b, rfl, rfl⟩
  cases b with
  | false =>
    conv => whnf
    exact ⟨rfl, rfl⟩
  | true =>
  conv => whnf
  refine ⟨_, sc, ?_⟩
  rintro _ _ ⟨b, rfl, rfl⟩
  cases b with
  | false =>
    conv => whnf
    exact ⟨rfl, rfl⟩
  | true =>
  conv => whnf
  refine ⟨_, rc, ?_⟩
  rintro _ _ ⟨rfl, rfl⟩
  conv => whnf
  refine ⟨_, dc, ?_⟩
  rintro _ _ ⟨rfl, rfl⟩
  conv => whnf
  refine ⟨by kernel_rfl, ?_⟩
  conv => whnf
  refine ⟨_, s1, ?_⟩
  conv => whnf
  refine ⟨_, s1, ?_⟩
  conv => whnf
  refine ⟨by kernel_rfl, ?_⟩
  conv => whnf
  refine ⟨by decide, ?_⟩
  rw [hq]
  conv => whnf
  refine brF (decide_eq_false hq0) ?_
  conv => whnf
  refine brT (bne_iff_ne.2 he) ?_
  conv => whnf
  refine ⟨sideW _ _ _ _, ?_⟩
  rw [deq_self]
  conv => whnf
  refine brF (beq_eq_false_iff_ne.2 he) ?_
  conv => whnf
  refine ⟨_, sm, ?_⟩
  rintro _ _ ⟨rfl, rfl⟩
  conv => whnf
  exact ⟨rfl, rfl⟩

theorem sums_no_0 {T H T2 H2 : List D} {d o k oo x0 x1 : Int} {n w w2 cc tn : ByteArray} (aw : CallR cx 28 [] [] fun r S => r = bo true ∧ S = [])
    (fc : CallR cx 29 [.d (.agg [.sl 7 T, .sl 4 H])] [] fun r S => ∃ b, r = bo b ∧ S = [])
    (sc : CallR cx 30 [.d (actP d o n w w2 k)] [] fun r S => ∃ b, r = bo b ∧ S = [])
    (rc : CallR cx 31 [.d (.agg [.sl 7 T, .sl 4 H])] [] fun r S => r = bo true ∧ S = [])
    (hq : Int.tmod d 8 = 0)
    (dc : CallR cx 38 [.d (.agg [.sl 7 T, .sl 4 H]), .d (.agg [.sl 7 T, .sl 4 H]), .d (actP d o n w w2 k)] [] fun r S => r = .tup [.d (.agg [.sl 7 T2, .sl 4 H2]), .d (.agg [.sl 7 T2, .sl 4 H2]), i64 0, bo true] ∧ S = [])
    (s1 : CallR cx 39 [.d (.agg [.sl 7 T, .sl 4 H]), .d (.int .u32 o), st n] [] fun r S => r = .d (wd x0 x1) ∧ S = [])
    (s2 : CallR cx 39 [.d (.agg [.sl 7 T2, .sl 4 H2]), .d (.int .u32 o), st n] [] fun r S => r = .d (wd x0 x1) ∧ S = []) :
    CallR cx 9 [.d (.agg [.sl 7 T, .sl 4 H]), .d (actP d o n w w2 k), .d (.int .u32 oo), st cc] [] fun r S => r = bo true ∧ S = [] := by
  refine callR_of (R := R1) cx_ok Tryd.func9 (by kernel_rfl) rfl ?_
  conv => whnf
  refine ⟨_, aw, ?_⟩
  rintro _ _ ⟨rfl, rfl⟩
  conv => whnf
  refine ⟨_, fc, ?_⟩
  rintro _ _ ⟨b, rfl, rfl⟩
  cases b with
  | false =>
    conv => whnf
    exact ⟨rfl, rfl⟩
  | true =>
  conv => whnf
  refine ⟨_, sc, ?_⟩
  rintro _ _ ⟨b, rfl, rfl⟩
  cases b with
  | false =>
    conv => whnf
    exact ⟨rfl, rfl⟩
  | true =>
  conv => whnf
  refine ⟨_, rc, ?_⟩
  rintro _ _ ⟨rfl, rfl⟩
  conv => whnf
  refine ⟨_, dc, ?_⟩
  rintro _ _ ⟨rfl, rfl⟩
  conv => whnf
  refine ⟨by kernel_rfl, ?_⟩
  conv => whnf
  refine ⟨_, s1, ?_⟩
  conv => whnf
  refine ⟨_, s2, ?_⟩
  conv => whnf
  refine ⟨by kernel_rfl, ?_⟩
  conv => whnf
  refine ⟨by decide, ?_⟩
  rw [hq]
  conv => whnf
  refine ⟨sideW _ _ _ _, ?_⟩
  rw [deq_self]
  conv => whnf
  exact ⟨rfl, rfl⟩

theorem sums_no_2 {T H T2 H2 : List D} {d o k oo x0 x1 : Int} {n w w2 cc tn : ByteArray} (aw : CallR cx 28 [] [] fun r S => r = bo true ∧ S = [])
    (fc : CallR cx 29 [.d (.agg [.sl 7 T, .sl 4 H])] [] fun r S => ∃ b, r = bo b ∧ S = [])
    (sc : CallR cx 30 [.d (actP d o n w w2 k)] [] fun r S => ∃ b, r = bo b ∧ S = [])
    (rc : CallR cx 31 [.d (.agg [.sl 7 T, .sl 4 H])] [] fun r S => r = bo true ∧ S = [])
    (hq : Int.tmod d 8 = 2)
    (dc : CallR cx 38 [.d (.agg [.sl 7 T, .sl 4 H]), .d (.agg [.sl 7 T, .sl 4 H]), .d (actP d o n w w2 k)] [] fun r S => r = .tup [.d (.agg [.sl 7 T2, .sl 4 H2]), .d (.agg [.sl 7 T2, .sl 4 H2]), i64 0, bo true] ∧ S = [])
    (s1 : CallR cx 39 [.d (.agg [.sl 7 T, .sl 4 H]), .d (.int .u32 o), st n] [] fun r S => r = .d (wd x0 x1) ∧ S = [])
    (s2 : CallR cx 39 [.d (.agg [.sl 7 T2, .sl 4 H2]), .d (.int .u32 o), st n] [] fun r S => r = .d (wd x0 x1) ∧ S = []) :
    CallR cx 9 [.d (.agg [.sl 7 T, .sl 4 H]), .d (actP d o n w w2 k), .d (.int .u32 oo), st cc] [] fun r S => r = bo true ∧ S = [] := by
  refine callR_of (R := R1) cx_ok Tryd.func9 (by kernel_rfl) rfl ?_
  conv => whnf
  refine ⟨_, aw, ?_⟩
  rintro _ _ ⟨rfl, rfl⟩
  conv => whnf
  refine ⟨_, fc, ?_⟩
  rintro _ _ ⟨b, rfl, rfl⟩
  cases b with
  | false =>
    conv => whnf
    exact ⟨rfl, rfl⟩
  | true =>
  conv => whnf
  refine ⟨_, sc, ?_⟩
  rintro _ _ ⟨b, rfl, rfl⟩
  cases b with
  | false =>
    conv => whnf
    exact ⟨rfl, rfl⟩
  | true =>
  conv => whnf
  refine ⟨_, rc, ?_⟩
  rintro _ _ ⟨rfl, rfl⟩
  conv => whnf
  refine ⟨_, dc, ?_⟩
  rintro _ _ ⟨rfl, rfl⟩
  conv => whnf
  refine ⟨by kernel_rfl, ?_⟩
  conv => whnf
  refine ⟨_, s1, ?_⟩
  conv => whnf
  refine ⟨_, s2, ?_⟩
  conv => whnf
  refine ⟨by kernel_rfl, ?_⟩
  conv => whnf
  refine ⟨by decide, ?_⟩
  rw [hq]
  conv => whnf
  refine ⟨sideW _ _ _ _, ?_⟩
  rw [deq_self]
  conv => whnf
  exact ⟨rfl, rfl⟩

theorem sums_no_m2 {T H T2 H2 : List D} {d o k oo x0 x1 : Int} {n w w2 cc tn : ByteArray} (aw : CallR cx 28 [] [] fun r S => r = bo true ∧ S = [])
    (fc : CallR cx 29 [.d (.agg [.sl 7 T, .sl 4 H])] [] fun r S => ∃ b, r = bo b ∧ S = [])
    (sc : CallR cx 30 [.d (actP d o n w w2 k)] [] fun r S => ∃ b, r = bo b ∧ S = [])
    (rc : CallR cx 31 [.d (.agg [.sl 7 T, .sl 4 H])] [] fun r S => r = bo true ∧ S = [])
    (hq : Int.tmod d 8 = -2)
    (dc : CallR cx 38 [.d (.agg [.sl 7 T, .sl 4 H]), .d (.agg [.sl 7 T, .sl 4 H]), .d (actP d o n w w2 k)] [] fun r S => r = .tup [.d (.agg [.sl 7 T2, .sl 4 H2]), .d (.agg [.sl 7 T2, .sl 4 H2]), i64 0, bo true] ∧ S = [])
    (s1 : CallR cx 39 [.d (.agg [.sl 7 T, .sl 4 H]), .d (.int .u32 o), st n] [] fun r S => r = .d (wd x0 x1) ∧ S = [])
    (s2 : CallR cx 39 [.d (.agg [.sl 7 T2, .sl 4 H2]), .d (.int .u32 o), st n] [] fun r S => r = .d (wd x0 x1) ∧ S = []) :
    CallR cx 9 [.d (.agg [.sl 7 T, .sl 4 H]), .d (actP d o n w w2 k), .d (.int .u32 oo), st cc] [] fun r S => r = bo true ∧ S = [] := by
  refine callR_of (R := R1) cx_ok Tryd.func9 (by kernel_rfl) rfl ?_
  conv => whnf
  refine ⟨_, aw, ?_⟩
  rintro _ _ ⟨rfl, rfl⟩
  conv => whnf
  refine ⟨_, fc, ?_⟩
  rintro _ _ ⟨b, rfl, rfl⟩
  cases b with
  | false =>
    conv => whnf
    exact ⟨rfl, rfl⟩
  | true =>
  conv => whnf
  refine ⟨_, sc, ?_⟩
  rintro _ _ ⟨b, rfl, rfl⟩
  cases b with
  | false =>
    conv => whnf
    exact ⟨rfl, rfl⟩
  | true =>
  conv => whnf
  refine ⟨_, rc, ?_⟩
  rintro _ _ ⟨rfl, rfl⟩
  conv => whnf
  refine ⟨_, dc, ?_⟩
  rintro _ _ ⟨rfl, rfl⟩
  conv => whnf
  refine ⟨by kernel_rfl, ?_⟩
  conv => whnf
  refine ⟨_, s1, ?_⟩
  conv => whnf
  refine ⟨_, s2, ?_⟩
  conv => whnf
  refine ⟨by kernel_rfl, ?_⟩
  conv => whnf
  refine ⟨by decide, ?_⟩
  rw [hq]
  conv => whnf
  refine ⟨sideW _ _ _ _, ?_⟩
  rw [deq_self]
  conv => whnf
  exact ⟨rfl, rfl⟩

theorem sums_no_7 {T H T2 H2 : List D} {d o k oo x0 x1 : Int} {n w w2 cc tn : ByteArray} (aw : CallR cx 28 [] [] fun r S => r = bo true ∧ S = [])
    (fc : CallR cx 29 [.d (.agg [.sl 7 T, .sl 4 H])] [] fun r S => ∃ b, r = bo b ∧ S = [])
    (sc : CallR cx 30 [.d (actP d o n w w2 k)] [] fun r S => ∃ b, r = bo b ∧ S = [])
    (rc : CallR cx 31 [.d (.agg [.sl 7 T, .sl 4 H])] [] fun r S => r = bo true ∧ S = [])
    (hq : Int.tmod d 8 = 7)
    (dc : CallR cx 38 [.d (.agg [.sl 7 T, .sl 4 H]), .d (.agg [.sl 7 T, .sl 4 H]), .d (actP d o n w w2 k)] [] fun r S => r = .tup [.d (.agg [.sl 7 T2, .sl 4 H2]), .d (.agg [.sl 7 T2, .sl 4 H2]), i64 0, bo true] ∧ S = [])
    (s1 : CallR cx 39 [.d (.agg [.sl 7 T, .sl 4 H]), .d (.int .u32 o), st n] [] fun r S => r = .d (wd x0 x1) ∧ S = [])
    (s2 : CallR cx 39 [.d (.agg [.sl 7 T2, .sl 4 H2]), .d (.int .u32 o), st n] [] fun r S => r = .d (wd x0 x1) ∧ S = []) :
    CallR cx 9 [.d (.agg [.sl 7 T, .sl 4 H]), .d (actP d o n w w2 k), .d (.int .u32 oo), st cc] [] fun r S => r = bo true ∧ S = [] := by
  refine callR_of (R := R1) cx_ok Tryd.func9 (by kernel_rfl) rfl ?_
  conv => whnf
  refine ⟨_, aw, ?_⟩
  rintro _ _ ⟨rfl, rfl⟩
  conv => whnf
  refine ⟨_, fc, ?_⟩
  rintro _ _ ⟨b, rfl, rfl⟩
  cases b with
  | false =>
    conv => whnf
    exact ⟨rfl, rfl⟩
  | true =>
  conv => whnf
  refine ⟨_, sc, ?_⟩
  rintro _ _ ⟨b, rfl, rfl⟩
  cases b with
  | false =>
    conv => whnf
    exact ⟨rfl, rfl⟩
  | true =>
  conv => whnf
  refine ⟨_, rc, ?_⟩
  rintro _ _ ⟨rfl, rfl⟩
  conv => whnf
  refine ⟨_, dc, ?_⟩
  rintro _ _ ⟨rfl, rfl⟩
  conv => whnf
  refine ⟨by kernel_rfl, ?_⟩
  conv => whnf
  refine ⟨_, s1, ?_⟩
  conv => whnf
  refine ⟨_, s2, ?_⟩
  conv => whnf
  refine ⟨by kernel_rfl, ?_⟩
  conv => whnf
  refine ⟨by decide, ?_⟩
  rw [hq]
  conv => whnf
  refine ⟨sideW _ _ _ _, ?_⟩
  rw [deq_self]
  conv => whnf
  exact ⟨rfl, rfl⟩

theorem sums_no_m7 {T H T2 H2 : List D} {d o k oo x0 x1 : Int} {n w w2 cc tn : ByteArray} (aw : CallR cx 28 [] [] fun r S => r = bo true ∧ S = [])
    (fc : CallR cx 29 [.d (.agg [.sl 7 T, .sl 4 H])] [] fun r S => ∃ b, r = bo b ∧ S = [])
    (sc : CallR cx 30 [.d (actP d o n w w2 k)] [] fun r S => ∃ b, r = bo b ∧ S = [])
    (rc : CallR cx 31 [.d (.agg [.sl 7 T, .sl 4 H])] [] fun r S => r = bo true ∧ S = [])
    (hq : Int.tmod d 8 = -7)
    (dc : CallR cx 38 [.d (.agg [.sl 7 T, .sl 4 H]), .d (.agg [.sl 7 T, .sl 4 H]), .d (actP d o n w w2 k)] [] fun r S => r = .tup [.d (.agg [.sl 7 T2, .sl 4 H2]), .d (.agg [.sl 7 T2, .sl 4 H2]), i64 0, bo true] ∧ S = [])
    (s1 : CallR cx 39 [.d (.agg [.sl 7 T, .sl 4 H]), .d (.int .u32 o), st n] [] fun r S => r = .d (wd x0 x1) ∧ S = [])
    (s2 : CallR cx 39 [.d (.agg [.sl 7 T2, .sl 4 H2]), .d (.int .u32 o), st n] [] fun r S => r = .d (wd x0 x1) ∧ S = []) :
    CallR cx 9 [.d (.agg [.sl 7 T, .sl 4 H]), .d (actP d o n w w2 k), .d (.int .u32 oo), st cc] [] fun r S => r = bo true ∧ S = [] := by
  refine callR_of (R := R1) cx_ok Tryd.func9 (by kernel_rfl) rfl ?_
  conv => whnf
  refine ⟨_, aw, ?_⟩
  rintro _ _ ⟨rfl, rfl⟩
  conv => whnf
  refine ⟨_, fc, ?_⟩
  rintro _ _ ⟨b, rfl, rfl⟩
  cases b with
  | false =>
    conv => whnf
    exact ⟨rfl, rfl⟩
  | true =>
  conv => whnf
  refine ⟨_, sc, ?_⟩
  rintro _ _ ⟨b, rfl, rfl⟩
  cases b with
  | false =>
    conv => whnf
    exact ⟨rfl, rfl⟩
  | true =>
  conv => whnf
  refine ⟨_, rc, ?_⟩
  rintro _ _ ⟨rfl, rfl⟩
  conv => whnf
  refine ⟨_, dc, ?_⟩
  rintro _ _ ⟨rfl, rfl⟩
  conv => whnf
  refine ⟨by kernel_rfl, ?_⟩
  conv => whnf
  refine ⟨_, s1, ?_⟩
  conv => whnf
  refine ⟨_, s2, ?_⟩
  conv => whnf
  refine ⟨by kernel_rfl, ?_⟩
  conv => whnf
  refine ⟨by decide, ?_⟩
  rw [hq]
  conv => whnf
  refine ⟨sideW _ _ _ _, ?_⟩
  rw [deq_self]
  conv => whnf
  exact ⟨rfl, rfl⟩

theorem sums_1 {T H T2 H2 : List D} {d o k oo x0 x1 y0 y1 v0 v1 g0 g1 z0 z1 to a lb ub mb bb lc uc mc bc mi lo : Int} {n w w2 cc tn : ByteArray} (aw : CallR cx 28 [] [] fun r S => r = bo true ∧ S = [])
    (fc : CallR cx 29 [.d (.agg [.sl 7 T, .sl 4 H])] [] fun r S => ∃ b, r = bo b ∧ S = [])
    (sc : CallR cx 30 [.d (actP d o n w w2 k)] [] fun r S => ∃ b, r = bo b ∧ S = [])
    (rc : CallR cx 31 [.d (.agg [.sl 7 T, .sl 4 H])] [] fun r S => r = bo true ∧ S = [])
    (hq : Int.tmod d 8 = 1)
    (dc : CallR cx 38 [.d (.agg [.sl 7 T, .sl 4 H]), .d (.agg [.sl 7 T, .sl 4 H]), .d (actP d o n w w2 k)] [] fun r S => r = .tup [.d (.agg [.sl 7 T2, .sl 4 H2]), .d (.agg [.sl 7 T2, .sl 4 H2]), i64 0, bo true] ∧ S = [])
    (s1 : CallR cx 39 [.d (.agg [.sl 7 T, .sl 4 H]), .d (.int .u32 o), st n] [] fun r S => r = .d (wd x0 x1) ∧ S = [])
    (s2 : CallR cx 39 [.d (.agg [.sl 7 T2, .sl 4 H2]), .d (.int .u32 o), st n] [] fun r S => r = .d (wd y0 y1) ∧ S = [])
    (ad : CallR cx 19 [.d (wd x0 x1), .d (wd 0 k)] [] fun r S => r = .tup [.d (wd v0 v1), i64 0] ∧ S = [])
    (ae : CallR cx 19 [.d (wd y0 y1), .d (wd 0 k)] [] fun r S => r = .tup [.d (wd g0 g1), i64 0] ∧ S = [])
    (kb : CallR cx 40 [.d (.agg [.sl 7 T, .sl 4 H]), .d (.int .u32 o), st n] [] fun r S => r = .tup [.d (.agg [.int .u32 to, .str tn, .int .u64 a, .int .u64 lb, .int .u64 ub, .int .u64 mb, .int .u64 bb]), bo true] ∧ S = [])
    (kc : CallR cx 40 [.d (.agg [.sl 7 T2, .sl 4 H2]), .d (.int .u32 o), st n] [] fun r S => r = .tup [.d (.agg [.int .u32 to, .str tn, .int .u64 a, .int .u64 lb, .int .u64 ub, .int .u64 mb, .int .u64 bb]), bo true] ∧ S = [])
    {B1 B2 : Bool} (hup : deq (wd y0 y1) (wd v0 v1) = true) (hdn : deq (wd x0 x1) (wd g0 g1) = B2)
    (so : (oo ≠ o ∨ cc ≠ n) → (CallR cx 39 [.d (.agg [.sl 7 T2, .sl 4 H2]), .d (.int .u32 oo), st cc] [] fun r S => r = .d (wd z0 z1) ∧ S = []) ∧ (CallR cx 39 [.d (.agg [.sl 7 T, .sl 4 H]), .d (.int .u32 oo), st cc] [] fun r S => r = .d (wd z0 z1) ∧ S = [])) :
    CallR cx 9 [.d (.agg [.sl 7 T, .sl 4 H]), .d (actP d o n w w2 k), .d (.int .u32 oo), st cc] [] fun r S => r = bo true ∧ S = [] := by
  refine callR_of (R := R1) cx_ok Tryd.func9 (by kernel_rfl) rfl ?_
  conv => whnf
  refine ⟨_, aw, ?_⟩
  rintro _ _ ⟨rfl, rfl⟩
  conv => whnf
  refine ⟨_, fc, ?_⟩
  rintro _ _ ⟨b, rfl, rfl⟩
  cases b with
  | false =>
    conv => whnf
    exact ⟨rfl, rfl⟩
  | true =>
  conv => whnf
  refine ⟨_, sc, ?_⟩
  rintro _ _ ⟨b, rfl, rfl⟩
  cases b with
  | false =>
    conv => whnf
    exact ⟨rfl, rfl⟩
  | true =>
  conv => whnf
  refine ⟨_, rc, ?_⟩
  rintro _ _ ⟨rfl, rfl⟩
  conv => whnf
  refine ⟨_, dc, ?_⟩
  rintro _ _ ⟨rfl, rfl⟩
  conv => whnf
  refine ⟨by kernel_rfl, ?_⟩
  conv => whnf
  refine ⟨_, s1, ?_⟩
  conv => whnf
  refine ⟨_, s2, ?_⟩
  conv => whnf
  refine ⟨by kernel_rfl, ?_⟩
  conv => whnf
  refine ⟨by decide, ?_⟩
  rw [hq]
  conv => whnf
  by_cases c1 : oo = o
  · by_cases c2 : cc = n
    · refine ⟨by kernel_rfl, ?_⟩
      conv => whnf
      refine brF (bne_eq_false_iff_eq.2 c1) ?_
      conv => whnf
      refine brF (by rw [decide_eq_true c2]; rfl) ?_
      conv => whnf
      refine ⟨by kernel_rfl, ?_⟩
      conv => whnf
      refine ⟨_, ad, ?_⟩
      rintro _ _ ⟨rfl, rfl⟩
      conv => whnf
      refine ⟨_, ae, ?_⟩
      rintro _ _ ⟨rfl, rfl⟩
      conv => whnf
      refine ⟨_, kb, ?_⟩
      rintro _ _ ⟨rfl, rfl⟩
      conv => whnf
      refine ⟨_, kc, ?_⟩
      rintro _ _ ⟨rfl, rfl⟩
      conv => whnf
      refine ⟨sideW _ _ _ _, ?_⟩
      rw [show deq _ _ = _ from hup]
      conv => whnf
      refine ⟨sideW _ _ _ _, ?_⟩
      rw [show deq _ _ = _ from hdn]
      conv => whnf
      refine ⟨sideT (t := ⟨to, tn, a, lb, ub, mb, bb⟩), ?_⟩
      rw [deq_self]
      conv => whnf
      exact ⟨rfl, rfl⟩
    · refine ⟨by kernel_rfl, ?_⟩
      conv => whnf
      refine brF (bne_eq_false_iff_eq.2 c1) ?_
      conv => whnf
      refine brT (by rw [decide_eq_false c2]; rfl) ?_
      conv => whnf
      refine ⟨_, (so (.inr c2)).1, ?_⟩
      conv => whnf
      refine ⟨_, (so (.inr c2)).2, ?_⟩
      conv => whnf
      refine ⟨sideW _ _ _ _, ?_⟩
      rw [deq_self]
      conv => whnf
      refine ⟨by kernel_rfl, ?_⟩
      conv => whnf
      refine ⟨_, ad, ?_⟩
      rintro _ _ ⟨rfl, rfl⟩
      conv => whnf
      refine ⟨_, ae, ?_⟩
      rintro _ _ ⟨rfl, rfl⟩
      conv => whnf
      refine ⟨_, kb, ?_⟩
      rintro _ _ ⟨rfl, rfl⟩
      conv => whnf
      refine ⟨_, kc, ?_⟩
      rintro _ _ ⟨rfl, rfl⟩
      conv => whnf
      refine ⟨sideW _ _ _ _, ?_⟩
      rw [show deq _ _ = _ from hup]
      conv => whnf
      refine ⟨sideW _ _ _ _, ?_⟩
      rw [show deq _ _ = _ from hdn]
      conv => whnf
      refine ⟨sideT (t := ⟨to, tn, a, lb, ub, mb, bb⟩), ?_⟩
      rw [deq_self]
      conv => whnf
      exact ⟨rfl, rfl⟩
  · refine ⟨by kernel_rfl, ?_⟩
    conv => whnf
    refine brT (bne_iff_ne.2 c1) ?_
    conv => whnf
    refine ⟨_, (so (.inl c1)).1, ?_⟩
    conv => whnf
    refine ⟨_, (so (.inl c1)).2, ?_⟩
    conv => whnf
    refine ⟨sideW _ _ _ _, ?_⟩
    rw [deq_self]
    conv => whnf
    refine ⟨by kernel_rfl, ?_⟩
    conv => whnf
    refine ⟨_, ad, ?_⟩
    rintro _ _ ⟨rfl, rfl⟩
    conv => whnf
    refine ⟨_, ae, ?_⟩
    rintro _ _ ⟨rfl, rfl⟩
    conv => whnf
    refine ⟨_, kb, ?_⟩
    rintro _ _ ⟨rfl, rfl⟩
    conv => whnf
    refine ⟨_, kc, ?_⟩
    rintro _ _ ⟨rfl, rfl⟩
    conv => whnf
    refine ⟨sideW _ _ _ _, ?_⟩
    rw [show deq _ _ = _ from hup]
    conv => whnf
    refine ⟨sideW _ _ _ _, ?_⟩
    rw [show deq _ _ = _ from hdn]
    conv => whnf
    refine ⟨sideT (t := ⟨to, tn, a, lb, ub, mb, bb⟩), ?_⟩
    rw [deq_self]
    conv => whnf
    exact ⟨rfl, rfl⟩

theorem sums_m1 {T H T2 H2 : List D} {d o k oo x0 x1 y0 y1 v0 v1 g0 g1 z0 z1 to a lb ub mb bb lc uc mc bc mi lo : Int} {n w w2 cc tn : ByteArray} (aw : CallR cx 28 [] [] fun r S => r = bo true ∧ S = [])
    (fc : CallR cx 29 [.d (.agg [.sl 7 T, .sl 4 H])] [] fun r S => ∃ b, r = bo b ∧ S = [])
    (sc : CallR cx 30 [.d (actP d o n w w2 k)] [] fun r S => ∃ b, r = bo b ∧ S = [])
    (rc : CallR cx 31 [.d (.agg [.sl 7 T, .sl 4 H])] [] fun r S => r = bo true ∧ S = [])
    (hq : Int.tmod d 8 = -1)
    (dc : CallR cx 38 [.d (.agg [.sl 7 T, .sl 4 H]), .d (.agg [.sl 7 T, .sl 4 H]), .d (actP d o n w w2 k)] [] fun r S => r = .tup [.d (.agg [.sl 7 T2, .sl 4 H2]), .d (.agg [.sl 7 T2, .sl 4 H2]), i64 0, bo true] ∧ S = [])
    (s1 : CallR cx 39 [.d (.agg [.sl 7 T, .sl 4 H]), .d (.int .u32 o), st n] [] fun r S => r = .d (wd x0 x1) ∧ S = [])
    (s2 : CallR cx 39 [.d (.agg [.sl 7 T2, .sl 4 H2]), .d (.int .u32 o), st n] [] fun r S => r = .d (wd y0 y1) ∧ S = [])
    (ad : CallR cx 19 [.d (wd x0 x1), .d (wd 0 k)] [] fun r S => r = .tup [.d (wd v0 v1), i64 0] ∧ S = [])
    (ae : CallR cx 19 [.d (wd y0 y1), .d (wd 0 k)] [] fun r S => r = .tup [.d (wd g0 g1), i64 0] ∧ S = [])
    (kb : CallR cx 40 [.d (.agg [.sl 7 T, .sl 4 H]), .d (.int .u32 o), st n] [] fun r S => r = .tup [.d (.agg [.int .u32 to, .str tn, .int .u64 a, .int .u64 lb, .int .u64 ub, .int .u64 mb, .int .u64 bb]), bo true] ∧ S = [])
    (kc : CallR cx 40 [.d (.agg [.sl 7 T2, .sl 4 H2]), .d (.int .u32 o), st n] [] fun r S => r = .tup [.d (.agg [.int .u32 to, .str tn, .int .u64 a, .int .u64 lb, .int .u64 ub, .int .u64 mb, .int .u64 bb]), bo true] ∧ S = [])
    {B1 B2 : Bool} (hup : deq (wd y0 y1) (wd v0 v1) = true) (hdn : deq (wd x0 x1) (wd g0 g1) = B2)
    (so : (oo ≠ o ∨ cc ≠ n) → (CallR cx 39 [.d (.agg [.sl 7 T2, .sl 4 H2]), .d (.int .u32 oo), st cc] [] fun r S => r = .d (wd z0 z1) ∧ S = []) ∧ (CallR cx 39 [.d (.agg [.sl 7 T, .sl 4 H]), .d (.int .u32 oo), st cc] [] fun r S => r = .d (wd z0 z1) ∧ S = [])) :
    CallR cx 9 [.d (.agg [.sl 7 T, .sl 4 H]), .d (actP d o n w w2 k), .d (.int .u32 oo), st cc] [] fun r S => r = bo true ∧ S = [] := by
  refine callR_of (R := R1) cx_ok Tryd.func9 (by kernel_rfl) rfl ?_
  conv => whnf
  refine ⟨_, aw, ?_⟩
  rintro _ _ ⟨rfl, rfl⟩
  conv => whnf
  refine ⟨_, fc, ?_⟩
  rintro _ _ ⟨b, rfl, rfl⟩
  cases b with
  | false =>
    conv => whnf
    exact ⟨rfl, rfl⟩
  | true =>
  conv => whnf
  refine ⟨_, sc, ?_⟩
  rintro _ _ ⟨b, rfl, rfl⟩
  cases b with
  | false =>
    conv => whnf
    exact ⟨rfl, rfl⟩
  | true =>
  conv => whnf
  refine ⟨_, rc, ?_⟩
  rintro _ _ ⟨rfl, rfl⟩
  conv => whnf
  refine ⟨_, dc, ?_⟩
  rintro _ _ ⟨rfl, rfl⟩
  conv => whnf
  refine ⟨by kernel_rfl, ?_⟩
  conv => whnf
  refine ⟨_, s1, ?_⟩
  conv => whnf
  refine ⟨_, s2, ?_⟩
  conv => whnf
  refine ⟨by kernel_rfl, ?_⟩
  conv => whnf
  refine ⟨by decide, ?_⟩
  rw [hq]
  conv => whnf
  by_cases c1 : oo = o
  · by_cases c2 : cc = n
    · refine ⟨by kernel_rfl, ?_⟩
      conv => whnf
      refine brF (bne_eq_false_iff_eq.2 c1) ?_
      conv => whnf
      refine brF (by rw [decide_eq_true c2]; rfl) ?_
      conv => whnf
      refine ⟨by kernel_rfl, ?_⟩
      conv => whnf
      refine ⟨_, ad, ?_⟩
      rintro _ _ ⟨rfl, rfl⟩
      conv => whnf
      refine ⟨_, ae, ?_⟩
      rintro _ _ ⟨rfl, rfl⟩
      conv => whnf
      refine ⟨_, kb, ?_⟩
      rintro _ _ ⟨rfl, rfl⟩
      conv => whnf
      refine ⟨_, kc, ?_⟩
      rintro _ _ ⟨rfl, rfl⟩
      conv => whnf
      refine ⟨sideW _ _ _ _, ?_⟩
      rw [show deq _ _ = _ from hup]
      conv => whnf
      refine ⟨sideW _ _ _ _, ?_⟩
      rw [show deq _ _ = _ from hdn]
      conv => whnf
      refine ⟨sideT (t := ⟨to, tn, a, lb, ub, mb, bb⟩), ?_⟩
      rw [deq_self]
      conv => whnf
      exact ⟨rfl, rfl⟩
    · refine ⟨by kernel_rfl, ?_⟩
      conv => whnf
      refine brF (bne_eq_false_iff_eq.2 c1) ?_
      conv => whnf
      refine brT (by rw [decide_eq_false c2]; rfl) ?_
      conv => whnf
      refine ⟨_, (so (.inr c2)).1, ?_⟩
      conv => whnf
      refine ⟨_, (so (.inr c2)).2, ?_⟩
      conv => whnf
      refine ⟨sideW _ _ _ _, ?_⟩
      rw [deq_self]
      conv => whnf
      refine ⟨by kernel_rfl, ?_⟩
      conv => whnf
      refine ⟨_, ad, ?_⟩
      rintro _ _ ⟨rfl, rfl⟩
      conv => whnf
      refine ⟨_, ae, ?_⟩
      rintro _ _ ⟨rfl, rfl⟩
      conv => whnf
      refine ⟨_, kb, ?_⟩
      rintro _ _ ⟨rfl, rfl⟩
      conv => whnf
      refine ⟨_, kc, ?_⟩
      rintro _ _ ⟨rfl, rfl⟩
      conv => whnf
      refine ⟨sideW _ _ _ _, ?_⟩
      rw [show deq _ _ = _ from hup]
      conv => whnf
      refine ⟨sideW _ _ _ _, ?_⟩
      rw [show deq _ _ = _ from hdn]
      conv => whnf
      refine ⟨sideT (t := ⟨to, tn, a, lb, ub, mb, bb⟩), ?_⟩
      rw [deq_self]
      conv => whnf
      exact ⟨rfl, rfl⟩
  · refine ⟨by kernel_rfl, ?_⟩
    conv => whnf
    refine brT (bne_iff_ne.2 c1) ?_
    conv => whnf
    refine ⟨_, (so (.inl c1)).1, ?_⟩
    conv => whnf
    refine ⟨_, (so (.inl c1)).2, ?_⟩
    conv => whnf
    refine ⟨sideW _ _ _ _, ?_⟩
    rw [deq_self]
    conv => whnf
    refine ⟨by kernel_rfl, ?_⟩
    conv => whnf
    refine ⟨_, ad, ?_⟩
    rintro _ _ ⟨rfl, rfl⟩
    conv => whnf
    refine ⟨_, ae, ?_⟩
    rintro _ _ ⟨rfl, rfl⟩
    conv => whnf
    refine ⟨_, kb, ?_⟩
    rintro _ _ ⟨rfl, rfl⟩
    conv => whnf
    refine ⟨_, kc, ?_⟩
    rintro _ _ ⟨rfl, rfl⟩
    conv => whnf
    refine ⟨sideW _ _ _ _, ?_⟩
    rw [show deq _ _ = _ from hup]
    conv => whnf
    refine ⟨sideW _ _ _ _, ?_⟩
    rw [show deq _ _ = _ from hdn]
    conv => whnf
    refine ⟨sideT (t := ⟨to, tn, a, lb, ub, mb, bb⟩), ?_⟩
    rw [deq_self]
    conv => whnf
    exact ⟨rfl, rfl⟩

theorem sums_3 {T H T2 H2 : List D} {d o k oo x0 x1 y0 y1 v0 v1 g0 g1 z0 z1 to a lb ub mb bb lc uc mc bc mi lo : Int} {n w w2 cc tn : ByteArray} (aw : CallR cx 28 [] [] fun r S => r = bo true ∧ S = [])
    (fc : CallR cx 29 [.d (.agg [.sl 7 T, .sl 4 H])] [] fun r S => ∃ b, r = bo b ∧ S = [])
    (sc : CallR cx 30 [.d (actP d o n w w2 k)] [] fun r S => ∃ b, r = bo b ∧ S = [])
    (rc : CallR cx 31 [.d (.agg [.sl 7 T, .sl 4 H])] [] fun r S => r = bo true ∧ S = [])
    (hq : Int.tmod d 8 = 3)
    (dc : CallR cx 38 [.d (.agg [.sl 7 T, .sl 4 H]), .d (.agg [.sl 7 T, .sl 4 H]), .d (actP d o n w w2 k)] [] fun r S => r = .tup [.d (.agg [.sl 7 T2, .sl 4 H2]), .d (.agg [.sl 7 T2, .sl 4 H2]), i64 0, bo true] ∧ S = [])
    (s1 : CallR cx 39 [.d (.agg [.sl 7 T, .sl 4 H]), .d (.int .u32 o), st n] [] fun r S => r = .d (wd x0 x1) ∧ S = [])
    (s2 : CallR cx 39 [.d (.agg [.sl 7 T2, .sl 4 H2]), .d (.int .u32 o), st n] [] fun r S => r = .d (wd y0 y1) ∧ S = [])
    (ad : CallR cx 19 [.d (wd x0 x1), .d (wd 0 k)] [] fun r S => r = .tup [.d (wd v0 v1), i64 0] ∧ S = [])
    (ae : CallR cx 19 [.d (wd y0 y1), .d (wd 0 k)] [] fun r S => r = .tup [.d (wd g0 g1), i64 0] ∧ S = [])
    (kb : CallR cx 40 [.d (.agg [.sl 7 T, .sl 4 H]), .d (.int .u32 o), st n] [] fun r S => r = .tup [.d (.agg [.int .u32 to, .str tn, .int .u64 a, .int .u64 lb, .int .u64 ub, .int .u64 mb, .int .u64 bb]), bo true] ∧ S = [])
    (kc : CallR cx 40 [.d (.agg [.sl 7 T2, .sl 4 H2]), .d (.int .u32 o), st n] [] fun r S => r = .tup [.d (.agg [.int .u32 to, .str tn, .int .u64 a, .int .u64 lc, .int .u64 uc, .int .u64 mc, .int .u64 bc]), bo true] ∧ S = [])
    {B1 B2 : Bool} (hup : deq (wd y0 y1) (wd v0 v1) = B1) (hdn : deq (wd x0 x1) (wd g0 g1) = true)
    (h1 : IntKind.u64.wrap (lc - lb) = k) (h2 : uc = ub)
    (so : (oo ≠ o ∨ cc ≠ n) → (CallR cx 39 [.d (.agg [.sl 7 T2, .sl 4 H2]), .d (.int .u32 oo), st cc] [] fun r S => r = .d (wd z0 z1) ∧ S = []) ∧ (CallR cx 39 [.d (.agg [.sl 7 T, .sl 4 H]), .d (.int .u32 oo), st cc] [] fun r S => r = .d (wd z0 z1) ∧ S = [])) :
    CallR cx 9 [.d (.agg [.sl 7 T, .sl 4 H]), .d (actP d o n w w2 k), .d (.int .u32 oo), st cc] [] fun r S => r = bo true ∧ S = [] := by
  refine callR_of (R := R1) cx_ok Tryd.func9 (by kernel_rfl) rfl ?_
  conv => whnf
  refine ⟨_, aw, ?_⟩
  rintro _ _ ⟨rfl, rfl⟩
  conv => whnf
  refine ⟨_, fc, ?_⟩
  rintro _ _ ⟨b, rfl, rfl⟩
  cases b with
  | false =>
    conv => whnf
    exact ⟨rfl, rfl⟩
  | true =>
  conv => whnf
  refine ⟨_, sc, ?_⟩
  rintro _ _ ⟨b, rfl, rfl⟩
  cases b with
  | false =>
    conv => whnf
    exact ⟨rfl, rfl⟩
  | true =>
  conv => whnf
  refine ⟨_, rc, ?_⟩
  rintro _ _ ⟨rfl, rfl⟩
  conv => whnf
  refine ⟨_, dc, ?_⟩
  rintro _ _ ⟨rfl, rfl⟩
  conv => whnf
  refine ⟨by kernel_rfl, ?_⟩
  conv => whnf
  refine ⟨_, s1, ?_⟩
  conv => whnf
  refine ⟨_, s2, ?_⟩
  conv => whnf
  refine ⟨by kernel_rfl, ?_⟩
  conv => whnf
  refine ⟨by decide, ?_⟩
  rw [hq]
  conv => whnf
  by_cases c1 : oo = o
  · by_cases c2 : cc = n
    · refine ⟨by kernel_rfl, ?_⟩
      conv => whnf
      refine brF (bne_eq_false_iff_eq.2 c1) ?_
      conv => whnf
      refine brF (by rw [decide_eq_true c2]; rfl) ?_
      conv => whnf
      refine ⟨by kernel_rfl, ?_⟩
      conv => whnf
      refine ⟨_, ad, ?_⟩
      rintro _ _ ⟨rfl, rfl⟩
      conv => whnf
      refine ⟨_, ae, ?_⟩
      rintro _ _ ⟨rfl, rfl⟩
      conv => whnf
      refine ⟨_, kb, ?_⟩
      rintro _ _ ⟨rfl, rfl⟩
      conv => whnf
      refine ⟨_, kc, ?_⟩
      rintro _ _ ⟨rfl, rfl⟩
      conv => whnf
      refine ⟨sideW _ _ _ _, ?_⟩
      rw [show deq _ _ = _ from hup]
      conv => whnf
      refine ⟨sideW _ _ _ _, ?_⟩
      rw [show deq _ _ = _ from hdn]
      conv => whnf
      refine brT (decide_eq_true h1) ?_
      conv => whnf
      exact ⟨congrArg (fun z => AV.d (.bool z)) (decide_eq_true h2), rfl⟩
    · refine ⟨by kernel_rfl, ?_⟩
      conv => whnf
      refine brF (bne_eq_false_iff_eq.2 c1) ?_
      conv => whnf
      refine brT (by rw [decide_eq_false c2]; rfl) ?_
      conv => whnf
      refine ⟨_, (so (.inr c2)).1, ?_⟩
      conv => whnf
      refine ⟨_, (so (.inr c2)).2, ?_⟩
      conv => whnf
      refine ⟨sideW _ _ _ _, ?_⟩
      rw [deq_self]
      conv => whnf
      refine ⟨by kernel_rfl, ?_⟩
      conv => whnf
      refine ⟨_, ad, ?_⟩
      rintro _ _ ⟨rfl, rfl⟩
      conv => whnf
      refine ⟨_, ae, ?_⟩
      rintro _ _ ⟨rfl, rfl⟩
      conv => whnf
      refine ⟨_, kb, ?_⟩
      rintro _ _ ⟨rfl, rfl⟩
      conv => whnf
      refine ⟨_, kc, ?_⟩
      rintro _ _ ⟨rfl, rfl⟩
      conv => whnf
      refine ⟨sideW _ _ _ _, ?_⟩
      rw [show deq _ _ = _ from hup]
      conv => whnf
      refine ⟨sideW _ _ _ _, ?_⟩
      rw [show deq _ _ = _ from hdn]
      conv => whnf
      refine brT (decide_eq_true h1) ?_
      conv => whnf
      exact ⟨congrArg (fun z => AV.d (.bool z)) (decide_eq_true h2), rfl⟩
  · refine ⟨by kernel_rfl, ?_⟩
    conv => whnf
    refine brT (bne_iff_ne.2 c1) ?_
    conv => whnf
    refine ⟨_, (so (.inl c1)).1, ?_⟩
    conv => whnf
    refine ⟨_, (so (.inl c1)).2, ?_⟩
    conv => whnf
    refine ⟨sideW _ _ _ _, ?_⟩
    rw [deq_self]
    conv => whnf
    refine ⟨by kernel_rfl, ?_⟩
    conv => whnf
    refine ⟨_, ad, ?_⟩
    rintro _ _ ⟨rfl, rfl⟩
    conv => whnf
    refine ⟨_, ae, ?_⟩
    rintro _ _ ⟨rfl, rfl⟩
    conv => whnf
    refine ⟨_, kb, ?_⟩
    rintro _ _ ⟨rfl, rfl⟩
    conv => whnf
    refine ⟨_, kc, ?_⟩
    rintro _ _ ⟨rfl, rfl⟩
    conv => whnf
    refine ⟨sideW _ _ _ _, ?_⟩
    rw [show deq _ _ = _ from hup]
    conv => whnf
    refine ⟨sideW _ _ _ _, ?_⟩
    rw [show deq _ _ = _ from hdn]
    conv => whnf
    refine brT (decide_eq_true h1) ?_
    conv => whnf
    exact ⟨congrArg (fun z => AV.d (.bool z)) (decide_eq_true h2), rfl⟩

theorem sums_m3 {T H T2 H2 : List D} {d o k oo x0 x1 y0 y1 v0 v1 g0 g1 z0 z1 to a lb ub mb bb lc uc mc bc mi lo : Int} {n w w2 cc tn : ByteArray} (aw : CallR cx 28 [] [] fun r S => r = bo true ∧ S = [])
    (fc : CallR cx 29 [.d (.agg [.sl 7 T, .sl 4 H])] [] fun r S => ∃ b, r = bo b ∧ S = [])
    (sc : CallR cx 30 [.d (actP d o n w w2 k)] [] fun r S => ∃ b, r = bo b ∧ S = [])
    (rc : CallR cx 31 [.d (.agg [.sl 7 T, .sl 4 H])] [] fun r S => r = bo true ∧ S = [])
    (hq : Int.tmod d 8 = -3)
    (dc : CallR cx 38 [.d (.agg [.sl 7 T, .sl 4 H]), .d (.agg [.sl 7 T, .sl 4 H]), .d (actP d o n w w2 k)] [] fun r S => r = .tup [.d (.agg [.sl 7 T2, .sl 4 H2]), .d (.agg [.sl 7 T2, .sl 4 H2]), i64 0, bo true] ∧ S = [])
    (s1 : CallR cx 39 [.d (.agg [.sl 7 T, .sl 4 H]), .d (.int .u32 o), st n] [] fun r S => r = .d (wd x0 x1) ∧ S = [])
    (s2 : CallR cx 39 [.d (.agg [.sl 7 T2, .sl 4 H2]), .d (.int .u32 o), st n] [] fun r S => r = .d (wd y0 y1) ∧ S = [])
    (ad : CallR cx 19 [.d (wd x0 x1), .d (wd 0 k)] [] fun r S => r = .tup [.d (wd v0 v1), i64 0] ∧ S = [])
    (ae : CallR cx 19 [.d (wd y0 y1), .d (wd 0 k)] [] fun r S => r = .tup [.d (wd g0 g1), i64 0] ∧ S = [])
    (kb : CallR cx 40 [.d (.agg [.sl 7 T, .sl 4 H]), .d (.int .u32 o), st n] [] fun r S => r = .tup [.d (.agg [.int .u32 to, .str tn, .int .u64 a, .int .u64 lb, .int .u64 ub, .int .u64 mb, .int .u64 bb]), bo true] ∧ S = [])
    (kc : CallR cx 40 [.d (.agg [.sl 7 T2, .sl 4 H2]), .d (.int .u32 o), st n] [] fun r S => r = .tup [.d (.agg [.int .u32 to, .str tn, .int .u64 a, .int .u64 lc, .int .u64 uc, .int .u64 mc, .int .u64 bc]), bo true] ∧ S = [])
    {B1 B2 : Bool} (hup : deq (wd y0 y1) (wd v0 v1) = B1) (hdn : deq (wd x0 x1) (wd g0 g1) = true)
    (h1 : IntKind.u64.wrap (lc - lb) = k) (h2 : uc = ub)
    (so : (oo ≠ o ∨ cc ≠ n) → (CallR cx 39 [.d (.agg [.sl 7 T2, .sl 4 H2]), .d (.int .u32 oo), st cc] [] fun r S => r = .d (wd z0 z1) ∧ S = []) ∧ (CallR cx 39 [.d (.agg [.sl 7 T, .sl 4 H]), .d (.int .u32 oo), st cc] [] fun r S => r = .d (wd z0 z1) ∧ S = [])) :
    CallR cx 9 [.d (.agg [.sl 7 T, .sl 4 H]), .d (actP d o n w w2 k), .d (.int .u32 oo), st cc] [] fun r S => r = bo true ∧ S = [] := by
  refine callR_of (R := R1) cx_ok Tryd.func9 (by kernel_rfl) rfl ?_
  conv => whnf
  refine ⟨_, aw, ?_⟩
  rintro _ _ ⟨rfl, rfl⟩
  conv => whnf
  refine ⟨_, fc, ?_⟩
  rintro _ _ ⟨b, rfl, rfl⟩
  cases b with
  | false =>
    conv => whnf
    exact ⟨rfl, rfl⟩
  | true =>
  conv => whnf
  refine ⟨_, sc, ?_⟩
  rintro _ _ ⟨b, rfl, rfl⟩
  cases b with
  | false =>
    conv => whnf
    exact ⟨rfl, rfl⟩
  | true =>
  conv => whnf
  refine ⟨_, rc, ?_⟩
  rintro _ _ ⟨rfl, rfl⟩
  conv => whnf
  refine ⟨_, dc, ?_⟩
  rintro _ _ ⟨rfl, rfl⟩
  conv => whnf
  refine ⟨by kernel_rfl, ?_⟩
  conv => whnf
  refine ⟨_, s1, ?_⟩
  conv => whnf
  refine ⟨_, s2, ?_⟩
  conv => whnf
  refine ⟨by kernel_rfl, ?_⟩
  conv => whnf
  refine ⟨by decide, ?_⟩
  rw [hq]
  conv => whnf
  by_cases c1 : oo = o
  · by_cases c2 : cc = n
    · refine ⟨by kernel_rfl, ?_⟩
      conv => whnf
      refine brF (bne_eq_false_iff_eq.2 c1) ?_
      conv => whnf
      refine brF (by rw [decide_eq_true c2]; rfl) ?_
      conv => whnf
      refine ⟨by kernel_rfl, ?_⟩
      conv => whnf
      refine ⟨_, ad, ?_⟩
      rintro _ _ ⟨rfl, rfl⟩
      conv => whnf
      refine ⟨_, ae, ?_⟩
      rintro _ _ ⟨rfl, rfl⟩
      conv => whnf
      refine ⟨_, kb, ?_⟩
      rintro _ _ ⟨rfl, rfl⟩
      conv => whnf
      refine ⟨_, kc, ?_⟩
      rintro _ _ ⟨rfl, rfl⟩
      conv => whnf
      refine ⟨sideW _ _ _ _, ?_⟩
      rw [show deq _ _ = _ from hup]
      conv => whnf
      refine ⟨sideW _ _ _ _, ?_⟩
      rw [show deq _ _ = _ from hdn]
      conv => whnf
      refine brT (decide_eq_true h1) ?_
      conv => whnf
      exact ⟨congrArg (fun z => AV.d (.bool z)) (decide_eq_true h2), rfl⟩
    · refine ⟨by kernel_rfl, ?_⟩
      conv => whnf
      refine brF (bne_eq_false_iff_eq.2 c1) ?_
      conv => whnf
      refine brT (by rw [decide_eq_false c2]; rfl) ?_
      conv => whnf
      refine ⟨_, (so (.inr c2)).1, ?_⟩
      conv => whnf
      refine ⟨_, (so (.inr c2)).2, ?_⟩
      conv => whnf
      refine ⟨sideW _ _ _ _, ?_⟩
      rw [deq_self]
      conv => whnf
      refine ⟨by kernel_rfl, ?_⟩
      conv => whnf
      refine ⟨_, ad, ?_⟩
      rintro _ _ ⟨rfl, rfl⟩
      conv => whnf
      refine ⟨_, ae, ?_⟩
      rintro _ _ ⟨rfl, rfl⟩
      conv => whnf
      refine ⟨_, kb, ?_⟩
      rintro _ _ ⟨rfl, rfl⟩
      conv => whnf
      refine ⟨_, kc, ?_⟩
      rintro _ _ ⟨rfl, rfl⟩
      conv => whnf
      refine ⟨sideW _ _ _ _, ?_⟩
      rw [show deq _ _ = _ from hup]
      conv => whnf
      refine ⟨sideW _ _ _ _, ?_⟩
      rw [show deq _ _ = _ from hdn]
      conv => whnf
      refine brT (decide_eq_true h1) ?_
      conv => whnf
      exact ⟨congrArg (fun z => AV.d (.bool z)) (decide_eq_true h2), rfl⟩
  · refine ⟨by kernel_rfl, ?_⟩
    conv => whnf
    refine brT (bne_iff_ne.2 c1) ?_
    conv => whnf
    refine ⟨_, (so (.inl c1)).1, ?_⟩
    conv => whnf
    refine ⟨_, (so (.inl c1)).2, ?_⟩
    conv => whnf
    refine ⟨sideW _ _ _ _, ?_⟩
    rw [deq_self]
    conv => whnf
    refine ⟨by kernel_rfl, ?_⟩
    conv => whnf
    refine ⟨_, ad, ?_⟩
    rintro _ _ ⟨rfl, rfl⟩
    conv => whnf
    refine ⟨_, ae, ?_⟩
    rintro _ _ ⟨rfl, rfl⟩
    conv => whnf
    refine ⟨_, kb, ?_⟩
    rintro _ _ ⟨rfl, rfl⟩
    conv => whnf
    refine ⟨_, kc, ?_⟩
    rintro _ _ ⟨rfl, rfl⟩
    conv => whnf
    refine ⟨sideW _ _ _ _, ?_⟩
    rw [show deq _ _ = _ from hup]
    conv => whnf
    refine ⟨sideW _ _ _ _, ?_⟩
    rw [show deq _ _ = _ from hdn]
    conv => whnf
    refine brT (decide_eq_true h1) ?_
    conv => whnf
    exact ⟨congrArg (fun z => AV.d (.bool z)) (decide_eq_true h2), rfl⟩

theorem sums_4 {T H T2 H2 : List D} {d o k oo x0 x1 y0 y1 v0 v1 g0 g1 z0 z1 to a lb ub mb bb lc uc mc bc mi lo : Int} {n w w2 cc tn : ByteArray} (aw : CallR cx 28 [] [] fun r S => r = bo true ∧ S = [])
    (fc : CallR cx 29 [.d (.agg [.sl 7 T, .sl 4 H])] [] fun r S => ∃ b, r = bo b ∧ S = [])
    (sc : CallR cx 30 [.d (actP d o n w w2 k)] [] fun r S => ∃ b, r = bo b ∧ S = [])
    (rc : CallR cx 31 [.d (.agg [.sl 7 T, .sl 4 H])] [] fun r S => r = bo true ∧ S = [])
    (hq : Int.tmod d 8 = 4)
    (dc : CallR cx 38 [.d (.agg [.sl 7 T, .sl 4 H]), .d (.agg [.sl 7 T, .sl 4 H]), .d (actP d o n w w2 k)] [] fun r S => r = .tup [.d (.agg [.sl 7 T2, .sl 4 H2]), .d (.agg [.sl 7 T2, .sl 4 H2]), i64 0, bo true] ∧ S = [])
    (s1 : CallR cx 39 [.d (.agg [.sl 7 T, .sl 4 H]), .d (.int .u32 o), st n] [] fun r S => r = .d (wd x0 x1) ∧ S = [])
    (s2 : CallR cx 39 [.d (.agg [.sl 7 T2, .sl 4 H2]), .d (.int .u32 o), st n] [] fun r S => r = .d (wd y0 y1) ∧ S = [])
    (ad : CallR cx 19 [.d (wd x0 x1), .d (wd 0 k)] [] fun r S => r = .tup [.d (wd v0 v1), i64 0] ∧ S = [])
    (ae : CallR cx 19 [.d (wd y0 y1), .d (wd 0 k)] [] fun r S => r = .tup [.d (wd g0 g1), i64 0] ∧ S = [])
    (kb : CallR cx 40 [.d (.agg [.sl 7 T, .sl 4 H]), .d (.int .u32 o), st n] [] fun r S => r = .tup [.d (.agg [.int .u32 to, .str tn, .int .u64 a, .int .u64 lb, .int .u64 ub, .int .u64 mb, .int .u64 bb]), bo true] ∧ S = [])
    (kc : CallR cx 40 [.d (.agg [.sl 7 T2, .sl 4 H2]), .d (.int .u32 o), st n] [] fun r S => r = .tup [.d (.agg [.int .u32 to, .str tn, .int .u64 a, .int .u64 lc, .int .u64 uc, .int .u64 mc, .int .u64 bc]), bo true] ∧ S = [])
    {B1 B2 : Bool} (hup : deq (wd y0 y1) (wd v0 v1) = true) (hdn : deq (wd x0 x1) (wd g0 g1) = B2)
    (h1 : IntKind.u64.wrap (uc - ub) = k) (h2 : uc ≤ lc) (h3 : lc = lb)
    (so : (oo ≠ o ∨ cc ≠ n) → (CallR cx 39 [.d (.agg [.sl 7 T2, .sl 4 H2]), .d (.int .u32 oo), st cc] [] fun r S => r = .d (wd z0 z1) ∧ S = []) ∧ (CallR cx 39 [.d (.agg [.sl 7 T, .sl 4 H]), .d (.int .u32 oo), st cc] [] fun r S => r = .d (wd z0 z1) ∧ S = [])) :
    CallR cx 9 [.d (.agg [.sl 7 T, .sl 4 H]), .d (actP d o n w w2 k), .d (.int .u32 oo), st cc] [] fun r S => r = bo true ∧ S = [] := by
  refine callR_of (R := R1) cx_ok Tryd.func9 (by kernel_rfl) rfl ?_
  conv => whnf
  refine ⟨_, aw, ?_⟩
  rintro _ _ ⟨rfl, rfl⟩
  conv => whnf
  refine ⟨_, fc, ?_⟩
  rintro _ _ ⟨b, rfl, rfl⟩
  cases b with
  | false =>
    conv => whnf
    exact ⟨rfl, rfl⟩
  | true =>
  conv => whnf
  refine ⟨_, sc, ?_⟩
  rintro _ _ ⟨b, rfl, rfl⟩
  cases b with
  | false =>
    conv => whnf
    exact ⟨rfl, rfl⟩
  | true =>
  conv => whnf
  refine ⟨_, rc, ?_⟩
  rintro _ _ ⟨rfl, rfl⟩
  conv => whnf
  refine ⟨_, dc, ?_⟩
  rintro _ _ ⟨rfl, rfl⟩
  conv => whnf
  refine ⟨by kernel_rfl, ?_⟩
  conv => whnf
  refine ⟨_, s1, ?_⟩
  conv => whnf
  refine ⟨_, s2, ?_⟩
  conv => whnf
  refine ⟨by kernel_rfl, ?_⟩
  conv => whnf
  refine ⟨by decide, ?_⟩
  rw [hq]
  conv => whnf
  by_cases c1 : oo = o
  · by_cases c2 : cc = n
    · refine ⟨by kernel_rfl, ?_⟩
      conv => whnf
      refine brF (bne_eq_false_iff_eq.2 c1) ?_
      conv => whnf
      refine brF (by rw [decide_eq_true c2]; rfl) ?_
      conv => whnf
      refine ⟨by kernel_rfl, ?_⟩
      conv => whnf
      refine ⟨_, ad, ?_⟩
      rintro _ _ ⟨rfl, rfl⟩
      conv => whnf
      refine ⟨_, ae, ?_⟩
      rintro _ _ ⟨rfl, rfl⟩
      conv => whnf
      refine ⟨_, kb, ?_⟩
      rintro _ _ ⟨rfl, rfl⟩
      conv => whnf
      refine ⟨_, kc, ?_⟩
      rintro _ _ ⟨rfl, rfl⟩
      conv => whnf
      refine ⟨sideW _ _ _ _, ?_⟩
      rw [show deq _ _ = _ from hup]
      conv => whnf
      refine ⟨sideW _ _ _ _, ?_⟩
      rw [show deq _ _ = _ from hdn]
      conv => whnf
      refine brT (decide_eq_true h1) ?_
      conv => whnf
      refine brT (decide_eq_true h2) ?_
      conv => whnf
      exact ⟨congrArg (fun z => AV.d (.bool z)) (decide_eq_true h3), rfl⟩
    · refine ⟨by kernel_rfl, ?_⟩
      conv => whnf
      refine brF (bne_eq_false_iff_eq.2 c1) ?_
      conv => whnf
      refine brT (by rw [decide_eq_false c2]; rfl) ?_
      conv => whnf
      refine ⟨_, (so (.inr c2)).1, ?_⟩
      conv => whnf
      refine ⟨_, (so (.inr c2)).2, ?_⟩
      conv => whnf
      refine ⟨sideW _ _ _ _, ?_⟩
      rw [deq_self]
      conv => whnf
      refine ⟨by kernel_rfl, ?_⟩
      conv => whnf
      refine ⟨_, ad, ?_⟩
      rintro _ _ ⟨rfl, rfl⟩
      conv => whnf
      refine ⟨_, ae, ?_⟩
      rintro _ _ ⟨rfl, rfl⟩
      conv => whnf
      refine ⟨_, kb, ?_⟩
      rintro _ _ ⟨rfl, rfl⟩
      conv => whnf
      refine ⟨_, kc, ?_⟩
      rintro _ _ ⟨rfl, rfl⟩
      conv => whnf
      refine ⟨sideW _ _ _ _, ?_⟩
      rw [show deq _ _ = _ from hup]
      conv => whnf
      refine ⟨sideW _ _ _ _, ?_⟩
      rw [show deq _ _ = _ from hdn]
      conv => whnf
      refine brT (decide_eq_true h1) ?_
      conv => whnf
      refine brT (decide_eq_true h2) ?_
      conv => whnf
      exact ⟨congrArg (fun z => AV.d (.bool z)) (decide_eq_true h3), rfl⟩
  · refine ⟨by kernel_rfl, ?_⟩
    conv => whnf
    refine brT (bne_iff_ne.2 c1) ?_
    conv => whnf
    refine ⟨_, (so (.inl c1)).1, ?_⟩
    conv => whnf
    refine ⟨_, (so (.inl c1)).2, ?_⟩
    conv => whnf
    refine ⟨sideW _ _ _ _, ?_⟩
    rw [deq_self]
    conv => whnf
    refine ⟨by kernel_rfl, ?_⟩
    conv => whnf
    refine ⟨_, ad, ?_⟩
    rintro _ _ ⟨rfl, rfl⟩
    conv => whnf
    refine ⟨_, ae, ?_⟩
    rintro _ _ ⟨rfl, rfl⟩
    conv => whnf
    refine ⟨_, kb, ?_⟩
    rintro _ _ ⟨rfl, rfl⟩
    conv => whnf
    refine ⟨_, kc, ?_⟩
    rintro _ _ ⟨rfl, rfl⟩
    conv => whnf
    refine ⟨sideW _ _ _ _, ?_⟩
    rw [show deq _ _ = _ from hup]
    conv => whnf
    refine ⟨sideW _ _ _ _, ?_⟩
    rw [show deq _ _ = _ from hdn]
    conv => whnf
    refine brT (decide_eq_true h1) ?_
    conv => whnf
    refine brT (decide_eq_true h2) ?_
    conv => whnf
    exact ⟨congrArg (fun z => AV.d (.bool z)) (decide_eq_true h3), rfl⟩

theorem sums_m4 {T H T2 H2 : List D} {d o k oo x0 x1 y0 y1 v0 v1 g0 g1 z0 z1 to a lb ub mb bb lc uc mc bc mi lo : Int} {n w w2 cc tn : ByteArray} (aw : CallR cx 28 [] [] fun r S => r = bo true ∧ S = [])
    (fc : CallR cx 29 [.d (.agg [.sl 7 T, .sl 4 H])] [] fun r S => ∃ b, r = bo b ∧ S = [])
    (sc : CallR cx 30 [.d (actP d o n w w2 k)] [] fun r S => ∃ b, r = bo b ∧ S = [])
    (rc : CallR cx 31 [.d (.agg [.sl 7 T, .sl 4 H])] [] fun r S => r = bo true ∧ S = [])
    (hq : Int.tmod d 8 = -4)
    (dc : CallR cx 38 [.d (.agg [.sl 7 T, .sl 4 H]), .d (.agg [.sl 7 T, .sl 4 H]), .d (actP d o n w w2 k)] [] fun r S => r = .tup [.d (.agg [.sl 7 T2, .sl 4 H2]), .d (.agg [.sl 7 T2, .sl 4 H2]), i64 0, bo true] ∧ S = [])
    (s1 : CallR cx 39 [.d (.agg [.sl 7 T, .sl 4 H]), .d (.int .u32 o), st n] [] fun r S => r = .d (wd x0 x1) ∧ S = [])
    (s2 : CallR cx 39 [.d (.agg [.sl 7 T2, .sl 4 H2]), .d (.int .u32 o), st n] [] fun r S => r = .d (wd y0 y1) ∧ S = [])
    (ad : CallR cx 19 [.d (wd x0 x1), .d (wd 0 k)] [] fun r S => r = .tup [.d (wd v0 v1), i64 0] ∧ S = [])
    (ae : CallR cx 19 [.d (wd y0 y1), .d (wd 0 k)] [] fun r S => r = .tup [.d (wd g0 g1), i64 0] ∧ S = [])
    (kb : CallR cx 40 [.d (.agg [.sl 7 T, .sl 4 H]), .d (.int .u32 o), st n] [] fun r S => r = .tup [.d (.agg [.int .u32 to, .str tn, .int .u64 a, .int .u64 lb, .int .u64 ub, .int .u64 mb, .int .u64 bb]), bo true] ∧ S = [])
    (kc : CallR cx 40 [.d (.agg [.sl 7 T2, .sl 4 H2]), .d (.int .u32 o), st n] [] fun r S => r = .tup [.d (.agg [.int .u32 to, .str tn, .int .u64 a, .int .u64 lc, .int .u64 uc, .int .u64 mc, .int .u64 bc]), bo true] ∧ S = [])
    {B1 B2 : Bool} (hup : deq (wd y0 y1) (wd v0 v1) = true) (hdn : deq (wd x0 x1) (wd g0 g1) = B2)
    (h1 : IntKind.u64.wrap (uc - ub) = k) (h2 : uc ≤ lc) (h3 : lc = lb)
    (so : (oo ≠ o ∨ cc ≠ n) → (CallR cx 39 [.d (.agg [.sl 7 T2, .sl 4 H2]), .d (.int .u32 oo), st cc] [] fun r S => r = .d (wd z0 z1) ∧ S = []) ∧ (CallR cx 39 [.d (.agg [.sl 7 T, .sl 4 H]), .d (.int .u32 oo), st cc] [] fun r S => r = .d (wd z0 z1) ∧ S = [])) :
    CallR cx 9 [.d (.agg [.sl 7 T, .sl 4 H]), .d (actP d o n w w2 k), .d (.int .u32 oo), st cc] [] fun r S => r = bo true ∧ S = [] := by
  refine callR_of (R := R1) cx_ok Tryd.func9 (by kernel_rfl) rfl ?_
  conv => whnf
  refine ⟨_, aw, ?_⟩
  rintro _ _ ⟨rfl, rfl⟩
  conv => whnf
  refine ⟨_, fc, ?_⟩
  rintro _ _ ⟨b, rfl, rfl⟩
  cases b with
  | false =>
    conv => whnf
    exact ⟨rfl, rfl⟩
  | true =>
  conv => whnf
  refine ⟨_, sc, ?_⟩
  rintro _ _ ⟨b, rfl, rfl⟩
  cases b with
  | false =>
    conv => whnf
    exact ⟨rfl, rfl⟩
  | true =>
  conv => whnf
  refine ⟨_, rc, ?_⟩
  rintro _ _ ⟨rfl, rfl⟩
  conv => whnf
  refine ⟨_, dc, ?_⟩
  rintro _ _ ⟨rfl, rfl⟩
  conv => whnf
  refine ⟨by kernel_rfl, ?_⟩
  conv => whnf
  refine ⟨_, s1, ?_⟩
  conv => whnf
  refine ⟨_, s2, ?_⟩
  conv => whnf
  refine ⟨by kernel_rfl, ?_⟩
  conv => whnf
  refine ⟨by decide, ?_⟩
  rw [hq]
  conv => whnf
  by_cases c1 : oo = o
  · by_cases c2 : cc = n
    · refine ⟨by kernel_rfl, ?_⟩
      conv => whnf
      refine brF (bne_eq_false_iff_eq.2 c1) ?_
      conv => whnf
      refine brF (by rw [decide_eq_true c2]; rfl) ?_
      conv => whnf
      refine ⟨by kernel_rfl, ?_⟩
      conv => whnf
      refine ⟨_, ad, ?_⟩
      rintro _ _ ⟨rfl, rfl⟩
      conv => whnf
      refine ⟨_, ae, ?_⟩
      rintro _ _ ⟨rfl, rfl⟩
      conv => whnf
      refine ⟨_, kb, ?_⟩
      rintro _ _ ⟨rfl, rfl⟩
      conv => whnf
      refine ⟨_, kc, ?_⟩
      rintro _ _ ⟨rfl, rfl⟩
      conv => whnf
      refine ⟨sideW _ _ _ _, ?_⟩
      rw [show deq _ _ = _ from hup]
      conv => whnf
      refine ⟨sideW _ _ _ _, ?_⟩
      rw [show deq _ _ = _ from hdn]
      conv => whnf
      refine brT (decide_eq_true h1) ?_
      conv => whnf
      refine brT (decide_eq_true h2) ?_
      conv => whnf
      exact ⟨congrArg (fun z => AV.d (.bool z)) (decide_eq_true h3), rfl⟩
    · refine ⟨by kernel_rfl, ?_⟩
      conv => whnf
      refine brF (bne_eq_false_iff_eq.2 c1) ?_
      conv => whnf
      refine brT (by rw [decide_eq_false c2]; rfl) ?_
      conv => whnf
      refine ⟨_, (so (.inr c2)).1, ?_⟩
      conv => whnf
      refine ⟨_, (so (.inr c2)).2, ?_⟩
      conv => whnf
      refine ⟨sideW _ _ _ _, ?_⟩
      rw [deq_self]
      conv => whnf
      refine ⟨by kernel_rfl, ?_⟩
      conv => whnf
      refine ⟨_, ad, ?_⟩
      rintro _ _ ⟨rfl, rfl⟩
      conv => whnf
      refine ⟨_, ae, ?_⟩
      rintro _ _ ⟨rfl, rfl⟩
      conv => whnf
      refine ⟨_, kb, ?_⟩
      rintro _ _ ⟨rfl, rfl⟩
      conv => whnf
      refine ⟨_, kc, ?_⟩
      rintro _ _ ⟨rfl, rfl⟩
      conv => whnf
      refine ⟨sideW _ _ _ _, ?_⟩
      rw [show deq _ _ = _ from hup]
      conv => whnf
      refine ⟨sideW _ _ _ _, ?_⟩
      rw [show deq _ _ = _ from hdn]
      conv => whnf
      refine brT (decide_eq_true h1) ?_
      conv => whnf
      refine brT (decide_eq_true h2) ?_
      conv => whnf
      exact ⟨congrArg (fun z => AV.d (.bool z)) (decide_eq_true h3), rfl⟩
  · refine ⟨by kernel_rfl, ?_⟩
    conv => whnf
    refine brT (bne_iff_ne.2 c1) ?_
    conv => whnf
    refine ⟨_, (so (.inl c1)).1, ?_⟩
    conv => whnf
    refine ⟨_, (so (.inl c1)).2, ?_⟩
    conv => whnf
    refine ⟨sideW _ _ _ _, ?_⟩
    rw [deq_self]
    conv => whnf
    refine ⟨by kernel_rfl, ?_⟩
    conv => whnf
    refine ⟨_, ad, ?_⟩
    rintro _ _ ⟨rfl, rfl⟩
    conv => whnf
    refine ⟨_, ae, ?_⟩
    rintro _ _ ⟨rfl, rfl⟩
    conv => whnf
    refine ⟨_, kb, ?_⟩
    rintro _ _ ⟨rfl, rfl⟩
    conv => whnf
    refine ⟨_, kc, ?_⟩
    rintro _ _ ⟨rfl, rfl⟩
    conv => whnf
    refine ⟨sideW _ _ _ _, ?_⟩
    rw [show deq _ _ = _ from hup]
    conv => whnf
    refine ⟨sideW _ _ _ _, ?_⟩
    rw [show deq _ _ = _ from hdn]
    conv => whnf
    refine brT (decide_eq_true h1) ?_
    conv => whnf
    refine brT (decide_eq_true h2) ?_
    conv => whnf
    exact ⟨congrArg (fun z => AV.d (.bool z)) (decide_eq_true h3), rfl⟩

theorem sums_5 {T H T2 H2 : List D} {d o k oo x0 x1 y0 y1 v0 v1 g0 g1 z0 z1 to a lb ub mb bb lc uc mc bc mi lo : Int} {n w w2 cc tn : ByteArray} (aw : CallR cx 28 [] [] fun r S => r = bo true ∧ S = [])
    (fc : CallR cx 29 [.d (.agg [.sl 7 T, .sl 4 H])] [] fun r S => ∃ b, r = bo b ∧ S = [])
    (sc : CallR cx 30 [.d (actP d o n w w2 k)] [] fun r S => ∃ b, r = bo b ∧ S = [])
    (rc : CallR cx 31 [.d (.agg [.sl 7 T, .sl 4 H])] [] fun r S => r = bo true ∧ S = [])
    (hq : Int.tmod d 8 = 5)
    (dc : CallR cx 38 [.d (.agg [.sl 7 T, .sl 4 H]), .d (.agg [.sl 7 T, .sl 4 H]), .d (actP d o n w w2 k)] [] fun r S => r = .tup [.d (.agg [.sl 7 T2, .sl 4 H2]), .d (.agg [.sl 7 T2, .sl 4 H2]), i64 0, bo true] ∧ S = [])
    (s1 : CallR cx 39 [.d (.agg [.sl 7 T, .sl 4 H]), .d (.int .u32 o), st n] [] fun r S => r = .d (wd x0 x1) ∧ S = [])
    (s2 : CallR cx 39 [.d (.agg [.sl 7 T2, .sl 4 H2]), .d (.int .u32 o), st n] [] fun r S => r = .d (wd y0 y1) ∧ S = [])
    (ad : CallR cx 19 [.d (wd x0 x1), .d (wd 0 k)] [] fun r S => r = .tup [.d (wd v0 v1), i64 0] ∧ S = [])
    (ae : CallR cx 19 [.d (wd y0 y1), .d (wd 0 k)] [] fun r S => r = .tup [.d (wd g0 g1), i64 0] ∧ S = [])
    (kb : CallR cx 40 [.d (.agg [.sl 7 T, .sl 4 H]), .d (.int .u32 o), st n] [] fun r S => r = .tup [.d (.agg [.int .u32 to, .str tn, .int .u64 a, .int .u64 lb, .int .u64 ub, .int .u64 mb, .int .u64 bb]), bo true] ∧ S = [])
    (kc : CallR cx 40 [.d (.agg [.sl 7 T2, .sl 4 H2]), .d (.int .u32 o), st n] [] fun r S => r = .tup [.d (.agg [.int .u32 to, .str tn, .int .u64 a, .int .u64 lc, .int .u64 uc, .int .u64 mc, .int .u64 bc]), bo true] ∧ S = [])
    {B1 B2 : Bool} (hup : deq (wd y0 y1) (wd v0 v1) = true) (hdn : deq (wd x0 x1) (wd g0 g1) = B2)
    (ou : CallR cx 41 [.d (.agg [.int .u32 to, .str tn, .int .u64 a, .int .u64 lc, .int .u64 uc, .int .u64 mc, .int .u64 bc])] [] fun r S => r = .tup [u64 mi, u64 lo] ∧ S = [])
    (h1 : IntKind.u64.wrap (mc - mb) = k) (h2 : mi ≤ a) (h3 : bc = bb)
    (so : (oo ≠ o ∨ cc ≠ n) → (CallR cx 39 [.d (.agg [.sl 7 T2, .sl 4 H2]), .d (.int .u32 oo), st cc] [] fun r S => r = .d (wd z0 z1) ∧ S = []) ∧ (CallR cx 39 [.d (.agg [.sl 7 T, .sl 4 H]), .d (.int .u32 oo), st cc] [] fun r S => r = .d (wd z0 z1) ∧ S = [])) :
    CallR cx 9 [.d (.agg [.sl 7 T, .sl 4 H]), .d (actP d o n w w2 k), .d (.int .u32 oo), st cc] [] fun r S => r = bo true ∧ S = [] := by
  refine callR_of (R := R1) cx_ok Tryd.func9 (by kernel_rfl) rfl ?_
  conv => whnf
  refine ⟨_, aw, ?_⟩
  rintro _ _ ⟨rfl, rfl⟩
  conv => whnf
  refine ⟨_, fc, ?_⟩
  rintro _ _ ⟨b, rfl, rfl⟩
  cases b with
  | false =>
    conv => whnf
    exact ⟨rfl, rfl⟩
  | true =>
  conv => whnf
  refine ⟨_, sc, ?_⟩
  rintro _ _ ⟨b, rfl, rfl⟩
  cases b with
  | false =>
    conv => whnf
    exact ⟨rfl, rfl⟩
  | true =>
  conv => whnf
  refine ⟨_, rc, ?_⟩
  rintro _ _ ⟨rfl, rfl⟩
  conv => whnf
  refine ⟨_, dc, ?_⟩
  rintro _ _ ⟨rfl, rfl⟩
  conv => whnf
  refine ⟨by kernel_rfl, ?_⟩
  conv => whnf
  refine ⟨_, s1, ?_⟩
  conv => whnf
  refine ⟨_, s2, ?_⟩
  conv => whnf
  refine ⟨by kernel_rfl, ?_⟩
  conv => whnf
  refine ⟨by decide, ?_⟩
  rw [hq]
  conv => whnf
  by_cases c1 : oo = o
  · by_cases c2 : cc = n
    · refine ⟨by kernel_rfl, ?_⟩
      conv => whnf
      refine brF (bne_eq_false_iff_eq.2 c1) ?_
      conv => whnf
      refine brF (by rw [decide_eq_true c2]; rfl) ?_
      conv => whnf
      refine ⟨by kernel_rfl, ?_⟩
      conv => whnf
      refine ⟨_, ad, ?_⟩
      rintro _ _ ⟨rfl, rfl⟩
      conv => whnf
      refine ⟨_, ae, ?_⟩
      rintro _ _ ⟨rfl, rfl⟩
      conv => whnf
      refine ⟨_, kb, ?_⟩
      rintro _ _ ⟨rfl, rfl⟩
      conv => whnf
      refine ⟨_, kc, ?_⟩
      rintro _ _ ⟨rfl, rfl⟩
      conv => whnf
      refine ⟨sideW _ _ _ _, ?_⟩
      rw [show deq _ _ = _ from hup]
      conv => whnf
      refine ⟨sideW _ _ _ _, ?_⟩
      rw [show deq _ _ = _ from hdn]
      conv => whnf
      refine ⟨_, ou, ?_⟩
      rintro _ _ ⟨rfl, rfl⟩
      conv => whnf
      refine brT (decide_eq_true h1) ?_
      conv => whnf
      refine brT (decide_eq_true h2) ?_
      conv => whnf
      exact ⟨congrArg (fun z => AV.d (.bool z)) (decide_eq_true h3), rfl⟩
    · refine ⟨by kernel_rfl, ?_⟩
      conv => whnf
      refine brF (bne_eq_false_iff_eq.2 c1) ?_
      conv => whnf
      refine brT (by rw [decide_eq_false c2]; rfl) ?_
      conv => whnf
      refine ⟨_, (so (.inr c2)).1, ?_⟩
      conv => whnf
      refine ⟨_, (so (.inr c2)).2, ?_⟩
      conv => whnf
      refine ⟨sideW _ _ _ _, ?_⟩
      rw [deq_self]
      conv => whnf
      refine ⟨by kernel_rfl, ?_⟩
      conv => whnf
      refine ⟨_, ad, ?_⟩
      rintro _ _ ⟨rfl, rfl⟩
      conv => whnf
      refine ⟨_, ae, ?_⟩
      rintro _ _ ⟨rfl, rfl⟩
      conv => whnf
      refine ⟨_, kb, ?_⟩
      rintro _ _ ⟨rfl, rfl⟩
      conv => whnf
      refine ⟨_, kc, ?_⟩
      rintro _ _ ⟨rfl, rfl⟩
      conv => whnf
      refine ⟨sideW _ _ _ _, ?_⟩
      rw [show deq _ _ = _ from hup]
      conv => whnf
      refine ⟨sideW _ _ _ _, ?_⟩
      rw [show deq _ _ = _ from hdn]
      conv => whnf
      refine ⟨_, ou, ?_⟩
      rintro _ _ ⟨rfl, rfl⟩
      conv => whnf
      refine brT (decide_eq_true h1) ?_
      conv => whnf
      refine brT (decide_eq_true h2) ?_
      conv => whnf
      exact ⟨congrArg (fun z => AV.d (.bool z)) (decide_eq_true h3), rfl⟩
  · refine ⟨by kernel_rfl, ?_⟩
    conv => whnf
    refine brT (bne_iff_ne.2 c1) ?_
    conv => whnf
    refine ⟨_, (so (.inl c1)).1, ?_⟩
    conv => whnf
    refine ⟨_, (so (.inl c1)).2, ?_⟩
    conv => whnf
    refine ⟨sideW _ _ _ _, ?_⟩
    rw [deq_self]
    conv => whnf
    refine ⟨by kernel_rfl, ?_⟩
    conv => whnf
    refine ⟨_, ad, ?_⟩
    rintro _ _ ⟨rfl, rfl⟩
    conv => whnf
    refine ⟨_, ae, ?_⟩
    rintro _ _ ⟨rfl, rfl⟩
    conv => whnf
    refine ⟨_, kb, ?_⟩
    rintro _ _ ⟨rfl, rfl⟩
    conv => whnf
    refine ⟨_, kc, ?_⟩
    rintro _ _ ⟨rfl, rfl⟩
    conv => whnf
    refine ⟨sideW _ _ _ _, ?_⟩
    rw [show deq _ _ = _ from hup]
    conv => whnf
    refine ⟨sideW _ _ _ _, ?_⟩
    rw [show deq _ _ = _ from hdn]
    conv => whnf
    refine ⟨_, ou, ?_⟩
    rintro _ _ ⟨rfl, rfl⟩
    conv => whnf
    refine brT (decide_eq_true h1) ?_
    conv => whnf
    refine brT (decide_eq_true h2) ?_
    conv => whnf
    exact ⟨congrArg (fun z => AV.d (.bool z)) (decide_eq_true h3), rfl⟩

theorem sums_m5 {T H T2 H2 : List D} {d o k oo x0 x1 y0 y1 v0 v1 g0 g1 z0 z1 to a lb ub mb bb lc uc mc bc mi lo : Int} {n w w2 cc tn : ByteArray} (aw : CallR cx 28 [] [] fun r S => r = bo true ∧ S = [])
    (fc : CallR cx 29 [.d (.agg [.sl 7 T, .sl 4 H])] [] fun r S => ∃ b, r = bo b ∧ S = [])
    (sc : CallR cx 30 [.d (actP d o n w w2 k)] [] fun r S => ∃ b, r = bo b ∧ S = [])
    (rc : CallR cx 31 [.d (.agg [.sl 7 T, .sl 4 H])] [] fun r S => r = bo true ∧ S = [])
    (hq : Int.tmod d 8 = -5)
    (dc : CallR cx 38 [.d (.agg [.sl 7 T, .sl 4 H]), .d (.agg [.sl 7 T, .sl 4 H]), .d (actP d o n w w2 k)] [] fun r S => r = .tup [.d (.agg [.sl 7 T2, .sl 4 H2]), .d (.agg [.sl 7 T2, .sl 4 H2]), i64 0, bo true] ∧ S = [])
    (s1 : CallR cx 39 [.d (.agg [.sl 7 T, .sl 4 H]), .d (.int .u32 o), st n] [] fun r S => r = .d (wd x0 x1) ∧ S = [])
    (s2 : CallR cx 39 [.d (.agg [.sl 7 T2, .sl 4 H2]), .d (.int .u32 o), st n] [] fun r S => r = .d (wd y0 y1) ∧ S = [])
    (ad : CallR cx 19 [.d (wd x0 x1), .d (wd 0 k)] [] fun r S => r = .tup [.d (wd v0 v1), i64 0] ∧ S = [])
    (ae : CallR cx 19 [.d (wd y0 y1), .d (wd 0 k)] [] fun r S => r = .tup [.d (wd g0 g1), i64 0] ∧ S = [])
    (kb : CallR cx 40 [.d (.agg [.sl 7 T, .sl 4 H]), .d (.int .u32 o), st n] [] fun r S => r = .tup [.d (.agg [.int .u32 to, .str tn, .int .u64 a, .int .u64 lb, .int .u64 ub, .int .u64 mb, .int .u64 bb]), bo true] ∧ S = [])
    (kc : CallR cx 40 [.d (.agg [.sl 7 T2, .sl 4 H2]), .d (.int .u32 o), st n] [] fun r S => r = .tup [.d (.agg [.int .u32 to, .str tn, .int .u64 a, .int .u64 lc, .int .u64 uc, .int .u64 mc, .int .u64 bc]), bo true] ∧ S = [])
    {B1 B2 : Bool} (hup : deq (wd y0 y1) (wd v0 v1) = true) (hdn : deq (wd x0 x1) (wd g0 g1) = B2)
    (ou : CallR cx 41 [.d (.agg [.int .u32 to, .str tn, .int .u64 a, .int .u64 lc, .int .u64 uc, .int .u64 mc, .int .u64 bc])] [] fun r S => r = .tup [u64 mi, u64 lo] ∧ S = [])
    (h1 : IntKind.u64.wrap (mc - mb) = k) (h2 : mi ≤ a) (h3 : bc = bb)
    (so : (oo ≠ o ∨ cc ≠ n) → (CallR cx 39 [.d (.agg [.sl 7 T2, .sl 4 H2]), .d (.int .u32 oo), st cc] [] fun r S => r = .d (wd z0 z1) ∧ S = []) ∧ (CallR cx 39 [.d (.agg [.sl 7 T, .sl 4 H]), .d (.int .u32 oo), st cc] [] fun r S => r = .d (wd z0 z1) ∧ S = [])) :
    CallR cx 9 [.d (.agg [.sl 7 T, .sl 4 H]), .d (actP d o n w w2 k), .d (.int .u32 oo), st cc] [] fun r S => r = bo true ∧ S = [] := by
  refine callR_of (R := R1) cx_ok Tryd.func9 (by kernel_rfl) rfl ?_
  conv => whnf
  refine ⟨_, aw, ?_⟩
  rintro _ _ ⟨rfl, rfl⟩
  conv => whnf
  refine ⟨_, fc, ?_⟩
  rintro _ _ ⟨b, rfl, rfl⟩
  cases b with
  | false =>
    conv => whnf
    exact ⟨rfl, rfl⟩
  | true =>
  conv => whnf
  refine ⟨_, sc, ?_⟩
  rintro _ _ ⟨b, rfl, rfl⟩
  cases b with
  | false =>
    conv => whnf
    exact ⟨rfl, rfl⟩
  | true =>
  conv => whnf
  refine ⟨_, rc, ?_⟩
  rintro _ _ ⟨rfl, rfl⟩
  conv => whnf
  refine ⟨_, dc, ?_⟩
  rintro _ _ ⟨rfl, rfl⟩
  conv => whnf
  refine ⟨by kernel_rfl, ?_⟩
  conv => whnf
  refine ⟨_, s1, ?_⟩
  conv => whnf
  refine ⟨_, s2, ?_⟩
  conv => whnf
  refine ⟨by kernel_rfl, ?_⟩
  conv => whnf
  refine ⟨by decide, ?_⟩
  rw [hq]
  conv => whnf
  by_cases c1 : oo = o
  · by_cases c2 : cc = n
    · refine ⟨by kernel_rfl, ?_⟩
      conv => whnf
      refine brF (bne_eq_false_iff_eq.2 c1) ?_
      conv => whnf
      refine brF (by rw [decide_eq_true c2]; rfl) ?_
      conv => whnf
      refine ⟨by kernel_rfl, ?_⟩
      conv => whnf
      refine ⟨_, ad, ?_⟩
      rintro _ _ ⟨rfl, rfl⟩
      conv => whnf
      refine ⟨_, ae, ?_⟩
      rintro _ _ ⟨rfl, rfl⟩
      conv => whnf
      refine ⟨_, kb, ?_⟩
      rintro _ _ ⟨rfl, rfl⟩
      conv => whnf
      refine ⟨_, kc, ?_⟩
      rintro _ _ ⟨rfl, rfl⟩
      conv => whnf
      refine ⟨sideW _ _ _ _, ?_⟩
      rw [show deq _ _ = _ from hup]
      conv => whnf
      refine ⟨sideW _ _ _ _, ?_⟩
      rw [show deq _ _ = _ from hdn]
      conv => whnf
      refine ⟨_, ou, ?_⟩
      rintro _ _ ⟨rfl, rfl⟩
      conv => whnf
      refine brT (decide_eq_true h1) ?_
      conv => whnf
      refine brT (decide_eq_true h2) ?_
      conv => whnf
      exact ⟨congrArg (fun z => AV.d (.bool z)) (decide_eq_true h3), rfl⟩
    · refine ⟨by kernel_rfl, ?_⟩
      conv => whnf
      refine brF (bne_eq_false_iff_eq.2 c1) ?_
      conv => whnf
      refine brT (by rw [decide_eq_false c2]; rfl) ?_
      conv => whnf
      refine ⟨_, (so (.inr c2)).1, ?_⟩
      conv => whnf
      refine ⟨_, (so (.inr c2)).2, ?_⟩
      conv => whnf
      refine ⟨sideW _ _ _ _, ?_⟩
      rw [deq_self]
      conv => whnf
      refine ⟨by kernel_rfl, ?_⟩
      conv => whnf
      refine ⟨_, ad, ?_⟩
      rintro _ _ ⟨rfl, rfl⟩
      conv => whnf
      refine ⟨_, ae, ?_⟩
      rintro _ _ ⟨rfl, rfl⟩
      conv => whnf
      refine ⟨_, kb, ?_⟩
      rintro _ _ ⟨rfl, rfl⟩
      conv => whnf
      refine ⟨_, kc, ?_⟩
      rintro _ _ ⟨rfl, rfl⟩
      conv => whnf
      refine ⟨sideW _ _ _ _, ?_⟩
      rw [show deq _ _ = _ from hup]
      conv => whnf
      refine ⟨sideW _ _ _ _, ?_⟩
      rw [show deq _ _ = _ from hdn]
      conv => whnf
      refine ⟨_, ou, ?_⟩
      rintro _ _ ⟨rfl, rfl⟩
      conv => whnf
      refine brT (decide_eq_true h1) ?_
      conv => whnf
      refine brT (decide_eq_true h2) ?_
      conv => whnf
      exact ⟨congrArg (fun z => AV.d (.bool z)) (decide_eq_true h3), rfl⟩
  · refine ⟨by kernel_rfl, ?_⟩
    conv => whnf
    refine brT (bne_iff_ne.2 c1) ?_
    conv => whnf
    refine ⟨_, (so (.inl c1)).1, ?_⟩
    conv => whnf
    refine ⟨_, (so (.inl c1)).2, ?_⟩
    conv => whnf
    refine ⟨sideW _ _ _ _, ?_⟩
    rw [deq_self]
    conv => whnf
    refine ⟨by kernel_rfl, ?_⟩
    conv => whnf
    refine ⟨_, ad, ?_⟩
    rintro _ _ ⟨rfl, rfl⟩
    conv => whnf
    refine ⟨_, ae, ?_⟩
    rintro _ _ ⟨rfl, rfl⟩
    conv => whnf
    refine ⟨_, kb, ?_⟩
    rintro _ _ ⟨rfl, rfl⟩
    conv => whnf
    refine ⟨_, kc, ?_⟩
    rintro _ _ ⟨rfl, rfl⟩
    conv => whnf
    refine ⟨sideW _ _ _ _, ?_⟩
    rw [show deq _ _ = _ from hup]
    conv => whnf
    refine ⟨sideW _ _ _ _, ?_⟩
    rw [show deq _ _ = _ from hdn]
    conv => whnf
    refine ⟨_, ou, ?_⟩
    rintro _ _ ⟨rfl, rfl⟩
    conv => whnf
    refine brT (decide_eq_true h1) ?_
    conv => whnf
    refine brT (decide_eq_true h2) ?_
    conv => whnf
    exact ⟨congrArg (fun z => AV.d (.bool z)) (decide_eq_true h3), rfl⟩

theorem sums_6 {T H T2 H2 : List D} {d o k oo x0 x1 y0 y1 v0 v1 g0 g1 z0 z1 to a lb ub mb bb lc uc mc bc mi lo : Int} {n w w2 cc tn : ByteArray} (aw : CallR cx 28 [] [] fun r S => r = bo true ∧ S = [])
    (fc : CallR cx 29 [.d (.agg [.sl 7 T, .sl 4 H])] [] fun r S => ∃ b, r = bo b ∧ S = [])
    (sc : CallR cx 30 [.d (actP d o n w w2 k)] [] fun r S => ∃ b, r = bo b ∧ S = [])
    (rc : CallR cx 31 [.d (.agg [.sl 7 T, .sl 4 H])] [] fun r S => r = bo true ∧ S = [])
    (hq : Int.tmod d 8 = 6)
    (dc : CallR cx 38 [.d (.agg [.sl 7 T, .sl 4 H]), .d (.agg [.sl 7 T, .sl 4 H]), .d (actP d o n w w2 k)] [] fun r S => r = .tup [.d (.agg [.sl 7 T2, .sl 4 H2]), .d (.agg [.sl 7 T2, .sl 4 H2]), i64 0, bo true] ∧ S = [])
    (s1 : CallR cx 39 [.d (.agg [.sl 7 T, .sl 4 H]), .d (.int .u32 o), st n] [] fun r S => r = .d (wd x0 x1) ∧ S = [])
    (s2 : CallR cx 39 [.d (.agg [.sl 7 T2, .sl 4 H2]), .d (.int .u32 o), st n] [] fun r S => r = .d (wd y0 y1) ∧ S = [])
    (ad : CallR cx 19 [.d (wd x0 x1), .d (wd 0 k)] [] fun r S => r = .tup [.d (wd v0 v1), i64 0] ∧ S = [])
    (ae : CallR cx 19 [.d (wd y0 y1), .d (wd 0 k)] [] fun r S => r = .tup [.d (wd g0 g1), i64 0] ∧ S = [])
    (kb : CallR cx 40 [.d (.agg [.sl 7 T, .sl 4 H]), .d (.int .u32 o), st n] [] fun r S => r = .tup [.d (.agg [.int .u32 to, .str tn, .int .u64 a, .int .u64 lb, .int .u64 ub, .int .u64 mb, .int .u64 bb]), bo true] ∧ S = [])
    (kc : CallR cx 40 [.d (.agg [.sl 7 T2, .sl 4 H2]), .d (.int .u32 o), st n] [] fun r S => r = .tup [.d (.agg [.int .u32 to, .str tn, .int .u64 a, .int .u64 lc, .int .u64 uc, .int .u64 mc, .int .u64 bc]), bo true] ∧ S = [])
    {B1 B2 : Bool} (hup : deq (wd y0 y1) (wd v0 v1) = B1) (hdn : deq (wd x0 x1) (wd g0 g1) = true)
    (h1 : IntKind.u64.wrap (bc - bb) = k) (h2 : mc = mb)
    (so : (oo ≠ o ∨ cc ≠ n) → (CallR cx 39 [.d (.agg [.sl 7 T2, .sl 4 H2]), .d (.int .u32 oo), st cc] [] fun r S => r = .d (wd z0 z1) ∧ S = []) ∧ (CallR cx 39 [.d (.agg [.sl 7 T, .sl 4 H]), .d (.int .u32 oo), st cc] [] fun r S => r = .d (wd z0 z1) ∧ S = [])) :
    CallR cx 9 [.d (.agg [.sl 7 T, .sl 4 H]), .d (actP d o n w w2 k), .d (.int .u32 oo), st cc] [] fun r S => r = bo true ∧ S = [] := by
  refine callR_of (R := R1) cx_ok Tryd.func9 (by kernel_rfl) rfl ?_
  conv => whnf
  refine ⟨_, aw, ?_⟩
  rintro _ _ ⟨rfl, rfl⟩
  conv => whnf
  refine ⟨_, fc, ?_⟩
  rintro _ _ ⟨b, rfl, rfl⟩
  cases b with
  | false =>
    conv => whnf
    exact ⟨rfl, rfl⟩
  | true =>
  conv => whnf
  refine ⟨_, sc, ?_⟩
  rintro _ _ ⟨b, rfl, rfl⟩
  cases b with
  | false =>
    conv => whnf
    exact ⟨rfl, rfl⟩
  | true =>
  conv => whnf
  refine ⟨_, rc, ?_⟩
  rintro _ _ ⟨rfl, rfl⟩
  conv => whnf
  refine ⟨_, dc, ?_⟩
  rintro _ _ ⟨rfl, rfl⟩
  conv => whnf
  refine ⟨by kernel_rfl, ?_⟩
  conv => whnf
  refine ⟨_, s1, ?_⟩
  conv => whnf
  refine ⟨_, s2, ?_⟩
  conv => whnf
  refine ⟨by kernel_rfl, ?_⟩
  conv => whnf
  refine ⟨by decide, ?_⟩
  rw [hq]
  conv => whnf
  by_cases c1 : oo = o
  · by_cases c2 : cc = n
    · refine ⟨by kernel_rfl, ?_⟩
      conv => whnf
      refine brF (bne_eq_false_iff_eq.2 c1) ?_
      conv => whnf
      refine brF (by rw [decide_eq_true c2]; rfl) ?_
      conv => whnf
      refine ⟨by kernel_rfl, ?_⟩
      conv => whnf
      refine ⟨_, ad, ?_⟩
      rintro _ _ ⟨rfl, rfl⟩
      conv => whnf
      refine ⟨_, ae, ?_⟩
      rintro _ _ ⟨rfl, rfl⟩
      conv => whnf
      refine ⟨_, kb, ?_⟩
      rintro _ _ ⟨rfl, rfl⟩
      conv => whnf
      refine ⟨_, kc, ?_⟩
      rintro _ _ ⟨rfl, rfl⟩
      conv => whnf
      refine ⟨sideW _ _ _ _, ?_⟩
      rw [show deq _ _ = _ from hup]
      conv => whnf
      refine ⟨sideW _ _ _ _, ?_⟩
      rw [show deq _ _ = _ from hdn]
      conv => whnf
      refine brT (decide_eq_true h1) ?_
      conv => whnf
      exact ⟨congrArg (fun z => AV.d (.bool z)) (decide_eq_true h2), rfl⟩
    · refine ⟨by kernel_rfl, ?_⟩
      conv => whnf
      refine brF (bne_eq_false_iff_eq.2 c1) ?_
      conv => whnf
      refine brT (by rw [decide_eq_false c2]; rfl) ?_
      conv => whnf
      refine ⟨_, (so (.inr c2)).1, ?_⟩
      conv => whnf
      refine ⟨_, (so (.inr c2)).2, ?_⟩
      conv => whnf
      refine ⟨sideW _ _ _ _, ?_⟩
      rw [deq_self]
      conv => whnf
      refine ⟨by kernel_rfl, ?_⟩
      conv => whnf
      refine ⟨_, ad, ?_⟩
      rintro _ _ ⟨rfl, rfl⟩
      conv => whnf
      refine ⟨_, ae, ?_⟩
      rintro _ _ ⟨rfl, rfl⟩
      conv => whnf
      refine ⟨_, kb, ?_⟩
      rintro _ _ ⟨rfl, rfl⟩
      conv => whnf
      refine ⟨_, kc, ?_⟩
      rintro _ _ ⟨rfl, rfl⟩
      conv => whnf
      refine ⟨sideW _ _ _ _, ?_⟩
      rw [show deq _ _ = _ from hup]
      conv => whnf
      refine ⟨sideW _ _ _ _, ?_⟩
      rw [show deq _ _ = _ from hdn]
      conv => whnf
      refine brT (decide_eq_true h1) ?_
      conv => whnf
      exact ⟨congrArg (fun z => AV.d (.bool z)) (decide_eq_true h2), rfl⟩
  · refine ⟨by kernel_rfl, ?_⟩
    conv => whnf
    refine brT (bne_iff_ne.2 c1) ?_
    conv => whnf
    refine ⟨_, (so (.inl c1)).1, ?_⟩
    conv => whnf
    refine ⟨_, (so (.inl c1)).2, ?_⟩
    conv => whnf
    refine ⟨sideW _ _ _ _, ?_⟩
    rw [deq_self]
    conv => whnf
    refine ⟨by kernel_rfl, ?_⟩
    conv => whnf
    refine ⟨_, ad, ?_⟩
    rintro _ _ ⟨rfl, rfl⟩
    conv => whnf
    refine ⟨_, ae, ?_⟩
    rintro _ _ ⟨rfl, rfl⟩
    conv => whnf
    refine ⟨_, kb, ?_⟩
    rintro _ _ ⟨rfl, rfl⟩
    conv => whnf
    refine ⟨_, kc, ?_⟩
    rintro _ _ ⟨rfl, rfl⟩
    conv => whnf
    refine ⟨sideW _ _ _ _, ?_⟩
    rw [show deq _ _ = _ from hup]
    conv => whnf
    refine ⟨sideW _ _ _ _, ?_⟩
    rw [show deq _ _ = _ from hdn]
    conv => whnf
    refine brT (decide_eq_true h1) ?_
    conv => whnf
    exact ⟨congrArg (fun z => AV.d (.bool z)) (decide_eq_true h2), rfl⟩

theorem sums_m6 {T H T2 H2 : List D} {d o k oo x0 x1 y0 y1 v0 v1 g0 g1 z0 z1 to a lb ub mb bb lc uc mc bc mi lo : Int} {n w w2 cc tn : ByteArray} (aw : CallR cx 28 [] [] fun r S => r = bo true ∧ S = [])
    (fc : CallR cx 29 [.d (.agg [.sl 7 T, .sl 4 H])] [] fun r S => ∃ b, r = bo b ∧ S = [])
    (sc : CallR cx 30 [.d (actP d o n w w2 k)] [] fun r S => ∃ b, r = bo b ∧ S = [])
    (rc : CallR cx 31 [.d (.agg [.sl 7 T, .sl 4 H])] [] fun r S => r = bo true ∧ S = [])
    (hq : Int.tmod d 8 = -6)
    (dc : CallR cx 38 [.d (.agg [.sl 7 T, .sl 4 H]), .d (.agg [.sl 7 T, .sl 4 H]), .d (actP d o n w w2 k)] [] fun r S => r = .tup [.d (.agg [.sl 7 T2, .sl 4 H2]), .d (.agg [.sl 7 T2, .sl 4 H2]), i64 0, bo true] ∧ S = [])
    (s1 : CallR cx 39 [.d (.agg [.sl 7 T, .sl 4 H]), .d (.int .u32 o), st n] [] fun r S => r = .d (wd x0 x1) ∧ S = [])
    (s2 : CallR cx 39 [.d (.agg [.sl 7 T2, .sl 4 H2]), .d (.int .u32 o), st n] [] fun r S => r = .d (wd y0 y1) ∧ S = [])
    (ad : CallR cx 19 [.d (wd x0 x1), .d (wd 0 k)] [] fun r S => r = .tup [.d (wd v0 v1), i64 0] ∧ S = [])
    (ae : CallR cx 19 [.d (wd y0 y1), .d (wd 0 k)] [] fun r S => r = .tup [.d (wd g0 g1), i64 0] ∧ S = [])
    (kb : CallR cx 40 [.d (.agg [.sl 7 T, .sl 4 H]), .d (.int .u32 o), st n] [] fun r S => r = .tup [.d (.agg [.int .u32 to, .str tn, .int .u64 a, .int .u64 lb, .int .u64 ub, .int .u64 mb, .int .u64 bb]), bo true] ∧ S = [])
    (kc : CallR cx 40 [.d (.agg [.sl 7 T2, .sl 4 H2]), .d (.int .u32 o), st n] [] fun r S => r = .tup [.d (.agg [.int .u32 to, .str tn, .int .u64 a, .int .u64 lc, .int .u64 uc, .int .u64 mc, .int .u64 bc]), bo true] ∧ S = [])
    {B1 B2 : Bool} (hup : deq (wd y0 y1) (wd v0 v1) = B1) (hdn : deq (wd x0 x1) (wd g0 g1) = true)
    (h1 : IntKind.u64.wrap (bc - bb) = k) (h2 : mc = mb)
    (so : (oo ≠ o ∨ cc ≠ n) → (CallR cx 39 [.d (.agg [.sl 7 T2, .sl 4 H2]), .d (.int .u32 oo), st cc] [] fun r S => r = .d (wd z0 z1) ∧ S = []) ∧ (CallR cx 39 [.d (.agg [.sl 7 T, .sl 4 H]), .d (.int .u32 oo), st cc] [] fun r S => r = .d (wd z0 z1) ∧ S = [])) :
    CallR cx 9 [.d (.agg [.sl 7 T, .sl 4 H]), .d (actP d o n w w2 k), .d (.int .u32 oo), st cc] [] fun r S => r = bo true ∧ S = [] := by
  refine callR_of (R := R1) cx_ok Tryd.func9 (by kernel_rfl) rfl ?_
  conv => whnf
  refine ⟨_, aw, ?_⟩
  rintro _ _ ⟨rfl, rfl⟩
  conv => whnf
  refine ⟨_, fc, ?_⟩
  rintro _ _ ⟨b, rfl, rfl⟩
  cases b with
  | false =>
    conv => whnf
    exact ⟨rfl, rfl⟩
  | true =>
  conv => whnf
  refine ⟨_, sc, ?_⟩
  rintro _ _ ⟨b, rfl, rfl⟩
  cases b with
  | false =>
    conv => whnf
    exact ⟨rfl, rfl⟩
  | true =>
  conv => whnf
  refine ⟨_, rc, ?_⟩
  rintro _ _ ⟨rfl, rfl⟩
  conv => whnf
  refine ⟨_, dc, ?_⟩
  rintro _ _ ⟨rfl, rfl⟩
  conv => whnf
  refine ⟨by kernel_rfl, ?_⟩
  conv => whnf
  refine ⟨_, s1, ?_⟩
  conv => whnf
  refine ⟨_, s2, ?_⟩
  conv => whnf
  refine ⟨by kernel_rfl, ?_⟩
  conv => whnf
  refine ⟨by decide, ?_⟩
  rw [hq]
  conv => whnf
  by_cases c1 : oo = o
  · by_cases c2 : cc = n
    · refine ⟨by kernel_rfl, ?_⟩
      conv => whnf
      refine brF (bne_eq_false_iff_eq.2 c1) ?_
      conv => whnf
      refine brF (by rw [decide_eq_true c2]; rfl) ?_
      conv => whnf
      refine ⟨by kernel_rfl, ?_⟩
      conv => whnf
      refine ⟨_, ad, ?_⟩
      rintro _ _ ⟨rfl, rfl⟩
      conv => whnf
      refine ⟨_, ae, ?_⟩
      rintro _ _ ⟨rfl, rfl⟩
      conv => whnf
      refine ⟨_, kb, ?_⟩
      rintro _ _ ⟨rfl, rfl⟩
      conv => whnf
      refine ⟨_, kc, ?_⟩
      rintro _ _ ⟨rfl, rfl⟩
      conv => whnf
      refine ⟨sideW _ _ _ _, ?_⟩
      rw [show deq _ _ = _ from hup]
      conv => whnf
      refine ⟨sideW _ _ _ _, ?_⟩
      rw [show deq _ _ = _ from hdn]
      conv => whnf
      refine brT (decide_eq_true h1) ?_
      conv => whnf
      exact ⟨congrArg (fun z => AV.d (.bool z)) (decide_eq_true h2), rfl⟩
    · refine ⟨by kernel_rfl, ?_⟩
      conv => whnf
      refine brF (bne_eq_false_iff_eq.2 c1) ?_
      conv => whnf
      refine brT (by rw [decide_eq_false c2]; rfl) ?_
      conv => whnf
      refine ⟨_, (so (.inr c2)).1, ?_⟩
      conv => whnf
      refine ⟨_, (so (.inr c2)).2, ?_⟩
      conv => whnf
      refine ⟨sideW _ _ _ _, ?_⟩
      rw [deq_self]
      conv => whnf
      refine ⟨by kernel_rfl, ?_⟩
      conv => whnf
      refine ⟨_, ad, ?_⟩
      rintro _ _ ⟨rfl, rfl⟩
      conv => whnf
      refine ⟨_, ae, ?_⟩
      rintro _ _ ⟨rfl, rfl⟩
      conv => whnf
      refine ⟨_, kb, ?_⟩
      rintro _ _ ⟨rfl, rfl⟩
      conv => whnf
      refine ⟨_, kc, ?_⟩
      rintro _ _ ⟨rfl, rfl⟩
      conv => whnf
      refine ⟨sideW _ _ _ _, ?_⟩
      rw [show deq _ _ = _ from hup]
      conv => whnf
      refine ⟨sideW _ _ _ _, ?_⟩
      rw [show deq _ _ = _ from hdn]
      conv => whnf
      refine brT (decide_eq_true h1) ?_
      conv => whnf
      exact ⟨congrArg (fun z => AV.d (.bool z)) (decide_eq_true h2), rfl⟩
  · refine ⟨by kernel_rfl, ?_⟩
    conv => whnf
    refine brT (bne_iff_ne.2 c1) ?_
    conv => whnf
    refine ⟨_, (so (.inl c1)).1, ?_⟩
    conv => whnf
    refine ⟨_, (so (.inl c1)).2, ?_⟩
    conv => whnf
    refine ⟨sideW _ _ _ _, ?_⟩
    rw [deq_self]
    conv => whnf
    refine ⟨by kernel_rfl, ?_⟩
    conv => whnf
    refine ⟨_, ad, ?_⟩
    rintro _ _ ⟨rfl, rfl⟩
    conv => whnf
    refine ⟨_, ae, ?_⟩
    rintro _ _ ⟨rfl, rfl⟩
    conv => whnf
    refine ⟨_, kb, ?_⟩
    rintro _ _ ⟨rfl, rfl⟩
    conv => whnf
    refine ⟨_, kc, ?_⟩
    rintro _ _ ⟨rfl, rfl⟩
    conv => whnf
    refine ⟨sideW _ _ _ _, ?_⟩
    rw [show deq _ _ = _ from hup]
    conv => whnf
    refine ⟨sideW _ _ _ _, ?_⟩
    rw [show deq _ _ = _ from hdn]
    conv => whnf
    refine brT (decide_eq_true h1) ?_
    conv => whnf
    exact ⟨congrArg (fun z => AV.d (.bool z)) (decide_eq_true h2), rfl⟩

end Go.Proofs.YtmdfpifcghmpfaaDoor
