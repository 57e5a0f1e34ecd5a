/- The law 'PayloadBytes' returns true, for any value and any bytes. -/
import Derived.Test.YtboohfijacjhjaaDoorR4
namespace Go.Proofs.YtboohfijacjhjaaDoor
open Go.Ab Go.RowKit

theorem bb_self (b : Bool) : (b == b) = true := by cases b <;> rfl
theorem deq_self (x : D) : deq x x = true := by simp [deq]
theorem sideF {k o n k' o' n' : Int} {a b a' b' : ByteArray} : ∃ T : Ty, T.fitE cx.tt 29 = true ∧ Nat.blt T.depth 9999 = true ∧ T.is (.agg [.int .i64 k, .int .u32 o, .str a, .str b, .int .u64 n]) ∧ T.is (.agg [.int .i64 k', .int .u32 o', .str a', .str b', .int .u64 n']) :=
  ⟨.st [.int .i64, .int .u32, .str, .str, .int .u64], by kernel_rfl, by kernel_rfl, ⟨_, rfl, _, _, rfl, ⟨_, rfl⟩, _, _, rfl, ⟨_, rfl⟩, _, _, rfl, ⟨_, rfl⟩, _, _, rfl, ⟨_, rfl⟩, _, _, rfl, ⟨_, rfl⟩, rfl⟩, ⟨_, rfl, _, _, rfl, ⟨_, rfl⟩, _, _, rfl, ⟨_, rfl⟩, _, _, rfl, ⟨_, rfl⟩, _, _, rfl, ⟨_, rfl⟩, _, _, rfl, ⟨_, rfl⟩, rfl⟩⟩

set_option maxHeartbeats 4000000 in
theorem pb_in {k o n kd og fn kd2 og2 fn2 e e2 : Int} {a b s fa fb fa2 fb2 os : ByteArray} {pd y : D} {t : Nat} {rr : Bool} (hs : (s.size : Int) ≤ 5000)
    (li : CallR cx 12 [.d (any k o a b n)] [] fun r S => r = bo true ∧ S = []) (to : CallR cx 13 [.d (any k o a b n)] [] fun r S => r = .d pd ∧ S = [])
    (of1 : CallR cx 14 [.d pd] [] fun r S => r = .d (.agg [.int .i64 kd, .int .u32 og, .str fa, .str fb, .int .u64 fn]) ∧ S = [])
    (ba : CallR cx 25 [.d pd] [] fun r S => r = .tup [st os, i64 e] ∧ S = []) (fb' : CallR cx 26 [.d (.agg [.int .i64 kd, .int .u32 og, .str fa, .str fb, .int .u64 fn])] [] fun r S => r = .tup [st os, i64 e] ∧ S = [])
    (re : CallR cx 27 [st s] [] fun r S => r = .tup [.d (.iface t y), i64 0] ∧ S = []) (fr : CallR cx 28 [st s] [] fun r S => r = .tup [.d (.agg [.int .i64 kd2, .int .u32 og2, .str fa2, .str fb2, .int .u64 fn2]), i64 0] ∧ S = [])
    (tg : CallR cx 29 [.d pd] [] fun r S => r = i64 kd ∧ S = []) (ri : CallR cx 30 [.d pd] [] fun r S => r = bo rr ∧ S = [])
    (fri : CallR cx 31 [.d (.agg [.int .i64 kd, .int .u32 og, .str fa, .str fb, .int .u64 fn])] [] fun r S => r = bo rr ∧ S = [])
    (ofq : CallR cx 14 [.d (.iface t y)] [] fun r S => r = .d (.agg [.int .i64 kd2, .int .u32 og2, .str fa2, .str fb2, .int .u64 fn2]) ∧ S = []) :
    CallR cx 5 [.d (any k o a b n), st s] [] fun r S => r = .d (.bool true) ∧ S = [] := by
  refine callR_of (R := R1) cx_ok Tryd.func5 (by kernel_rfl) rfl ?_
  conv => whnf
  refine ⟨_, awake_c, ?_⟩
  rintro _ _ ⟨rfl, rfl⟩
  conv => whnf
  refine ⟨_, li, ?_⟩
  rintro _ _ ⟨rfl, rfl⟩
  conv => whnf
  refine brF (decide_eq_false (by omega)) ?_
  conv => whnf
  refine ⟨_, to, ?_⟩
  rintro _ _ ⟨rfl, rfl⟩
  conv => whnf
  refine ⟨_, of1, ?_⟩
  rintro _ _ ⟨rfl, rfl⟩
  conv => whnf
  refine ⟨_, ba, ?_⟩
  rintro _ _ ⟨rfl, rfl⟩
  conv => whnf
  refine ⟨_, fb', ?_⟩
  rintro _ _ ⟨rfl, rfl⟩
  conv => whnf
  refine ⟨_, re, ?_⟩
  rintro _ _ ⟨rfl, rfl⟩
  conv => whnf
  refine ⟨_, fr, ?_⟩
  rintro _ _ ⟨rfl, rfl⟩
  conv => whnf
  refine ⟨by kernel_rfl, ?_⟩
  conv => whnf
  refine ⟨_, awake_c, ?_⟩
  conv => whnf
  refine ⟨_, tg, ?_⟩
  conv => whnf
  refine brT (beq_self_eq_true kd) ?_
  conv => whnf
  refine ⟨_, ri, ?_⟩
  conv => whnf
  refine ⟨_, fri, ?_⟩
  conv => whnf
  refine brT (bb_self rr) ?_
  conv => whnf
  refine brT (decide_eq_true rfl) ?_
  conv => whnf
  refine brT (beq_self_eq_true e) ?_
  conv => whnf
  refine ⟨_, ofq, ?_⟩
  conv => whnf
  refine ⟨sideF, ?_⟩
  conv => whnf
  refine brT (deq_self _) ?_
  conv => whnf
  refine ⟨by kernel_rfl, ?_⟩
  conv => whnf
  refine ⟨?_, rfl⟩
  rfl

set_option maxHeartbeats 4000000 in
theorem pb_no {k o n kd og fn kd2 og2 fn2 e e2 : Int} {a b s fa fb fa2 fb2 os : ByteArray} {pd y : D} {t : Nat} {rr : Bool} (hs : (s.size : Int) ≤ 5000)
    (li : CallR cx 12 [.d (any k o a b n)] [] fun r S => r = bo true ∧ S = []) (to : CallR cx 13 [.d (any k o a b n)] [] fun r S => r = .d pd ∧ S = [])
    (of1 : CallR cx 14 [.d pd] [] fun r S => r = .d (.agg [.int .i64 kd, .int .u32 og, .str fa, .str fb, .int .u64 fn]) ∧ S = [])
    (ba : CallR cx 25 [.d pd] [] fun r S => r = .tup [st os, i64 e] ∧ S = []) (fb' : CallR cx 26 [.d (.agg [.int .i64 kd, .int .u32 og, .str fa, .str fb, .int .u64 fn])] [] fun r S => r = .tup [st os, i64 e] ∧ S = [])
    (re : CallR cx 27 [st s] [] fun r S => r = .tup [.d (.nilI), i64 e2] ∧ S = []) (fr : CallR cx 28 [st s] [] fun r S => r = .tup [.d (.agg [.int .i64 kd2, .int .u32 og2, .str fa2, .str fb2, .int .u64 fn2]), i64 e2] ∧ S = [])
    (tg : CallR cx 29 [.d pd] [] fun r S => r = i64 kd ∧ S = []) (ri : CallR cx 30 [.d pd] [] fun r S => r = bo rr ∧ S = [])
    (fri : CallR cx 31 [.d (.agg [.int .i64 kd, .int .u32 og, .str fa, .str fb, .int .u64 fn])] [] fun r S => r = bo rr ∧ S = [])
    (ofq : CallR cx 14 [.d (.nilI)] [] fun r S => r = .d (.agg [.int .i64 kd2, .int .u32 og2, .str fa2, .str fb2, .int .u64 fn2]) ∧ S = []) (he : e2 ≠ 0) :
    CallR cx 5 [.d (any k o a b n), st s] [] fun r S => r = .d (.bool true) ∧ S = [] := by
  refine callR_of (R := R1) cx_ok Tryd.func5 (by kernel_rfl) rfl ?_
  conv => whnf
  refine ⟨_, awake_c, ?_⟩
  rintro _ _ ⟨rfl, rfl⟩
  conv => whnf
  refine ⟨_, li, ?_⟩
  rintro _ _ ⟨rfl, rfl⟩
  conv => whnf
  refine brF (decide_eq_false (by omega)) ?_
  conv => whnf
  refine ⟨_, to, ?_⟩
  rintro _ _ ⟨rfl, rfl⟩
  conv => whnf
  refine ⟨_, of1, ?_⟩
  rintro _ _ ⟨rfl, rfl⟩
  conv => whnf
  refine ⟨_, ba, ?_⟩
  rintro _ _ ⟨rfl, rfl⟩
  conv => whnf
  refine ⟨_, fb', ?_⟩
  rintro _ _ ⟨rfl, rfl⟩
  conv => whnf
  refine ⟨_, re, ?_⟩
  rintro _ _ ⟨rfl, rfl⟩
  conv => whnf
  refine ⟨_, fr, ?_⟩
  rintro _ _ ⟨rfl, rfl⟩
  conv => whnf
  refine ⟨by kernel_rfl, ?_⟩
  conv => whnf
  refine ⟨_, awake_c, ?_⟩
  conv => whnf
  refine ⟨_, tg, ?_⟩
  conv => whnf
  refine brT (beq_self_eq_true kd) ?_
  conv => whnf
  refine ⟨_, ri, ?_⟩
  conv => whnf
  refine ⟨_, fri, ?_⟩
  conv => whnf
  refine brT (bb_self rr) ?_
  conv => whnf
  refine brT (decide_eq_true rfl) ?_
  conv => whnf
  refine brT (beq_self_eq_true e) ?_
  conv => whnf
  refine ⟨_, ofq, ?_⟩
  conv => whnf
  refine ⟨sideF, ?_⟩
  conv => whnf
  refine brT (deq_self _) ?_
  conv => whnf
  refine brT (beq_self_eq_true e2) ?_
  conv => whnf
  refine ⟨by kernel_rfl, ?_⟩
  conv => whnf
  refine ⟨?_, rfl⟩
  simp [pack, he]
end Go.Proofs.YtboohfijacjhjaaDoor
