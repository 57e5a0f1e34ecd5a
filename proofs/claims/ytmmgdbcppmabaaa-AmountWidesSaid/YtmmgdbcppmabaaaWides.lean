/- The law 'AmountWides' returns true, for any list of numbers and any two wide ones. -/
import Derived.Test.YtmmgdbcppmabaaaWid4
namespace Go.Proofs.Ytmmgdbcppmabaaa
open Go.Ab

theorem w4_is (v : Int) : (Ty.arr 4 1 (.int .u64)).is (w4 v) := ⟨_, rfl, rfl, fun y hy => by
  simp only [List.mem_cons, List.not_mem_nil, or_false] at hy
  rcases hy with rfl | rfl | rfl | rfl <;> exact ⟨_, rfl⟩⟩

theorem side4 (v x : Int) : ∃ T : Ty, T.fitE cx.tt 42 = true ∧ Nat.blt T.depth 9999 = true ∧ T.is (w4 v) ∧ T.is (w4 x) :=
  ⟨.arr 4 1 (.int .u64), by kernel_rfl, by kernel_rfl, w4_is v, w4_is x⟩

theorem sideW (a b c d : Int) : ∃ T : Ty, T.fitE cx.tt 35 = true ∧ Nat.blt T.depth 9999 = true ∧ T.is (wd a b) ∧ T.is (wd c d) :=
  ⟨.st [.int .u64, .int .u64], by kernel_rfl, by kernel_rfl, ⟨_, rfl, _, _, rfl, ⟨_, rfl⟩, _, _, rfl, ⟨_, rfl⟩, rfl⟩, ⟨_, rfl, _, _, rfl, ⟨_, rfl⟩, _, _, rfl, ⟨_, rfl⟩, rfl⟩⟩

theorem deq_self (x : D) : deq x x = true := by simp [deq]

theorem many_c {ns : List Int} {a b : D} (hl : ¬ ns.length ≤ 200) : CallR cx 7 [.d (.sl 1 (ns.map ui)), .d a, .d b] [] fun r S => r = .d (.bool true) ∧ S = [] := by
  refine callR_of (R := R1) cx_ok Try.func7 (by kernel_rfl) rfl ?_
  conv => whnf
  refine ⟨_, awake_c, ?_⟩
  rintro _ _ ⟨rfl, rfl⟩
  conv => whnf
  refine brec (fun h => ?_) (fun h => absurd (of_decide_eq_false h) (by rw [List.length_map]; omega))
  conv => whnf
  refine ⟨_, awake_c, ?_⟩
  rintro _ _ ⟨rfl, rfl⟩
  conv => whnf
  exact ⟨rfl, rfl⟩


set_option maxHeartbeats 4000000 in
theorem few00 {ns : List Int} {ah al bh bl sh sl dh dl v x t z y c d : Int} (hl : ns.length ≤ 200)
    (add : CallR cx 16 [.d (wd ah al), .d (wd bh bl)] [] fun r S => r = .tup [.d (wd sh sl), i64 0] ∧ S = [])
    (toa : CallR cx 17 [.d (wd ah al)] [] fun r S => r = .d (w4 v) ∧ S = []) (tob : CallR cx 17 [.d (wd bh bl)] [] fun r S => r = .d (w4 x) ∧ S = [])
    (plus : CallR cx 18 [.d (w4 v), .d (w4 x)] [] fun r S => r = .tup [.d (w4 t), u64 0] ∧ S = [])
    (sub : CallR cx 19 [.d (wd ah al), .d (wd bh bl)] [] fun r S => r = .tup [.d (wd dh dl), i64 0] ∧ S = [])
    (lss : CallR cx 20 [.d (w4 v), .d (w4 x)] [] fun r S => r = bo false ∧ S = [])
    (tos : CallR cx 17 [.d (wd sh sl)] [] fun r S => r = .d (w4 t) ∧ S = [])
    (tod : CallR cx 17 [.d (wd dh dl)] [] fun r S => r = .d (w4 z) ∧ S = []) (plus2 : CallR cx 18 [.d (w4 z), .d (w4 x)] [] fun r S => r = .tup [.d (w4 v), u64 0] ∧ S = [])
    (sum : CallR cx 21 [.d (.sl 1 (ns.map ui))] [] fun r S => r = .d (wd c d) ∧ S = []) (tosum : CallR cx 17 [.d (wd c d)] [] fun r S => r = .d (w4 y) ∧ S = [])
    (rsum : CallR cx 22 [.d (.sl 1 (ns.map ui))] [] fun r S => r = .d (w4 y) ∧ S = [])
    (lsw : CallR cx 15 [.d (wd ah al), .d (wd bh bl)] [] fun r S => r = bo false ∧ S = []) :
    CallR cx 7 [.d (.sl 1 (ns.map ui)), .d (wd ah al), .d (wd bh bl)] [] fun r S => r = .d (.bool true) ∧ S = [] := by
  refine callR_of (R := R1) cx_ok Try.func7 (by kernel_rfl) rfl ?_
  conv => whnf
  refine ⟨_, awake_c, ?_⟩
  rintro _ _ ⟨rfl, rfl⟩
  conv => whnf
  refine brec (fun h => absurd (of_decide_eq_true h) (by rw [List.length_map]; omega)) (fun _ => ?_)
  conv => whnf
  refine ⟨_, add, ?_⟩
  rintro _ _ ⟨rfl, rfl⟩
  conv => whnf
  refine ⟨by kernel_rfl, ?_⟩
  conv => whnf
  refine ⟨_, toa, ?_⟩
  conv => whnf
  refine ⟨_, tob, ?_⟩
  conv => whnf
  refine ⟨_, plus, ?_⟩
  conv => whnf
  refine ⟨by kernel_rfl, ?_⟩
  conv => whnf
  refine ⟨_, sub, ?_⟩
  rintro _ _ ⟨rfl, rfl⟩
  conv => whnf
  refine ⟨by kernel_rfl, ?_⟩
  conv => whnf
  refine ⟨_, toa, ?_⟩
  conv => whnf
  refine ⟨_, tob, ?_⟩
  conv => whnf
  refine ⟨_, lss, ?_⟩
  conv => whnf
  refine ⟨by kernel_rfl, ?_⟩
  conv => whnf
  refine ⟨by kernel_rfl, ?_⟩
  conv => whnf
  refine ⟨_, tos, ?_⟩
  conv => whnf
  refine ⟨side4 _ _, ?_⟩
  conv => whnf
  refine ⟨by kernel_rfl, ?_⟩
  conv => whnf
  refine brec (fun h => absurd h (by simp [deq])) (fun _ => ?_)
  conv => whnf
  refine ⟨by kernel_rfl, ?_⟩
  conv => whnf
  refine ⟨_, tod, ?_⟩
  conv => whnf
  refine ⟨_, tob, ?_⟩
  conv => whnf
  refine ⟨_, plus2, ?_⟩
  conv => whnf
  refine ⟨by kernel_rfl, ?_⟩
  conv => whnf
  refine ⟨by kernel_rfl, ?_⟩
  conv => whnf
  refine ⟨_, toa, ?_⟩
  conv => whnf
  refine ⟨side4 _ _, ?_⟩
  conv => whnf
  refine brec (fun h => absurd h (by simp [deq])) (fun _ => ?_)
  conv => whnf
  refine ⟨by kernel_rfl, ?_⟩
  conv => whnf
  refine ⟨_, awake_c, ?_⟩
  rintro _ _ ⟨rfl, rfl⟩
  conv => whnf
  refine ⟨_, sum, ?_⟩
  rintro _ _ ⟨rfl, rfl⟩
  conv => whnf
  refine ⟨_, tosum, ?_⟩
  rintro _ _ ⟨rfl, rfl⟩
  conv => whnf
  refine ⟨_, rsum, ?_⟩
  rintro _ _ ⟨rfl, rfl⟩
  conv => whnf
  refine ⟨side4 _ _, ?_⟩
  conv => whnf
  refine brec (fun _ => ?_) (fun h => absurd h (by simp [deq]))
  conv => whnf
  refine ⟨_, lsw, ?_⟩
  rintro _ _ ⟨rfl, rfl⟩
  conv => whnf
  exact ⟨rfl, rfl⟩

set_option maxHeartbeats 4000000 in
theorem few01 {ns : List Int} {ah al bh bl sh sl dh dl v x t z y c d : Int} (hl : ns.length ≤ 200)
    (add : CallR cx 16 [.d (wd ah al), .d (wd bh bl)] [] fun r S => r = .tup [.d (wd sh sl), i64 0] ∧ S = [])
    (toa : CallR cx 17 [.d (wd ah al)] [] fun r S => r = .d (w4 v) ∧ S = []) (tob : CallR cx 17 [.d (wd bh bl)] [] fun r S => r = .d (w4 x) ∧ S = [])
    (plus : CallR cx 18 [.d (w4 v), .d (w4 x)] [] fun r S => r = .tup [.d (w4 t), u64 0] ∧ S = [])
    (sub : CallR cx 19 [.d (wd ah al), .d (wd bh bl)] [] fun r S => r = .tup [.d (wd 0 0), i64 11] ∧ S = [])
    (lss : CallR cx 20 [.d (w4 v), .d (w4 x)] [] fun r S => r = bo true ∧ S = [])
    (tos : CallR cx 17 [.d (wd sh sl)] [] fun r S => r = .d (w4 t) ∧ S = [])
    (tod : CallR cx 17 [.d (wd 0 0)] [] fun r S => r = .d (w4 z) ∧ S = []) (plus2 : CallR cx 18 [.d (w4 z), .d (w4 x)] [] fun r S => r = .tup [.d (w4 x), u64 0] ∧ S = [])
    (sum : CallR cx 21 [.d (.sl 1 (ns.map ui))] [] fun r S => r = .d (wd c d) ∧ S = []) (tosum : CallR cx 17 [.d (wd c d)] [] fun r S => r = .d (w4 y) ∧ S = [])
    (rsum : CallR cx 22 [.d (.sl 1 (ns.map ui))] [] fun r S => r = .d (w4 y) ∧ S = [])
    (lsw : CallR cx 15 [.d (wd ah al), .d (wd bh bl)] [] fun r S => r = bo true ∧ S = []) :
    CallR cx 7 [.d (.sl 1 (ns.map ui)), .d (wd ah al), .d (wd bh bl)] [] fun r S => r = .d (.bool true) ∧ S = [] := by
  refine callR_of (R := R1) cx_ok Try.func7 (by kernel_rfl) rfl ?_
  conv => whnf
  refine ⟨_, awake_c, ?_⟩
  rintro _ _ ⟨rfl, rfl⟩
  conv => whnf
  refine brec (fun h => absurd (of_decide_eq_true h) (by rw [List.length_map]; omega)) (fun _ => ?_)
  conv => whnf
  refine ⟨_, add, ?_⟩
  rintro _ _ ⟨rfl, rfl⟩
  conv => whnf
  refine ⟨by kernel_rfl, ?_⟩
  conv => whnf
  refine ⟨_, toa, ?_⟩
  conv => whnf
  refine ⟨_, tob, ?_⟩
  conv => whnf
  refine ⟨_, plus, ?_⟩
  conv => whnf
  refine ⟨by kernel_rfl, ?_⟩
  conv => whnf
  refine ⟨_, sub, ?_⟩
  rintro _ _ ⟨rfl, rfl⟩
  conv => whnf
  refine ⟨by kernel_rfl, ?_⟩
  conv => whnf
  refine ⟨_, toa, ?_⟩
  conv => whnf
  refine ⟨_, tob, ?_⟩
  conv => whnf
  refine ⟨_, lss, ?_⟩
  conv => whnf
  refine ⟨by kernel_rfl, ?_⟩
  conv => whnf
  refine ⟨by kernel_rfl, ?_⟩
  conv => whnf
  refine ⟨_, tos, ?_⟩
  conv => whnf
  refine ⟨side4 _ _, ?_⟩
  conv => whnf
  refine ⟨by kernel_rfl, ?_⟩
  conv => whnf
  refine brec (fun h => absurd h (by simp [deq])) (fun _ => ?_)
  conv => whnf
  refine ⟨by kernel_rfl, ?_⟩
  conv => whnf
  refine ⟨_, tod, ?_⟩
  conv => whnf
  refine ⟨_, tob, ?_⟩
  conv => whnf
  refine ⟨_, plus2, ?_⟩
  conv => whnf
  refine ⟨by kernel_rfl, ?_⟩
  conv => whnf
  refine ⟨by kernel_rfl, ?_⟩
  conv => whnf
  refine ⟨sideW _ _ _ _, ?_⟩
  conv => whnf
  refine brec (fun h => absurd h (by simp [deq])) (fun _ => ?_)
  conv => whnf
  refine ⟨by kernel_rfl, ?_⟩
  conv => whnf
  refine ⟨_, awake_c, ?_⟩
  rintro _ _ ⟨rfl, rfl⟩
  conv => whnf
  refine ⟨_, sum, ?_⟩
  rintro _ _ ⟨rfl, rfl⟩
  conv => whnf
  refine ⟨_, tosum, ?_⟩
  rintro _ _ ⟨rfl, rfl⟩
  conv => whnf
  refine ⟨_, rsum, ?_⟩
  rintro _ _ ⟨rfl, rfl⟩
  conv => whnf
  refine ⟨side4 _ _, ?_⟩
  conv => whnf
  refine brec (fun _ => ?_) (fun h => absurd h (by simp [deq]))
  conv => whnf
  refine ⟨_, lsw, ?_⟩
  rintro _ _ ⟨rfl, rfl⟩
  conv => whnf
  exact ⟨rfl, rfl⟩

set_option maxHeartbeats 4000000 in
theorem few10 {ns : List Int} {ah al bh bl sh sl dh dl v x t z y c d : Int} (hl : ns.length ≤ 200)
    (add : CallR cx 16 [.d (wd ah al), .d (wd bh bl)] [] fun r S => r = .tup [.d (wd 0 0), i64 10] ∧ S = [])
    (toa : CallR cx 17 [.d (wd ah al)] [] fun r S => r = .d (w4 v) ∧ S = []) (tob : CallR cx 17 [.d (wd bh bl)] [] fun r S => r = .d (w4 x) ∧ S = [])
    (plus : CallR cx 18 [.d (w4 v), .d (w4 x)] [] fun r S => r = .tup [.d (w4 t), u64 1] ∧ S = [])
    (sub : CallR cx 19 [.d (wd ah al), .d (wd bh bl)] [] fun r S => r = .tup [.d (wd dh dl), i64 0] ∧ S = [])
    (lss : CallR cx 20 [.d (w4 v), .d (w4 x)] [] fun r S => r = bo false ∧ S = [])
    (tos : CallR cx 17 [.d (wd 0 0)] [] fun r S => r = .d (w4 0) ∧ S = [])
    (tod : CallR cx 17 [.d (wd dh dl)] [] fun r S => r = .d (w4 z) ∧ S = []) (plus2 : CallR cx 18 [.d (w4 z), .d (w4 x)] [] fun r S => r = .tup [.d (w4 v), u64 0] ∧ S = [])
    (sum : CallR cx 21 [.d (.sl 1 (ns.map ui))] [] fun r S => r = .d (wd c d) ∧ S = []) (tosum : CallR cx 17 [.d (wd c d)] [] fun r S => r = .d (w4 y) ∧ S = [])
    (rsum : CallR cx 22 [.d (.sl 1 (ns.map ui))] [] fun r S => r = .d (w4 y) ∧ S = [])
    (lsw : CallR cx 15 [.d (wd ah al), .d (wd bh bl)] [] fun r S => r = bo false ∧ S = []) :
    CallR cx 7 [.d (.sl 1 (ns.map ui)), .d (wd ah al), .d (wd bh bl)] [] fun r S => r = .d (.bool true) ∧ S = [] := by
  refine callR_of (R := R1) cx_ok Try.func7 (by kernel_rfl) rfl ?_
  conv => whnf
  refine ⟨_, awake_c, ?_⟩
  rintro _ _ ⟨rfl, rfl⟩
  conv => whnf
  refine brec (fun h => absurd (of_decide_eq_true h) (by rw [List.length_map]; omega)) (fun _ => ?_)
  conv => whnf
  refine ⟨_, add, ?_⟩
  rintro _ _ ⟨rfl, rfl⟩
  conv => whnf
  refine ⟨by kernel_rfl, ?_⟩
  conv => whnf
  refine ⟨_, toa, ?_⟩
  conv => whnf
  refine ⟨_, tob, ?_⟩
  conv => whnf
  refine ⟨_, plus, ?_⟩
  conv => whnf
  refine ⟨by kernel_rfl, ?_⟩
  conv => whnf
  refine ⟨_, sub, ?_⟩
  rintro _ _ ⟨rfl, rfl⟩
  conv => whnf
  refine ⟨by kernel_rfl, ?_⟩
  conv => whnf
  refine ⟨_, toa, ?_⟩
  conv => whnf
  refine ⟨_, tob, ?_⟩
  conv => whnf
  refine ⟨_, lss, ?_⟩
  conv => whnf
  refine ⟨by kernel_rfl, ?_⟩
  conv => whnf
  refine ⟨by kernel_rfl, ?_⟩
  conv => whnf
  refine ⟨sideW _ _ _ _, ?_⟩
  conv => whnf
  refine brec (fun h => absurd h (by simp [deq])) (fun _ => ?_)
  conv => whnf
  refine ⟨by kernel_rfl, ?_⟩
  conv => whnf
  refine ⟨by kernel_rfl, ?_⟩
  conv => whnf
  refine ⟨_, tod, ?_⟩
  conv => whnf
  refine ⟨_, tob, ?_⟩
  conv => whnf
  refine ⟨_, plus2, ?_⟩
  conv => whnf
  refine ⟨by kernel_rfl, ?_⟩
  conv => whnf
  refine ⟨by kernel_rfl, ?_⟩
  conv => whnf
  refine ⟨_, toa, ?_⟩
  conv => whnf
  refine ⟨side4 _ _, ?_⟩
  conv => whnf
  refine brec (fun h => absurd h (by simp [deq])) (fun _ => ?_)
  conv => whnf
  refine ⟨by kernel_rfl, ?_⟩
  conv => whnf
  refine ⟨_, awake_c, ?_⟩
  rintro _ _ ⟨rfl, rfl⟩
  conv => whnf
  refine ⟨_, sum, ?_⟩
  rintro _ _ ⟨rfl, rfl⟩
  conv => whnf
  refine ⟨_, tosum, ?_⟩
  rintro _ _ ⟨rfl, rfl⟩
  conv => whnf
  refine ⟨_, rsum, ?_⟩
  rintro _ _ ⟨rfl, rfl⟩
  conv => whnf
  refine ⟨side4 _ _, ?_⟩
  conv => whnf
  refine brec (fun _ => ?_) (fun h => absurd h (by simp [deq]))
  conv => whnf
  refine ⟨_, lsw, ?_⟩
  rintro _ _ ⟨rfl, rfl⟩
  conv => whnf
  exact ⟨rfl, rfl⟩

set_option maxHeartbeats 4000000 in
theorem few11 {ns : List Int} {ah al bh bl sh sl dh dl v x t z y c d : Int} (hl : ns.length ≤ 200)
    (add : CallR cx 16 [.d (wd ah al), .d (wd bh bl)] [] fun r S => r = .tup [.d (wd 0 0), i64 10] ∧ S = [])
    (toa : CallR cx 17 [.d (wd ah al)] [] fun r S => r = .d (w4 v) ∧ S = []) (tob : CallR cx 17 [.d (wd bh bl)] [] fun r S => r = .d (w4 x) ∧ S = [])
    (plus : CallR cx 18 [.d (w4 v), .d (w4 x)] [] fun r S => r = .tup [.d (w4 t), u64 1] ∧ S = [])
    (sub : CallR cx 19 [.d (wd ah al), .d (wd bh bl)] [] fun r S => r = .tup [.d (wd 0 0), i64 11] ∧ S = [])
    (lss : CallR cx 20 [.d (w4 v), .d (w4 x)] [] fun r S => r = bo true ∧ S = [])
    (tos : CallR cx 17 [.d (wd 0 0)] [] fun r S => r = .d (w4 0) ∧ S = [])
    (tod : CallR cx 17 [.d (wd 0 0)] [] fun r S => r = .d (w4 z) ∧ S = []) (plus2 : CallR cx 18 [.d (w4 z), .d (w4 x)] [] fun r S => r = .tup [.d (w4 x), u64 0] ∧ S = [])
    (sum : CallR cx 21 [.d (.sl 1 (ns.map ui))] [] fun r S => r = .d (wd c d) ∧ S = []) (tosum : CallR cx 17 [.d (wd c d)] [] fun r S => r = .d (w4 y) ∧ S = [])
    (rsum : CallR cx 22 [.d (.sl 1 (ns.map ui))] [] fun r S => r = .d (w4 y) ∧ S = [])
    (lsw : CallR cx 15 [.d (wd ah al), .d (wd bh bl)] [] fun r S => r = bo true ∧ S = []) :
    CallR cx 7 [.d (.sl 1 (ns.map ui)), .d (wd ah al), .d (wd bh bl)] [] fun r S => r = .d (.bool true) ∧ S = [] := by
  refine callR_of (R := R1) cx_ok Try.func7 (by kernel_rfl) rfl ?_
  conv => whnf
  refine ⟨_, awake_c, ?_⟩
  rintro _ _ ⟨rfl, rfl⟩
  conv => whnf
  refine brec (fun h => absurd (of_decide_eq_true h) (by rw [List.length_map]; omega)) (fun _ => ?_)
  conv => whnf
  refine ⟨_, add, ?_⟩
  rintro _ _ ⟨rfl, rfl⟩
  conv => whnf
  refine ⟨by kernel_rfl, ?_⟩
  conv => whnf
  refine ⟨_, toa, ?_⟩
  conv => whnf
  refine ⟨_, tob, ?_⟩
  conv => whnf
  refine ⟨_, plus, ?_⟩
  conv => whnf
  refine ⟨by kernel_rfl, ?_⟩
  conv => whnf
  refine ⟨_, sub, ?_⟩
  rintro _ _ ⟨rfl, rfl⟩
  conv => whnf
  refine ⟨by kernel_rfl, ?_⟩
  conv => whnf
  refine ⟨_, toa, ?_⟩
  conv => whnf
  refine ⟨_, tob, ?_⟩
  conv => whnf
  refine ⟨_, lss, ?_⟩
  conv => whnf
  refine ⟨by kernel_rfl, ?_⟩
  conv => whnf
  refine ⟨by kernel_rfl, ?_⟩
  conv => whnf
  refine ⟨sideW _ _ _ _, ?_⟩
  conv => whnf
  refine brec (fun h => absurd h (by simp [deq])) (fun _ => ?_)
  conv => whnf
  refine ⟨by kernel_rfl, ?_⟩
  conv => whnf
  refine ⟨by kernel_rfl, ?_⟩
  conv => whnf
  refine ⟨_, tod, ?_⟩
  conv => whnf
  refine ⟨_, tob, ?_⟩
  conv => whnf
  refine ⟨_, plus2, ?_⟩
  conv => whnf
  refine ⟨by kernel_rfl, ?_⟩
  conv => whnf
  refine ⟨by kernel_rfl, ?_⟩
  conv => whnf
  refine ⟨sideW _ _ _ _, ?_⟩
  conv => whnf
  refine brec (fun h => absurd h (by simp [deq])) (fun _ => ?_)
  conv => whnf
  refine ⟨by kernel_rfl, ?_⟩
  conv => whnf
  refine ⟨_, awake_c, ?_⟩
  rintro _ _ ⟨rfl, rfl⟩
  conv => whnf
  refine ⟨_, sum, ?_⟩
  rintro _ _ ⟨rfl, rfl⟩
  conv => whnf
  refine ⟨_, tosum, ?_⟩
  rintro _ _ ⟨rfl, rfl⟩
  conv => whnf
  refine ⟨_, rsum, ?_⟩
  rintro _ _ ⟨rfl, rfl⟩
  conv => whnf
  refine ⟨side4 _ _, ?_⟩
  conv => whnf
  refine brec (fun _ => ?_) (fun h => absurd h (by simp [deq]))
  conv => whnf
  refine ⟨_, lsw, ?_⟩
  rintro _ _ ⟨rfl, rfl⟩
  conv => whnf
  exact ⟨rfl, rfl⟩

theorem wides_back {v x : Int} (Wv : W v) (Wx : W x) (hL : ¬ v < x) : (CallR cx 17 [.d (wd ((v - x) / 18446744073709551616) ((v - x) % 18446744073709551616))] [] fun r S => r = .d (w4 (v - x)) ∧ S = []) ∧
    CallR cx 18 [.d (w4 (v - x)), .d (w4 x)] [] fun r S => r = .tup [.d (w4 v), u64 0] ∧ S = [] := by
  have Wd : W (v - x) := ⟨by omega, by have := Wv.2; have := Wx.1; omega⟩
  have p := plus_c Wd Wx
  have t := to_c (h := (v - x) / 18446744073709551616) (l := (v - x) % 18446744073709551616) ⟨by have := Wd.1; omega, by have := Wd.2; omega⟩ ⟨by omega, by omega⟩
  have e2 : (v - x) / 18446744073709551616 * 18446744073709551616 + (v - x) % 18446744073709551616 = v - x := by omega
  have e3 : v - x + x = v := by omega
  have e4 : v % 340282366920938463463374607431768211456 = v ∧ v / 340282366920938463463374607431768211456 = 0 := by
    obtain ⟨g1, g2⟩ := Wv; omega
  rw [e2] at t
  rw [e3, e4.1, e4.2] at p
  exact ⟨t, p⟩

theorem amountWides_c (ys : List D) (hy : Ty.hass [.sl 1 (.int .u64), .st [.int .u64, .int .u64], .st [.int .u64, .int .u64]] ys) : CallR cx 7 (ys.map AV.d) [] fun r S => r = .d (.bool true) ∧ S = [] := by
  obtain ⟨_, _, rfl, ⟨xs, rfl, _, hxs⟩, _, _, rfl, ⟨_, rfl, _, _, rfl, ⟨ah, rfl, a1⟩, _, _, rfl, ⟨al, rfl, a2⟩, rfl⟩, _, _, rfl, ⟨_, rfl, _, _, rfl, ⟨bh, rfl, b1⟩, _, _, rfl, ⟨bl, rfl, b2⟩, rfl⟩, rfl⟩ := hy
  obtain ⟨ns, rfl, hns⟩ := hass_ui hxs
  have a1 := U.of_wf a1
  have a2 := U.of_wf a2
  have b1 := U.of_wf b1
  have b2 := U.of_wf b2
  by_cases hl : ns.length ≤ 200
  · have toa := to_c a1 a2
    have tob := to_c b1 b2
    have hs : 0 ≤ ns.sum := by have := pre_nonneg hns ns.length; unfold pre at this; rw [List.take_length] at this; exact this
    have sm := sum_c hns hl
    have rs := rsum_c hns hl
    have tosum := to_c (h := ns.sum / 18446744073709551616 % 18446744073709551616) (l := ns.sum % 18446744073709551616) ⟨by omega, by omega⟩ ⟨by omega, by omega⟩
    have es : ns.sum / 18446744073709551616 % 18446744073709551616 * 18446744073709551616 + ns.sum % 18446744073709551616 = ns.sum % 340282366920938463463374607431768211456 := by omega
    rw [es] at tosum
    have lsw := less_c a1 a2 b1 b2
    have add := wadd_c a1 a2 b1 b2
    have sub := wsub_c a1 a2 b1 b2
    unfold wless at lsw
    unfold whigh wlow wover wsum at add
    unfold wdiff at sub
    obtain ⟨a1, a1'⟩ := a1
    obtain ⟨a2, a2'⟩ := a2
    obtain ⟨b1, b1'⟩ := b1
    obtain ⟨b2, b2'⟩ := b2
    obtain ⟨v, hv⟩ : ∃ v, v = ah * 18446744073709551616 + al := ⟨_, rfl⟩
    obtain ⟨x, hx⟩ : ∃ x, x = bh * 18446744073709551616 + bl := ⟨_, rfl⟩
    rw [← hv] at toa lsw add sub
    rw [← hx] at tob lsw add sub
    have Wv : W v := ⟨by omega, by omega⟩
    have Wx : W x := ⟨by omega, by omega⟩
    have plus := plus_c Wv Wx
    have lss := rless_c Wv Wx
    have z0 := to_c (h := 0) (l := 0) ⟨by decide, by decide⟩ ⟨by decide, by decide⟩
    have zp := plus_c (v := 0) (x := x) ⟨by decide, by decide⟩ Wx
    have ezp : (0 + x) % 340282366920938463463374607431768211456 = x ∧ (0 + x) / 340282366920938463463374607431768211456 = 0 := by
      obtain ⟨g1, g2⟩ := Wx; omega
    rw [ezp.1, ezp.2] at zp
    by_cases hc : v + x < 340282366920938463463374607431768211456
    · rw [if_pos hc, if_pos hc, if_pos hc] at add
      have e1 : (v + x) % 340282366920938463463374607431768211456 = v + x ∧ (v + x) / 340282366920938463463374607431768211456 = 0 := by
        obtain ⟨g1, g2⟩ := Wx; obtain ⟨g3, g4⟩ := Wv; omega
      rw [e1.1, e1.2] at plus
      have tos := to_c (h := (v + x) / 18446744073709551616) (l := (v + x) % 18446744073709551616) ⟨by omega, by omega⟩ ⟨by omega, by omega⟩
      have e2 : (v + x) / 18446744073709551616 * 18446744073709551616 + (v + x) % 18446744073709551616 = v + x := by omega
      rw [e2] at tos
      by_cases hL : v < x
      · have hd : v - x < 0 := by omega
        rw [if_pos hd, if_pos hd, if_pos hd] at sub
        rw [decide_eq_true hL] at lss lsw
        exact few01 (dh := 0) (dl := 0) hl add toa tob plus sub lss tos z0 zp sm tosum rs lsw
      · have hd : ¬ v - x < 0 := by omega
        rw [if_neg hd, if_neg hd, if_neg hd] at sub
        rw [decide_eq_false hL] at lss lsw
        obtain ⟨tod, plus2⟩ := wides_back Wv Wx hL
        exact few00 hl add toa tob plus sub lss tos tod plus2 sm tosum rs lsw
    · rw [if_neg hc, if_neg hc, if_neg hc] at add
      have e1 : (v + x) / 340282366920938463463374607431768211456 = 1 := by
        obtain ⟨g1, g2⟩ := Wx; obtain ⟨g3, g4⟩ := Wv; omega
      rw [e1] at plus
      by_cases hL : v < x
      · have hd : v - x < 0 := by omega
        rw [if_pos hd, if_pos hd, if_pos hd] at sub
        rw [decide_eq_true hL] at lss lsw
        exact few11 (sh := 0) (sl := 0) (dh := 0) (dl := 0) hl add toa tob plus sub lss z0 z0 zp sm tosum rs lsw
      · have hd : ¬ v - x < 0 := by omega
        rw [if_neg hd, if_neg hd, if_neg hd] at sub
        rw [decide_eq_false hL] at lss lsw
        obtain ⟨tod, plus2⟩ := wides_back Wv Wx hL
        exact few10 (sh := 0) (sl := 0) hl add toa tob plus sub lss z0 tod plus2 sm tosum rs lsw
  · exact many_c hl
end Go.Proofs.Ytmmgdbcppmabaaa
