/- The document's rune at a place: 'One', by the classes of the first byte (printed by gen/one.py). -/
import Derived.Test.YtefcpmnhhmpmnaaDoorU4
set_option linter.unusedVariables false
namespace Go.Proofs.YtefcpmnhhmpmnaaDoor
open Go.Ab Go.RowKit

set_option maxHeartbeats 4000000 in
theorem one_A {s : ByteArray} {x : Int} {i : Nat} (hx : x = (i : Int)) (hi : i < s.size) (hm : s.size < 1000000000) (hc : byteAt s i < 128) :
    CallR cx 33 [st s, i64 x] [] fun r S => r = .tup [i64 (byteAt s i), i64 1] ∧ S = [] := by
  have e0 : x.toNat = i := by omega
  have hr := byteAt_range s i
  refine callR_of (R := R1) cx_ok Tryd.func33 (by kernel_rfl) rfl ?_
  conv => whnf
  refine ⟨⟨by omega, by show x < (s.size : Int); omega⟩, ?_⟩
  rw [e0]
  generalize hb : byteAt s i = c at *
  conv => whnf
  refine brT (decide_eq_true (by omega)) ?_
  conv => whnf
  exact ⟨tupI (w64 (by omega)) rfl, rfl⟩

set_option maxHeartbeats 4000000 in
theorem one_X1 {s : ByteArray} {x : Int} {i : Nat} (hx : x = (i : Int)) (hi : i < s.size) (hm : s.size < 1000000000) (hc : 128 ≤ byteAt s i ∧ byteAt s i ≤ 193) :
    CallR cx 33 [st s, i64 x] [] fun r S => r = .tup [i64 (byteAt s i + 2000000), i64 1] ∧ S = [] := by
  have e0 : x.toNat = i := by omega
  have hr := byteAt_range s i
  refine callR_of (R := R1) cx_ok Tryd.func33 (by kernel_rfl) rfl ?_
  conv => whnf
  refine ⟨⟨by omega, by show x < (s.size : Int); omega⟩, ?_⟩
  rw [e0]
  generalize hb : byteAt s i = c at *
  conv => whnf
  refine brF (decide_eq_false (by omega)) ?_
  conv => whnf
  refine brF (decide_eq_false (by omega)) ?_
  conv => whnf
  refine brF (decide_eq_false (by omega)) ?_
  conv => whnf
  refine brF (decide_eq_false (by omega)) ?_
  conv => whnf
  exact ⟨tupI (by rw [w64 (n := c) (by omega), w64 (by omega)]) rfl, rfl⟩

set_option maxHeartbeats 4000000 in
theorem one_X2 {s : ByteArray} {x : Int} {i : Nat} (hx : x = (i : Int)) (hi : i < s.size) (_hm : s.size < 1000000000) (hc : 245 ≤ byteAt s i) :
    CallR cx 33 [st s, i64 x] [] fun r S => r = .tup [i64 (byteAt s i + 2000000), i64 1] ∧ S = [] := by
  have e0 : x.toNat = i := by omega
  have hr := byteAt_range s i
  refine callR_of (R := R1) cx_ok Tryd.func33 (by kernel_rfl) rfl ?_
  conv => whnf
  refine ⟨⟨by omega, by show x < (s.size : Int); omega⟩, ?_⟩
  rw [e0]
  generalize hb : byteAt s i = c at *
  conv => whnf
  refine brF (decide_eq_false (by omega)) ?_
  conv => whnf
  refine brT (decide_eq_true (by omega)) ?_
  conv => whnf
  refine brF (decide_eq_false (by omega)) ?_
  conv => whnf
  refine brT (decide_eq_true (by omega)) ?_
  conv => whnf
  refine brF (decide_eq_false (by omega)) ?_
  conv => whnf
  refine brT (decide_eq_true (by omega)) ?_
  conv => whnf
  refine brF (decide_eq_false (by omega)) ?_
  conv => whnf
  exact ⟨tupI (by rw [w64 (n := c) (by omega), w64 (by omega)]) rfl, rfl⟩

set_option maxHeartbeats 4000000 in
theorem one_C2_0 {s : ByteArray} {x : Int} {i : Nat} (hx : x = (i : Int)) (hi : i < s.size) (hm : s.size < 1000000000) (hc : 194 ≤ byteAt s i ∧ byteAt s i ≤ 223)
    (g1 : win s (i + 1) 128 191 = false) :
    CallR cx 33 [st s, i64 x] [] fun r S => r = .tup [i64 (byteAt s i + 2000000), i64 1] ∧ S = [] := by
  have e0 : x.toNat = i := by omega
  have hr := byteAt_range s i
  have w1 := within_c (s := s) (x := IntKind.i64.wrap (x + 1)) (lo := 128) (hi := 191) (k := i + 1) (by rw [w64 (by omega)]; omega)
  rw [g1] at w1
  refine callR_of (R := R1) cx_ok Tryd.func33 (by kernel_rfl) rfl ?_
  conv => whnf
  refine ⟨⟨by omega, by show x < (s.size : Int); omega⟩, ?_⟩
  rw [e0]
  generalize hb : byteAt s i = c at *
  conv => whnf
  refine brF (decide_eq_false (by omega)) ?_
  conv => whnf
  refine brT (decide_eq_true (by omega)) ?_
  conv => whnf
  refine brT (decide_eq_true (by omega)) ?_
  conv => whnf
  refine ⟨_, w1, ?_⟩
  rintro _ _ ⟨rfl, rfl⟩
  conv => whnf
  exact ⟨tupI (by rw [w64 (n := c) (by omega), w64 (by omega)]) rfl, rfl⟩

set_option maxHeartbeats 4000000 in
theorem one_C2_1 {s : ByteArray} {x : Int} {i : Nat} (hx : x = (i : Int)) (hi : i < s.size) (hm : s.size < 1000000000) (hc : 194 ≤ byteAt s i ∧ byteAt s i ≤ 223)
    (g1 : win s (i + 1) 128 191 = true) :
    CallR cx 33 [st s, i64 x] [] fun r S => r = .tup [i64 (acc s i (byteAt s i % 32) 1), i64 2] ∧ S = [] := by
  have e0 : x.toNat = i := by omega
  have hr := byteAt_range s i
  have w1 := within_c (s := s) (x := IntKind.i64.wrap (x + 1)) (lo := 128) (hi := 191) (k := i + 1) (by rw [w64 (by omega)]; omega)
  rw [g1] at w1
  have hlt : i + 1 < s.size := win_lt g1
  have hac := fun j hj => acc_range (s := s) (i := i) (n0 := byteAt s i % 32) (by omega) j hj
  refine callR_of (R := R1) cx_ok Tryd.func33 (by kernel_rfl) rfl ?_
  conv => whnf
  refine ⟨⟨by omega, by show x < (s.size : Int); omega⟩, ?_⟩
  rw [e0]
  generalize hb : byteAt s i = c at *
  conv => whnf
  refine brF (decide_eq_false (by omega)) ?_
  conv => whnf
  refine brT (decide_eq_true (by omega)) ?_
  conv => whnf
  refine brT (decide_eq_true (by omega)) ?_
  conv => whnf
  refine ⟨_, w1, ?_⟩
  rintro _ _ ⟨rfl, rfl⟩
  conv => whnf
  refine ⟨by decide, ?_⟩
  conv => whnf
  refine .inl ⟨fun k l S => ∃ j : Nat, j ≤ 1 ∧ k = 1 - j ∧ l = [(0, st s), (1, i64 x), (7, i64 1), (10, i64 (acc s i (c % 32) j)), (11, i64 ((j : Int) + 1))] ∧ S = [],
    ⟨_, _, ⟨0, by omega, rfl, rfl, rfl⟩, ⟨rfl, rfl, rfl, congrArg (fun z => some (i64 z)) (show (IntKind.i64.wrap c).tmod 32 = acc s i (c % 32) 0 by rw [w64 (by omega), Int.tmod_eq_emod_of_nonneg (by omega)]; rfl), rfl, trivial⟩⟩, ?_⟩
  rintro _ _ _ ⟨j, hj, rfl, rfl, rfl⟩
  conv => whnf
  refine brec (fun h1 => ?_) (fun h1 => ?_)
  · have h1 := of_decide_eq_true h1
    have e1 : IntKind.i64.wrap (x + ((j : Int) + 1)) = ((i + (j + 1) : Nat) : Int) := by rw [w64 (by omega)]; omega
    conv => whnf
    refine ⟨⟨by rw [e1]; omega, by rw [e1]; show ((i + (j + 1) : Nat) : Int) < (s.size : Int); omega⟩, ?_⟩
    rw [e1]
    conv => whnf
    refine ⟨by decide, ?_⟩
    conv => whnf
    exact ⟨_, _, 0, (by omega : 1 - (j + 1) < 1 - j), ⟨j + 1, by omega, rfl, rfl, rfl⟩,
      ⟨rfl, rfl, rfl, congrArg (fun z => some (i64 z)) (accStep (hac j (by omega)).1 ((hac j (by omega)).2.2 (by omega))), congrArg (fun z => some (i64 z)) (by rw [w64 (by omega)]; omega), trivial⟩, rfl⟩
  · have h1 := of_decide_eq_false h1
    obtain rfl : j = 1 := by omega
    conv => whnf
    exact ⟨rfl, rfl⟩

set_option maxHeartbeats 4000000 in
theorem one_E0_0 {s : ByteArray} {x : Int} {i : Nat} (hx : x = (i : Int)) (hi : i < s.size) (hm : s.size < 1000000000) (hc : byteAt s i = 224)
    (g1 : win s (i + 1) 160 191 = false) :
    CallR cx 33 [st s, i64 x] [] fun r S => r = .tup [i64 (byteAt s i + 2000000), i64 1] ∧ S = [] := by
  have e0 : x.toNat = i := by omega
  have hr := byteAt_range s i
  have w1 := within_c (s := s) (x := IntKind.i64.wrap (x + 1)) (lo := 160) (hi := 191) (k := i + 1) (by rw [w64 (by omega)]; omega)
  rw [g1] at w1
  refine callR_of (R := R1) cx_ok Tryd.func33 (by kernel_rfl) rfl ?_
  conv => whnf
  refine ⟨⟨by omega, by show x < (s.size : Int); omega⟩, ?_⟩
  rw [e0]
  generalize hb : byteAt s i = c at *
  conv => whnf
  refine brF (decide_eq_false (by omega)) ?_
  conv => whnf
  refine brT (decide_eq_true (by omega)) ?_
  conv => whnf
  refine brF (decide_eq_false (by omega)) ?_
  conv => whnf
  refine brT (decide_eq_true (by omega)) ?_
  conv => whnf
  refine brT (decide_eq_true (by omega)) ?_
  conv => whnf
  refine brT (beq_iff_eq.2 (by omega)) ?_
  conv => whnf
  refine brF (beq_eq_false_iff_ne.2 (by omega)) ?_
  conv => whnf
  refine ⟨_, w1, ?_⟩
  rintro _ _ ⟨rfl, rfl⟩
  conv => whnf
  exact ⟨tupI (by rw [w64 (n := c) (by omega), w64 (by omega)]) rfl, rfl⟩

set_option maxHeartbeats 4000000 in
theorem one_E0_1 {s : ByteArray} {x : Int} {i : Nat} (hx : x = (i : Int)) (hi : i < s.size) (hm : s.size < 1000000000) (hc : byteAt s i = 224)
    (g1 : win s (i + 1) 160 191 = true)
    (g2 : win s (i + 2) 128 191 = false) :
    CallR cx 33 [st s, i64 x] [] fun r S => r = .tup [i64 (byteAt s i + 2000000), i64 1] ∧ S = [] := by
  have e0 : x.toNat = i := by omega
  have hr := byteAt_range s i
  have w1 := within_c (s := s) (x := IntKind.i64.wrap (x + 1)) (lo := 160) (hi := 191) (k := i + 1) (by rw [w64 (by omega)]; omega)
  rw [g1] at w1
  have w2 := within_c (s := s) (x := IntKind.i64.wrap (x + 2)) (lo := 128) (hi := 191) (k := i + 2) (by rw [w64 (by omega)]; omega)
  rw [g2] at w2
  refine callR_of (R := R1) cx_ok Tryd.func33 (by kernel_rfl) rfl ?_
  conv => whnf
  refine ⟨⟨by omega, by show x < (s.size : Int); omega⟩, ?_⟩
  rw [e0]
  generalize hb : byteAt s i = c at *
  conv => whnf
  refine brF (decide_eq_false (by omega)) ?_
  conv => whnf
  refine brT (decide_eq_true (by omega)) ?_
  conv => whnf
  refine brF (decide_eq_false (by omega)) ?_
  conv => whnf
  refine brT (decide_eq_true (by omega)) ?_
  conv => whnf
  refine brT (decide_eq_true (by omega)) ?_
  conv => whnf
  refine brT (beq_iff_eq.2 (by omega)) ?_
  conv => whnf
  refine brF (beq_eq_false_iff_ne.2 (by omega)) ?_
  conv => whnf
  refine ⟨_, w1, ?_⟩
  rintro _ _ ⟨rfl, rfl⟩
  conv => whnf
  refine ⟨_, w2, ?_⟩
  rintro _ _ ⟨rfl, rfl⟩
  conv => whnf
  exact ⟨tupI (by rw [w64 (n := c) (by omega), w64 (by omega)]) rfl, rfl⟩

set_option maxHeartbeats 4000000 in
theorem one_E0_2 {s : ByteArray} {x : Int} {i : Nat} (hx : x = (i : Int)) (hi : i < s.size) (hm : s.size < 1000000000) (hc : byteAt s i = 224)
    (g1 : win s (i + 1) 160 191 = true)
    (g2 : win s (i + 2) 128 191 = true) :
    CallR cx 33 [st s, i64 x] [] fun r S => r = .tup [i64 (acc s i (byteAt s i % 16) 2), i64 3] ∧ S = [] := by
  have e0 : x.toNat = i := by omega
  have hr := byteAt_range s i
  have w1 := within_c (s := s) (x := IntKind.i64.wrap (x + 1)) (lo := 160) (hi := 191) (k := i + 1) (by rw [w64 (by omega)]; omega)
  rw [g1] at w1
  have w2 := within_c (s := s) (x := IntKind.i64.wrap (x + 2)) (lo := 128) (hi := 191) (k := i + 2) (by rw [w64 (by omega)]; omega)
  rw [g2] at w2
  have hlt : i + 2 < s.size := win_lt g2
  have hac := fun j hj => acc_range (s := s) (i := i) (n0 := byteAt s i % 16) (by omega) j hj
  refine callR_of (R := R1) cx_ok Tryd.func33 (by kernel_rfl) rfl ?_
  conv => whnf
  refine ⟨⟨by omega, by show x < (s.size : Int); omega⟩, ?_⟩
  rw [e0]
  generalize hb : byteAt s i = c at *
  conv => whnf
  refine brF (decide_eq_false (by omega)) ?_
  conv => whnf
  refine brT (decide_eq_true (by omega)) ?_
  conv => whnf
  refine brF (decide_eq_false (by omega)) ?_
  conv => whnf
  refine brT (decide_eq_true (by omega)) ?_
  conv => whnf
  refine brT (decide_eq_true (by omega)) ?_
  conv => whnf
  refine brT (beq_iff_eq.2 (by omega)) ?_
  conv => whnf
  refine brF (beq_eq_false_iff_ne.2 (by omega)) ?_
  conv => whnf
  refine ⟨_, w1, ?_⟩
  rintro _ _ ⟨rfl, rfl⟩
  conv => whnf
  refine ⟨_, w2, ?_⟩
  rintro _ _ ⟨rfl, rfl⟩
  conv => whnf
  refine ⟨by decide, ?_⟩
  conv => whnf
  refine ⟨by decide, ?_⟩
  conv => whnf
  refine .inl ⟨fun k l S => ∃ j : Nat, j ≤ 2 ∧ k = 2 - j ∧ l = [(0, st s), (1, i64 x), (7, i64 2), (10, i64 (acc s i (c % 16) j)), (11, i64 ((j : Int) + 1))] ∧ S = [],
    ⟨_, _, ⟨0, by omega, rfl, rfl, rfl⟩, ⟨rfl, rfl, rfl, congrArg (fun z => some (i64 z)) (show (IntKind.i64.wrap c).tmod 16 = acc s i (c % 16) 0 by rw [w64 (by omega), Int.tmod_eq_emod_of_nonneg (by omega)]; rfl), rfl, trivial⟩⟩, ?_⟩
  rintro _ _ _ ⟨j, hj, rfl, rfl, rfl⟩
  conv => whnf
  refine brec (fun h1 => ?_) (fun h1 => ?_)
  · have h1 := of_decide_eq_true h1
    have e1 : IntKind.i64.wrap (x + ((j : Int) + 1)) = ((i + (j + 1) : Nat) : Int) := by rw [w64 (by omega)]; omega
    conv => whnf
    refine ⟨⟨by rw [e1]; omega, by rw [e1]; show ((i + (j + 1) : Nat) : Int) < (s.size : Int); omega⟩, ?_⟩
    rw [e1]
    conv => whnf
    refine ⟨by decide, ?_⟩
    conv => whnf
    exact ⟨_, _, 0, (by omega : 2 - (j + 1) < 2 - j), ⟨j + 1, by omega, rfl, rfl, rfl⟩,
      ⟨rfl, rfl, rfl, congrArg (fun z => some (i64 z)) (accStep (hac j (by omega)).1 ((hac j (by omega)).2.2 (by omega))), congrArg (fun z => some (i64 z)) (by rw [w64 (by omega)]; omega), trivial⟩, rfl⟩
  · have h1 := of_decide_eq_false h1
    obtain rfl : j = 2 := by omega
    conv => whnf
    exact ⟨rfl, rfl⟩

set_option maxHeartbeats 4000000 in
theorem one_ED_0 {s : ByteArray} {x : Int} {i : Nat} (hx : x = (i : Int)) (hi : i < s.size) (hm : s.size < 1000000000) (hc : byteAt s i = 237)
    (g1 : win s (i + 1) 128 159 = false) :
    CallR cx 33 [st s, i64 x] [] fun r S => r = .tup [i64 (byteAt s i + 2000000), i64 1] ∧ S = [] := by
  have e0 : x.toNat = i := by omega
  have hr := byteAt_range s i
  have w1 := within_c (s := s) (x := IntKind.i64.wrap (x + 1)) (lo := 128) (hi := 159) (k := i + 1) (by rw [w64 (by omega)]; omega)
  rw [g1] at w1
  refine callR_of (R := R1) cx_ok Tryd.func33 (by kernel_rfl) rfl ?_
  conv => whnf
  refine ⟨⟨by omega, by show x < (s.size : Int); omega⟩, ?_⟩
  rw [e0]
  generalize hb : byteAt s i = c at *
  conv => whnf
  refine brF (decide_eq_false (by omega)) ?_
  conv => whnf
  refine brT (decide_eq_true (by omega)) ?_
  conv => whnf
  refine brF (decide_eq_false (by omega)) ?_
  conv => whnf
  refine brT (decide_eq_true (by omega)) ?_
  conv => whnf
  refine brT (decide_eq_true (by omega)) ?_
  conv => whnf
  refine brF (beq_eq_false_iff_ne.2 (by omega)) ?_
  conv => whnf
  refine brT (beq_iff_eq.2 (by omega)) ?_
  conv => whnf
  refine ⟨_, w1, ?_⟩
  rintro _ _ ⟨rfl, rfl⟩
  conv => whnf
  exact ⟨tupI (by rw [w64 (n := c) (by omega), w64 (by omega)]) rfl, rfl⟩

set_option maxHeartbeats 4000000 in
theorem one_ED_1 {s : ByteArray} {x : Int} {i : Nat} (hx : x = (i : Int)) (hi : i < s.size) (hm : s.size < 1000000000) (hc : byteAt s i = 237)
    (g1 : win s (i + 1) 128 159 = true)
    (g2 : win s (i + 2) 128 191 = false) :
    CallR cx 33 [st s, i64 x] [] fun r S => r = .tup [i64 (byteAt s i + 2000000), i64 1] ∧ S = [] := by
  have e0 : x.toNat = i := by omega
  have hr := byteAt_range s i
  have w1 := within_c (s := s) (x := IntKind.i64.wrap (x + 1)) (lo := 128) (hi := 159) (k := i + 1) (by rw [w64 (by omega)]; omega)
  rw [g1] at w1
  have w2 := within_c (s := s) (x := IntKind.i64.wrap (x + 2)) (lo := 128) (hi := 191) (k := i + 2) (by rw [w64 (by omega)]; omega)
  rw [g2] at w2
  refine callR_of (R := R1) cx_ok Tryd.func33 (by kernel_rfl) rfl ?_
  conv => whnf
  refine ⟨⟨by omega, by show x < (s.size : Int); omega⟩, ?_⟩
  rw [e0]
  generalize hb : byteAt s i = c at *
  conv => whnf
  refine brF (decide_eq_false (by omega)) ?_
  conv => whnf
  refine brT (decide_eq_true (by omega)) ?_
  conv => whnf
  refine brF (decide_eq_false (by omega)) ?_
  conv => whnf
  refine brT (decide_eq_true (by omega)) ?_
  conv => whnf
  refine brT (decide_eq_true (by omega)) ?_
  conv => whnf
  refine brF (beq_eq_false_iff_ne.2 (by omega)) ?_
  conv => whnf
  refine brT (beq_iff_eq.2 (by omega)) ?_
  conv => whnf
  refine ⟨_, w1, ?_⟩
  rintro _ _ ⟨rfl, rfl⟩
  conv => whnf
  refine ⟨_, w2, ?_⟩
  rintro _ _ ⟨rfl, rfl⟩
  conv => whnf
  exact ⟨tupI (by rw [w64 (n := c) (by omega), w64 (by omega)]) rfl, rfl⟩

set_option maxHeartbeats 4000000 in
theorem one_ED_2 {s : ByteArray} {x : Int} {i : Nat} (hx : x = (i : Int)) (hi : i < s.size) (hm : s.size < 1000000000) (hc : byteAt s i = 237)
    (g1 : win s (i + 1) 128 159 = true)
    (g2 : win s (i + 2) 128 191 = true) :
    CallR cx 33 [st s, i64 x] [] fun r S => r = .tup [i64 (acc s i (byteAt s i % 16) 2), i64 3] ∧ S = [] := by
  have e0 : x.toNat = i := by omega
  have hr := byteAt_range s i
  have w1 := within_c (s := s) (x := IntKind.i64.wrap (x + 1)) (lo := 128) (hi := 159) (k := i + 1) (by rw [w64 (by omega)]; omega)
  rw [g1] at w1
  have w2 := within_c (s := s) (x := IntKind.i64.wrap (x + 2)) (lo := 128) (hi := 191) (k := i + 2) (by rw [w64 (by omega)]; omega)
  rw [g2] at w2
  have hlt : i + 2 < s.size := win_lt g2
  have hac := fun j hj => acc_range (s := s) (i := i) (n0 := byteAt s i % 16) (by omega) j hj
  refine callR_of (R := R1) cx_ok Tryd.func33 (by kernel_rfl) rfl ?_
  conv => whnf
  refine ⟨⟨by omega, by show x < (s.size : Int); omega⟩, ?_⟩
  rw [e0]
  generalize hb : byteAt s i = c at *
  conv => whnf
  refine brF (decide_eq_false (by omega)) ?_
  conv => whnf
  refine brT (decide_eq_true (by omega)) ?_
  conv => whnf
  refine brF (decide_eq_false (by omega)) ?_
  conv => whnf
  refine brT (decide_eq_true (by omega)) ?_
  conv => whnf
  refine brT (decide_eq_true (by omega)) ?_
  conv => whnf
  refine brF (beq_eq_false_iff_ne.2 (by omega)) ?_
  conv => whnf
  refine brT (beq_iff_eq.2 (by omega)) ?_
  conv => whnf
  refine ⟨_, w1, ?_⟩
  rintro _ _ ⟨rfl, rfl⟩
  conv => whnf
  refine ⟨_, w2, ?_⟩
  rintro _ _ ⟨rfl, rfl⟩
  conv => whnf
  refine ⟨by decide, ?_⟩
  conv => whnf
  refine ⟨by decide, ?_⟩
  conv => whnf
  refine .inl ⟨fun k l S => ∃ j : Nat, j ≤ 2 ∧ k = 2 - j ∧ l = [(0, st s), (1, i64 x), (7, i64 2), (10, i64 (acc s i (c % 16) j)), (11, i64 ((j : Int) + 1))] ∧ S = [],
    ⟨_, _, ⟨0, by omega, rfl, rfl, rfl⟩, ⟨rfl, rfl, rfl, congrArg (fun z => some (i64 z)) (show (IntKind.i64.wrap c).tmod 16 = acc s i (c % 16) 0 by rw [w64 (by omega), Int.tmod_eq_emod_of_nonneg (by omega)]; rfl), rfl, trivial⟩⟩, ?_⟩
  rintro _ _ _ ⟨j, hj, rfl, rfl, rfl⟩
  conv => whnf
  refine brec (fun h1 => ?_) (fun h1 => ?_)
  · have h1 := of_decide_eq_true h1
    have e1 : IntKind.i64.wrap (x + ((j : Int) + 1)) = ((i + (j + 1) : Nat) : Int) := by rw [w64 (by omega)]; omega
    conv => whnf
    refine ⟨⟨by rw [e1]; omega, by rw [e1]; show ((i + (j + 1) : Nat) : Int) < (s.size : Int); omega⟩, ?_⟩
    rw [e1]
    conv => whnf
    refine ⟨by decide, ?_⟩
    conv => whnf
    exact ⟨_, _, 0, (by omega : 2 - (j + 1) < 2 - j), ⟨j + 1, by omega, rfl, rfl, rfl⟩,
      ⟨rfl, rfl, rfl, congrArg (fun z => some (i64 z)) (accStep (hac j (by omega)).1 ((hac j (by omega)).2.2 (by omega))), congrArg (fun z => some (i64 z)) (by rw [w64 (by omega)]; omega), trivial⟩, rfl⟩
  · have h1 := of_decide_eq_false h1
    obtain rfl : j = 2 := by omega
    conv => whnf
    exact ⟨rfl, rfl⟩

set_option maxHeartbeats 4000000 in
theorem one_EE_0 {s : ByteArray} {x : Int} {i : Nat} (hx : x = (i : Int)) (hi : i < s.size) (hm : s.size < 1000000000) (hc : (225 ≤ byteAt s i ∧ byteAt s i ≤ 236) ∨ (238 ≤ byteAt s i ∧ byteAt s i ≤ 239))
    (g1 : win s (i + 1) 128 191 = false) :
    CallR cx 33 [st s, i64 x] [] fun r S => r = .tup [i64 (byteAt s i + 2000000), i64 1] ∧ S = [] := by
  have e0 : x.toNat = i := by omega
  have hr := byteAt_range s i
  have w1 := within_c (s := s) (x := IntKind.i64.wrap (x + 1)) (lo := 128) (hi := 191) (k := i + 1) (by rw [w64 (by omega)]; omega)
  rw [g1] at w1
  refine callR_of (R := R1) cx_ok Tryd.func33 (by kernel_rfl) rfl ?_
  conv => whnf
  refine ⟨⟨by omega, by show x < (s.size : Int); omega⟩, ?_⟩
  rw [e0]
  generalize hb : byteAt s i = c at *
  conv => whnf
  refine brF (decide_eq_false (by omega)) ?_
  conv => whnf
  refine brT (decide_eq_true (by omega)) ?_
  conv => whnf
  refine brF (decide_eq_false (by omega)) ?_
  conv => whnf
  refine brT (decide_eq_true (by omega)) ?_
  conv => whnf
  refine brT (decide_eq_true (by omega)) ?_
  conv => whnf
  refine brF (beq_eq_false_iff_ne.2 (by omega)) ?_
  conv => whnf
  refine brF (beq_eq_false_iff_ne.2 (by omega)) ?_
  conv => whnf
  refine ⟨_, w1, ?_⟩
  rintro _ _ ⟨rfl, rfl⟩
  conv => whnf
  exact ⟨tupI (by rw [w64 (n := c) (by omega), w64 (by omega)]) rfl, rfl⟩

set_option maxHeartbeats 4000000 in
theorem one_EE_1 {s : ByteArray} {x : Int} {i : Nat} (hx : x = (i : Int)) (hi : i < s.size) (hm : s.size < 1000000000) (hc : (225 ≤ byteAt s i ∧ byteAt s i ≤ 236) ∨ (238 ≤ byteAt s i ∧ byteAt s i ≤ 239))
    (g1 : win s (i + 1) 128 191 = true)
    (g2 : win s (i + 2) 128 191 = false) :
    CallR cx 33 [st s, i64 x] [] fun r S => r = .tup [i64 (byteAt s i + 2000000), i64 1] ∧ S = [] := by
  have e0 : x.toNat = i := by omega
  have hr := byteAt_range s i
  have w1 := within_c (s := s) (x := IntKind.i64.wrap (x + 1)) (lo := 128) (hi := 191) (k := i + 1) (by rw [w64 (by omega)]; omega)
  rw [g1] at w1
  have w2 := within_c (s := s) (x := IntKind.i64.wrap (x + 2)) (lo := 128) (hi := 191) (k := i + 2) (by rw [w64 (by omega)]; omega)
  rw [g2] at w2
  refine callR_of (R := R1) cx_ok Tryd.func33 (by kernel_rfl) rfl ?_
  conv => whnf
  refine ⟨⟨by omega, by show x < (s.size : Int); omega⟩, ?_⟩
  rw [e0]
  generalize hb : byteAt s i = c at *
  conv => whnf
  refine brF (decide_eq_false (by omega)) ?_
  conv => whnf
  refine brT (decide_eq_true (by omega)) ?_
  conv => whnf
  refine brF (decide_eq_false (by omega)) ?_
  conv => whnf
  refine brT (decide_eq_true (by omega)) ?_
  conv => whnf
  refine brT (decide_eq_true (by omega)) ?_
  conv => whnf
  refine brF (beq_eq_false_iff_ne.2 (by omega)) ?_
  conv => whnf
  refine brF (beq_eq_false_iff_ne.2 (by omega)) ?_
  conv => whnf
  refine ⟨_, w1, ?_⟩
  rintro _ _ ⟨rfl, rfl⟩
  conv => whnf
  refine ⟨_, w2, ?_⟩
  rintro _ _ ⟨rfl, rfl⟩
  conv => whnf
  exact ⟨tupI (by rw [w64 (n := c) (by omega), w64 (by omega)]) rfl, rfl⟩

set_option maxHeartbeats 4000000 in
theorem one_EE_2 {s : ByteArray} {x : Int} {i : Nat} (hx : x = (i : Int)) (hi : i < s.size) (hm : s.size < 1000000000) (hc : (225 ≤ byteAt s i ∧ byteAt s i ≤ 236) ∨ (238 ≤ byteAt s i ∧ byteAt s i ≤ 239))
    (g1 : win s (i + 1) 128 191 = true)
    (g2 : win s (i + 2) 128 191 = true) :
    CallR cx 33 [st s, i64 x] [] fun r S => r = .tup [i64 (acc s i (byteAt s i % 16) 2), i64 3] ∧ S = [] := by
  have e0 : x.toNat = i := by omega
  have hr := byteAt_range s i
  have w1 := within_c (s := s) (x := IntKind.i64.wrap (x + 1)) (lo := 128) (hi := 191) (k := i + 1) (by rw [w64 (by omega)]; omega)
  rw [g1] at w1
  have w2 := within_c (s := s) (x := IntKind.i64.wrap (x + 2)) (lo := 128) (hi := 191) (k := i + 2) (by rw [w64 (by omega)]; omega)
  rw [g2] at w2
  have hlt : i + 2 < s.size := win_lt g2
  have hac := fun j hj => acc_range (s := s) (i := i) (n0 := byteAt s i % 16) (by omega) j hj
  refine callR_of (R := R1) cx_ok Tryd.func33 (by kernel_rfl) rfl ?_
  conv => whnf
  refine ⟨⟨by omega, by show x < (s.size : Int); omega⟩, ?_⟩
  rw [e0]
  generalize hb : byteAt s i = c at *
  conv => whnf
  refine brF (decide_eq_false (by omega)) ?_
  conv => whnf
  refine brT (decide_eq_true (by omega)) ?_
  conv => whnf
  refine brF (decide_eq_false (by omega)) ?_
  conv => whnf
  refine brT (decide_eq_true (by omega)) ?_
  conv => whnf
  refine brT (decide_eq_true (by omega)) ?_
  conv => whnf
  refine brF (beq_eq_false_iff_ne.2 (by omega)) ?_
  conv => whnf
  refine brF (beq_eq_false_iff_ne.2 (by omega)) ?_
  conv => whnf
  refine ⟨_, w1, ?_⟩
  rintro _ _ ⟨rfl, rfl⟩
  conv => whnf
  refine ⟨_, w2, ?_⟩
  rintro _ _ ⟨rfl, rfl⟩
  conv => whnf
  refine ⟨by decide, ?_⟩
  conv => whnf
  refine ⟨by decide, ?_⟩
  conv => whnf
  refine .inl ⟨fun k l S => ∃ j : Nat, j ≤ 2 ∧ k = 2 - j ∧ l = [(0, st s), (1, i64 x), (7, i64 2), (10, i64 (acc s i (c % 16) j)), (11, i64 ((j : Int) + 1))] ∧ S = [],
    ⟨_, _, ⟨0, by omega, rfl, rfl, rfl⟩, ⟨rfl, rfl, rfl, congrArg (fun z => some (i64 z)) (show (IntKind.i64.wrap c).tmod 16 = acc s i (c % 16) 0 by rw [w64 (by omega), Int.tmod_eq_emod_of_nonneg (by omega)]; rfl), rfl, trivial⟩⟩, ?_⟩
  rintro _ _ _ ⟨j, hj, rfl, rfl, rfl⟩
  conv => whnf
  refine brec (fun h1 => ?_) (fun h1 => ?_)
  · have h1 := of_decide_eq_true h1
    have e1 : IntKind.i64.wrap (x + ((j : Int) + 1)) = ((i + (j + 1) : Nat) : Int) := by rw [w64 (by omega)]; omega
    conv => whnf
    refine ⟨⟨by rw [e1]; omega, by rw [e1]; show ((i + (j + 1) : Nat) : Int) < (s.size : Int); omega⟩, ?_⟩
    rw [e1]
    conv => whnf
    refine ⟨by decide, ?_⟩
    conv => whnf
    exact ⟨_, _, 0, (by omega : 2 - (j + 1) < 2 - j), ⟨j + 1, by omega, rfl, rfl, rfl⟩,
      ⟨rfl, rfl, rfl, congrArg (fun z => some (i64 z)) (accStep (hac j (by omega)).1 ((hac j (by omega)).2.2 (by omega))), congrArg (fun z => some (i64 z)) (by rw [w64 (by omega)]; omega), trivial⟩, rfl⟩
  · have h1 := of_decide_eq_false h1
    obtain rfl : j = 2 := by omega
    conv => whnf
    exact ⟨rfl, rfl⟩

set_option maxHeartbeats 4000000 in
theorem one_F0_0 {s : ByteArray} {x : Int} {i : Nat} (hx : x = (i : Int)) (hi : i < s.size) (hm : s.size < 1000000000) (hc : byteAt s i = 240)
    (g1 : win s (i + 1) 144 191 = false) :
    CallR cx 33 [st s, i64 x] [] fun r S => r = .tup [i64 (byteAt s i + 2000000), i64 1] ∧ S = [] := by
  have e0 : x.toNat = i := by omega
  have hr := byteAt_range s i
  have w1 := within_c (s := s) (x := IntKind.i64.wrap (x + 1)) (lo := 144) (hi := 191) (k := i + 1) (by rw [w64 (by omega)]; omega)
  rw [g1] at w1
  refine callR_of (R := R1) cx_ok Tryd.func33 (by kernel_rfl) rfl ?_
  conv => whnf
  refine ⟨⟨by omega, by show x < (s.size : Int); omega⟩, ?_⟩
  rw [e0]
  generalize hb : byteAt s i = c at *
  conv => whnf
  refine brF (decide_eq_false (by omega)) ?_
  conv => whnf
  refine brT (decide_eq_true (by omega)) ?_
  conv => whnf
  refine brF (decide_eq_false (by omega)) ?_
  conv => whnf
  refine brT (decide_eq_true (by omega)) ?_
  conv => whnf
  refine brF (decide_eq_false (by omega)) ?_
  conv => whnf
  refine brT (decide_eq_true (by omega)) ?_
  conv => whnf
  refine brT (decide_eq_true (by omega)) ?_
  conv => whnf
  refine brT (beq_iff_eq.2 (by omega)) ?_
  conv => whnf
  refine brF (beq_eq_false_iff_ne.2 (by omega)) ?_
  conv => whnf
  refine ⟨_, w1, ?_⟩
  rintro _ _ ⟨rfl, rfl⟩
  conv => whnf
  exact ⟨tupI (by rw [w64 (n := c) (by omega), w64 (by omega)]) rfl, rfl⟩

set_option maxHeartbeats 4000000 in
theorem one_F0_1 {s : ByteArray} {x : Int} {i : Nat} (hx : x = (i : Int)) (hi : i < s.size) (hm : s.size < 1000000000) (hc : byteAt s i = 240)
    (g1 : win s (i + 1) 144 191 = true)
    (g2 : win s (i + 2) 128 191 = false) :
    CallR cx 33 [st s, i64 x] [] fun r S => r = .tup [i64 (byteAt s i + 2000000), i64 1] ∧ S = [] := by
  have e0 : x.toNat = i := by omega
  have hr := byteAt_range s i
  have w1 := within_c (s := s) (x := IntKind.i64.wrap (x + 1)) (lo := 144) (hi := 191) (k := i + 1) (by rw [w64 (by omega)]; omega)
  rw [g1] at w1
  have w2 := within_c (s := s) (x := IntKind.i64.wrap (x + 2)) (lo := 128) (hi := 191) (k := i + 2) (by rw [w64 (by omega)]; omega)
  rw [g2] at w2
  refine callR_of (R := R1) cx_ok Tryd.func33 (by kernel_rfl) rfl ?_
  conv => whnf
  refine ⟨⟨by omega, by show x < (s.size : Int); omega⟩, ?_⟩
  rw [e0]
  generalize hb : byteAt s i = c at *
  conv => whnf
  refine brF (decide_eq_false (by omega)) ?_
  conv => whnf
  refine brT (decide_eq_true (by omega)) ?_
  conv => whnf
  refine brF (decide_eq_false (by omega)) ?_
  conv => whnf
  refine brT (decide_eq_true (by omega)) ?_
  conv => whnf
  refine brF (decide_eq_false (by omega)) ?_
  conv => whnf
  refine brT (decide_eq_true (by omega)) ?_
  conv => whnf
  refine brT (decide_eq_true (by omega)) ?_
  conv => whnf
  refine brT (beq_iff_eq.2 (by omega)) ?_
  conv => whnf
  refine brF (beq_eq_false_iff_ne.2 (by omega)) ?_
  conv => whnf
  refine ⟨_, w1, ?_⟩
  rintro _ _ ⟨rfl, rfl⟩
  conv => whnf
  refine ⟨_, w2, ?_⟩
  rintro _ _ ⟨rfl, rfl⟩
  conv => whnf
  exact ⟨tupI (by rw [w64 (n := c) (by omega), w64 (by omega)]) rfl, rfl⟩

set_option maxHeartbeats 4000000 in
theorem one_F0_2 {s : ByteArray} {x : Int} {i : Nat} (hx : x = (i : Int)) (hi : i < s.size) (hm : s.size < 1000000000) (hc : byteAt s i = 240)
    (g1 : win s (i + 1) 144 191 = true)
    (g2 : win s (i + 2) 128 191 = true)
    (g3 : win s (i + 3) 128 191 = false) :
    CallR cx 33 [st s, i64 x] [] fun r S => r = .tup [i64 (byteAt s i + 2000000), i64 1] ∧ S = [] := by
  have e0 : x.toNat = i := by omega
  have hr := byteAt_range s i
  have w1 := within_c (s := s) (x := IntKind.i64.wrap (x + 1)) (lo := 144) (hi := 191) (k := i + 1) (by rw [w64 (by omega)]; omega)
  rw [g1] at w1
  have w2 := within_c (s := s) (x := IntKind.i64.wrap (x + 2)) (lo := 128) (hi := 191) (k := i + 2) (by rw [w64 (by omega)]; omega)
  rw [g2] at w2
  have w3 := within_c (s := s) (x := IntKind.i64.wrap (x + 3)) (lo := 128) (hi := 191) (k := i + 3) (by rw [w64 (by omega)]; omega)
  rw [g3] at w3
  refine callR_of (R := R1) cx_ok Tryd.func33 (by kernel_rfl) rfl ?_
  conv => whnf
  refine ⟨⟨by omega, by show x < (s.size : Int); omega⟩, ?_⟩
  rw [e0]
  generalize hb : byteAt s i = c at *
  conv => whnf
  refine brF (decide_eq_false (by omega)) ?_
  conv => whnf
  refine brT (decide_eq_true (by omega)) ?_
  conv => whnf
  refine brF (decide_eq_false (by omega)) ?_
  conv => whnf
  refine brT (decide_eq_true (by omega)) ?_
  conv => whnf
  refine brF (decide_eq_false (by omega)) ?_
  conv => whnf
  refine brT (decide_eq_true (by omega)) ?_
  conv => whnf
  refine brT (decide_eq_true (by omega)) ?_
  conv => whnf
  refine brT (beq_iff_eq.2 (by omega)) ?_
  conv => whnf
  refine brF (beq_eq_false_iff_ne.2 (by omega)) ?_
  conv => whnf
  refine ⟨_, w1, ?_⟩
  rintro _ _ ⟨rfl, rfl⟩
  conv => whnf
  refine ⟨_, w2, ?_⟩
  rintro _ _ ⟨rfl, rfl⟩
  conv => whnf
  refine ⟨_, w3, ?_⟩
  rintro _ _ ⟨rfl, rfl⟩
  conv => whnf
  exact ⟨tupI (by rw [w64 (n := c) (by omega), w64 (by omega)]) rfl, rfl⟩

set_option maxHeartbeats 4000000 in
theorem one_F0_3 {s : ByteArray} {x : Int} {i : Nat} (hx : x = (i : Int)) (hi : i < s.size) (hm : s.size < 1000000000) (hc : byteAt s i = 240)
    (g1 : win s (i + 1) 144 191 = true)
    (g2 : win s (i + 2) 128 191 = true)
    (g3 : win s (i + 3) 128 191 = true) :
    CallR cx 33 [st s, i64 x] [] fun r S => r = .tup [i64 (acc s i (byteAt s i % 8) 3), i64 4] ∧ S = [] := by
  have e0 : x.toNat = i := by omega
  have hr := byteAt_range s i
  have w1 := within_c (s := s) (x := IntKind.i64.wrap (x + 1)) (lo := 144) (hi := 191) (k := i + 1) (by rw [w64 (by omega)]; omega)
  rw [g1] at w1
  have w2 := within_c (s := s) (x := IntKind.i64.wrap (x + 2)) (lo := 128) (hi := 191) (k := i + 2) (by rw [w64 (by omega)]; omega)
  rw [g2] at w2
  have w3 := within_c (s := s) (x := IntKind.i64.wrap (x + 3)) (lo := 128) (hi := 191) (k := i + 3) (by rw [w64 (by omega)]; omega)
  rw [g3] at w3
  have hlt : i + 3 < s.size := win_lt g3
  have hac := fun j hj => acc_range (s := s) (i := i) (n0 := byteAt s i % 8) (by omega) j hj
  refine callR_of (R := R1) cx_ok Tryd.func33 (by kernel_rfl) rfl ?_
  conv => whnf
  refine ⟨⟨by omega, by show x < (s.size : Int); omega⟩, ?_⟩
  rw [e0]
  generalize hb : byteAt s i = c at *
  conv => whnf
  refine brF (decide_eq_false (by omega)) ?_
  conv => whnf
  refine brT (decide_eq_true (by omega)) ?_
  conv => whnf
  refine brF (decide_eq_false (by omega)) ?_
  conv => whnf
  refine brT (decide_eq_true (by omega)) ?_
  conv => whnf
  refine brF (decide_eq_false (by omega)) ?_
  conv => whnf
  refine brT (decide_eq_true (by omega)) ?_
  conv => whnf
  refine brT (decide_eq_true (by omega)) ?_
  conv => whnf
  refine brT (beq_iff_eq.2 (by omega)) ?_
  conv => whnf
  refine brF (beq_eq_false_iff_ne.2 (by omega)) ?_
  conv => whnf
  refine ⟨_, w1, ?_⟩
  rintro _ _ ⟨rfl, rfl⟩
  conv => whnf
  refine ⟨_, w2, ?_⟩
  rintro _ _ ⟨rfl, rfl⟩
  conv => whnf
  refine ⟨_, w3, ?_⟩
  rintro _ _ ⟨rfl, rfl⟩
  conv => whnf
  refine ⟨by decide, ?_⟩
  conv => whnf
  refine ⟨by decide, ?_⟩
  conv => whnf
  refine .inl ⟨fun k l S => ∃ j : Nat, j ≤ 3 ∧ k = 3 - j ∧ l = [(0, st s), (1, i64 x), (7, i64 3), (10, i64 (acc s i (c % 8) j)), (11, i64 ((j : Int) + 1))] ∧ S = [],
    ⟨_, _, ⟨0, by omega, rfl, rfl, rfl⟩, ⟨rfl, rfl, rfl, congrArg (fun z => some (i64 z)) (show (IntKind.i64.wrap c).tmod 8 = acc s i (c % 8) 0 by rw [w64 (by omega), Int.tmod_eq_emod_of_nonneg (by omega)]; rfl), rfl, trivial⟩⟩, ?_⟩
  rintro _ _ _ ⟨j, hj, rfl, rfl, rfl⟩
  conv => whnf
  refine brec (fun h1 => ?_) (fun h1 => ?_)
  · have h1 := of_decide_eq_true h1
    have e1 : IntKind.i64.wrap (x + ((j : Int) + 1)) = ((i + (j + 1) : Nat) : Int) := by rw [w64 (by omega)]; omega
    conv => whnf
    refine ⟨⟨by rw [e1]; omega, by rw [e1]; show ((i + (j + 1) : Nat) : Int) < (s.size : Int); omega⟩, ?_⟩
    rw [e1]
    conv => whnf
    refine ⟨by decide, ?_⟩
    conv => whnf
    exact ⟨_, _, 0, (by omega : 3 - (j + 1) < 3 - j), ⟨j + 1, by omega, rfl, rfl, rfl⟩,
      ⟨rfl, rfl, rfl, congrArg (fun z => some (i64 z)) (accStep (hac j (by omega)).1 ((hac j (by omega)).2.2 (by omega))), congrArg (fun z => some (i64 z)) (by rw [w64 (by omega)]; omega), trivial⟩, rfl⟩
  · have h1 := of_decide_eq_false h1
    obtain rfl : j = 3 := by omega
    conv => whnf
    exact ⟨rfl, rfl⟩

set_option maxHeartbeats 4000000 in
theorem one_F4_0 {s : ByteArray} {x : Int} {i : Nat} (hx : x = (i : Int)) (hi : i < s.size) (hm : s.size < 1000000000) (hc : byteAt s i = 244)
    (g1 : win s (i + 1) 128 143 = false) :
    CallR cx 33 [st s, i64 x] [] fun r S => r = .tup [i64 (byteAt s i + 2000000), i64 1] ∧ S = [] := by
  have e0 : x.toNat = i := by omega
  have hr := byteAt_range s i
  have w1 := within_c (s := s) (x := IntKind.i64.wrap (x + 1)) (lo := 128) (hi := 143) (k := i + 1) (by rw [w64 (by omega)]; omega)
  rw [g1] at w1
  refine callR_of (R := R1) cx_ok Tryd.func33 (by kernel_rfl) rfl ?_
  conv => whnf
  refine ⟨⟨by omega, by show x < (s.size : Int); omega⟩, ?_⟩
  rw [e0]
  generalize hb : byteAt s i = c at *
  conv => whnf
  refine brF (decide_eq_false (by omega)) ?_
  conv => whnf
  refine brT (decide_eq_true (by omega)) ?_
  conv => whnf
  refine brF (decide_eq_false (by omega)) ?_
  conv => whnf
  refine brT (decide_eq_true (by omega)) ?_
  conv => whnf
  refine brF (decide_eq_false (by omega)) ?_
  conv => whnf
  refine brT (decide_eq_true (by omega)) ?_
  conv => whnf
  refine brT (decide_eq_true (by omega)) ?_
  conv => whnf
  refine brF (beq_eq_false_iff_ne.2 (by omega)) ?_
  conv => whnf
  refine brT (beq_iff_eq.2 (by omega)) ?_
  conv => whnf
  refine ⟨_, w1, ?_⟩
  rintro _ _ ⟨rfl, rfl⟩
  conv => whnf
  exact ⟨tupI (by rw [w64 (n := c) (by omega), w64 (by omega)]) rfl, rfl⟩

set_option maxHeartbeats 4000000 in
theorem one_F4_1 {s : ByteArray} {x : Int} {i : Nat} (hx : x = (i : Int)) (hi : i < s.size) (hm : s.size < 1000000000) (hc : byteAt s i = 244)
    (g1 : win s (i + 1) 128 143 = true)
    (g2 : win s (i + 2) 128 191 = false) :
    CallR cx 33 [st s, i64 x] [] fun r S => r = .tup [i64 (byteAt s i + 2000000), i64 1] ∧ S = [] := by
  have e0 : x.toNat = i := by omega
  have hr := byteAt_range s i
  have w1 := within_c (s := s) (x := IntKind.i64.wrap (x + 1)) (lo := 128) (hi := 143) (k := i + 1) (by rw [w64 (by omega)]; omega)
  rw [g1] at w1
  have w2 := within_c (s := s) (x := IntKind.i64.wrap (x + 2)) (lo := 128) (hi := 191) (k := i + 2) (by rw [w64 (by omega)]; omega)
  rw [g2] at w2
  refine callR_of (R := R1) cx_ok Tryd.func33 (by kernel_rfl) rfl ?_
  conv => whnf
  refine ⟨⟨by omega, by show x < (s.size : Int); omega⟩, ?_⟩
  rw [e0]
  generalize hb : byteAt s i = c at *
  conv => whnf
  refine brF (decide_eq_false (by omega)) ?_
  conv => whnf
  refine brT (decide_eq_true (by omega)) ?_
  conv => whnf
  refine brF (decide_eq_false (by omega)) ?_
  conv => whnf
  refine brT (decide_eq_true (by omega)) ?_
  conv => whnf
  refine brF (decide_eq_false (by omega)) ?_
  conv => whnf
  refine brT (decide_eq_true (by omega)) ?_
  conv => whnf
  refine brT (decide_eq_true (by omega)) ?_
  conv => whnf
  refine brF (beq_eq_false_iff_ne.2 (by omega)) ?_
  conv => whnf
  refine brT (beq_iff_eq.2 (by omega)) ?_
  conv => whnf
  refine ⟨_, w1, ?_⟩
  rintro _ _ ⟨rfl, rfl⟩
  conv => whnf
  refine ⟨_, w2, ?_⟩
  rintro _ _ ⟨rfl, rfl⟩
  conv => whnf
  exact ⟨tupI (by rw [w64 (n := c) (by omega), w64 (by omega)]) rfl, rfl⟩

set_option maxHeartbeats 4000000 in
theorem one_F4_2 {s : ByteArray} {x : Int} {i : Nat} (hx : x = (i : Int)) (hi : i < s.size) (hm : s.size < 1000000000) (hc : byteAt s i = 244)
    (g1 : win s (i + 1) 128 143 = true)
    (g2 : win s (i + 2) 128 191 = true)
    (g3 : win s (i + 3) 128 191 = false) :
    CallR cx 33 [st s, i64 x] [] fun r S => r = .tup [i64 (byteAt s i + 2000000), i64 1] ∧ S = [] := by
  have e0 : x.toNat = i := by omega
  have hr := byteAt_range s i
  have w1 := within_c (s := s) (x := IntKind.i64.wrap (x + 1)) (lo := 128) (hi := 143) (k := i + 1) (by rw [w64 (by omega)]; omega)
  rw [g1] at w1
  have w2 := within_c (s := s) (x := IntKind.i64.wrap (x + 2)) (lo := 128) (hi := 191) (k := i + 2) (by rw [w64 (by omega)]; omega)
  rw [g2] at w2
  have w3 := within_c (s := s) (x := IntKind.i64.wrap (x + 3)) (lo := 128) (hi := 191) (k := i + 3) (by rw [w64 (by omega)]; omega)
  rw [g3] at w3
  refine callR_of (R := R1) cx_ok Tryd.func33 (by kernel_rfl) rfl ?_
  conv => whnf
  refine ⟨⟨by omega, by show x < (s.size : Int); omega⟩, ?_⟩
  rw [e0]
  generalize hb : byteAt s i = c at *
  conv => whnf
  refine brF (decide_eq_false (by omega)) ?_
  conv => whnf
  refine brT (decide_eq_true (by omega)) ?_
  conv => whnf
  refine brF (decide_eq_false (by omega)) ?_
  conv => whnf
  refine brT (decide_eq_true (by omega)) ?_
  conv => whnf
  refine brF (decide_eq_false (by omega)) ?_
  conv => whnf
  refine brT (decide_eq_true (by omega)) ?_
  conv => whnf
  refine brT (decide_eq_true (by omega)) ?_
  conv => whnf
  refine brF (beq_eq_false_iff_ne.2 (by omega)) ?_
  conv => whnf
  refine brT (beq_iff_eq.2 (by omega)) ?_
  conv => whnf
  refine ⟨_, w1, ?_⟩
  rintro _ _ ⟨rfl, rfl⟩
  conv => whnf
  refine ⟨_, w2, ?_⟩
  rintro _ _ ⟨rfl, rfl⟩
  conv => whnf
  refine ⟨_, w3, ?_⟩
  rintro _ _ ⟨rfl, rfl⟩
  conv => whnf
  exact ⟨tupI (by rw [w64 (n := c) (by omega), w64 (by omega)]) rfl, rfl⟩

set_option maxHeartbeats 4000000 in
theorem one_F4_3 {s : ByteArray} {x : Int} {i : Nat} (hx : x = (i : Int)) (hi : i < s.size) (hm : s.size < 1000000000) (hc : byteAt s i = 244)
    (g1 : win s (i + 1) 128 143 = true)
    (g2 : win s (i + 2) 128 191 = true)
    (g3 : win s (i + 3) 128 191 = true) :
    CallR cx 33 [st s, i64 x] [] fun r S => r = .tup [i64 (acc s i (byteAt s i % 8) 3), i64 4] ∧ S = [] := by
  have e0 : x.toNat = i := by omega
  have hr := byteAt_range s i
  have w1 := within_c (s := s) (x := IntKind.i64.wrap (x + 1)) (lo := 128) (hi := 143) (k := i + 1) (by rw [w64 (by omega)]; omega)
  rw [g1] at w1
  have w2 := within_c (s := s) (x := IntKind.i64.wrap (x + 2)) (lo := 128) (hi := 191) (k := i + 2) (by rw [w64 (by omega)]; omega)
  rw [g2] at w2
  have w3 := within_c (s := s) (x := IntKind.i64.wrap (x + 3)) (lo := 128) (hi := 191) (k := i + 3) (by rw [w64 (by omega)]; omega)
  rw [g3] at w3
  have hlt : i + 3 < s.size := win_lt g3
  have hac := fun j hj => acc_range (s := s) (i := i) (n0 := byteAt s i % 8) (by omega) j hj
  refine callR_of (R := R1) cx_ok Tryd.func33 (by kernel_rfl) rfl ?_
  conv => whnf
  refine ⟨⟨by omega, by show x < (s.size : Int); omega⟩, ?_⟩
  rw [e0]
  generalize hb : byteAt s i = c at *
  conv => whnf
  refine brF (decide_eq_false (by omega)) ?_
  conv => whnf
  refine brT (decide_eq_true (by omega)) ?_
  conv => whnf
  refine brF (decide_eq_false (by omega)) ?_
  conv => whnf
  refine brT (decide_eq_true (by omega)) ?_
  conv => whnf
  refine brF (decide_eq_false (by omega)) ?_
  conv => whnf
  refine brT (decide_eq_true (by omega)) ?_
  conv => whnf
  refine brT (decide_eq_true (by omega)) ?_
  conv => whnf
  refine brF (beq_eq_false_iff_ne.2 (by omega)) ?_
  conv => whnf
  refine brT (beq_iff_eq.2 (by omega)) ?_
  conv => whnf
  refine ⟨_, w1, ?_⟩
  rintro _ _ ⟨rfl, rfl⟩
  conv => whnf
  refine ⟨_, w2, ?_⟩
  rintro _ _ ⟨rfl, rfl⟩
  conv => whnf
  refine ⟨_, w3, ?_⟩
  rintro _ _ ⟨rfl, rfl⟩
  conv => whnf
  refine ⟨by decide, ?_⟩
  conv => whnf
  refine ⟨by decide, ?_⟩
  conv => whnf
  refine .inl ⟨fun k l S => ∃ j : Nat, j ≤ 3 ∧ k = 3 - j ∧ l = [(0, st s), (1, i64 x), (7, i64 3), (10, i64 (acc s i (c % 8) j)), (11, i64 ((j : Int) + 1))] ∧ S = [],
    ⟨_, _, ⟨0, by omega, rfl, rfl, rfl⟩, ⟨rfl, rfl, rfl, congrArg (fun z => some (i64 z)) (show (IntKind.i64.wrap c).tmod 8 = acc s i (c % 8) 0 by rw [w64 (by omega), Int.tmod_eq_emod_of_nonneg (by omega)]; rfl), rfl, trivial⟩⟩, ?_⟩
  rintro _ _ _ ⟨j, hj, rfl, rfl, rfl⟩
  conv => whnf
  refine brec (fun h1 => ?_) (fun h1 => ?_)
  · have h1 := of_decide_eq_true h1
    have e1 : IntKind.i64.wrap (x + ((j : Int) + 1)) = ((i + (j + 1) : Nat) : Int) := by rw [w64 (by omega)]; omega
    conv => whnf
    refine ⟨⟨by rw [e1]; omega, by rw [e1]; show ((i + (j + 1) : Nat) : Int) < (s.size : Int); omega⟩, ?_⟩
    rw [e1]
    conv => whnf
    refine ⟨by decide, ?_⟩
    conv => whnf
    exact ⟨_, _, 0, (by omega : 3 - (j + 1) < 3 - j), ⟨j + 1, by omega, rfl, rfl, rfl⟩,
      ⟨rfl, rfl, rfl, congrArg (fun z => some (i64 z)) (accStep (hac j (by omega)).1 ((hac j (by omega)).2.2 (by omega))), congrArg (fun z => some (i64 z)) (by rw [w64 (by omega)]; omega), trivial⟩, rfl⟩
  · have h1 := of_decide_eq_false h1
    obtain rfl : j = 3 := by omega
    conv => whnf
    exact ⟨rfl, rfl⟩

set_option maxHeartbeats 4000000 in
theorem one_FF_0 {s : ByteArray} {x : Int} {i : Nat} (hx : x = (i : Int)) (hi : i < s.size) (hm : s.size < 1000000000) (hc : 241 ≤ byteAt s i ∧ byteAt s i ≤ 243)
    (g1 : win s (i + 1) 128 191 = false) :
    CallR cx 33 [st s, i64 x] [] fun r S => r = .tup [i64 (byteAt s i + 2000000), i64 1] ∧ S = [] := by
  have e0 : x.toNat = i := by omega
  have hr := byteAt_range s i
  have w1 := within_c (s := s) (x := IntKind.i64.wrap (x + 1)) (lo := 128) (hi := 191) (k := i + 1) (by rw [w64 (by omega)]; omega)
  rw [g1] at w1
  refine callR_of (R := R1) cx_ok Tryd.func33 (by kernel_rfl) rfl ?_
  conv => whnf
  refine ⟨⟨by omega, by show x < (s.size : Int); omega⟩, ?_⟩
  rw [e0]
  generalize hb : byteAt s i = c at *
  conv => whnf
  refine brF (decide_eq_false (by omega)) ?_
  conv => whnf
  refine brT (decide_eq_true (by omega)) ?_
  conv => whnf
  refine brF (decide_eq_false (by omega)) ?_
  conv => whnf
  refine brT (decide_eq_true (by omega)) ?_
  conv => whnf
  refine brF (decide_eq_false (by omega)) ?_
  conv => whnf
  refine brT (decide_eq_true (by omega)) ?_
  conv => whnf
  refine brT (decide_eq_true (by omega)) ?_
  conv => whnf
  refine brF (beq_eq_false_iff_ne.2 (by omega)) ?_
  conv => whnf
  refine brF (beq_eq_false_iff_ne.2 (by omega)) ?_
  conv => whnf
  refine ⟨_, w1, ?_⟩
  rintro _ _ ⟨rfl, rfl⟩
  conv => whnf
  exact ⟨tupI (by rw [w64 (n := c) (by omega), w64 (by omega)]) rfl, rfl⟩

set_option maxHeartbeats 4000000 in
theorem one_FF_1 {s : ByteArray} {x : Int} {i : Nat} (hx : x = (i : Int)) (hi : i < s.size) (hm : s.size < 1000000000) (hc : 241 ≤ byteAt s i ∧ byteAt s i ≤ 243)
    (g1 : win s (i + 1) 128 191 = true)
    (g2 : win s (i + 2) 128 191 = false) :
    CallR cx 33 [st s, i64 x] [] fun r S => r = .tup [i64 (byteAt s i + 2000000), i64 1] ∧ S = [] := by
  have e0 : x.toNat = i := by omega
  have hr := byteAt_range s i
  have w1 := within_c (s := s) (x := IntKind.i64.wrap (x + 1)) (lo := 128) (hi := 191) (k := i + 1) (by rw [w64 (by omega)]; omega)
  rw [g1] at w1
  have w2 := within_c (s := s) (x := IntKind.i64.wrap (x + 2)) (lo := 128) (hi := 191) (k := i + 2) (by rw [w64 (by omega)]; omega)
  rw [g2] at w2
  refine callR_of (R := R1) cx_ok Tryd.func33 (by kernel_rfl) rfl ?_
  conv => whnf
  refine ⟨⟨by omega, by show x < (s.size : Int); omega⟩, ?_⟩
  rw [e0]
  generalize hb : byteAt s i = c at *
  conv => whnf
  refine brF (decide_eq_false (by omega)) ?_
  conv => whnf
  refine brT (decide_eq_true (by omega)) ?_
  conv => whnf
  refine brF (decide_eq_false (by omega)) ?_
  conv => whnf
  refine brT (decide_eq_true (by omega)) ?_
  conv => whnf
  refine brF (decide_eq_false (by omega)) ?_
  conv => whnf
  refine brT (decide_eq_true (by omega)) ?_
  conv => whnf
  refine brT (decide_eq_true (by omega)) ?_
  conv => whnf
  refine brF (beq_eq_false_iff_ne.2 (by omega)) ?_
  conv => whnf
  refine brF (beq_eq_false_iff_ne.2 (by omega)) ?_
  conv => whnf
  refine ⟨_, w1, ?_⟩
  rintro _ _ ⟨rfl, rfl⟩
  conv => whnf
  refine ⟨_, w2, ?_⟩
  rintro _ _ ⟨rfl, rfl⟩
  conv => whnf
  exact ⟨tupI (by rw [w64 (n := c) (by omega), w64 (by omega)]) rfl, rfl⟩

set_option maxHeartbeats 4000000 in
theorem one_FF_2 {s : ByteArray} {x : Int} {i : Nat} (hx : x = (i : Int)) (hi : i < s.size) (hm : s.size < 1000000000) (hc : 241 ≤ byteAt s i ∧ byteAt s i ≤ 243)
    (g1 : win s (i + 1) 128 191 = true)
    (g2 : win s (i + 2) 128 191 = true)
    (g3 : win s (i + 3) 128 191 = false) :
    CallR cx 33 [st s, i64 x] [] fun r S => r = .tup [i64 (byteAt s i + 2000000), i64 1] ∧ S = [] := by
  have e0 : x.toNat = i := by omega
  have hr := byteAt_range s i
  have w1 := within_c (s := s) (x := IntKind.i64.wrap (x + 1)) (lo := 128) (hi := 191) (k := i + 1) (by rw [w64 (by omega)]; omega)
  rw [g1] at w1
  have w2 := within_c (s := s) (x := IntKind.i64.wrap (x + 2)) (lo := 128) (hi := 191) (k := i + 2) (by rw [w64 (by omega)]; omega)
  rw [g2] at w2
  have w3 := within_c (s := s) (x := IntKind.i64.wrap (x + 3)) (lo := 128) (hi := 191) (k := i + 3) (by rw [w64 (by omega)]; omega)
  rw [g3] at w3
  refine callR_of (R := R1) cx_ok Tryd.func33 (by kernel_rfl) rfl ?_
  conv => whnf
  refine ⟨⟨by omega, by show x < (s.size : Int); omega⟩, ?_⟩
  rw [e0]
  generalize hb : byteAt s i = c at *
  conv => whnf
  refine brF (decide_eq_false (by omega)) ?_
  conv => whnf
  refine brT (decide_eq_true (by omega)) ?_
  conv => whnf
  refine brF (decide_eq_false (by omega)) ?_
  conv => whnf
  refine brT (decide_eq_true (by omega)) ?_
  conv => whnf
  refine brF (decide_eq_false (by omega)) ?_
  conv => whnf
  refine brT (decide_eq_true (by omega)) ?_
  conv => whnf
  refine brT (decide_eq_true (by omega)) ?_
  conv => whnf
  refine brF (beq_eq_false_iff_ne.2 (by omega)) ?_
  conv => whnf
  refine brF (beq_eq_false_iff_ne.2 (by omega)) ?_
  conv => whnf
  refine ⟨_, w1, ?_⟩
  rintro _ _ ⟨rfl, rfl⟩
  conv => whnf
  refine ⟨_, w2, ?_⟩
  rintro _ _ ⟨rfl, rfl⟩
  conv => whnf
  refine ⟨_, w3, ?_⟩
  rintro _ _ ⟨rfl, rfl⟩
  conv => whnf
  exact ⟨tupI (by rw [w64 (n := c) (by omega), w64 (by omega)]) rfl, rfl⟩

set_option maxHeartbeats 4000000 in
theorem one_FF_3 {s : ByteArray} {x : Int} {i : Nat} (hx : x = (i : Int)) (hi : i < s.size) (hm : s.size < 1000000000) (hc : 241 ≤ byteAt s i ∧ byteAt s i ≤ 243)
    (g1 : win s (i + 1) 128 191 = true)
    (g2 : win s (i + 2) 128 191 = true)
    (g3 : win s (i + 3) 128 191 = true) :
    CallR cx 33 [st s, i64 x] [] fun r S => r = .tup [i64 (acc s i (byteAt s i % 8) 3), i64 4] ∧ S = [] := by
  have e0 : x.toNat = i := by omega
  have hr := byteAt_range s i
  have w1 := within_c (s := s) (x := IntKind.i64.wrap (x + 1)) (lo := 128) (hi := 191) (k := i + 1) (by rw [w64 (by omega)]; omega)
  rw [g1] at w1
  have w2 := within_c (s := s) (x := IntKind.i64.wrap (x + 2)) (lo := 128) (hi := 191) (k := i + 2) (by rw [w64 (by omega)]; omega)
  rw [g2] at w2
  have w3 := within_c (s := s) (x := IntKind.i64.wrap (x + 3)) (lo := 128) (hi := 191) (k := i + 3) (by rw [w64 (by omega)]; omega)
  rw [g3] at w3
  have hlt : i + 3 < s.size := win_lt g3
  have hac := fun j hj => acc_range (s := s) (i := i) (n0 := byteAt s i % 8) (by omega) j hj
  refine callR_of (R := R1) cx_ok Tryd.func33 (by kernel_rfl) rfl ?_
  conv => whnf
  refine ⟨⟨by omega, by show x < (s.size : Int); omega⟩, ?_⟩
  rw [e0]
  generalize hb : byteAt s i = c at *
  conv => whnf
  refine brF (decide_eq_false (by omega)) ?_
  conv => whnf
  refine brT (decide_eq_true (by omega)) ?_
  conv => whnf
  refine brF (decide_eq_false (by omega)) ?_
  conv => whnf
  refine brT (decide_eq_true (by omega)) ?_
  conv => whnf
  refine brF (decide_eq_false (by omega)) ?_
  conv => whnf
  refine brT (decide_eq_true (by omega)) ?_
  conv => whnf
  refine brT (decide_eq_true (by omega)) ?_
  conv => whnf
  refine brF (beq_eq_false_iff_ne.2 (by omega)) ?_
  conv => whnf
  refine brF (beq_eq_false_iff_ne.2 (by omega)) ?_
  conv => whnf
  refine ⟨_, w1, ?_⟩
  rintro _ _ ⟨rfl, rfl⟩
  conv => whnf
  refine ⟨_, w2, ?_⟩
  rintro _ _ ⟨rfl, rfl⟩
  conv => whnf
  refine ⟨_, w3, ?_⟩
  rintro _ _ ⟨rfl, rfl⟩
  conv => whnf
  refine ⟨by decide, ?_⟩
  conv => whnf
  refine ⟨by decide, ?_⟩
  conv => whnf
  refine .inl ⟨fun k l S => ∃ j : Nat, j ≤ 3 ∧ k = 3 - j ∧ l = [(0, st s), (1, i64 x), (7, i64 3), (10, i64 (acc s i (c % 8) j)), (11, i64 ((j : Int) + 1))] ∧ S = [],
    ⟨_, _, ⟨0, by omega, rfl, rfl, rfl⟩, ⟨rfl, rfl, rfl, congrArg (fun z => some (i64 z)) (show (IntKind.i64.wrap c).tmod 8 = acc s i (c % 8) 0 by rw [w64 (by omega), Int.tmod_eq_emod_of_nonneg (by omega)]; rfl), rfl, trivial⟩⟩, ?_⟩
  rintro _ _ _ ⟨j, hj, rfl, rfl, rfl⟩
  conv => whnf
  refine brec (fun h1 => ?_) (fun h1 => ?_)
  · have h1 := of_decide_eq_true h1
    have e1 : IntKind.i64.wrap (x + ((j : Int) + 1)) = ((i + (j + 1) : Nat) : Int) := by rw [w64 (by omega)]; omega
    conv => whnf
    refine ⟨⟨by rw [e1]; omega, by rw [e1]; show ((i + (j + 1) : Nat) : Int) < (s.size : Int); omega⟩, ?_⟩
    rw [e1]
    conv => whnf
    refine ⟨by decide, ?_⟩
    conv => whnf
    exact ⟨_, _, 0, (by omega : 3 - (j + 1) < 3 - j), ⟨j + 1, by omega, rfl, rfl, rfl⟩,
      ⟨rfl, rfl, rfl, congrArg (fun z => some (i64 z)) (accStep (hac j (by omega)).1 ((hac j (by omega)).2.2 (by omega))), congrArg (fun z => some (i64 z)) (by rw [w64 (by omega)]; omega), trivial⟩, rfl⟩
  · have h1 := of_decide_eq_false h1
    obtain rfl : j = 3 := by omega
    conv => whnf
    exact ⟨rfl, rfl⟩
end Go.Proofs.YtefcpmnhhmpmnaaDoor
