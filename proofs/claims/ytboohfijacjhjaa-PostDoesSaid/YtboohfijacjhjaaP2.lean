/- What one statement needs of the texts, by slice.py. -/
import Derived.Test.YtboohfijacjhjaaP1

/- The document's rune at a place: 'One', by the classes of the first byte (printed by gen/one.py). -/
set_option linter.unusedVariables false
namespace Go.Proofs.Ytboohfijacjhjaa
open Go.Ab Go.RowKit

set_option maxHeartbeats 4000000 in
theorem one_A {s : ByteArray} {x : Int} {i : Nat} (hx : x = (i : Int)) (hi : i < s.size) (hm : s.size < 1000000000) (hc : byteAt s i < 128) :
    CallR cx 116 [st s, i64 x] [] fun r S => r = .tup [i64 (byteAt s i), i64 1] ∧ S = [] := by
  have e0 : x.toNat = i := by omega
  have hr := byteAt_range s i
  refine callR_of (R := R1) cx_ok Try.func116 (by kernel_rfl) rfl ?_
  conv => whnf
  refine ⟨⟨by omega, by show x < (s.size : Int); omega⟩, ?_⟩
  rw [e0]
  generalize hb : byteAt s i = c at *
  conv => whnf
  refine brT (decide_eq_true (by omega)) ?_
  conv => whnf
  exact ⟨tupI (w64 (by omega)) rfl, rfl⟩

set_option maxHeartbeats 4000000 in
theorem one_X1 {s : ByteArray} {x : Int} {i : Nat} (hx : x = (i : Int)) (hi : i < s.size) (hm : s.size < 1000000000) (hc : 128 ≤ byteAt s i ∧ byteAt s i ≤ 193) :
    CallR cx 116 [st s, i64 x] [] fun r S => r = .tup [i64 (byteAt s i + 2000000), i64 1] ∧ S = [] := by
  have e0 : x.toNat = i := by omega
  have hr := byteAt_range s i
  refine callR_of (R := R1) cx_ok Try.func116 (by kernel_rfl) rfl ?_
  conv => whnf
  refine ⟨⟨by omega, by show x < (s.size : Int); omega⟩, ?_⟩
  rw [e0]
  generalize hb : byteAt s i = c at *
  conv => whnf
  refine brF (decide_eq_false (by omega)) ?_
  conv => whnf
  refine brF (decide_eq_false (by omega)) ?_
  conv => whnf
  refine brF (decide_eq_false (by omega)) ?_
  conv => whnf
  refine brF (decide_eq_false (by omega)) ?_
  conv => whnf
  exact ⟨tupI (by rw [w64 (n := c) (by omega), w64 (by omega)]) rfl, rfl⟩

set_option maxHeartbeats 4000000 in
theorem one_X2 {s : ByteArray} {x : Int} {i : Nat} (hx : x = (i : Int)) (hi : i < s.size) (_hm : s.size < 1000000000) (hc : 245 ≤ byteAt s i) :
    CallR cx 116 [st s, i64 x] [] fun r S => r = .tup [i64 (byteAt s i + 2000000), i64 1] ∧ S = [] := by
  have e0 : x.toNat = i := by omega
  have hr := byteAt_range s i
  refine callR_of (R := R1) cx_ok Try.func116 (by kernel_rfl) rfl ?_
  conv => whnf
  refine ⟨⟨by omega, by show x < (s.size : Int); omega⟩, ?_⟩
  rw [e0]
  generalize hb : byteAt s i = c at *
  conv => whnf
  refine brF (decide_eq_false (by omega)) ?_
  conv => whnf
  refine brT (decide_eq_true (by omega)) ?_
  conv => whnf
  refine brF (decide_eq_false (by omega)) ?_
  conv => whnf
  refine brT (decide_eq_true (by omega)) ?_
  conv => whnf
  refine brF (decide_eq_false (by omega)) ?_
  conv => whnf
  refine brT (decide_eq_true (by omega)) ?_
  conv => whnf
  refine brF (decide_eq_false (by omega)) ?_
  conv => whnf
  exact ⟨tupI (by rw [w64 (n := c) (by omega), w64 (by omega)]) rfl, rfl⟩

set_option maxHeartbeats 4000000 in
theorem one_C2_0 {s : ByteArray} {x : Int} {i : Nat} (hx : x = (i : Int)) (hi : i < s.size) (hm : s.size < 1000000000) (hc : 194 ≤ byteAt s i ∧ byteAt s i ≤ 223)
    (g1 : win s (i + 1) 128 191 = false) :
    CallR cx 116 [st s, i64 x] [] fun r S => r = .tup [i64 (byteAt s i + 2000000), i64 1] ∧ S = [] := by
  have e0 : x.toNat = i := by omega
  have hr := byteAt_range s i
  have w1 := within_c (s := s) (x := IntKind.i64.wrap (x + 1)) (lo := 128) (hi := 191) (k := i + 1) (by rw [w64 (by omega)]; omega)
  rw [g1] at w1
  refine callR_of (R := R1) cx_ok Try.func116 (by kernel_rfl) rfl ?_
  conv => whnf
  refine ⟨⟨by omega, by show x < (s.size : Int); omega⟩, ?_⟩
  rw [e0]
  generalize hb : byteAt s i = c at *
  conv => whnf
  refine brF (decide_eq_false (by omega)) ?_
  conv => whnf
  refine brT (decide_eq_true (by omega)) ?_
  conv => whnf
  refine brT (decide_eq_true (by omega)) ?_
  conv => whnf
  refine ⟨_, w1, ?_⟩
  rintro _ _ ⟨rfl, rfl⟩
  conv => whnf
  exact ⟨tupI (by rw [w64 (n := c) (by omega), w64 (by omega)]) rfl, rfl⟩

set_option maxHeartbeats 4000000 in
theorem one_C2_1 {s : ByteArray} {x : Int} {i : Nat} (hx : x = (i : Int)) (hi : i < s.size) (hm : s.size < 1000000000) (hc : 194 ≤ byteAt s i ∧ byteAt s i ≤ 223)
    (g1 : win s (i + 1) 128 191 = true) :
    CallR cx 116 [st s, i64 x] [] fun r S => r = .tup [i64 (acc s i (byteAt s i % 32) 1), i64 2] ∧ S = [] := by
  have e0 : x.toNat = i := by omega
  have hr := byteAt_range s i
  have w1 := within_c (s := s) (x := IntKind.i64.wrap (x + 1)) (lo := 128) (hi := 191) (k := i + 1) (by rw [w64 (by omega)]; omega)
  rw [g1] at w1
  have hlt : i + 1 < s.size := win_lt g1
  have hac := fun j hj => acc_range (s := s) (i := i) (n0 := byteAt s i % 32) (by omega) j hj
  refine callR_of (R := R1) cx_ok Try.func116 (by kernel_rfl) rfl ?_
  conv => whnf
  refine ⟨⟨by omega, by show x < (s.size : Int); omega⟩, ?_⟩
  rw [e0]
  generalize hb : byteAt s i = c at *
  conv => whnf
  refine brF (decide_eq_false (by omega)) ?_
  conv => whnf
  refine brT (decide_eq_true (by omega)) ?_
  conv => whnf
  refine brT (decide_eq_true (by omega)) ?_
  conv => whnf
  refine ⟨_, w1, ?_⟩
  rintro _ _ ⟨rfl, rfl⟩
  conv => whnf
  refine ⟨by decide, ?_⟩
  conv => whnf
  refine .inl ⟨fun k l S => ∃ j : Nat, j ≤ 1 ∧ k = 1 - j ∧ l = [(0, st s), (1, i64 x), (7, i64 1), (10, i64 (acc s i (c % 32) j)), (11, i64 ((j : Int) + 1))] ∧ S = [],
    ⟨_, _, ⟨0, by omega, rfl, rfl, rfl⟩, ⟨rfl, rfl, rfl, congrArg (fun z => some (i64 z)) (show (IntKind.i64.wrap c).tmod 32 = acc s i (c % 32) 0 by rw [w64 (by omega), Int.tmod_eq_emod_of_nonneg (by omega)]; rfl), rfl, trivial⟩⟩, ?_⟩
  rintro _ _ _ ⟨j, hj, rfl, rfl, rfl⟩
  conv => whnf
  refine brec (fun h1 => ?_) (fun h1 => ?_)
  · have h1 := of_decide_eq_true h1
    have e1 : IntKind.i64.wrap (x + ((j : Int) + 1)) = ((i + (j + 1) : Nat) : Int) := by rw [w64 (by omega)]; omega
    conv => whnf
    refine ⟨⟨by rw [e1]; omega, by rw [e1]; show ((i + (j + 1) : Nat) : Int) < (s.size : Int); omega⟩, ?_⟩
    rw [e1]
    conv => whnf
    refine ⟨by decide, ?_⟩
    conv => whnf
    exact ⟨_, _, 0, (by omega : 1 - (j + 1) < 1 - j), ⟨j + 1, by omega, rfl, rfl, rfl⟩,
      ⟨rfl, rfl, rfl, congrArg (fun z => some (i64 z)) (accStep (hac j (by omega)).1 ((hac j (by omega)).2.2 (by omega))), congrArg (fun z => some (i64 z)) (by rw [w64 (by omega)]; omega), trivial⟩, rfl⟩
  · have h1 := of_decide_eq_false h1
    obtain rfl : j = 1 := by omega
    conv => whnf
    exact ⟨rfl, rfl⟩

set_option maxHeartbeats 4000000 in
theorem one_E0_0 {s : ByteArray} {x : Int} {i : Nat} (hx : x = (i : Int)) (hi : i < s.size) (hm : s.size < 1000000000) (hc : byteAt s i = 224)
    (g1 : win s (i + 1) 160 191 = false) :
    CallR cx 116 [st s, i64 x] [] fun r S => r = .tup [i64 (byteAt s i + 2000000), i64 1] ∧ S = [] := by
  have e0 : x.toNat = i := by omega
  have hr := byteAt_range s i
  have w1 := within_c (s := s) (x := IntKind.i64.wrap (x + 1)) (lo := 160) (hi := 191) (k := i + 1) (by rw [w64 (by omega)]; omega)
  rw [g1] at w1
  refine callR_of (R := R1) cx_ok Try.func116 (by kernel_rfl) rfl ?_
  conv => whnf
  refine ⟨⟨by omega, by show x < (s.size : Int); omega⟩, ?_⟩
  rw [e0]
  generalize hb : byteAt s i = c at *
  conv => whnf
  refine brF (decide_eq_false (by omega)) ?_
  conv => whnf
  refine brT (decide_eq_true (by omega)) ?_
  conv => whnf
  refine brF (decide_eq_false (by omega)) ?_
  conv => whnf
  refine brT (decide_eq_true (by omega)) ?_
  conv => whnf
  refine brT (decide_eq_true (by omega)) ?_
  conv => whnf
  refine brT (beq_iff_eq.2 (by omega)) ?_
  conv => whnf
  refine brF (beq_eq_false_iff_ne.2 (by omega)) ?_
  conv => whnf
  refine ⟨_, w1, ?_⟩
  rintro _ _ ⟨rfl, rfl⟩
  conv => whnf
  exact ⟨tupI (by rw [w64 (n := c) (by omega), w64 (by omega)]) rfl, rfl⟩

set_option maxHeartbeats 4000000 in
theorem one_E0_1 {s : ByteArray} {x : Int} {i : Nat} (hx : x = (i : Int)) (hi : i < s.size) (hm : s.size < 1000000000) (hc : byteAt s i = 224)
    (g1 : win s (i + 1) 160 191 = true)
    (g2 : win s (i + 2) 128 191 = false) :
    CallR cx 116 [st s, i64 x] [] fun r S => r = .tup [i64 (byteAt s i + 2000000), i64 1] ∧ S = [] := by
  have e0 : x.toNat = i := by omega
  have hr := byteAt_range s i
  have w1 := within_c (s := s) (x := IntKind.i64.wrap (x + 1)) (lo := 160) (hi := 191) (k := i + 1) (by rw [w64 (by omega)]; omega)
  rw [g1] at w1
  have w2 := within_c (s := s) (x := IntKind.i64.wrap (x + 2)) (lo := 128) (hi := 191) (k := i + 2) (by rw [w64 (by omega)]; omega)
  rw [g2] at w2
  refine callR_of (R := R1) cx_ok Try.func116 (by kernel_rfl) rfl ?_
  conv => whnf
  refine ⟨⟨by omega, by show x < (s.size : Int); omega⟩, ?_⟩
  rw [e0]
  generalize hb : byteAt s i = c at *
  conv => whnf
  refine brF (decide_eq_false (by omega)) ?_
  conv => whnf
  refine brT (decide_eq_true (by omega)) ?_
  conv => whnf
  refine brF (decide_eq_false (by omega)) ?_
  conv => whnf
  refine brT (decide_eq_true (by omega)) ?_
  conv => whnf
  refine brT (decide_eq_true (by omega)) ?_
  conv => whnf
  refine brT (beq_iff_eq.2 (by omega)) ?_
  conv => whnf
  refine brF (beq_eq_false_iff_ne.2 (by omega)) ?_
  conv => whnf
  refine ⟨_, w1, ?_⟩
  rintro _ _ ⟨rfl, rfl⟩
  conv => whnf
  refine ⟨_, w2, ?_⟩
  rintro _ _ ⟨rfl, rfl⟩
  conv => whnf
  exact ⟨tupI (by rw [w64 (n := c) (by omega), w64 (by omega)]) rfl, rfl⟩

set_option maxHeartbeats 4000000 in
theorem one_E0_2 {s : ByteArray} {x : Int} {i : Nat} (hx : x = (i : Int)) (hi : i < s.size) (hm : s.size < 1000000000) (hc : byteAt s i = 224)
    (g1 : win s (i + 1) 160 191 = true)
    (g2 : win s (i + 2) 128 191 = true) :
    CallR cx 116 [st s, i64 x] [] fun r S => r = .tup [i64 (acc s i (byteAt s i % 16) 2), i64 3] ∧ S = [] := by
  have e0 : x.toNat = i := by omega
  have hr := byteAt_range s i
  have w1 := within_c (s := s) (x := IntKind.i64.wrap (x + 1)) (lo := 160) (hi := 191) (k := i + 1) (by rw [w64 (by omega)]; omega)
  rw [g1] at w1
  have w2 := within_c (s := s) (x := IntKind.i64.wrap (x + 2)) (lo := 128) (hi := 191) (k := i + 2) (by rw [w64 (by omega)]; omega)
  rw [g2] at w2
  have hlt : i + 2 < s.size := win_lt g2
  have hac := fun j hj => acc_range (s := s) (i := i) (n0 := byteAt s i % 16) (by omega) j hj
  refine callR_of (R := R1) cx_ok Try.func116 (by kernel_rfl) rfl ?_
  conv => whnf
  refine ⟨⟨by omega, by show x < (s.size : Int); omega⟩, ?_⟩
  rw [e0]
  generalize hb : byteAt s i = c at *
  conv => whnf
  refine brF (decide_eq_false (by omega)) ?_
  conv => whnf
  refine brT (decide_eq_true (by omega)) ?_
  conv => whnf
  refine brF (decide_eq_false (by omega)) ?_
  conv => whnf
  refine brT (decide_eq_true (by omega)) ?_
  conv => whnf
  refine brT (decide_eq_true (by omega)) ?_
  conv => whnf
  refine brT (beq_iff_eq.2 (by omega)) ?_
  conv => whnf
  refine brF (beq_eq_false_iff_ne.2 (by omega)) ?_
  conv => whnf
  refine ⟨_, w1, ?_⟩
  rintro _ _ ⟨rfl, rfl⟩
  conv => whnf
  refine ⟨_, w2, ?_⟩
  rintro _ _ ⟨rfl, rfl⟩
  conv => whnf
  refine ⟨by decide, ?_⟩
  conv => whnf
  refine ⟨by decide, ?_⟩
  conv => whnf
  refine .inl ⟨fun k l S => ∃ j : Nat, j ≤ 2 ∧ k = 2 - j ∧ l = [(0, st s), (1, i64 x), (7, i64 2), (10, i64 (acc s i (c % 16) j)), (11, i64 ((j : Int) + 1))] ∧ S = [],
    ⟨_, _, ⟨0, by omega, rfl, rfl, rfl⟩, ⟨rfl, rfl, rfl, congrArg (fun z => some (i64 z)) (show (IntKind.i64.wrap c).tmod 16 = acc s i (c % 16) 0 by rw [w64 (by omega), Int.tmod_eq_emod_of_nonneg (by omega)]; rfl), rfl, trivial⟩⟩, ?_⟩
  rintro _ _ _ ⟨j, hj, rfl, rfl, rfl⟩
  conv => whnf
  refine brec (fun h1 => ?_) (fun h1 => ?_)
  · have h1 := of_decide_eq_true h1
    have e1 : IntKind.i64.wrap (x + ((j : Int) + 1)) = ((i + (j + 1) : Nat) : Int) := by rw [w64 (by omega)]; omega
    conv => whnf
    refine ⟨⟨by rw [e1]; omega, by rw [e1]; show ((i + (j + 1) : Nat) : Int) < (s.size : Int); omega⟩, ?_⟩
    rw [e1]
    conv => whnf
    refine ⟨by decide, ?_⟩
    conv => whnf
    exact ⟨_, _, 0, (by omega : 2 - (j + 1) < 2 - j), ⟨j + 1, by omega, rfl, rfl, rfl⟩,
      ⟨rfl, rfl, rfl, congrArg (fun z => some (i64 z)) (accStep (hac j (by omega)).1 ((hac j (by omega)).2.2 (by omega))), congrArg (fun z => some (i64 z)) (by rw [w64 (by omega)]; omega), trivial⟩, rfl⟩
  · have h1 := of_decide_eq_false h1
    obtain rfl : j = 2 := by omega
    conv => whnf
    exact ⟨rfl, rfl⟩

set_option maxHeartbeats 4000000 in
theorem one_ED_0 {s : ByteArray} {x : Int} {i : Nat} (hx : x = (i : Int)) (hi : i < s.size) (hm : s.size < 1000000000) (hc : byteAt s i = 237)
    (g1 : win s (i + 1) 128 159 = false) :
    CallR cx 116 [st s, i64 x] [] fun r S => r = .tup [i64 (byteAt s i + 2000000), i64 1] ∧ S = [] := by
  have e0 : x.toNat = i := by omega
  have hr := byteAt_range s i
  have w1 := within_c (s := s) (x := IntKind.i64.wrap (x + 1)) (lo := 128) (hi := 159) (k := i + 1) (by rw [w64 (by omega)]; omega)
  rw [g1] at w1
  refine callR_of (R := R1) cx_ok Try.func116 (by kernel_rfl) rfl ?_
  conv => whnf
  refine ⟨⟨by omega, by show x < (s.size : Int); omega⟩, ?_⟩
  rw [e0]
  generalize hb : byteAt s i = c at *
  conv => whnf
  refine brF (decide_eq_false (by omega)) ?_
  conv => whnf
  refine brT (decide_eq_true (by omega)) ?_
  conv => whnf
  refine brF (decide_eq_false (by omega)) ?_
  conv => whnf
  refine brT (decide_eq_true (by omega)) ?_
  conv => whnf
  refine brT (decide_eq_true (by omega)) ?_
  conv => whnf
  refine brF (beq_eq_false_iff_ne.2 (by omega)) ?_
  conv => whnf
  refine brT (beq_iff_eq.2 (by omega)) ?_
  conv => whnf
  refine ⟨_, w1, ?_⟩
  rintro _ _ ⟨rfl, rfl⟩
  conv => whnf
  exact ⟨tupI (by rw [w64 (n := c) (by omega), w64 (by omega)]) rfl, rfl⟩

set_option maxHeartbeats 4000000 in
theorem one_ED_1 {s : ByteArray} {x : Int} {i : Nat} (hx : x = (i : Int)) (hi : i < s.size) (hm : s.size < 1000000000) (hc : byteAt s i = 237)
    (g1 : win s (i + 1) 128 159 = true)
    (g2 : win s (i + 2) 128 191 = false) :
    CallR cx 116 [st s, i64 x] [] fun r S => r = .tup [i64 (byteAt s i + 2000000), i64 1] ∧ S = [] := by
  have e0 : x.toNat = i := by omega
  have hr := byteAt_range s i
  have w1 := within_c (s := s) (x := IntKind.i64.wrap (x + 1)) (lo := 128) (hi := 159) (k := i + 1) (by rw [w64 (by omega)]; omega)
  rw [g1] at w1
  have w2 := within_c (s := s) (x := IntKind.i64.wrap (x + 2)) (lo := 128) (hi := 191) (k := i + 2) (by rw [w64 (by omega)]; omega)
  rw [g2] at w2
  refine callR_of (R := R1) cx_ok Try.func116 (by kernel_rfl) rfl ?_
  conv => whnf
  refine ⟨⟨by omega, by show x < (s.size : Int); omega⟩, ?_⟩
  rw [e0]
  generalize hb : byteAt s i = c at *
  conv => whnf
  refine brF (decide_eq_false (by omega)) ?_
  conv => whnf
  refine brT (decide_eq_true (by omega)) ?_
  conv => whnf
  refine brF (decide_eq_false (by omega)) ?_
  conv => whnf
  refine brT (decide_eq_true (by omega)) ?_
  conv => whnf
  refine brT (decide_eq_true (by omega)) ?_
  conv => whnf
  refine brF (beq_eq_false_iff_ne.2 (by omega)) ?_
  conv => whnf
  refine brT (beq_iff_eq.2 (by omega)) ?_
  conv => whnf
  refine ⟨_, w1, ?_⟩
  rintro _ _ ⟨rfl, rfl⟩
  conv => whnf
  refine ⟨_, w2, ?_⟩
  rintro _ _ ⟨rfl, rfl⟩
  conv => whnf
  exact ⟨tupI (by rw [w64 (n := c) (by omega), w64 (by omega)]) rfl, rfl⟩

set_option maxHeartbeats 4000000 in
theorem one_ED_2 {s : ByteArray} {x : Int} {i : Nat} (hx : x = (i : Int)) (hi : i < s.size) (hm : s.size < 1000000000) (hc : byteAt s i = 237)
    (g1 : win s (i + 1) 128 159 = true)
    (g2 : win s (i + 2) 128 191 = true) :
    CallR cx 116 [st s, i64 x] [] fun r S => r = .tup [i64 (acc s i (byteAt s i % 16) 2), i64 3] ∧ S = [] := by
  have e0 : x.toNat = i := by omega
  have hr := byteAt_range s i
  have w1 := within_c (s := s) (x := IntKind.i64.wrap (x + 1)) (lo := 128) (hi := 159) (k := i + 1) (by rw [w64 (by omega)]; omega)
  rw [g1] at w1
  have w2 := within_c (s := s) (x := IntKind.i64.wrap (x + 2)) (lo := 128) (hi := 191) (k := i + 2) (by rw [w64 (by omega)]; omega)
  rw [g2] at w2
  have hlt : i + 2 < s.size := win_lt g2
  have hac := fun j hj => acc_range (s := s) (i := i) (n0 := byteAt s i % 16) (by omega) j hj
  refine callR_of (R := R1) cx_ok Try.func116 (by kernel_rfl) rfl ?_
  conv => whnf
  refine ⟨⟨by omega, by show x < (s.size : Int); omega⟩, ?_⟩
  rw [e0]
  generalize hb : byteAt s i = c at *
  conv => whnf
  refine brF (decide_eq_false (by omega)) ?_
  conv => whnf
  refine brT (decide_eq_true (by omega)) ?_
  conv => whnf
  refine brF (decide_eq_false (by omega)) ?_
  conv => whnf
  refine brT (decide_eq_true (by omega)) ?_
  conv => whnf
  refine brT (decide_eq_true (by omega)) ?_
  conv => whnf
  refine brF (beq_eq_false_iff_ne.2 (by omega)) ?_
  conv => whnf
  refine brT (beq_iff_eq.2 (by omega)) ?_
  conv => whnf
  refine ⟨_, w1, ?_⟩
  rintro _ _ ⟨rfl, rfl⟩
  conv => whnf
  refine ⟨_, w2, ?_⟩
  rintro _ _ ⟨rfl, rfl⟩
  conv => whnf
  refine ⟨by decide, ?_⟩
  conv => whnf
  refine ⟨by decide, ?_⟩
  conv => whnf
  refine .inl ⟨fun k l S => ∃ j : Nat, j ≤ 2 ∧ k = 2 - j ∧ l = [(0, st s), (1, i64 x), (7, i64 2), (10, i64 (acc s i (c % 16) j)), (11, i64 ((j : Int) + 1))] ∧ S = [],
    ⟨_, _, ⟨0, by omega, rfl, rfl, rfl⟩, ⟨rfl, rfl, rfl, congrArg (fun z => some (i64 z)) (show (IntKind.i64.wrap c).tmod 16 = acc s i (c % 16) 0 by rw [w64 (by omega), Int.tmod_eq_emod_of_nonneg (by omega)]; rfl), rfl, trivial⟩⟩, ?_⟩
  rintro _ _ _ ⟨j, hj, rfl, rfl, rfl⟩
  conv => whnf
  refine brec (fun h1 => ?_) (fun h1 => ?_)
  · have h1 := of_decide_eq_true h1
    have e1 : IntKind.i64.wrap (x + ((j : Int) + 1)) = ((i + (j + 1) : Nat) : Int) := by rw [w64 (by omega)]; omega
    conv => whnf
    refine ⟨⟨by rw [e1]; omega, by rw [e1]; show ((i + (j + 1) : Nat) : Int) < (s.size : Int); omega⟩, ?_⟩
    rw [e1]
    conv => whnf
    refine ⟨by decide, ?_⟩
    conv => whnf
    exact ⟨_, _, 0, (by omega : 2 - (j + 1) < 2 - j), ⟨j + 1, by omega, rfl, rfl, rfl⟩,
      ⟨rfl, rfl, rfl, congrArg (fun z => some (i64 z)) (accStep (hac j (by omega)).1 ((hac j (by omega)).2.2 (by omega))), congrArg (fun z => some (i64 z)) (by rw [w64 (by omega)]; omega), trivial⟩, rfl⟩
  · have h1 := of_decide_eq_false h1
    obtain rfl : j = 2 := by omega
    conv => whnf
    exact ⟨rfl, rfl⟩

set_option maxHeartbeats 4000000 in
theorem one_EE_0 {s : ByteArray} {x : Int} {i : Nat} (hx : x = (i : Int)) (hi : i < s.size) (hm : s.size < 1000000000) (hc : (225 ≤ byteAt s i ∧ byteAt s i ≤ 236) ∨ (238 ≤ byteAt s i ∧ byteAt s i ≤ 239))
    (g1 : win s (i + 1) 128 191 = false) :
    CallR cx 116 [st s, i64 x] [] fun r S => r = .tup [i64 (byteAt s i + 2000000), i64 1] ∧ S = [] := by
  have e0 : x.toNat = i := by omega
  have hr := byteAt_range s i
  have w1 := within_c (s := s) (x := IntKind.i64.wrap (x + 1)) (lo := 128) (hi := 191) (k := i + 1) (by rw [w64 (by omega)]; omega)
  rw [g1] at w1
  refine callR_of (R := R1) cx_ok Try.func116 (by kernel_rfl) rfl ?_
  conv => whnf
  refine ⟨⟨by omega, by show x < (s.size : Int); omega⟩, ?_⟩
  rw [e0]
  generalize hb : byteAt s i = c at *
  conv => whnf
  refine brF (decide_eq_false (by omega)) ?_
  conv => whnf
  refine brT (decide_eq_true (by omega)) ?_
  conv => whnf
  refine brF (decide_eq_false (by omega)) ?_
  conv => whnf
  refine brT (decide_eq_true (by omega)) ?_
  conv => whnf
  refine brT (decide_eq_true (by omega)) ?_
  conv => whnf
  refine brF (beq_eq_false_iff_ne.2 (by omega)) ?_
  conv => whnf
  refine brF (beq_eq_false_iff_ne.2 (by omega)) ?_
  conv => whnf
  refine ⟨_, w1, ?_⟩
  rintro _ _ ⟨rfl, rfl⟩
  conv => whnf
  exact ⟨tupI (by rw [w64 (n := c) (by omega), w64 (by omega)]) rfl, rfl⟩

set_option maxHeartbeats 4000000 in
theorem one_EE_1 {s : ByteArray} {x : Int} {i : Nat} (hx : x = (i : Int)) (hi : i < s.size) (hm : s.size < 1000000000) (hc : (225 ≤ byteAt s i ∧ byteAt s i ≤ 236) ∨ (238 ≤ byteAt s i ∧ byteAt s i ≤ 239))
    (g1 : win s (i + 1) 128 191 = true)
    (g2 : win s (i + 2) 128 191 = false) :
    CallR cx 116 [st s, i64 x] [] fun r S => r = .tup [i64 (byteAt s i + 2000000), i64 1] ∧ S = [] := by
  have e0 : x.toNat = i := by omega
  have hr := byteAt_range s i
  have w1 := within_c (s := s) (x := IntKind.i64.wrap (x + 1)) (lo := 128) (hi := 191) (k := i + 1) (by rw [w64 (by omega)]; omega)
  rw [g1] at w1
  have w2 := within_c (s := s) (x := IntKind.i64.wrap (x + 2)) (lo := 128) (hi := 191) (k := i + 2) (by rw [w64 (by omega)]; omega)
  rw [g2] at w2
  refine callR_of (R := R1) cx_ok Try.func116 (by kernel_rfl) rfl ?_
  conv => whnf
  refine ⟨⟨by omega, by show x < (s.size : Int); omega⟩, ?_⟩
  rw [e0]
  generalize hb : byteAt s i = c at *
  conv => whnf
  refine brF (decide_eq_false (by omega)) ?_
  conv => whnf
  refine brT (decide_eq_true (by omega)) ?_
  conv => whnf
  refine brF (decide_eq_false (by omega)) ?_
  conv => whnf
  refine brT (decide_eq_true (by omega)) ?_
  conv => whnf
  refine brT (decide_eq_true (by omega)) ?_
  conv => whnf
  refine brF (beq_eq_false_iff_ne.2 (by omega)) ?_
  conv => whnf
  refine brF (beq_eq_false_iff_ne.2 (by omega)) ?_
  conv => whnf
  refine ⟨_, w1, ?_⟩
  rintro _ _ ⟨rfl, rfl⟩
  conv => whnf
  refine ⟨_, w2, ?_⟩
  rintro _ _ ⟨rfl, rfl⟩
  conv => whnf
  exact ⟨tupI (by rw [w64 (n := c) (by omega), w64 (by omega)]) rfl, rfl⟩

set_option maxHeartbeats 4000000 in
theorem one_EE_2 {s : ByteArray} {x : Int} {i : Nat} (hx : x = (i : Int)) (hi : i < s.size) (hm : s.size < 1000000000) (hc : (225 ≤ byteAt s i ∧ byteAt s i ≤ 236) ∨ (238 ≤ byteAt s i ∧ byteAt s i ≤ 239))
    (g1 : win s (i + 1) 128 191 = true)
    (g2 : win s (i + 2) 128 191 = true) :
    CallR cx 116 [st s, i64 x] [] fun r S => r = .tup [i64 (acc s i (byteAt s i % 16) 2), i64 3] ∧ S = [] := by
  have e0 : x.toNat = i := by omega
  have hr := byteAt_range s i
  have w1 := within_c (s := s) (x := IntKind.i64.wrap (x + 1)) (lo := 128) (hi := 191) (k := i + 1) (by rw [w64 (by omega)]; omega)
  rw [g1] at w1
  have w2 := within_c (s := s) (x := IntKind.i64.wrap (x + 2)) (lo := 128) (hi := 191) (k := i + 2) (by rw [w64 (by omega)]; omega)
  rw [g2] at w2
  have hlt : i + 2 < s.size := win_lt g2
  have hac := fun j hj => acc_range (s := s) (i := i) (n0 := byteAt s i % 16) (by omega) j hj
  refine callR_of (R := R1) cx_ok Try.func116 (by kernel_rfl) rfl ?_
  conv => whnf
  refine ⟨⟨by omega, by show x < (s.size : Int); omega⟩, ?_⟩
  rw [e0]
  generalize hb : byteAt s i = c at *
  conv => whnf
  refine brF (decide_eq_false (by omega)) ?_
  conv => whnf
  refine brT (decide_eq_true (by omega)) ?_
  conv => whnf
  refine brF (decide_eq_false (by omega)) ?_
  conv => whnf
  refine brT (decide_eq_true (by omega)) ?_
  conv => whnf
  refine brT (decide_eq_true (by omega)) ?_
  conv => whnf
  refine brF (beq_eq_false_iff_ne.2 (by omega)) ?_
  conv => whnf
  refine brF (beq_eq_false_iff_ne.2 (by omega)) ?_
  conv => whnf
  refine ⟨_, w1, ?_⟩
  rintro _ _ ⟨rfl, rfl⟩
  conv => whnf
  refine ⟨_, w2, ?_⟩
  rintro _ _ ⟨rfl, rfl⟩
  conv => whnf
  refine ⟨by decide, ?_⟩
  conv => whnf
  refine ⟨by decide, ?_⟩
  conv => whnf
  refine .inl ⟨fun k l S => ∃ j : Nat, j ≤ 2 ∧ k = 2 - j ∧ l = [(0, st s), (1, i64 x), (7, i64 2), (10, i64 (acc s i (c % 16) j)), (11, i64 ((j : Int) + 1))] ∧ S = [],
    ⟨_, _, ⟨0, by omega, rfl, rfl, rfl⟩, ⟨rfl, rfl, rfl, congrArg (fun z => some (i64 z)) (show (IntKind.i64.wrap c).tmod 16 = acc s i (c % 16) 0 by rw [w64 (by omega), Int.tmod_eq_emod_of_nonneg (by omega)]; rfl), rfl, trivial⟩⟩, ?_⟩
  rintro _ _ _ ⟨j, hj, rfl, rfl, rfl⟩
  conv => whnf
  refine brec (fun h1 => ?_) (fun h1 => ?_)
  · have h1 := of_decide_eq_true h1
    have e1 : IntKind.i64.wrap (x + ((j : Int) + 1)) = ((i + (j + 1) : Nat) : Int) := by rw [w64 (by omega)]; omega
    conv => whnf
    refine ⟨⟨by rw [e1]; omega, by rw [e1]; show ((i + (j + 1) : Nat) : Int) < (s.size : Int); omega⟩, ?_⟩
    rw [e1]
    conv => whnf
    refine ⟨by decide, ?_⟩
    conv => whnf
    exact ⟨_, _, 0, (by omega : 2 - (j + 1) < 2 - j), ⟨j + 1, by omega, rfl, rfl, rfl⟩,
      ⟨rfl, rfl, rfl, congrArg (fun z => some (i64 z)) (accStep (hac j (by omega)).1 ((hac j (by omega)).2.2 (by omega))), congrArg (fun z => some (i64 z)) (by rw [w64 (by omega)]; omega), trivial⟩, rfl⟩
  · have h1 := of_decide_eq_false h1
    obtain rfl : j = 2 := by omega
    conv => whnf
    exact ⟨rfl, rfl⟩

set_option maxHeartbeats 4000000 in
theorem one_F0_0 {s : ByteArray} {x : Int} {i : Nat} (hx : x = (i : Int)) (hi : i < s.size) (hm : s.size < 1000000000) (hc : byteAt s i = 240)
    (g1 : win s (i + 1) 144 191 = false) :
    CallR cx 116 [st s, i64 x] [] fun r S => r = .tup [i64 (byteAt s i + 2000000), i64 1] ∧ S = [] := by
  have e0 : x.toNat = i := by omega
  have hr := byteAt_range s i
  have w1 := within_c (s := s) (x := IntKind.i64.wrap (x + 1)) (lo := 144) (hi := 191) (k := i + 1) (by rw [w64 (by omega)]; omega)
  rw [g1] at w1
  refine callR_of (R := R1) cx_ok Try.func116 (by kernel_rfl) rfl ?_
  conv => whnf
  refine ⟨⟨by omega, by show x < (s.size : Int); omega⟩, ?_⟩
  rw [e0]
  generalize hb : byteAt s i = c at *
  conv => whnf
  refine brF (decide_eq_false (by omega)) ?_
  conv => whnf
  refine brT (decide_eq_true (by omega)) ?_
  conv => whnf
  refine brF (decide_eq_false (by omega)) ?_
  conv => whnf
  refine brT (decide_eq_true (by omega)) ?_
  conv => whnf
  refine brF (decide_eq_false (by omega)) ?_
  conv => whnf
  refine brT (decide_eq_true (by omega)) ?_
  conv => whnf
  refine brT (decide_eq_true (by omega)) ?_
  conv => whnf
  refine brT (beq_iff_eq.2 (by omega)) ?_
  conv => whnf
  refine brF (beq_eq_false_iff_ne.2 (by omega)) ?_
  conv => whnf
  refine ⟨_, w1, ?_⟩
  rintro _ _ ⟨rfl, rfl⟩
  conv => whnf
  exact ⟨tupI (by rw [w64 (n := c) (by omega), w64 (by omega)]) rfl, rfl⟩

set_option maxHeartbeats 4000000 in
theorem one_F0_1 {s : ByteArray} {x : Int} {i : Nat} (hx : x = (i : Int)) (hi : i < s.size) (hm : s.size < 1000000000) (hc : byteAt s i = 240)
    (g1 : win s (i + 1) 144 191 = true)
    (g2 : win s (i + 2) 128 191 = false) :
    CallR cx 116 [st s, i64 x] [] fun r S => r = .tup [i64 (byteAt s i + 2000000), i64 1] ∧ S = [] := by
  have e0 : x.toNat = i := by omega
  have hr := byteAt_range s i
  have w1 := within_c (s := s) (x := IntKind.i64.wrap (x + 1)) (lo := 144) (hi := 191) (k := i + 1) (by rw [w64 (by omega)]; omega)
  rw [g1] at w1
  have w2 := within_c (s := s) (x := IntKind.i64.wrap (x + 2)) (lo := 128) (hi := 191) (k := i + 2) (by rw [w64 (by omega)]; omega)
  rw [g2] at w2
  refine callR_of (R := R1) cx_ok Try.func116 (by kernel_rfl) rfl ?_
  conv => whnf
  refine ⟨⟨by omega, by show x < (s.size : Int); omega⟩, ?_⟩
  rw [e0]
  generalize hb : byteAt s i = c at *
  conv => whnf
  refine brF (decide_eq_false (by omega)) ?_
  conv => whnf
  refine brT (decide_eq_true (by omega)) ?_
  conv => whnf
  refine brF (decide_eq_false (by omega)) ?_
  conv => whnf
  refine brT (decide_eq_true (by omega)) ?_
  conv => whnf
  refine brF (decide_eq_false (by omega)) ?_
  conv => whnf
  refine brT (decide_eq_true (by omega)) ?_
  conv => whnf
  refine brT (decide_eq_true (by omega)) ?_
  conv => whnf
  refine brT (beq_iff_eq.2 (by omega)) ?_
  conv => whnf
  refine brF (beq_eq_false_iff_ne.2 (by omega)) ?_
  conv => whnf
  refine ⟨_, w1, ?_⟩
  rintro _ _ ⟨rfl, rfl⟩
  conv => whnf
  refine ⟨_, w2, ?_⟩
  rintro _ _ ⟨rfl, rfl⟩
  conv => whnf
  exact ⟨tupI (by rw [w64 (n := c) (by omega), w64 (by omega)]) rfl, rfl⟩

set_option maxHeartbeats 4000000 in
theorem one_F0_2 {s : ByteArray} {x : Int} {i : Nat} (hx : x = (i : Int)) (hi : i < s.size) (hm : s.size < 1000000000) (hc : byteAt s i = 240)
    (g1 : win s (i + 1) 144 191 = true)
    (g2 : win s (i + 2) 128 191 = true)
    (g3 : win s (i + 3) 128 191 = false) :
    CallR cx 116 [st s, i64 x] [] fun r S => r = .tup [i64 (byteAt s i + 2000000), i64 1] ∧ S = [] := by
  have e0 : x.toNat = i := by omega
  have hr := byteAt_range s i
  have w1 := within_c (s := s) (x := IntKind.i64.wrap (x + 1)) (lo := 144) (hi := 191) (k := i + 1) (by rw [w64 (by omega)]; omega)
  rw [g1] at w1
  have w2 := within_c (s := s) (x := IntKind.i64.wrap (x + 2)) (lo := 128) (hi := 191) (k := i + 2) (by rw [w64 (by omega)]; omega)
  rw [g2] at w2
  have w3 := within_c (s := s) (x := IntKind.i64.wrap (x + 3)) (lo := 128) (hi := 191) (k := i + 3) (by rw [w64 (by omega)]; omega)
  rw [g3] at w3
  refine callR_of (R := R1) cx_ok Try.func116 (by kernel_rfl) rfl ?_
  conv => whnf
  refine ⟨⟨by omega, by show x < (s.size : Int); omega⟩, ?_⟩
  rw [e0]
  generalize hb : byteAt s i = c at *
  conv => whnf
  refine brF (decide_eq_false (by omega)) ?_
  conv => whnf
  refine brT (decide_eq_true (by omega)) ?_
  conv => whnf
  refine brF (decide_eq_false (by omega)) ?_
  conv => whnf
  refine brT (decide_eq_true (by omega)) ?_
  conv => whnf
  refine brF (decide_eq_false (by omega)) ?_
  conv => whnf
  refine brT (decide_eq_true (by omega)) ?_
  conv => whnf
  refine brT (decide_eq_true (by omega)) ?_
  conv => whnf
  refine brT (beq_iff_eq.2 (by omega)) ?_
  conv => whnf
  refine brF (beq_eq_false_iff_ne.2 (by omega)) ?_
  conv => whnf
  refine ⟨_, w1, ?_⟩
  rintro _ _ ⟨rfl, rfl⟩
  conv => whnf
  refine ⟨_, w2, ?_⟩
  rintro _ _ ⟨rfl, rfl⟩
  conv => whnf
  refine ⟨_, w3, ?_⟩
  rintro _ _ ⟨rfl, rfl⟩
  conv => whnf
  exact ⟨tupI (by rw [w64 (n := c) (by omega), w64 (by omega)]) rfl, rfl⟩

set_option maxHeartbeats 4000000 in
theorem one_F0_3 {s : ByteArray} {x : Int} {i : Nat} (hx : x = (i : Int)) (hi : i < s.size) (hm : s.size < 1000000000) (hc : byteAt s i = 240)
    (g1 : win s (i + 1) 144 191 = true)
    (g2 : win s (i + 2) 128 191 = true)
    (g3 : win s (i + 3) 128 191 = true) :
    CallR cx 116 [st s, i64 x] [] fun r S => r = .tup [i64 (acc s i (byteAt s i % 8) 3), i64 4] ∧ S = [] := by
  have e0 : x.toNat = i := by omega
  have hr := byteAt_range s i
  have w1 := within_c (s := s) (x := IntKind.i64.wrap (x + 1)) (lo := 144) (hi := 191) (k := i + 1) (by rw [w64 (by omega)]; omega)
  rw [g1] at w1
  have w2 := within_c (s := s) (x := IntKind.i64.wrap (x + 2)) (lo := 128) (hi := 191) (k := i + 2) (by rw [w64 (by omega)]; omega)
  rw [g2] at w2
  have w3 := within_c (s := s) (x := IntKind.i64.wrap (x + 3)) (lo := 128) (hi := 191) (k := i + 3) (by rw [w64 (by omega)]; omega)
  rw [g3] at w3
  have hlt : i + 3 < s.size := win_lt g3
  have hac := fun j hj => acc_range (s := s) (i := i) (n0 := byteAt s i % 8) (by omega) j hj
  refine callR_of (R := R1) cx_ok Try.func116 (by kernel_rfl) rfl ?_
  conv => whnf
  refine ⟨⟨by omega, by show x < (s.size : Int); omega⟩, ?_⟩
  rw [e0]
  generalize hb : byteAt s i = c at *
  conv => whnf
  refine brF (decide_eq_false (by omega)) ?_
  conv => whnf
  refine brT (decide_eq_true (by omega)) ?_
  conv => whnf
  refine brF (decide_eq_false (by omega)) ?_
  conv => whnf
  refine brT (decide_eq_true (by omega)) ?_
  conv => whnf
  refine brF (decide_eq_false (by omega)) ?_
  conv => whnf
  refine brT (decide_eq_true (by omega)) ?_
  conv => whnf
  refine brT (decide_eq_true (by omega)) ?_
  conv => whnf
  refine brT (beq_iff_eq.2 (by omega)) ?_
  conv => whnf
  refine brF (beq_eq_false_iff_ne.2 (by omega)) ?_
  conv => whnf
  refine ⟨_, w1, ?_⟩
  rintro _ _ ⟨rfl, rfl⟩
  conv => whnf
  refine ⟨_, w2, ?_⟩
  rintro _ _ ⟨rfl, rfl⟩
  conv => whnf
  refine ⟨_, w3, ?_⟩
  rintro _ _ ⟨rfl, rfl⟩
  conv => whnf
  refine ⟨by decide, ?_⟩
  conv => whnf
  refine ⟨by decide, ?_⟩
  conv => whnf
  refine .inl ⟨fun k l S => ∃ j : Nat, j ≤ 3 ∧ k = 3 - j ∧ l = [(0, st s), (1, i64 x), (7, i64 3), (10, i64 (acc s i (c % 8) j)), (11, i64 ((j : Int) + 1))] ∧ S = [],
    ⟨_, _, ⟨0, by omega, rfl, rfl, rfl⟩, ⟨rfl, rfl, rfl, congrArg (fun z => some (i64 z)) (show (IntKind.i64.wrap c).tmod 8 = acc s i (c % 8) 0 by rw [w64 (by omega), Int.tmod_eq_emod_of_nonneg (by omega)]; rfl), rfl, trivial⟩⟩, ?_⟩
  rintro _ _ _ ⟨j, hj, rfl, rfl, rfl⟩
  conv => whnf
  refine brec (fun h1 => ?_) (fun h1 => ?_)
  · have h1 := of_decide_eq_true h1
    have e1 : IntKind.i64.wrap (x + ((j : Int) + 1)) = ((i + (j + 1) : Nat) : Int) := by rw [w64 (by omega)]; omega
    conv => whnf
    refine ⟨⟨by rw [e1]; omega, by rw [e1]; show ((i + (j + 1) : Nat) : Int) < (s.size : Int); omega⟩, ?_⟩
    rw [e1]
    conv => whnf
    refine ⟨by decide, ?_⟩
    conv => whnf
    exact ⟨_, _, 0, (by omega : 3 - (j + 1) < 3 - j), ⟨j + 1, by omega, rfl, rfl, rfl⟩,
      ⟨rfl, rfl, rfl, congrArg (fun z => some (i64 z)) (accStep (hac j (by omega)).1 ((hac j (by omega)).2.2 (by omega))), congrArg (fun z => some (i64 z)) (by rw [w64 (by omega)]; omega), trivial⟩, rfl⟩
  · have h1 := of_decide_eq_false h1
    obtain rfl : j = 3 := by omega
    conv => whnf
    exact ⟨rfl, rfl⟩

set_option maxHeartbeats 4000000 in
theorem one_F4_0 {s : ByteArray} {x : Int} {i : Nat} (hx : x = (i : Int)) (hi : i < s.size) (hm : s.size < 1000000000) (hc : byteAt s i = 244)
    (g1 : win s (i + 1) 128 143 = false) :
    CallR cx 116 [st s, i64 x] [] fun r S => r = .tup [i64 (byteAt s i + 2000000), i64 1] ∧ S = [] := by
  have e0 : x.toNat = i := by omega
  have hr := byteAt_range s i
  have w1 := within_c (s := s) (x := IntKind.i64.wrap (x + 1)) (lo := 128) (hi := 143) (k := i + 1) (by rw [w64 (by omega)]; omega)
  rw [g1] at w1
  refine callR_of (R := R1) cx_ok Try.func116 (by kernel_rfl) rfl ?_
  conv => whnf
  refine ⟨⟨by omega, by show x < (s.size : Int); omega⟩, ?_⟩
  rw [e0]
  generalize hb : byteAt s i = c at *
  conv => whnf
  refine brF (decide_eq_false (by omega)) ?_
  conv => whnf
  refine brT (decide_eq_true (by omega)) ?_
  conv => whnf
  refine brF (decide_eq_false (by omega)) ?_
  conv => whnf
  refine brT (decide_eq_true (by omega)) ?_
  conv => whnf
  refine brF (decide_eq_false (by omega)) ?_
  conv => whnf
  refine brT (decide_eq_true (by omega)) ?_
  conv => whnf
  refine brT (decide_eq_true (by omega)) ?_
  conv => whnf
  refine brF (beq_eq_false_iff_ne.2 (by omega)) ?_
  conv => whnf
  refine brT (beq_iff_eq.2 (by omega)) ?_
  conv => whnf
  refine ⟨_, w1, ?_⟩
  rintro _ _ ⟨rfl, rfl⟩
  conv => whnf
  exact ⟨tupI (by rw [w64 (n := c) (by omega), w64 (by omega)]) rfl, rfl⟩

set_option maxHeartbeats 4000000 in
theorem one_F4_1 {s : ByteArray} {x : Int} {i : Nat} (hx : x = (i : Int)) (hi : i < s.size) (hm : s.size < 1000000000) (hc : byteAt s i = 244)
    (g1 : win s (i + 1) 128 143 = true)
    (g2 : win s (i + 2) 128 191 = false) :
    CallR cx 116 [st s, i64 x] [] fun r S => r = .tup [i64 (byteAt s i + 2000000), i64 1] ∧ S = [] := by
  have e0 : x.toNat = i := by omega
  have hr := byteAt_range s i
  have w1 := within_c (s := s) (x := IntKind.i64.wrap (x + 1)) (lo := 128) (hi := 143) (k := i + 1) (by rw [w64 (by omega)]; omega)
  rw [g1] at w1
  have w2 := within_c (s := s) (x := IntKind.i64.wrap (x + 2)) (lo := 128) (hi := 191) (k := i + 2) (by rw [w64 (by omega)]; omega)
  rw [g2] at w2
  refine callR_of (R := R1) cx_ok Try.func116 (by kernel_rfl) rfl ?_
  conv => whnf
  refine ⟨⟨by omega, by show x < (s.size : Int); omega⟩, ?_⟩
  rw [e0]
  generalize hb : byteAt s i = c at *
  conv => whnf
  refine brF (decide_eq_false (by omega)) ?_
  conv => whnf
  refine brT (decide_eq_true (by omega)) ?_
  conv => whnf
  refine brF (decide_eq_false (by omega)) ?_
  conv => whnf
  refine brT (decide_eq_true (by omega)) ?_
  conv => whnf
  refine brF (decide_eq_false (by omega)) ?_
  conv => whnf
  refine brT (decide_eq_true (by omega)) ?_
  conv => whnf
  refine brT (decide_eq_true (by omega)) ?_
  conv => whnf
  refine brF (beq_eq_false_iff_ne.2 (by omega)) ?_
  conv => whnf
  refine brT (beq_iff_eq.2 (by omega)) ?_
  conv => whnf
  refine ⟨_, w1, ?_⟩
  rintro _ _ ⟨rfl, rfl⟩
  conv => whnf
  refine ⟨_, w2, ?_⟩
  rintro _ _ ⟨rfl, rfl⟩
  conv => whnf
  exact ⟨tupI (by rw [w64 (n := c) (by omega), w64 (by omega)]) rfl, rfl⟩

set_option maxHeartbeats 4000000 in
theorem one_F4_2 {s : ByteArray} {x : Int} {i : Nat} (hx : x = (i : Int)) (hi : i < s.size) (hm : s.size < 1000000000) (hc : byteAt s i = 244)
    (g1 : win s (i + 1) 128 143 = true)
    (g2 : win s (i + 2) 128 191 = true)
    (g3 : win s (i + 3) 128 191 = false) :
    CallR cx 116 [st s, i64 x] [] fun r S => r = .tup [i64 (byteAt s i + 2000000), i64 1] ∧ S = [] := by
  have e0 : x.toNat = i := by omega
  have hr := byteAt_range s i
  have w1 := within_c (s := s) (x := IntKind.i64.wrap (x + 1)) (lo := 128) (hi := 143) (k := i + 1) (by rw [w64 (by omega)]; omega)
  rw [g1] at w1
  have w2 := within_c (s := s) (x := IntKind.i64.wrap (x + 2)) (lo := 128) (hi := 191) (k := i + 2) (by rw [w64 (by omega)]; omega)
  rw [g2] at w2
  have w3 := within_c (s := s) (x := IntKind.i64.wrap (x + 3)) (lo := 128) (hi := 191) (k := i + 3) (by rw [w64 (by omega)]; omega)
  rw [g3] at w3
  refine callR_of (R := R1) cx_ok Try.func116 (by kernel_rfl) rfl ?_
  conv => whnf
  refine ⟨⟨by omega, by show x < (s.size : Int); omega⟩, ?_⟩
  rw [e0]
  generalize hb : byteAt s i = c at *
  conv => whnf
  refine brF (decide_eq_false (by omega)) ?_
  conv => whnf
  refine brT (decide_eq_true (by omega)) ?_
  conv => whnf
  refine brF (decide_eq_false (by omega)) ?_
  conv => whnf
  refine brT (decide_eq_true (by omega)) ?_
  conv => whnf
  refine brF (decide_eq_false (by omega)) ?_
  conv => whnf
  refine brT (decide_eq_true (by omega)) ?_
  conv => whnf
  refine brT (decide_eq_true (by omega)) ?_
  conv => whnf
  refine brF (beq_eq_false_iff_ne.2 (by omega)) ?_
  conv => whnf
  refine brT (beq_iff_eq.2 (by omega)) ?_
  conv => whnf
  refine ⟨_, w1, ?_⟩
  rintro _ _ ⟨rfl, rfl⟩
  conv => whnf
  refine ⟨_, w2, ?_⟩
  rintro _ _ ⟨rfl, rfl⟩
  conv => whnf
  refine ⟨_, w3, ?_⟩
  rintro _ _ ⟨rfl, rfl⟩
  conv => whnf
  exact ⟨tupI (by rw [w64 (n := c) (by omega), w64 (by omega)]) rfl, rfl⟩

set_option maxHeartbeats 4000000 in
theorem one_F4_3 {s : ByteArray} {x : Int} {i : Nat} (hx : x = (i : Int)) (hi : i < s.size) (hm : s.size < 1000000000) (hc : byteAt s i = 244)
    (g1 : win s (i + 1) 128 143 = true)
    (g2 : win s (i + 2) 128 191 = true)
    (g3 : win s (i + 3) 128 191 = true) :
    CallR cx 116 [st s, i64 x] [] fun r S => r = .tup [i64 (acc s i (byteAt s i % 8) 3), i64 4] ∧ S = [] := by
  have e0 : x.toNat = i := by omega
  have hr := byteAt_range s i
  have w1 := within_c (s := s) (x := IntKind.i64.wrap (x + 1)) (lo := 128) (hi := 143) (k := i + 1) (by rw [w64 (by omega)]; omega)
  rw [g1] at w1
  have w2 := within_c (s := s) (x := IntKind.i64.wrap (x + 2)) (lo := 128) (hi := 191) (k := i + 2) (by rw [w64 (by omega)]; omega)
  rw [g2] at w2
  have w3 := within_c (s := s) (x := IntKind.i64.wrap (x + 3)) (lo := 128) (hi := 191) (k := i + 3) (by rw [w64 (by omega)]; omega)
  rw [g3] at w3
  have hlt : i + 3 < s.size := win_lt g3
  have hac := fun j hj => acc_range (s := s) (i := i) (n0 := byteAt s i % 8) (by omega) j hj
  refine callR_of (R := R1) cx_ok Try.func116 (by kernel_rfl) rfl ?_
  conv => whnf
  refine ⟨⟨by omega, by show x < (s.size : Int); omega⟩, ?_⟩
  rw [e0]
  generalize hb : byteAt s i = c at *
  conv => whnf
  refine brF (decide_eq_false (by omega)) ?_
  conv => whnf
  refine brT (decide_eq_true (by omega)) ?_
  conv => whnf
  refine brF (decide_eq_false (by omega)) ?_
  conv => whnf
  refine brT (decide_eq_true (by omega)) ?_
  conv => whnf
  refine brF (decide_eq_false (by omega)) ?_
  conv => whnf
  refine brT (decide_eq_true (by omega)) ?_
  conv => whnf
  refine brT (decide_eq_true (by omega)) ?_
  conv => whnf
  refine brF (beq_eq_false_iff_ne.2 (by omega)) ?_
  conv => whnf
  refine brT (beq_iff_eq.2 (by omega)) ?_
  conv => whnf
  refine ⟨_, w1, ?_⟩
  rintro _ _ ⟨rfl, rfl⟩
  conv => whnf
  refine ⟨_, w2, ?_⟩
  rintro _ _ ⟨rfl, rfl⟩
  conv => whnf
  refine ⟨_, w3, ?_⟩
  rintro _ _ ⟨rfl, rfl⟩
  conv => whnf
  refine ⟨by decide, ?_⟩
  conv => whnf
  refine ⟨by decide, ?_⟩
  conv => whnf
  refine .inl ⟨fun k l S => ∃ j : Nat, j ≤ 3 ∧ k = 3 - j ∧ l = [(0, st s), (1, i64 x), (7, i64 3), (10, i64 (acc s i (c % 8) j)), (11, i64 ((j : Int) + 1))] ∧ S = [],
    ⟨_, _, ⟨0, by omega, rfl, rfl, rfl⟩, ⟨rfl, rfl, rfl, congrArg (fun z => some (i64 z)) (show (IntKind.i64.wrap c).tmod 8 = acc s i (c % 8) 0 by rw [w64 (by omega), Int.tmod_eq_emod_of_nonneg (by omega)]; rfl), rfl, trivial⟩⟩, ?_⟩
  rintro _ _ _ ⟨j, hj, rfl, rfl, rfl⟩
  conv => whnf
  refine brec (fun h1 => ?_) (fun h1 => ?_)
  · have h1 := of_decide_eq_true h1
    have e1 : IntKind.i64.wrap (x + ((j : Int) + 1)) = ((i + (j + 1) : Nat) : Int) := by rw [w64 (by omega)]; omega
    conv => whnf
    refine ⟨⟨by rw [e1]; omega, by rw [e1]; show ((i + (j + 1) : Nat) : Int) < (s.size : Int); omega⟩, ?_⟩
    rw [e1]
    conv => whnf
    refine ⟨by decide, ?_⟩
    conv => whnf
    exact ⟨_, _, 0, (by omega : 3 - (j + 1) < 3 - j), ⟨j + 1, by omega, rfl, rfl, rfl⟩,
      ⟨rfl, rfl, rfl, congrArg (fun z => some (i64 z)) (accStep (hac j (by omega)).1 ((hac j (by omega)).2.2 (by omega))), congrArg (fun z => some (i64 z)) (by rw [w64 (by omega)]; omega), trivial⟩, rfl⟩
  · have h1 := of_decide_eq_false h1
    obtain rfl : j = 3 := by omega
    conv => whnf
    exact ⟨rfl, rfl⟩

set_option maxHeartbeats 4000000 in
theorem one_FF_0 {s : ByteArray} {x : Int} {i : Nat} (hx : x = (i : Int)) (hi : i < s.size) (hm : s.size < 1000000000) (hc : 241 ≤ byteAt s i ∧ byteAt s i ≤ 243)
    (g1 : win s (i + 1) 128 191 = false) :
    CallR cx 116 [st s, i64 x] [] fun r S => r = .tup [i64 (byteAt s i + 2000000), i64 1] ∧ S = [] := by
  have e0 : x.toNat = i := by omega
  have hr := byteAt_range s i
  have w1 := within_c (s := s) (x := IntKind.i64.wrap (x + 1)) (lo := 128) (hi := 191) (k := i + 1) (by rw [w64 (by omega)]; omega)
  rw [g1] at w1
  refine callR_of (R := R1) cx_ok Try.func116 (by kernel_rfl) rfl ?_
  conv => whnf
  refine ⟨⟨by omega, by show x < (s.size : Int); omega⟩, ?_⟩
  rw [e0]
  generalize hb : byteAt s i = c at *
  conv => whnf
  refine brF (decide_eq_false (by omega)) ?_
  conv => whnf
  refine brT (decide_eq_true (by omega)) ?_
  conv => whnf
  refine brF (decide_eq_false (by omega)) ?_
  conv => whnf
  refine brT (decide_eq_true (by omega)) ?_
  conv => whnf
  refine brF (decide_eq_false (by omega)) ?_
  conv => whnf
  refine brT (decide_eq_true (by omega)) ?_
  conv => whnf
  refine brT (decide_eq_true (by omega)) ?_
  conv => whnf
  refine brF (beq_eq_false_iff_ne.2 (by omega)) ?_
  conv => whnf
  refine brF (beq_eq_false_iff_ne.2 (by omega)) ?_
  conv => whnf
  refine ⟨_, w1, ?_⟩
  rintro _ _ ⟨rfl, rfl⟩
  conv => whnf
  exact ⟨tupI (by rw [w64 (n := c) (by omega), w64 (by omega)]) rfl, rfl⟩

set_option maxHeartbeats 4000000 in
theorem one_FF_1 {s : ByteArray} {x : Int} {i : Nat} (hx : x = (i : Int)) (hi : i < s.size) (hm : s.size < 1000000000) (hc : 241 ≤ byteAt s i ∧ byteAt s i ≤ 243)
    (g1 : win s (i + 1) 128 191 = true)
    (g2 : win s (i + 2) 128 191 = false) :
    CallR cx 116 [st s, i64 x] [] fun r S => r = .tup [i64 (byteAt s i + 2000000), i64 1] ∧ S = [] := by
  have e0 : x.toNat = i := by omega
  have hr := byteAt_range s i
  have w1 := within_c (s := s) (x := IntKind.i64.wrap (x + 1)) (lo := 128) (hi := 191) (k := i + 1) (by rw [w64 (by omega)]; omega)
  rw [g1] at w1
  have w2 := within_c (s := s) (x := IntKind.i64.wrap (x + 2)) (lo := 128) (hi := 191) (k := i + 2) (by rw [w64 (by omega)]; omega)
  rw [g2] at w2
  refine callR_of (R := R1) cx_ok Try.func116 (by kernel_rfl) rfl ?_
  conv => whnf
  refine ⟨⟨by omega, by show x < (s.size : Int); omega⟩, ?_⟩
  rw [e0]
  generalize hb : byteAt s i = c at *
  conv => whnf
  refine brF (decide_eq_false (by omega)) ?_
  conv => whnf
  refine brT (decide_eq_true (by omega)) ?_
  conv => whnf
  refine brF (decide_eq_false (by omega)) ?_
  conv => whnf
  refine brT (decide_eq_true (by omega)) ?_
  conv => whnf
  refine brF (decide_eq_false (by omega)) ?_
  conv => whnf
  refine brT (decide_eq_true (by omega)) ?_
  conv => whnf
  refine brT (decide_eq_true (by omega)) ?_
  conv => whnf
  refine brF (beq_eq_false_iff_ne.2 (by omega)) ?_
  conv => whnf
  refine brF (beq_eq_false_iff_ne.2 (by omega)) ?_
  conv => whnf
  refine ⟨_, w1, ?_⟩
  rintro _ _ ⟨rfl, rfl⟩
  conv => whnf
  refine ⟨_, w2, ?_⟩
  rintro _ _ ⟨rfl, rfl⟩
  conv => whnf
  exact ⟨tupI (by rw [w64 (n := c) (by omega), w64 (by omega)]) rfl, rfl⟩

set_option maxHeartbeats 4000000 in
theorem one_FF_2 {s : ByteArray} {x : Int} {i : Nat} (hx : x = (i : Int)) (hi : i < s.size) (hm : s.size < 1000000000) (hc : 241 ≤ byteAt s i ∧ byteAt s i ≤ 243)
    (g1 : win s (i + 1) 128 191 = true)
    (g2 : win s (i + 2) 128 191 = true)
    (g3 : win s (i + 3) 128 191 = false) :
    CallR cx 116 [st s, i64 x] [] fun r S => r = .tup [i64 (byteAt s i + 2000000), i64 1] ∧ S = [] := by
  have e0 : x.toNat = i := by omega
  have hr := byteAt_range s i
  have w1 := within_c (s := s) (x := IntKind.i64.wrap (x + 1)) (lo := 128) (hi := 191) (k := i + 1) (by rw [w64 (by omega)]; omega)
  rw [g1] at w1
  have w2 := within_c (s := s) (x := IntKind.i64.wrap (x + 2)) (lo := 128) (hi := 191) (k := i + 2) (by rw [w64 (by omega)]; omega)
  rw [g2] at w2
  have w3 := within_c (s := s) (x := IntKind.i64.wrap (x + 3)) (lo := 128) (hi := 191) (k := i + 3) (by rw [w64 (by omega)]; omega)
  rw [g3] at w3
  refine callR_of (R := R1) cx_ok Try.func116 (by kernel_rfl) rfl ?_
  conv => whnf
  refine ⟨⟨by omega, by show x < (s.size : Int); omega⟩, ?_⟩
  rw [e0]
  generalize hb : byteAt s i = c at *
  conv => whnf
  refine brF (decide_eq_false (by omega)) ?_
  conv => whnf
  refine brT (decide_eq_true (by omega)) ?_
  conv => whnf
  refine brF (decide_eq_false (by omega)) ?_
  conv => whnf
  refine brT (decide_eq_true (by omega)) ?_
  conv => whnf
  refine brF (decide_eq_false (by omega)) ?_
  conv => whnf
  refine brT (decide_eq_true (by omega)) ?_
  conv => whnf
  refine brT (decide_eq_true (by omega)) ?_
  conv => whnf
  refine brF (beq_eq_false_iff_ne.2 (by omega)) ?_
  conv => whnf
  refine brF (beq_eq_false_iff_ne.2 (by omega)) ?_
  conv => whnf
  refine ⟨_, w1, ?_⟩
  rintro _ _ ⟨rfl, rfl⟩
  conv => whnf
  refine ⟨_, w2, ?_⟩
  rintro _ _ ⟨rfl, rfl⟩
  conv => whnf
  refine ⟨_, w3, ?_⟩
  rintro _ _ ⟨rfl, rfl⟩
  conv => whnf
  exact ⟨tupI (by rw [w64 (n := c) (by omega), w64 (by omega)]) rfl, rfl⟩

set_option maxHeartbeats 4000000 in
theorem one_FF_3 {s : ByteArray} {x : Int} {i : Nat} (hx : x = (i : Int)) (hi : i < s.size) (hm : s.size < 1000000000) (hc : 241 ≤ byteAt s i ∧ byteAt s i ≤ 243)
    (g1 : win s (i + 1) 128 191 = true)
    (g2 : win s (i + 2) 128 191 = true)
    (g3 : win s (i + 3) 128 191 = true) :
    CallR cx 116 [st s, i64 x] [] fun r S => r = .tup [i64 (acc s i (byteAt s i % 8) 3), i64 4] ∧ S = [] := by
  have e0 : x.toNat = i := by omega
  have hr := byteAt_range s i
  have w1 := within_c (s := s) (x := IntKind.i64.wrap (x + 1)) (lo := 128) (hi := 191) (k := i + 1) (by rw [w64 (by omega)]; omega)
  rw [g1] at w1
  have w2 := within_c (s := s) (x := IntKind.i64.wrap (x + 2)) (lo := 128) (hi := 191) (k := i + 2) (by rw [w64 (by omega)]; omega)
  rw [g2] at w2
  have w3 := within_c (s := s) (x := IntKind.i64.wrap (x + 3)) (lo := 128) (hi := 191) (k := i + 3) (by rw [w64 (by omega)]; omega)
  rw [g3] at w3
  have hlt : i + 3 < s.size := win_lt g3
  have hac := fun j hj => acc_range (s := s) (i := i) (n0 := byteAt s i % 8) (by omega) j hj
  refine callR_of (R := R1) cx_ok Try.func116 (by kernel_rfl) rfl ?_
  conv => whnf
  refine ⟨⟨by omega, by show x < (s.size : Int); omega⟩, ?_⟩
  rw [e0]
  generalize hb : byteAt s i = c at *
  conv => whnf
  refine brF (decide_eq_false (by omega)) ?_
  conv => whnf
  refine brT (decide_eq_true (by omega)) ?_
  conv => whnf
  refine brF (decide_eq_false (by omega)) ?_
  conv => whnf
  refine brT (decide_eq_true (by omega)) ?_
  conv => whnf
  refine brF (decide_eq_false (by omega)) ?_
  conv => whnf
  refine brT (decide_eq_true (by omega)) ?_
  conv => whnf
  refine brT (decide_eq_true (by omega)) ?_
  conv => whnf
  refine brF (beq_eq_false_iff_ne.2 (by omega)) ?_
  conv => whnf
  refine brF (beq_eq_false_iff_ne.2 (by omega)) ?_
  conv => whnf
  refine ⟨_, w1, ?_⟩
  rintro _ _ ⟨rfl, rfl⟩
  conv => whnf
  refine ⟨_, w2, ?_⟩
  rintro _ _ ⟨rfl, rfl⟩
  conv => whnf
  refine ⟨_, w3, ?_⟩
  rintro _ _ ⟨rfl, rfl⟩
  conv => whnf
  refine ⟨by decide, ?_⟩
  conv => whnf
  refine ⟨by decide, ?_⟩
  conv => whnf
  refine .inl ⟨fun k l S => ∃ j : Nat, j ≤ 3 ∧ k = 3 - j ∧ l = [(0, st s), (1, i64 x), (7, i64 3), (10, i64 (acc s i (c % 8) j)), (11, i64 ((j : Int) + 1))] ∧ S = [],
    ⟨_, _, ⟨0, by omega, rfl, rfl, rfl⟩, ⟨rfl, rfl, rfl, congrArg (fun z => some (i64 z)) (show (IntKind.i64.wrap c).tmod 8 = acc s i (c % 8) 0 by rw [w64 (by omega), Int.tmod_eq_emod_of_nonneg (by omega)]; rfl), rfl, trivial⟩⟩, ?_⟩
  rintro _ _ _ ⟨j, hj, rfl, rfl, rfl⟩
  conv => whnf
  refine brec (fun h1 => ?_) (fun h1 => ?_)
  · have h1 := of_decide_eq_true h1
    have e1 : IntKind.i64.wrap (x + ((j : Int) + 1)) = ((i + (j + 1) : Nat) : Int) := by rw [w64 (by omega)]; omega
    conv => whnf
    refine ⟨⟨by rw [e1]; omega, by rw [e1]; show ((i + (j + 1) : Nat) : Int) < (s.size : Int); omega⟩, ?_⟩
    rw [e1]
    conv => whnf
    refine ⟨by decide, ?_⟩
    conv => whnf
    exact ⟨_, _, 0, (by omega : 3 - (j + 1) < 3 - j), ⟨j + 1, by omega, rfl, rfl, rfl⟩,
      ⟨rfl, rfl, rfl, congrArg (fun z => some (i64 z)) (accStep (hac j (by omega)).1 ((hac j (by omega)).2.2 (by omega))), congrArg (fun z => some (i64 z)) (by rw [w64 (by omega)]; omega), trivial⟩, rfl⟩
  · have h1 := of_decide_eq_false h1
    obtain rfl : j = 3 := by omega
    conv => whnf
    exact ⟨rfl, rfl⟩
end Go.Proofs.Ytboohfijacjhjaa

/- The document's rune at a place is the number that the text's decoder gives, a stray's its byte and 2000000 (printed by gen/onekey.py). -/
namespace Go.Proofs.Ytboohfijacjhjaa
open Go.Ab Go.RowKit

theorem keyN_bad {n b0 b1 b2 b3 : Nat} (h : Lib.decodeN n b0 b1 b2 b3 = (65533, 1)) : keyN n b0 b1 b2 b3 = (b0 + 2000000, 1) := by
  unfold keyN; rw [if_pos h]
theorem keyN_good {n b0 b1 b2 b3 a k : Nat} (h : Lib.decodeN n b0 b1 b2 b3 = (a, k)) (hk : 1 < k ∨ a < 65533) : keyN n b0 b1 b2 b3 = (a, k) := by
  unfold keyN; rw [h, if_neg]; intro e; simp only [Prod.mk.injEq] at e; omega

theorem one_of {s : ByteArray} {x : Int} {i a k : Nat} {p q : Int} (h : CallR cx 116 [st s, i64 x] [] fun r S => r = .tup [i64 p, i64 q] ∧ S = []) (hk : key s i = (a, k)) (hp : p = (a : Int)) (hq : q = (k : Int)) :
    CallR cx 116 [st s, i64 x] [] fun r S => r = .tup [i64 ((key s i).1 : Int), i64 ((key s i).2 : Int)] ∧ S = [] := by
  rw [hk, ← hp, ← hq]; exact h

theorem dec_bad {n b0 b1 b2 b3 : Nat} (h0 : b0 < 256) (h1 : b1 < 256) (h2 : b2 < 256) (h3 : b3 < 256)
    (h : (128 ≤ b0 ∧ b0 ≤ 193) ∨ 245 ≤ b0 ∨ (194 ≤ b0 ∧ b0 ≤ 223 ∧ ¬ (1 < n ∧ 128 ≤ b1 ∧ b1 ≤ 191)) ∨
      (224 ≤ b0 ∧ b0 ≤ 239 ∧ (¬ (1 < n ∧ 128 ≤ b1 ∧ b1 ≤ 191) ∨ ¬ (2 < n ∧ 128 ≤ b2 ∧ b2 ≤ 191) ∨ (b0 = 224 ∧ b1 < 160) ∨ (b0 = 237 ∧ 159 < b1))) ∨
      (240 ≤ b0 ∧ b0 ≤ 244 ∧ (¬ (1 < n ∧ 128 ≤ b1 ∧ b1 ≤ 191) ∨ ¬ (2 < n ∧ 128 ≤ b2 ∧ b2 ≤ 191) ∨ ¬ (3 < n ∧ 128 ≤ b3 ∧ b3 ≤ 191) ∨ (b0 = 240 ∧ b1 < 144) ∨ (b0 = 244 ∧ 143 < b1)))) : Lib.decodeN n b0 b1 b2 b3 = (65533, 1) := by
  unfold Lib.decodeN
  repeat' split
  all_goals first | rfl | (exfalso; omega)

theorem dec_1 {n b0 b1 b2 b3 : Nat} (h : b0 < 128) : Lib.decodeN n b0 b1 b2 b3 = (b0, 1) := by
  unfold Lib.decodeN; rw [if_pos h]
theorem dec_2 {n b0 b1 b2 b3 : Nat} (h0 : 194 ≤ b0 ∧ b0 ≤ 223) (h1 : 1 < n ∧ 128 ≤ b1 ∧ b1 ≤ 191) : Lib.decodeN n b0 b1 b2 b3 = (b0 % 32 * 64 + b1 % 64, 2) := by
  unfold Lib.decodeN
  rw [if_neg (by omega), if_pos (by omega), if_pos (by omega)]
theorem dec_3 {n b0 b1 b2 b3 : Nat} (h0 : 224 ≤ b0 ∧ b0 ≤ 239) (h1 : 1 < n ∧ 128 ≤ b1 ∧ b1 ≤ 191) (h2 : 2 < n ∧ 128 ≤ b2 ∧ b2 ≤ 191) (h3 : b0 = 224 → 160 ≤ b1) (h4 : b0 = 237 → b1 ≤ 159) :
    Lib.decodeN n b0 b1 b2 b3 = (b0 % 16 * 4096 + b1 % 64 * 64 + b2 % 64, 3) := by
  unfold Lib.decodeN
  rw [if_neg (by omega), if_neg (by omega), if_pos (by omega), if_pos (by omega)]
theorem dec_4 {n b0 b1 b2 b3 : Nat} (h0 : 240 ≤ b0 ∧ b0 ≤ 244) (h1 : 1 < n ∧ 128 ≤ b1 ∧ b1 ≤ 191) (h2 : 2 < n ∧ 128 ≤ b2 ∧ b2 ≤ 191) (h3 : 3 < n ∧ 128 ≤ b3 ∧ b3 ≤ 191) (h4 : b0 = 240 → 144 ≤ b1) (h5 : b0 = 244 → b1 ≤ 143) :
    Lib.decodeN n b0 b1 b2 b3 = (b0 % 8 * 262144 + b1 % 64 * 4096 + b2 % 64 * 64 + b3 % 64, 4) := by
  unfold Lib.decodeN
  rw [if_neg (by omega), if_neg (by omega), if_neg (by omega), if_pos (by omega), if_pos (by omega)]

set_option maxHeartbeats 4000000 in
theorem one_c {s : ByteArray} {x : Int} {i : Nat} (hx : x = (i : Int)) (hi : i < s.size) (hm : s.size < 1000000000) :
    CallR cx 116 [st s, i64 x] [] fun r S => r = .tup [i64 ((key s i).1 : Int), i64 ((key s i).2 : Int)] ∧ S = [] := by
  have b0 := byteAt_eq s i
  have l0 := (s.get! i).toNat_lt; have l1 := (s.get! (i + 1)).toNat_lt; have l2 := (s.get! (i + 2)).toNat_lt; have l3 := (s.get! (i + 3)).toNat_lt
  have k1 : ∀ lo hi, win s (i + 1) lo hi = true ↔ i + 1 < s.size ∧ lo ≤ ((s.get! (i + 1)).toNat : Int) ∧ ((s.get! (i + 1)).toNat : Int) ≤ hi := fun _ _ => win_iff
  have k2 : ∀ lo hi, win s (i + 2) lo hi = true ↔ i + 2 < s.size ∧ lo ≤ ((s.get! (i + 2)).toNat : Int) ∧ ((s.get! (i + 2)).toNat : Int) ≤ hi := fun _ _ => win_iff
  have k3 : ∀ lo hi, win s (i + 3) lo hi = true ↔ i + 3 < s.size ∧ lo ≤ ((s.get! (i + 3)).toNat : Int) ∧ ((s.get! (i + 3)).toNat : Int) ≤ hi := fun _ _ => win_iff
  have a1 : ∀ n0, acc s i n0 1 = n0 * 64 + ((s.get! (i + 1)).toNat : Int) % 64 := fun n0 => by rw [← byteAt_eq]; rfl
  have a2 : ∀ n0, acc s i n0 2 = (n0 * 64 + ((s.get! (i + 1)).toNat : Int) % 64) * 64 + ((s.get! (i + 2)).toNat : Int) % 64 := fun n0 => by rw [← byteAt_eq, ← byteAt_eq]; rfl
  have a3 : ∀ n0, acc s i n0 3 = ((n0 * 64 + ((s.get! (i + 1)).toNat : Int) % 64) * 64 + ((s.get! (i + 2)).toNat : Int) % 64) * 64 + ((s.get! (i + 3)).toNat : Int) % 64 := fun n0 => by rw [← byteAt_eq, ← byteAt_eq, ← byteAt_eq]; rfl
  have nf : ∀ b : Bool, b = true ∨ b = false := fun b => by cases b <;> simp
  have ff : ∀ (b : Bool) (p : Prop), (b = true ↔ p) → b = false → ¬ p := fun b p h e hp => by rw [h.2 hp] at e; cases e
  by_cases c0 : byteAt s i < 128
  · exact one_of (one_A hx hi hm c0) (keyN_good (dec_1 (by omega)) (by omega)) b0 rfl
  by_cases c1 : byteAt s i ≤ 193
  · exact one_of (one_X1 hx hi hm (by omega)) (keyN_bad (dec_bad l0 l1 l2 l3 (by omega))) (by omega) rfl
  by_cases c2 : 245 ≤ byteAt s i
  · exact one_of (one_X2 hx hi hm c2) (keyN_bad (dec_bad l0 l1 l2 l3 (by omega))) (by omega) rfl
  by_cases dC2 : byteAt s i ≤ 223
  · have f1 := k1 128 191
    rcases nf (win s (i + 1) 128 191) with g1 | g1
    rotate_left
    · have n1 := ff _ _ f1 g1
      exact one_of (one_C2_0 hx hi hm (by omega)  g1) (keyN_bad (dec_bad l0 l1 l2 l3 (by omega))) (by omega) rfl
    have n1 := f1.1 g1
    exact one_of (one_C2_1 hx hi hm (by omega) g1) (keyN_good (dec_2 (by omega) (by omega)) (by omega)) (by rw [a1, b0]; omega) rfl
  by_cases dE0 : byteAt s i = 224
  · have f1 := k1 160 191
    rcases nf (win s (i + 1) 160 191) with g1 | g1
    rotate_left
    · have n1 := ff _ _ f1 g1
      exact one_of (one_E0_0 hx hi hm (by omega)  g1) (keyN_bad (dec_bad l0 l1 l2 l3 (by omega))) (by omega) rfl
    have f2 := k2 128 191
    rcases nf (win s (i + 2) 128 191) with g2 | g2
    rotate_left
    · have n2 := ff _ _ f2 g2
      have n1 := f1.1 g1
      exact one_of (one_E0_1 hx hi hm (by omega) g1 g2) (keyN_bad (dec_bad l0 l1 l2 l3 (by omega))) (by omega) rfl
    have n1 := f1.1 g1
    have n2 := f2.1 g2
    exact one_of (one_E0_2 hx hi hm (by omega) g1 g2) (keyN_good (dec_3 (by omega) (by omega) (by omega) (by omega) (by omega)) (by omega)) (by rw [a2, b0]; omega) rfl
  by_cases dED : byteAt s i = 237
  · have f1 := k1 128 159
    rcases nf (win s (i + 1) 128 159) with g1 | g1
    rotate_left
    · have n1 := ff _ _ f1 g1
      exact one_of (one_ED_0 hx hi hm (by omega)  g1) (keyN_bad (dec_bad l0 l1 l2 l3 (by omega))) (by omega) rfl
    have f2 := k2 128 191
    rcases nf (win s (i + 2) 128 191) with g2 | g2
    rotate_left
    · have n2 := ff _ _ f2 g2
      have n1 := f1.1 g1
      exact one_of (one_ED_1 hx hi hm (by omega) g1 g2) (keyN_bad (dec_bad l0 l1 l2 l3 (by omega))) (by omega) rfl
    have n1 := f1.1 g1
    have n2 := f2.1 g2
    exact one_of (one_ED_2 hx hi hm (by omega) g1 g2) (keyN_good (dec_3 (by omega) (by omega) (by omega) (by omega) (by omega)) (by omega)) (by rw [a2, b0]; omega) rfl
  by_cases dEE : byteAt s i ≤ 239
  · have f1 := k1 128 191
    rcases nf (win s (i + 1) 128 191) with g1 | g1
    rotate_left
    · have n1 := ff _ _ f1 g1
      exact one_of (one_EE_0 hx hi hm (by omega)  g1) (keyN_bad (dec_bad l0 l1 l2 l3 (by omega))) (by omega) rfl
    have f2 := k2 128 191
    rcases nf (win s (i + 2) 128 191) with g2 | g2
    rotate_left
    · have n2 := ff _ _ f2 g2
      have n1 := f1.1 g1
      exact one_of (one_EE_1 hx hi hm (by omega) g1 g2) (keyN_bad (dec_bad l0 l1 l2 l3 (by omega))) (by omega) rfl
    have n1 := f1.1 g1
    have n2 := f2.1 g2
    exact one_of (one_EE_2 hx hi hm (by omega) g1 g2) (keyN_good (dec_3 (by omega) (by omega) (by omega) (by omega) (by omega)) (by omega)) (by rw [a2, b0]; omega) rfl
  by_cases dF0 : byteAt s i = 240
  · have f1 := k1 144 191
    rcases nf (win s (i + 1) 144 191) with g1 | g1
    rotate_left
    · have n1 := ff _ _ f1 g1
      exact one_of (one_F0_0 hx hi hm (by omega)  g1) (keyN_bad (dec_bad l0 l1 l2 l3 (by omega))) (by omega) rfl
    have f2 := k2 128 191
    rcases nf (win s (i + 2) 128 191) with g2 | g2
    rotate_left
    · have n2 := ff _ _ f2 g2
      have n1 := f1.1 g1
      exact one_of (one_F0_1 hx hi hm (by omega) g1 g2) (keyN_bad (dec_bad l0 l1 l2 l3 (by omega))) (by omega) rfl
    have f3 := k3 128 191
    rcases nf (win s (i + 3) 128 191) with g3 | g3
    rotate_left
    · have n3 := ff _ _ f3 g3
      have n1 := f1.1 g1
      have n2 := f2.1 g2
      exact one_of (one_F0_2 hx hi hm (by omega) g1 g2 g3) (keyN_bad (dec_bad l0 l1 l2 l3 (by omega))) (by omega) rfl
    have n1 := f1.1 g1
    have n2 := f2.1 g2
    have n3 := f3.1 g3
    exact one_of (one_F0_3 hx hi hm (by omega) g1 g2 g3) (keyN_good (dec_4 (by omega) (by omega) (by omega) (by omega) (by omega) (by omega)) (by omega)) (by rw [a3, b0]; omega) rfl
  by_cases dF4 : byteAt s i = 244
  · have f1 := k1 128 143
    rcases nf (win s (i + 1) 128 143) with g1 | g1
    rotate_left
    · have n1 := ff _ _ f1 g1
      exact one_of (one_F4_0 hx hi hm (by omega)  g1) (keyN_bad (dec_bad l0 l1 l2 l3 (by omega))) (by omega) rfl
    have f2 := k2 128 191
    rcases nf (win s (i + 2) 128 191) with g2 | g2
    rotate_left
    · have n2 := ff _ _ f2 g2
      have n1 := f1.1 g1
      exact one_of (one_F4_1 hx hi hm (by omega) g1 g2) (keyN_bad (dec_bad l0 l1 l2 l3 (by omega))) (by omega) rfl
    have f3 := k3 128 191
    rcases nf (win s (i + 3) 128 191) with g3 | g3
    rotate_left
    · have n3 := ff _ _ f3 g3
      have n1 := f1.1 g1
      have n2 := f2.1 g2
      exact one_of (one_F4_2 hx hi hm (by omega) g1 g2 g3) (keyN_bad (dec_bad l0 l1 l2 l3 (by omega))) (by omega) rfl
    have n1 := f1.1 g1
    have n2 := f2.1 g2
    have n3 := f3.1 g3
    exact one_of (one_F4_3 hx hi hm (by omega) g1 g2 g3) (keyN_good (dec_4 (by omega) (by omega) (by omega) (by omega) (by omega) (by omega)) (by omega)) (by rw [a3, b0]; omega) rfl
  have f1 := k1 128 191
  rcases nf (win s (i + 1) 128 191) with g1 | g1
  rotate_left
  · have n1 := ff _ _ f1 g1
    exact one_of (one_FF_0 hx hi hm (by omega)  g1) (keyN_bad (dec_bad l0 l1 l2 l3 (by omega))) (by omega) rfl
  have f2 := k2 128 191
  rcases nf (win s (i + 2) 128 191) with g2 | g2
  rotate_left
  · have n2 := ff _ _ f2 g2
    have n1 := f1.1 g1
    exact one_of (one_FF_1 hx hi hm (by omega) g1 g2) (keyN_bad (dec_bad l0 l1 l2 l3 (by omega))) (by omega) rfl
  have f3 := k3 128 191
  rcases nf (win s (i + 3) 128 191) with g3 | g3
  rotate_left
  · have n3 := ff _ _ f3 g3
    have n1 := f1.1 g1
    have n2 := f2.1 g2
    exact one_of (one_FF_2 hx hi hm (by omega) g1 g2 g3) (keyN_bad (dec_bad l0 l1 l2 l3 (by omega))) (by omega) rfl
  have n1 := f1.1 g1
  have n2 := f2.1 g2
  have n3 := f3.1 g3
  exact one_of (one_FF_3 hx hi hm (by omega) g1 g2 g3) (keyN_good (dec_4 (by omega) (by omega) (by omega) (by omega) (by omega) (by omega)) (by omega)) (by rw [a3, b0]; omega) rfl
end Go.Proofs.Ytboohfijacjhjaa

/- Names: a text's runes as numbers; small letters. -/
namespace Go.Proofs.Ytboohfijacjhjaa
open Go.Ab Go.RowKit

abbrev ints (l : List Nat) : List D := l.map fun (k : Nat) => D.int .i64 (k : Int)

theorem numbers_c {s : ByteArray} (hm : s.size < 1000000000) : CallR cx 111 [st s] [] fun r S => r = .d (.sl 1 (ints (keysAt s 0))) ∧ S = [] := by
  refine callR_of (R := R1) cx_ok Try.func111 (by kernel_rfl) rfl ?_
  conv => whnf
  refine .inl ?_
  conv => whnf
  refine .inr ⟨3, 1, ?_⟩
  conv => whnf
  refine .inr ⟨fun n l S => ∃ (i : Nat) (xs : List Nat), xs ++ keysAt s i = keysAt s 0 ∧ xs.length ≤ i ∧ i ≤ s.size + 3 ∧ n = s.size + 4 - i ∧
      l = [(0, st s), (3, .row 0), (4, i64 (i : Int))] ∧ S = [.row 3 1 (ints xs)],
    ⟨_, _, ⟨0, [], rfl, Nat.le_refl _, by omega, rfl, rfl, rfl⟩, ⟨rfl, rfl, rfl, trivial⟩⟩, ?_⟩
  rintro _ _ _ ⟨i, xs, h1, h2, h3, rfl, rfl, rfl⟩
  conv => whnf
  refine brec (fun h4 => ?_) (fun h4 => ?_)
  · have h4 := of_decide_eq_true h4
    have hi : i < s.size := by omega
    conv => whnf
    refine ⟨_, one_c (s := s) (x := (i : Int)) rfl hi hm, ?_⟩
    rintro _ _ ⟨rfl, rfl⟩
    conv => whnf
    have hp := key_pos s i
    have hf := key_four s i
    refine ⟨⟨Nat.one_pos, by show ((ints xs).length + 1) * (8 + 1) ≤ _; rw [List.length_map]; omega⟩, ?_⟩
    conv => whnf
    refine ⟨s.size + 4 - (i + (key s i).2), [(0, st s), (3, .row 1), (4, i64 ((i + (key s i).2 : Nat) : Int))], [1], by omega,
      ⟨rfl, rfl, congrArg (fun z => some (i64 z)) (by rw [w64 (by omega)]; omega), trivial⟩, ?_⟩
    conv => whnf
    refine ⟨i + (key s i).2, xs ++ [(key s i).1], ?_, ?_, by omega, rfl, rfl, ?_⟩
    · rw [← h1, keysAt_lt hi, List.append_assoc]; rfl
    · rw [List.length_append]; show xs.length + 1 ≤ _; omega
    · show _ = [Blk.row 3 1 (List.map (fun (k : Nat) => D.int .i64 (k : Int)) (xs ++ [(key s i).1]))]
      rw [List.map_append]
      rfl
  · have h4 := of_decide_eq_false h4
    rw [keysAt_ge (by omega), List.append_nil] at h1
    conv => whnf
    rw [h1]
    exact ⟨rfl, rfl⟩
end Go.Proofs.Ytboohfijacjhjaa

/- Names: small letters; right names; texts that may be said: the program's and the document's. -/
namespace Go.Proofs.Ytboohfijacjhjaa
open Go.Ab Go.RowKit

theorem small_A {k : Int} (h : k < 97) : CallR cx 115 [i32 k] [] fun r S => r = bo (decide (smallI k)) ∧ S = [] := by
  have hs : ¬ smallI k := by unfold smallI; omega
  refine callR_of (R := R1) cx_ok Try.func115 (by kernel_rfl) rfl ?_
  conv => whnf
  refine brF (decide_eq_false (by omega)) ?_
  conv => whnf
  refine brF (decide_eq_false (by omega)) ?_
  conv => whnf
  refine ⟨?_, rfl⟩
  rw [decide_eq_false hs]
  first | rfl | exact congrArg bo (decide_eq_true (by omega)) | exact congrArg bo (decide_eq_false (by omega))

theorem small_B {k : Int} (h : 97 ≤ k ∧ k ≤ 122) : CallR cx 115 [i32 k] [] fun r S => r = bo (decide (smallI k)) ∧ S = [] := by
  have hs : smallI k := by unfold smallI; omega
  refine callR_of (R := R1) cx_ok Try.func115 (by kernel_rfl) rfl ?_
  conv => whnf
  refine brT (decide_eq_true (by omega)) ?_
  conv => whnf
  refine brT (decide_eq_true (by omega)) ?_
  conv => whnf
  refine ⟨?_, rfl⟩
  rw [decide_eq_true hs]
  first | rfl | exact congrArg bo (decide_eq_true (by omega)) | exact congrArg bo (decide_eq_false (by omega))

theorem small_C {k : Int} (h : 123 ≤ k ∧ k ≤ 944) : CallR cx 115 [i32 k] [] fun r S => r = bo (decide (smallI k)) ∧ S = [] := by
  have hs : ¬ smallI k := by unfold smallI; omega
  refine callR_of (R := R1) cx_ok Try.func115 (by kernel_rfl) rfl ?_
  conv => whnf
  refine brT (decide_eq_true (by omega)) ?_
  conv => whnf
  refine brF (decide_eq_false (by omega)) ?_
  conv => whnf
  refine brF (decide_eq_false (by omega)) ?_
  conv => whnf
  refine ⟨?_, rfl⟩
  rw [decide_eq_false hs]
  first | rfl | exact congrArg bo (decide_eq_true (by omega)) | exact congrArg bo (decide_eq_false (by omega))

theorem small_D {k : Int} (h : 945 ≤ k ∧ k ≤ 969) : CallR cx 115 [i32 k] [] fun r S => r = bo (decide (smallI k)) ∧ S = [] := by
  have hs : smallI k := by unfold smallI; omega
  refine callR_of (R := R1) cx_ok Try.func115 (by kernel_rfl) rfl ?_
  conv => whnf
  refine brT (decide_eq_true (by omega)) ?_
  conv => whnf
  refine brF (decide_eq_false (by omega)) ?_
  conv => whnf
  refine brT (decide_eq_true (by omega)) ?_
  conv => whnf
  refine ⟨?_, rfl⟩
  rw [decide_eq_true hs]
  first | rfl | exact congrArg bo (decide_eq_true (by omega)) | exact congrArg bo (decide_eq_false (by omega))

theorem small_E {k : Int} (h : 970 ≤ k) : CallR cx 115 [i32 k] [] fun r S => r = bo (decide (smallI k)) ∧ S = [] := by
  have hs : ¬ smallI k := by unfold smallI; omega
  refine callR_of (R := R1) cx_ok Try.func115 (by kernel_rfl) rfl ?_
  conv => whnf
  refine brT (decide_eq_true (by omega)) ?_
  conv => whnf
  refine brF (decide_eq_false (by omega)) ?_
  conv => whnf
  refine brT (decide_eq_true (by omega)) ?_
  conv => whnf
  refine ⟨?_, rfl⟩
  rw [decide_eq_false hs]
  first | rfl | exact congrArg bo (decide_eq_true (by omega)) | exact congrArg bo (decide_eq_false (by omega))

theorem small_c {k : Int} : CallR cx 115 [i32 k] [] fun r S => r = bo (decide (smallI k)) ∧ S = [] := by
  by_cases h1 : k < 97
  · exact small_A h1
  by_cases h2 : k ≤ 122
  · exact small_B (by omega)
  by_cases h3 : k ≤ 944
  · exact small_C (by omega)
  by_cases h4 : k ≤ 969
  · exact small_D (by omega)
  exact small_E (by omega)

theorem rsmall_A {k : Int} (h : k < 97) : CallR cx 112 [i64 k] [] fun r S => r = bo (decide (smallI k)) ∧ S = [] := by
  have hs : ¬ smallI k := by unfold smallI; omega
  refine callR_of (R := R1) cx_ok Try.func112 (by kernel_rfl) rfl ?_
  conv => whnf
  refine brF (decide_eq_false (by omega)) ?_
  conv => whnf
  refine brF (decide_eq_false (by omega)) ?_
  conv => whnf
  refine ⟨?_, rfl⟩
  rw [decide_eq_false hs]
  first | rfl | exact congrArg bo (decide_eq_true (by omega)) | exact congrArg bo (decide_eq_false (by omega))

theorem rsmall_B {k : Int} (h : 97 ≤ k ∧ k ≤ 122) : CallR cx 112 [i64 k] [] fun r S => r = bo (decide (smallI k)) ∧ S = [] := by
  have hs : smallI k := by unfold smallI; omega
  refine callR_of (R := R1) cx_ok Try.func112 (by kernel_rfl) rfl ?_
  conv => whnf
  refine brT (decide_eq_true (by omega)) ?_
  conv => whnf
  refine brT (decide_eq_true (by omega)) ?_
  conv => whnf
  refine ⟨?_, rfl⟩
  rw [decide_eq_true hs]
  first | rfl | exact congrArg bo (decide_eq_true (by omega)) | exact congrArg bo (decide_eq_false (by omega))

theorem rsmall_C {k : Int} (h : 123 ≤ k ∧ k ≤ 944) : CallR cx 112 [i64 k] [] fun r S => r = bo (decide (smallI k)) ∧ S = [] := by
  have hs : ¬ smallI k := by unfold smallI; omega
  refine callR_of (R := R1) cx_ok Try.func112 (by kernel_rfl) rfl ?_
  conv => whnf
  refine brT (decide_eq_true (by omega)) ?_
  conv => whnf
  refine brF (decide_eq_false (by omega)) ?_
  conv => whnf
  refine brF (decide_eq_false (by omega)) ?_
  conv => whnf
  refine ⟨?_, rfl⟩
  rw [decide_eq_false hs]
  first | rfl | exact congrArg bo (decide_eq_true (by omega)) | exact congrArg bo (decide_eq_false (by omega))

theorem rsmall_D {k : Int} (h : 945 ≤ k ∧ k ≤ 969) : CallR cx 112 [i64 k] [] fun r S => r = bo (decide (smallI k)) ∧ S = [] := by
  have hs : smallI k := by unfold smallI; omega
  refine callR_of (R := R1) cx_ok Try.func112 (by kernel_rfl) rfl ?_
  conv => whnf
  refine brT (decide_eq_true (by omega)) ?_
  conv => whnf
  refine brF (decide_eq_false (by omega)) ?_
  conv => whnf
  refine brT (decide_eq_true (by omega)) ?_
  conv => whnf
  refine ⟨?_, rfl⟩
  rw [decide_eq_true hs]
  first | rfl | exact congrArg bo (decide_eq_true (by omega)) | exact congrArg bo (decide_eq_false (by omega))

theorem rsmall_E {k : Int} (h : 970 ≤ k) : CallR cx 112 [i64 k] [] fun r S => r = bo (decide (smallI k)) ∧ S = [] := by
  have hs : ¬ smallI k := by unfold smallI; omega
  refine callR_of (R := R1) cx_ok Try.func112 (by kernel_rfl) rfl ?_
  conv => whnf
  refine brT (decide_eq_true (by omega)) ?_
  conv => whnf
  refine brF (decide_eq_false (by omega)) ?_
  conv => whnf
  refine brT (decide_eq_true (by omega)) ?_
  conv => whnf
  refine ⟨?_, rfl⟩
  rw [decide_eq_false hs]
  first | rfl | exact congrArg bo (decide_eq_true (by omega)) | exact congrArg bo (decide_eq_false (by omega))

theorem rsmall_c {k : Int} : CallR cx 112 [i64 k] [] fun r S => r = bo (decide (smallI k)) ∧ S = [] := by
  by_cases h1 : k < 97
  · exact rsmall_A h1
  by_cases h2 : k ≤ 122
  · exact rsmall_B (by omega)
  by_cases h3 : k ≤ 944
  · exact rsmall_C (by omega)
  by_cases h4 : k ≤ 969
  · exact rsmall_D (by omega)
  exact rsmall_E (by omega)

end Go.Proofs.Ytboohfijacjhjaa

/- Names: right names, the program's and the document's. -/
namespace Go.Proofs.Ytboohfijacjhjaa
open Go.Ab Go.RowKit

theorem okR_key (f : Bool) (s : ByteArray) (i : Nat) : okR f ((key s i).1 : Int) = okR f ((Utf8.decode s i).1 : Int) := by
  cases h : stray s i with
  | false => rw [key_plain h]
  | true =>
    obtain ⟨h1, h2⟩ := key_stray h
    rw [h1, h2]
    have e1 : okR f (((s.get! i).toNat + 2000000 : Nat) : Int) = false := by
      unfold okR
      rw [decide_eq_false (by unfold smallI; omega), decide_eq_false (p := (((s.get! i).toNat + 2000000 : Nat) : Int) ≤ 57) (by omega)]
      simp
    have e2 : okR f ((65533 : Nat) : Int) = false := by
      unfold okR
      rw [decide_eq_false (by unfold smallI; omega), decide_eq_false (p := ((65533 : Nat) : Int) ≤ 57) (by omega)]
      simp
    exact e1.trans e2.symm

theorem goR_cons (k : Nat) (l : List Nat) (n : Nat) : goR (k :: l) n = (okR (n == 0) (k : Int) && goR l (n + 1)) := rfl

theorem ok_small {f : Bool} {k : Int} (h : smallI k) : okR f k = true := by unfold okR; rw [decide_eq_true h]; rfl
theorem ok_first {k : Int} (h : ¬ smallI k) : okR true k = false := by unfold okR; rw [decide_eq_false h]; rfl
theorem ok_low {f : Bool} {k : Int} (h : ¬ smallI k) (g : k < 48) : okR f k = false := by
  unfold okR; rw [decide_eq_false h, decide_eq_false (p := 48 ≤ k) (by omega)]; simp
theorem ok_high {f : Bool} {k : Int} (h : ¬ smallI k) (g : 57 < k) : okR f k = false := by
  unfold okR; rw [decide_eq_false h, decide_eq_false (p := k ≤ 57) (by omega)]; simp
theorem ok_digit {n : Nat} {k : Int} (hn : n ≠ 0) (g : 48 ≤ k) (g' : k ≤ 57) : okR (n == 0) k = true := by
  unfold okR; rw [decide_eq_true g, decide_eq_true g', beq_eq_false_iff_ne.2 hn]; simp

theorem right_c {s : ByteArray} (hm : s.size < 1000000000) : CallR cx 110 [st s] [] fun r S => r = bo (rightT s) ∧ S = [] := by
  refine callR_of (R := R1) cx_ok Try.func110 (by kernel_rfl) rfl ?_
  conv => whnf
  refine .inl ⟨fun m l S => ∃ (i n : Nat), goR (keysAt s i) n = rightT s ∧ n ≤ i ∧ i ≤ s.size + 3 ∧ m = s.size + 4 - i ∧
      l = [(0, st s), (3, i64 (n : Int)), (7, .ptr 0 [])] ∧ S = [.iter s i],
    ⟨_, _, ⟨0, 0, rfl, Nat.le_refl _, by omega, rfl, rfl, rfl⟩, ⟨rfl, rfl, rfl, trivial⟩⟩, ?_⟩
  rintro _ _ _ ⟨i, n, h1, h2, h3, rfl, rfl, rfl⟩
  conv => whnf
  refine brec (fun h4 => ?_) (fun h4 => ?_)
  · have hi := of_decide_eq_true h4
    have hd := decode_range s i
    rw [keysAt_lt hi, goR_cons, okR_key, key_two] at h1
    generalize hk : Utf8.decode s i = d at *
    obtain ⟨r, w⟩ := d
    simp only at hd h1
    generalize hr : (r : Int) = R at *
    have e1 : IntKind.i64.wrap ((n : Int) + 1) = ((n + 1 : Nat) : Int) := by rw [w64 (by omega)]; omega
    have sm := small_c (k := R)
    conv => whnf
    by_cases hs : smallI R
    · rw [decide_eq_true hs] at sm
      rw [ok_small hs, Bool.true_and] at h1
      refine ⟨_, sm, ?_⟩
      rintro _ _ ⟨rfl, rfl⟩
      conv => whnf
      exact ⟨_, _, 1, (by omega : s.size + 4 - (i + w) < s.size + 4 - i), ⟨i + w, n + 1, h1, by omega, by omega, rfl, rfl, rfl⟩,
        ⟨rfl, congrArg (fun z => some (i64 z)) e1, rfl, trivial⟩, rfl⟩
    · rw [decide_eq_false hs] at sm
      refine ⟨_, sm, ?_⟩
      rintro _ _ ⟨rfl, rfl⟩
      conv => whnf
      by_cases hn : n = 0
      · refine brT (beq_iff_eq.2 (by rw [e1]; omega)) ?_
        conv => whnf
        subst hn
        rw [show ((0 : Nat) == 0) = true from rfl, ok_first hs, Bool.false_and] at h1
        rw [← h1]
        exact ⟨rfl, rfl⟩
      · refine brF (beq_eq_false_iff_ne.2 (by rw [e1]; omega)) ?_
        conv => whnf
        by_cases hl : R < 48
        · refine brT (decide_eq_true (by omega)) ?_
          conv => whnf
          rw [ok_low hs hl, Bool.false_and] at h1
          rw [← h1]
          exact ⟨rfl, rfl⟩
        · refine brF (decide_eq_false (by omega)) ?_
          conv => whnf
          by_cases hh : 57 < R
          · refine brT (decide_eq_true (by omega)) ?_
            conv => whnf
            rw [ok_high hs hh, Bool.false_and] at h1
            rw [← h1]
            exact ⟨rfl, rfl⟩
          · refine brF (decide_eq_false (by omega)) ?_
            conv => whnf
            rw [ok_digit hn (by omega) (by omega), Bool.true_and] at h1
            exact ⟨_, _, 1, (by omega : s.size + 4 - (i + w) < s.size + 4 - i), ⟨i + w, n + 1, h1, by omega, by omega, rfl, rfl, rfl⟩,
              ⟨rfl, congrArg (fun z => some (i64 z)) e1, rfl, trivial⟩, rfl⟩
  · have h4 := of_decide_eq_false h4
    rw [keysAt_ge (by omega)] at h1
    conv => whnf
    have e0 : rightT s = (decide (0 < (n : Int)) && decide ((n : Int) ≤ 12)) := by
      rw [← h1]
      show (decide (1 ≤ n) && decide (n ≤ 12)) = _
      have a1 : (0 < (n : Int)) = (1 ≤ n) := propext ⟨fun h => by omega, fun h => by omega⟩
      have a2 : ((n : Int) ≤ 12) = (n ≤ 12) := propext ⟨fun h => by omega, fun h => by omega⟩
      simp only [a1, a2]
    rw [e0]
    refine brec (fun h5 => ?_) (fun h5 => ?_)
    · conv => whnf
      rw [show decide (0 < (n : Int)) = true from h5]
      exact ⟨rfl, rfl⟩
    · conv => whnf
      rw [show decide (0 < (n : Int)) = false from h5]
      exact ⟨rfl, rfl⟩
end Go.Proofs.Ytboohfijacjhjaa

/- Names: the document's right names; texts that may be said, the program's and the document's. -/
namespace Go.Proofs.Ytboohfijacjhjaa
open Go.Ab Go.RowKit

theorem ints_getD {l : List Nat} {j : Nat} (h : j < l.length) : (ints l).getD (j : Int).toNat .nilP = .int .i64 ((l[j]'h : Nat) : Int) := by
  rw [Int.toNat_natCast, List.getD_eq_getElem?_getD, List.getElem?_map, List.getElem?_eq_getElem h]
  rfl

theorem rright_c {s : ByteArray} (hm : s.size < 1000000000) : CallR cx 99 [st s] [] fun r S => r = bo (rightT s) ∧ S = [] := by
  have nu := numbers_c hm
  have hL := keysAt_length s 0
  unfold rightT
  generalize keysAt s 0 = L at *
  have hlen : (ints L).length = L.length := List.length_map _
  refine callR_of (R := R1) cx_ok Try.func99 (by kernel_rfl) rfl ?_
  conv => whnf
  refine ⟨_, nu, ?_⟩
  rintro _ _ ⟨rfl, rfl⟩
  conv => whnf
  refine .inl ⟨fun m l S => ∃ j : Nat, j ≤ L.length ∧ goR (L.drop j) j = goR L 0 ∧ m = L.length - j ∧
      l = [(3, .d (.sl 1 (ints L))), (8, .d (.sl 1 (ints L))), (9, i64 (((ints L).length : Nat) : Int)), (10, i64 (j : Int))] ∧ S = [],
    ⟨_, _, ⟨0, Nat.zero_le _, rfl, rfl, rfl, rfl⟩, ⟨rfl, rfl, rfl, rfl, trivial⟩⟩, ?_⟩
  rintro _ _ _ ⟨j, hj, h1, rfl, rfl, rfl⟩
  conv => whnf
  refine brec (fun h4 => ?_) (fun h4 => ?_)
  · have h4 := of_decide_eq_true h4
    rw [hlen] at h4
    have hlt : j < L.length := by omega
    conv => whnf
    refine ⟨⟨by omega, by rw [hlen]; omega⟩, ?_⟩
    rw [ints_getD hlt]
    rw [List.drop_eq_getElem_cons hlt, goR_cons] at h1
    generalize L[j]'hlt = K at *
    have sm := rsmall_c (k := (K : Int))
    generalize hK : (K : Int) = R at *
    have e1 : IntKind.i64.wrap ((j : Int) + 1) = ((j + 1 : Nat) : Int) := by rw [w64 (by omega)]; omega
    conv => whnf
    by_cases hs : smallI R
    · rw [decide_eq_true hs] at sm
      rw [ok_small hs, Bool.true_and] at h1
      refine ⟨_, sm, ?_⟩
      rintro _ _ ⟨rfl, rfl⟩
      conv => whnf
      exact ⟨_, _, 0, (by omega : L.length - (j + 1) < L.length - j), ⟨j + 1, by omega, h1, rfl, rfl, rfl⟩,
        ⟨rfl, rfl, rfl, congrArg (fun z => some (i64 z)) e1, trivial⟩, rfl⟩
    · rw [decide_eq_false hs] at sm
      refine ⟨_, sm, ?_⟩
      rintro _ _ ⟨rfl, rfl⟩
      conv => whnf
      by_cases hn : j = 0
      · refine brT (beq_iff_eq.2 (by omega)) ?_
        conv => whnf
        subst hn
        rw [show ((0 : Nat) == 0) = true from rfl, ok_first hs, Bool.false_and] at h1
        rw [← h1]
        exact ⟨rfl, rfl⟩
      · refine brF (beq_eq_false_iff_ne.2 (by omega)) ?_
        conv => whnf
        by_cases hl : R < 48
        · refine brT (decide_eq_true (by omega)) ?_
          conv => whnf
          rw [ok_low hs hl, Bool.false_and] at h1
          rw [← h1]
          exact ⟨rfl, rfl⟩
        · refine brF (decide_eq_false (by omega)) ?_
          conv => whnf
          by_cases hh : 57 < R
          · refine brT (decide_eq_true (by omega)) ?_
            conv => whnf
            rw [ok_high hs hh, Bool.false_and] at h1
            rw [← h1]
            exact ⟨rfl, rfl⟩
          · refine brF (decide_eq_false (by omega)) ?_
            conv => whnf
            rw [ok_digit hn (by omega) (by omega), Bool.true_and] at h1
            exact ⟨_, _, 0, (by omega : L.length - (j + 1) < L.length - j), ⟨j + 1, by omega, h1, rfl, rfl, rfl⟩,
              ⟨rfl, rfl, rfl, congrArg (fun z => some (i64 z)) e1, trivial⟩, rfl⟩
  · have h4 := of_decide_eq_false h4
    rw [hlen] at h4
    obtain rfl : j = L.length := by omega
    rw [List.drop_length] at h1
    conv => whnf
    have e0 : goR L 0 = (decide ((((ints L).length : Nat) : Int) ≥ 1) && decide ((((ints L).length : Nat) : Int) ≤ 12)) := by
      rw [← h1, hlen]
      show (decide (1 ≤ L.length) && decide (L.length ≤ 12)) = _
      have a1 : (((L.length : Nat) : Int) ≥ 1) = (1 ≤ L.length) := propext ⟨fun h => by omega, fun h => by omega⟩
      have a2 : (((L.length : Nat) : Int) ≤ 12) = (L.length ≤ 12) := propext ⟨fun h => by omega, fun h => by omega⟩
      simp only [a1, a2]
    rw [e0]
    refine brec (fun h5 => ?_) (fun h5 => ?_)
    · conv => whnf
      rw [show decide ((((ints L).length : Nat) : Int) ≥ 1) = true from h5]
      exact ⟨rfl, rfl⟩
    · conv => whnf
      rw [show decide ((((ints L).length : Nat) : Int) ≥ 1) = false from h5]
      exact ⟨rfl, rfl⟩
end Go.Proofs.Ytboohfijacjhjaa

/- Texts as runes: what a rune's bytes are, that they are found again, that texts without capitals stay so. Plain laws, no program. -/
namespace Go.Proofs.Ytboohfijacjhjaa
open Go.Ab

/-- A rune's bytes. -/
inductive Val : List UInt8 → Nat → Prop
  | one {b : UInt8} : b.toNat < 128 → Val [b] b.toNat
  | two {b0 b1 : UInt8} : 194 ≤ b0.toNat ∧ b0.toNat ≤ 223 → 128 ≤ b1.toNat ∧ b1.toNat ≤ 191 → Val [b0, b1] (b0.toNat % 32 * 64 + b1.toNat % 64)
  | three {b0 b1 b2 : UInt8} : 224 ≤ b0.toNat ∧ b0.toNat ≤ 239 → 128 ≤ b1.toNat ∧ b1.toNat ≤ 191 → 128 ≤ b2.toNat ∧ b2.toNat ≤ 191 → (b0.toNat = 224 → 160 ≤ b1.toNat) → (b0.toNat = 237 → b1.toNat ≤ 159) →
      Val [b0, b1, b2] (b0.toNat % 16 * 4096 + b1.toNat % 64 * 64 + b2.toNat % 64)
  | four {b0 b1 b2 b3 : UInt8} : 240 ≤ b0.toNat ∧ b0.toNat ≤ 244 → 128 ≤ b1.toNat ∧ b1.toNat ≤ 191 → 128 ≤ b2.toNat ∧ b2.toNat ≤ 191 → 128 ≤ b3.toNat ∧ b3.toNat ≤ 191 → (b0.toNat = 240 → 144 ≤ b1.toNat) → (b0.toNat = 244 → b1.toNat ≤ 143) →
      Val [b0, b1, b2, b3] (b0.toNat % 8 * 262144 + b1.toNat % 64 * 4096 + b2.toNat % 64 * 64 + b3.toNat % 64)

theorem Val.lt {u k} (h : Val u k) : k < 1114112 := by cases h <;> omega

/-- What is no surrogate and not too great is a rune. -/
def okRune (k : Nat) : Prop := k < 55296 ∨ (57343 < k ∧ k < 1114112)

theorem Val.ok {u k} (h : Val u k) : okRune k := by unfold okRune; cases h <;> omega

end Go.Proofs.Ytboohfijacjhjaa

/- Readers of bytes: what they do. Payloads: what they are, their bytes. Payloads: read; what is written is read as it was. -/
set_option linter.unusedVariables false
namespace Go.Proofs.Ytboohfijacjhjaa
open Go.Ab Go.RowKit

/-- A reader: what is left, what is wrong. -/
abbrev rd (s : ByteArray) (e : Int) : D := .agg [.str s, .int .i64 e]

def tkS (s : ByteArray) (e n : Int) : ByteArray := if e = 0 ∧ n ≤ s.size then s.extract 0 n.toNat else .empty

def tkR (s : ByteArray) (e n : Int) : ByteArray := if e = 0 ∧ n ≤ s.size then s.extract n.toNat s.size else s

def rd_tkE (s : ByteArray) (e n : Int) : Int := if e = 0 then (if n ≤ s.size then 0 else 3) else e

theorem rd_take_c {s : ByteArray} {e n : Int} (hn : 0 ≤ n) : CallR cx 104 [.ptr 0 [], i64 n] [.var (.d (rd s e))] fun r S =>
    r = st (tkS s e n) ∧ S = [.var (.d (rd (tkR s e n) (rd_tkE s e n)))] := by
  refine callR_of (R := R1) cx_ok Try.func104 (by kernel_rfl) rfl ?_
  conv => whnf
  refine brec (fun h => ?_) (fun h => ?_)
  · have h : ¬ e = 0 := by simpa using h
    have e1 : tkS s e n = .empty := if_neg fun g => h g.1
    have e2 : tkR s e n = s := if_neg fun g => h g.1
    have e3 : rd_tkE s e n = e := if_neg h
    rw [e1, e2, e3]
    conv => whnf
    exact ⟨rfl, rfl⟩
  · have h : e = 0 := by simpa using h
    subst h
    conv => whnf
    refine brec (fun g => ?_) (fun g => ?_)
    · have g := of_decide_eq_true g
      have e1 : tkS s 0 n = .empty := if_neg fun k => by omega
      have e2 : tkR s 0 n = s := if_neg fun k => by omega
      have e3 : rd_tkE s 0 n = 3 := by unfold rd_tkE; rw [if_pos rfl, if_neg (by omega)]
      rw [e1, e2, e3]
      conv => whnf
      exact ⟨rfl, rfl⟩
    · have g := of_decide_eq_false g
      have g : n ≤ s.size := by omega
      have e1 : tkS s 0 n = s.extract 0 n.toNat := if_pos ⟨rfl, g⟩
      have e2 : tkR s 0 n = s.extract n.toNat s.size := if_pos ⟨rfl, g⟩
      have e3 : rd_tkE s 0 n = 0 := by unfold rd_tkE; rw [if_pos rfl, if_pos g]
      rw [e1, e2, e3]
      conv => whnf
      refine ⟨⟨by decide, hn, g⟩, ?_⟩
      conv => whnf
      refine ⟨⟨hn, g, Int.le_refl _⟩, ?_⟩
      conv => whnf
      exact ⟨rfl, rfl⟩

theorem fail_c {s : ByteArray} {e f : Int} : CallR cx 84 [.ptr 0 [], i64 f] [.var (.d (rd s e))] fun r S =>
    r = .tup [] ∧ S = [.var (.d (rd s (if e = 0 then f else e)))] := by
  refine callR_of (R := R1) cx_ok Try.func84 (by kernel_rfl) rfl ?_
  conv => whnf
  refine brec (fun h => ?_) (fun h => ?_)
  · have h : e = 0 := by simpa using h
    rw [if_pos h]
    conv => whnf
    exact ⟨rfl, rfl⟩
  · have h : ¬ e = 0 := by simpa using h
    rw [if_neg h]
    conv => whnf
    exact ⟨rfl, rfl⟩

theorem end_c {s : ByteArray} {e : Int} : CallR cx 85 [.ptr 0 []] [.var (.d (rd s e))] fun r S =>
    r = i64 (if e = 0 then (if s = .empty then 0 else 4) else e) ∧ S = [.var (.d (rd s e))] := by
  refine callR_of (R := R1) cx_ok Try.func85 (by kernel_rfl) rfl ?_
  conv => whnf
  refine brec (fun h => ?_) (fun h => ?_)
  · have h : e = 0 := by simpa using h
    subst h
    rw [if_pos rfl]
    conv => whnf
    refine brec (fun g => ?_) (fun g => ?_)
    · have g : ¬ s = .empty := by
        intro e; subst e; simp at g; exact g rfl
      rw [if_neg g]
      conv => whnf
      exact ⟨rfl, rfl⟩
    · have g : s = .empty := (by simpa using g : s = ⟨#[]⟩)
      rw [if_pos g]
      conv => whnf
      exact ⟨rfl, rfl⟩
  · have h : ¬ e = 0 := by simpa using h
    rw [if_neg h]
    conv => whnf
    exact ⟨rfl, rfl⟩

/-- Bytes as a number, the highest first. -/
def be (l : List UInt8) (a : Nat) : Nat := l.foldl (fun a b => (a * 256 + b.toNat) % 18446744073709551616) a

theorem be_lt (l : List UInt8) {a : Nat} (h : a < 18446744073709551616) : be l a < 18446744073709551616 := by
  induction l generalizing a with
  | nil => exact h
  | cons b l ih => exact ih (Nat.mod_lt _ (by decide))

theorem wrapN {n : Nat} (h : n < 18446744073709551616) : IntKind.u64.wrap (n : Int) = n := wrapU ⟨by omega, by omega⟩

theorem or_sum {a b s : Nat} (hb : b < 2 ^ s) : a * 2 ^ s ||| b = a * 2 ^ s + b := by
  rw [← Nat.shiftLeft_eq, ← Nat.shiftLeft_add_eq_or_of_lt hb]

theorem be_step {a : Nat} (b : UInt8) (ha : a < 18446744073709551616) :
    IntKind.u64.wrap ((BitVec.ofInt IntKind.u64.bits (IntKind.u64.wrap ((a : Int) * 2 ^ min (8 : Int).toNat IntKind.u64.bits)) ||| BitVec.ofInt IntKind.u64.bits (IntKind.u64.wrap (b.toNat : Int))).toNat : Int) =
      (((a * 256 + b.toNat) % 18446744073709551616 : Nat) : Int) := by
  have hb : b.toNat < 256 := b.toNat_lt
  have e1 : IntKind.u64.wrap ((a : Int) * 2 ^ min (8 : Int).toNat IntKind.u64.bits) = ((a % 72057594037927936 * 2 ^ 8 : Nat) : Int) := by
    rw [Go.Ab.wrap64]
    show (a : Int) * 2 ^ 8 % _ = _
    omega
  have e2 : IntKind.u64.wrap (b.toNat : Int) = (b.toNat : Int) := wrapN (by omega)
  rw [e1, e2]
  have e : (BitVec.ofInt IntKind.u64.bits ((a % 72057594037927936 * 2 ^ 8 : Nat) : Int) ||| BitVec.ofInt IntKind.u64.bits (b.toNat : Int)).toNat = a % 72057594037927936 * 2 ^ 8 + b.toNat := by
    show (BitVec.ofInt 64 ((a % 72057594037927936 * 2 ^ 8 : Nat) : Int) ||| BitVec.ofInt 64 (b.toNat : Int)).toNat = _
    rw [BitVec.toNat_or, BitVec.toNat_ofInt, BitVec.toNat_ofInt]
    have g1 : ((a % 72057594037927936 * 2 ^ 8 : Nat) : Int) % ((2 ^ 64 : Nat) : Int) = ((a % 72057594037927936 * 2 ^ 8 : Nat) : Int) := by omega
    have g2 : (b.toNat : Int) % ((2 ^ 64 : Nat) : Int) = (b.toNat : Int) := by omega
    rw [g1, g2, Int.toNat_natCast, Int.toNat_natCast]
    exact or_sum hb
  rw [e, wrapN (by omega)]
  omega

theorem bytes_getD {s : ByteArray} {j : Nat} (h : j < s.data.toList.length) : (D.bytes s).getD (j : Int).toNat .nilP = .int .u8 ((s.data.toList[j]'h).toNat : Int) := by
  rw [Int.toNat_natCast, List.getD_eq_getElem?_getD]
  unfold D.bytes
  rw [List.getElem?_map, List.getElem?_eq_getElem h]
  rfl

theorem number_c {s : ByteArray} {e n : Int} (hn : 0 ≤ n) (hm : s.size < 9223372036854775807) : CallR cx 101 [.ptr 0 [], i64 n] [.var (.d (rd s e))] fun r S =>
    r = u64 ((be (tkS s e n).data.toList 0 : Nat) : Int) ∧ S = [.var (.d (rd (tkR s e n) (rd_tkE s e n)))] := by
  have ht : (tkS s e n).size ≤ s.size := by
    unfold tkS
    split
    · rw [ByteArray.size_extract]; omega
    · exact Nat.zero_le _
  have tk := rd_take_c (s := s) (e := e) hn
  generalize tkS s e n = t at *
  generalize rd (tkR s e n) (rd_tkE s e n) = R at *
  refine callR_of (R := R1) cx_ok Try.func101 (by kernel_rfl) rfl ?_
  conv => whnf
  refine ⟨_, tk, ?_⟩
  rintro _ _ ⟨rfl, rfl⟩
  conv => whnf
  refine ⟨by unfold maxLen; omega, ?_⟩
  conv => whnf
  refine .inl ⟨fun k l S => ∃ j : Nat, j ≤ t.data.toList.length ∧ k = t.data.toList.length - j ∧
      l = [(5, u64 ((be (t.data.toList.take j) 0 : Nat) : Int)), (11, .d (.sl 1 (D.bytes t))), (12, i64 (((D.bytes t).length : Nat) : Int)), (13, i64 (j : Int))] ∧ S = [.var (.d R)],
    ⟨_, _, ⟨0, Nat.zero_le _, rfl, rfl, rfl⟩, ⟨rfl, rfl, rfl, rfl, trivial⟩⟩, ?_⟩
  rintro _ _ _ ⟨j, hj, rfl, rfl, rfl⟩
  have hlen : (D.bytes t).length = t.data.toList.length := by simp [D.bytes]
  have hts : t.data.toList.length = t.size := by rw [Array.length_toList]; rfl
  conv => whnf
  refine brec (fun h1 => ?_) (fun h1 => ?_)
  · have h1 := of_decide_eq_true h1
    rw [hlen] at h1
    have hlt : j < t.data.toList.length := by omega
    conv => whnf
    refine ⟨⟨by omega, by rw [hlen]; omega⟩, ?_⟩
    rw [bytes_getD hlt]
    conv => whnf
    refine ⟨by decide, ?_⟩
    conv => whnf
    have e1 := be_step (a := be (t.data.toList.take j) 0) (t.data.toList[j]'hlt) (be_lt _ (by decide))
    have e2 : (be (t.data.toList.take j) 0 * 256 + (t.data.toList[j]'hlt).toNat) % 18446744073709551616 = be (t.data.toList.take (j + 1)) 0 := by
      rw [List.take_add_one, List.getElem?_eq_getElem hlt]
      unfold be
      rw [List.foldl_append]
      rfl
    rw [e2] at e1
    have e3 : IntKind.i64.wrap ((j : Int) + 1) = ((j + 1 : Nat) : Int) := by rw [IntKind.wrap_i64]; omega
    exact ⟨_, _, 1, (by omega : t.data.toList.length - (j + 1) < t.data.toList.length - j), ⟨j + 1, hlt, rfl, rfl, rfl⟩,
      ⟨congrArg (fun z => some (u64 z)) e1, rfl, rfl, congrArg (fun z => some (i64 z)) e3, trivial⟩, rfl⟩
  · have h1 := of_decide_eq_false h1
    rw [hlen] at h1
    have : j = t.data.toList.length := by omega
    subst this
    conv => whnf
    rw [List.take_length]
    exact ⟨rfl, rfl⟩

theorem byte_c {s : ByteArray} {e : Int} (hm : s.size < 9223372036854775807) : CallR cx 78 [.ptr 0 []] [.var (.d (rd s e))] fun r S =>
    r = u8 (IntKind.u8.wrap ((be (tkS s e 1).data.toList 0 : Nat) : Int)) ∧ S = [.var (.d (rd (tkR s e 1) (rd_tkE s e 1)))] := by
  refine callR_of (R := R1) cx_ok Try.func78 (by kernel_rfl) rfl ?_
  conv => whnf
  refine ⟨_, number_c (by decide) hm, ?_⟩
  rintro _ _ ⟨rfl, rfl⟩
  conv => whnf
  exact ⟨rfl, rfl⟩

theorem over_c {s : ByteArray} : CallR cx 77 [st s] [] fun r S => r = .ptr 0 [] ∧ S = [.var (.d (rd s 0))] := by
  refine callR_of (R := R1) cx_ok Try.func77 (by kernel_rfl) rfl ?_
  conv => whnf
  exact ⟨rfl, rfl⟩
end Go.Proofs.Ytboohfijacjhjaa

set_option linter.unusedVariables false
namespace Go.Proofs.Ytboohfijacjhjaa
open Go.Ab Go.RowKit

/-- A number's bytes, the highest first. -/
def bigB (n k : Nat) : ByteArray := ⟨((List.range k).map fun i => UInt8.ofNat (n / 256 ^ (k - 1 - i))).toArray⟩

abbrev by8 (n e : Nat) : D := .int .u8 ((UInt8.ofNat (n / 256 ^ e)).toNat : Int)

theorem bigB_bytes (n k : Nat) : D.bytes (bigB n k) = (List.range k).map fun i => by8 n (k - 1 - i) := by
  unfold D.bytes bigB
  rw [List.toList_toArray, List.map_map]
  rfl

theorem bigB_size (n k : Nat) : (bigB n k).size = k := by
  show ((List.range k).map _).toArray.size = k
  rw [List.size_toArray, List.length_map, List.length_range]

theorem pow256 (e : Nat) : 256 ^ e = 2 ^ (8 * e) := by rw [Nat.pow_mul]

theorem by8_eq (n e : Nat) {z : Int} (h : z = ((n / 256 ^ e : Nat) : Int)) : D.int .u8 (IntKind.u8.wrap z) = by8 n e := by
  subst h
  have e1 : IntKind.u8.wrap ((n / 256 ^ e : Nat) : Int) = ((n / 256 ^ e : Nat) : Int) % 256 := by simp [IntKind.wrap, IntKind.bits, IntKind.signed]
  show D.int .u8 _ = D.int .u8 _
  rw [e1, UInt8.toNat_ofNat']
  congr 1

theorem shr_e (n e : Nat) (b : Int) (hb : b = ((8 * e : Nat) : Int)) (h8 : 8 * e ≤ 64) : (n : Int).fdiv (2 ^ min b.toNat IntKind.u64.bits) = ((n / 256 ^ e : Nat) : Int) := by
  subst hb
  have : min ((8 * e : Nat) : Int).toNat IntKind.u64.bits = 8 * e := by rw [Int.toNat_natCast]; exact Nat.min_eq_left h8
  rw [this, Int.fdiv_eq_ediv_of_nonneg _ (by exact Int.le_of_lt (Int.pow_pos (by decide))), pow256, Int.natCast_ediv, Int.natCast_pow]
  rfl

abbrev z8 : D := .int .u8 0

theorem big1_c {n : Nat} : CallR cx 92 [u64 n, i64 1] [] fun r S => r = st (bigB n 1) ∧ S = [] := by
  let f : Nat → List D := fun i => match i with
    | 0 => [z8, z8, z8, z8, z8, z8, z8, z8]
    | _ => [by8 n 0, z8, z8, z8, z8, z8, z8, z8]
  refine callR_of (R := R1) cx_ok Try.func92 (by kernel_rfl) rfl ?_
  conv => whnf
  refine .inl ⟨fun m l S => ∃ i : Nat, i ≤ 1 ∧ m = 1 - i ∧ l = [(0, u64 n), (1, i64 1), (5, .ptr 0 []), (7, i64 1), (8, i64 (i : Int))] ∧
    S = [.var (.d (.arr 8 1 (f i)))], ⟨1, _, ⟨0, by decide, rfl, rfl, rfl⟩, ⟨rfl, rfl, rfl, rfl, rfl, trivial⟩⟩, ?_⟩
  rintro _ _ _ ⟨i, hi, rfl, rfl, rfl⟩
  rcases i with _ | _ | i
  · conv => whnf
    refine ⟨by decide, ?_⟩
    conv => whnf
    refine ⟨by decide, ?_⟩
    conv => whnf
    exact ⟨0, _, 1, by decide, ⟨1, by decide, rfl, rfl, congrArg (fun z => [Blk.var (.d (.arr 8 1 [z, z8, z8, z8, z8, z8, z8, z8]))]) (by8_eq n 0 (shr_e n 0 _ (by rfl) (by decide)))⟩, ⟨rfl, rfl, rfl, rfl, rfl, trivial⟩, rfl⟩
  · conv => whnf
    refine ⟨by decide, ?_⟩
    conv => whnf
    refine ⟨bigB n 1, ⟨by rw [bigB_bytes]; rfl, by rw [bigB_size]; rfl⟩, ?_⟩
    conv => whnf
    exact ⟨rfl, rfl⟩
  · omega

theorem big4_c {n : Nat} : CallR cx 92 [u64 n, i64 4] [] fun r S => r = st (bigB n 4) ∧ S = [] := by
  let f : Nat → List D := fun i => match i with
    | 0 => [z8, z8, z8, z8, z8, z8, z8, z8]
    | 1 => [by8 n 3, z8, z8, z8, z8, z8, z8, z8]
    | 2 => [by8 n 3, by8 n 2, z8, z8, z8, z8, z8, z8]
    | 3 => [by8 n 3, by8 n 2, by8 n 1, z8, z8, z8, z8, z8]
    | _ => [by8 n 3, by8 n 2, by8 n 1, by8 n 0, z8, z8, z8, z8]
  refine callR_of (R := R1) cx_ok Try.func92 (by kernel_rfl) rfl ?_
  conv => whnf
  refine .inl ⟨fun m l S => ∃ i : Nat, i ≤ 4 ∧ m = 4 - i ∧ l = [(0, u64 n), (1, i64 4), (5, .ptr 0 []), (7, i64 4), (8, i64 (i : Int))] ∧
    S = [.var (.d (.arr 8 1 (f i)))], ⟨4, _, ⟨0, by decide, rfl, rfl, rfl⟩, ⟨rfl, rfl, rfl, rfl, rfl, trivial⟩⟩, ?_⟩
  rintro _ _ _ ⟨i, hi, rfl, rfl, rfl⟩
  rcases i with _ | _ | _ | _ | _ | i
  · conv => whnf
    refine ⟨by decide, ?_⟩
    conv => whnf
    refine ⟨by decide, ?_⟩
    conv => whnf
    exact ⟨3, _, 1, by decide, ⟨1, by decide, rfl, rfl, congrArg (fun z => [Blk.var (.d (.arr 8 1 [z, z8, z8, z8, z8, z8, z8, z8]))]) (by8_eq n 3 (shr_e n 3 _ (by rfl) (by decide)))⟩, ⟨rfl, rfl, rfl, rfl, rfl, trivial⟩, rfl⟩
  · conv => whnf
    refine ⟨by decide, ?_⟩
    conv => whnf
    refine ⟨by decide, ?_⟩
    conv => whnf
    exact ⟨2, _, 1, by decide, ⟨2, by decide, rfl, rfl, congrArg (fun z => [Blk.var (.d (.arr 8 1 [by8 n 3, z, z8, z8, z8, z8, z8, z8]))]) (by8_eq n 2 (shr_e n 2 _ (by rfl) (by decide)))⟩, ⟨rfl, rfl, rfl, rfl, rfl, trivial⟩, rfl⟩
  · conv => whnf
    refine ⟨by decide, ?_⟩
    conv => whnf
    refine ⟨by decide, ?_⟩
    conv => whnf
    exact ⟨1, _, 1, by decide, ⟨3, by decide, rfl, rfl, congrArg (fun z => [Blk.var (.d (.arr 8 1 [by8 n 3, by8 n 2, z, z8, z8, z8, z8, z8]))]) (by8_eq n 1 (shr_e n 1 _ (by rfl) (by decide)))⟩, ⟨rfl, rfl, rfl, rfl, rfl, trivial⟩, rfl⟩
  · conv => whnf
    refine ⟨by decide, ?_⟩
    conv => whnf
    refine ⟨by decide, ?_⟩
    conv => whnf
    exact ⟨0, _, 1, by decide, ⟨4, by decide, rfl, rfl, congrArg (fun z => [Blk.var (.d (.arr 8 1 [by8 n 3, by8 n 2, by8 n 1, z, z8, z8, z8, z8]))]) (by8_eq n 0 (shr_e n 0 _ (by rfl) (by decide)))⟩, ⟨rfl, rfl, rfl, rfl, rfl, trivial⟩, rfl⟩
  · conv => whnf
    refine ⟨by decide, ?_⟩
    conv => whnf
    refine ⟨bigB n 4, ⟨by rw [bigB_bytes]; rfl, by rw [bigB_size]; rfl⟩, ?_⟩
    conv => whnf
    exact ⟨rfl, rfl⟩
  · omega

theorem big8_c {n : Nat} : CallR cx 92 [u64 n, i64 8] [] fun r S => r = st (bigB n 8) ∧ S = [] := by
  let f : Nat → List D := fun i => match i with
    | 0 => [z8, z8, z8, z8, z8, z8, z8, z8]
    | 1 => [by8 n 7, z8, z8, z8, z8, z8, z8, z8]
    | 2 => [by8 n 7, by8 n 6, z8, z8, z8, z8, z8, z8]
    | 3 => [by8 n 7, by8 n 6, by8 n 5, z8, z8, z8, z8, z8]
    | 4 => [by8 n 7, by8 n 6, by8 n 5, by8 n 4, z8, z8, z8, z8]
    | 5 => [by8 n 7, by8 n 6, by8 n 5, by8 n 4, by8 n 3, z8, z8, z8]
    | 6 => [by8 n 7, by8 n 6, by8 n 5, by8 n 4, by8 n 3, by8 n 2, z8, z8]
    | 7 => [by8 n 7, by8 n 6, by8 n 5, by8 n 4, by8 n 3, by8 n 2, by8 n 1, z8]
    | _ => [by8 n 7, by8 n 6, by8 n 5, by8 n 4, by8 n 3, by8 n 2, by8 n 1, by8 n 0]
  refine callR_of (R := R1) cx_ok Try.func92 (by kernel_rfl) rfl ?_
  conv => whnf
  refine .inl ⟨fun m l S => ∃ i : Nat, i ≤ 8 ∧ m = 8 - i ∧ l = [(0, u64 n), (1, i64 8), (5, .ptr 0 []), (7, i64 8), (8, i64 (i : Int))] ∧
    S = [.var (.d (.arr 8 1 (f i)))], ⟨8, _, ⟨0, by decide, rfl, rfl, rfl⟩, ⟨rfl, rfl, rfl, rfl, rfl, trivial⟩⟩, ?_⟩
  rintro _ _ _ ⟨i, hi, rfl, rfl, rfl⟩
  rcases i with _ | _ | _ | _ | _ | _ | _ | _ | _ | i
  · conv => whnf
    refine ⟨by decide, ?_⟩
    conv => whnf
    refine ⟨by decide, ?_⟩
    conv => whnf
    exact ⟨7, _, 1, by decide, ⟨1, by decide, rfl, rfl, congrArg (fun z => [Blk.var (.d (.arr 8 1 [z, z8, z8, z8, z8, z8, z8, z8]))]) (by8_eq n 7 (shr_e n 7 _ (by rfl) (by decide)))⟩, ⟨rfl, rfl, rfl, rfl, rfl, trivial⟩, rfl⟩
  · conv => whnf
    refine ⟨by decide, ?_⟩
    conv => whnf
    refine ⟨by decide, ?_⟩
    conv => whnf
    exact ⟨6, _, 1, by decide, ⟨2, by decide, rfl, rfl, congrArg (fun z => [Blk.var (.d (.arr 8 1 [by8 n 7, z, z8, z8, z8, z8, z8, z8]))]) (by8_eq n 6 (shr_e n 6 _ (by rfl) (by decide)))⟩, ⟨rfl, rfl, rfl, rfl, rfl, trivial⟩, rfl⟩
  · conv => whnf
    refine ⟨by decide, ?_⟩
    conv => whnf
    refine ⟨by decide, ?_⟩
    conv => whnf
    exact ⟨5, _, 1, by decide, ⟨3, by decide, rfl, rfl, congrArg (fun z => [Blk.var (.d (.arr 8 1 [by8 n 7, by8 n 6, z, z8, z8, z8, z8, z8]))]) (by8_eq n 5 (shr_e n 5 _ (by rfl) (by decide)))⟩, ⟨rfl, rfl, rfl, rfl, rfl, trivial⟩, rfl⟩
  · conv => whnf
    refine ⟨by decide, ?_⟩
    conv => whnf
    refine ⟨by decide, ?_⟩
    conv => whnf
    exact ⟨4, _, 1, by decide, ⟨4, by decide, rfl, rfl, congrArg (fun z => [Blk.var (.d (.arr 8 1 [by8 n 7, by8 n 6, by8 n 5, z, z8, z8, z8, z8]))]) (by8_eq n 4 (shr_e n 4 _ (by rfl) (by decide)))⟩, ⟨rfl, rfl, rfl, rfl, rfl, trivial⟩, rfl⟩
  · conv => whnf
    refine ⟨by decide, ?_⟩
    conv => whnf
    refine ⟨by decide, ?_⟩
    conv => whnf
    exact ⟨3, _, 1, by decide, ⟨5, by decide, rfl, rfl, congrArg (fun z => [Blk.var (.d (.arr 8 1 [by8 n 7, by8 n 6, by8 n 5, by8 n 4, z, z8, z8, z8]))]) (by8_eq n 3 (shr_e n 3 _ (by rfl) (by decide)))⟩, ⟨rfl, rfl, rfl, rfl, rfl, trivial⟩, rfl⟩
  · conv => whnf
    refine ⟨by decide, ?_⟩
    conv => whnf
    refine ⟨by decide, ?_⟩
    conv => whnf
    exact ⟨2, _, 1, by decide, ⟨6, by decide, rfl, rfl, congrArg (fun z => [Blk.var (.d (.arr 8 1 [by8 n 7, by8 n 6, by8 n 5, by8 n 4, by8 n 3, z, z8, z8]))]) (by8_eq n 2 (shr_e n 2 _ (by rfl) (by decide)))⟩, ⟨rfl, rfl, rfl, rfl, rfl, trivial⟩, rfl⟩
  · conv => whnf
    refine ⟨by decide, ?_⟩
    conv => whnf
    refine ⟨by decide, ?_⟩
    conv => whnf
    exact ⟨1, _, 1, by decide, ⟨7, by decide, rfl, rfl, congrArg (fun z => [Blk.var (.d (.arr 8 1 [by8 n 7, by8 n 6, by8 n 5, by8 n 4, by8 n 3, by8 n 2, z, z8]))]) (by8_eq n 1 (shr_e n 1 _ (by rfl) (by decide)))⟩, ⟨rfl, rfl, rfl, rfl, rfl, trivial⟩, rfl⟩
  · conv => whnf
    refine ⟨by decide, ?_⟩
    conv => whnf
    refine ⟨by decide, ?_⟩
    conv => whnf
    exact ⟨0, _, 1, by decide, ⟨8, by decide, rfl, rfl, congrArg (fun z => [Blk.var (.d (.arr 8 1 [by8 n 7, by8 n 6, by8 n 5, by8 n 4, by8 n 3, by8 n 2, by8 n 1, z]))]) (by8_eq n 0 (shr_e n 0 _ (by rfl) (by decide)))⟩, ⟨rfl, rfl, rfl, rfl, rfl, trivial⟩, rfl⟩
  · conv => whnf
    refine ⟨by decide, ?_⟩
    conv => whnf
    refine ⟨bigB n 8, ⟨by rw [bigB_bytes]; rfl, by rw [bigB_size]; rfl⟩, ?_⟩
    conv => whnf
    exact ⟨rfl, rfl⟩
  · omega

theorem mod_e (n e : Nat) : ((n / 256 ^ e : Nat) : Int).tmod 256 = ((n / 256 ^ e % 256 : Nat) : Int) := rfl

theorem by8_mod (n e : Nat) {z : Int} (h : z = ((n / 256 ^ e : Nat) : Int)) : D.int .u8 (IntKind.u8.wrap (z.tmod 256)) = by8 n e := by
  subst h
  have e1 : IntKind.u8.wrap ((n / 256 ^ e % 256 : Nat) : Int) = ((n / 256 ^ e % 256 : Nat) : Int) % 256 := by simp [IntKind.wrap, IntKind.bits, IntKind.signed]
  show D.int .u8 _ = D.int .u8 _
  rw [mod_e, e1, UInt8.toNat_ofNat']
  congr 1
  omega

theorem quo_e (n e : Nat) {z : Int} (hn : n < 18446744073709551616) (h : z = ((n / 256 ^ e : Nat) : Int)) : IntKind.u64.wrap (z.tdiv 256) = ((n / 256 ^ (e + 1) : Nat) : Int) := by
  subst h
  have h1 : n / 256 ^ e ≤ n := Nat.div_le_self _ _
  have h2 : n / 256 ^ (e + 1) = n / 256 ^ e / 256 := by rw [Nat.pow_succ, Nat.div_div_eq_div_mul]
  have h3 : ((n / 256 ^ e : Nat) : Int).tdiv 256 = ((n / 256 ^ e / 256 : Nat) : Int) := rfl
  rw [h2, h3]
  exact wrapN (by omega)

theorem div_1 (n : Nat) : ((n : Nat) : Int) = ((n / 256 ^ 0 : Nat) : Int) := by rw [Nat.pow_zero, Nat.div_one]

abbrev u32 (n : Int) : AV := .d (.int .u32 n)

theorem wrap32 {n : Int} (h : 0 ≤ n ∧ n < 4294967296) : IntKind.u32.wrap n = n := by
  simp [IntKind.wrap, IntKind.bits, IntKind.signed]; omega

theorem wrap8 {n : Int} (h : 0 ≤ n ∧ n < 256) : IntKind.u8.wrap n = n := by
  simp [IntKind.wrap, IntKind.bits, IntKind.signed]; omega

/-- A text's length, and it. -/
def textB (s : ByteArray) : ByteArray := bigB s.size 4 ++ s

theorem textB_size (s : ByteArray) : (textB s).size = 4 + s.size := by unfold textB; rw [ByteArray.size_append, bigB_size]

theorem wbyte_c {n : Nat} (h : n < 256) : CallR cx 56 [u8 n] [] fun r S => r = st (bigB n 1) ∧ S = [] := by
  have w : CallR cx 92 [u64 (IntKind.u64.wrap (n : Int)), i64 1] [] fun r S => r = st (bigB n 1) ∧ S = [] := by rw [wrapN (by omega)]; exact big1_c
  refine callR_of (R := R1) cx_ok Try.func56 (by kernel_rfl) rfl ?_
  conv => whnf
  refine ⟨_, w, ?_⟩
  rintro _ _ ⟨rfl, rfl⟩
  conv => whnf
  exact ⟨rfl, rfl⟩

theorem wword_c {n : Nat} (h : n < 4294967296) : CallR cx 60 [u32 n] [] fun r S => r = st (bigB n 4) ∧ S = [] := by
  have w : CallR cx 92 [u64 (IntKind.u64.wrap (n : Int)), i64 4] [] fun r S => r = st (bigB n 4) ∧ S = [] := by rw [wrapN (by omega)]; exact big4_c
  refine callR_of (R := R1) cx_ok Try.func60 (by kernel_rfl) rfl ?_
  conv => whnf
  refine ⟨_, w, ?_⟩
  rintro _ _ ⟨rfl, rfl⟩
  conv => whnf
  exact ⟨rfl, rfl⟩

theorem wlong_c {n : Nat} : CallR cx 58 [u64 n] [] fun r S => r = st (bigB n 8) ∧ S = [] := by
  refine callR_of (R := R1) cx_ok Try.func58 (by kernel_rfl) rfl ?_
  conv => whnf
  refine ⟨_, big8_c, ?_⟩
  rintro _ _ ⟨rfl, rfl⟩
  conv => whnf
  exact ⟨rfl, rfl⟩

theorem wtext_c {s : ByteArray} (h : s.size < 4294967296) : CallR cx 57 [st s] [] fun r S => r = st (textB s) ∧ S = [] := by
  have w : CallR cx 60 [u32 (IntKind.u32.wrap (s.size : Int))] [] fun r S => r = st (bigB s.size 4) ∧ S = [] := by rw [wrap32 (by omega)]; exact wword_c h
  refine callR_of (R := R1) cx_ok Try.func57 (by kernel_rfl) rfl ?_
  conv => whnf
  refine ⟨_, w, ?_⟩
  rintro _ _ ⟨rfl, rfl⟩
  conv => whnf
  refine ⟨by rw [bigB_size]; omega, ?_⟩
  conv => whnf
  exact ⟨rfl, rfl⟩

end Go.Proofs.Ytboohfijacjhjaa

set_option linter.unusedVariables false
namespace Go.Proofs.Ytboohfijacjhjaa
open Go.Ab Go.RowKit

/-- A reader: what is left, what is wrong. -/
structure Rs where
  s : ByteArray
  e : Int

def Rs.d (r : Rs) : D := rd r.s r.e

def Rs.got (r : Rs) (n : Int) : ByteArray := tkS r.s r.e n

def Rs.take (r : Rs) (n : Int) : Rs := ⟨tkR r.s r.e n, rd_tkE r.s r.e n⟩

def Rs.num (r : Rs) (n : Int) : Nat := be (r.got n).data.toList 0

def Rs.fail (r : Rs) (f : Int) : Rs := ⟨r.s, if r.e = 0 then f else r.e⟩

def Rs.cnt (r : Rs) (m : Int) : Int := if (r.num 4 : Int) > m then 0 else r.num 4

def Rs.cntR (r : Rs) (m : Int) : Rs := if (r.num 4 : Int) > m then (r.take 4).fail 5 else r.take 4

def Rs.txt (r : Rs) (m : Int) : ByteArray := (r.cntR m).got (r.cnt m)

def Rs.txtR (r : Rs) (m : Int) : Rs := (r.cntR m).take (r.cnt m)

def Rs.out (r : Rs) : Int := if r.e = 0 then (if r.s = .empty then 0 else 4) else r.e

theorem tkR_size (s : ByteArray) (e n : Int) : (tkR s e n).size ≤ s.size := by
  unfold tkR; split
  · rw [ByteArray.size_extract]; omega
  · omega

theorem take_size (r : Rs) (n : Int) : (r.take n).s.size ≤ r.s.size := tkR_size ..

theorem fail_size (r : Rs) (f : Int) : (r.fail f).s.size = r.s.size := rfl

theorem cntR_size (r : Rs) (m : Int) : (r.cntR m).s.size ≤ r.s.size := by
  unfold Rs.cntR; split
  · rw [fail_size]; exact take_size ..
  · exact take_size ..

theorem txtR_size (r : Rs) (m : Int) : (r.txtR m).s.size ≤ r.s.size := Nat.le_trans (take_size ..) (cntR_size ..)

theorem got_size (r : Rs) (n : Int) : (r.got n).size ≤ r.s.size := by
  unfold Rs.got tkS; split
  · rw [ByteArray.size_extract]; omega
  · exact Nat.zero_le _

theorem got_le {r : Rs} {n : Int} (hn : 0 ≤ n) : ((r.got n).size : Int) ≤ n := by
  unfold Rs.got tkS; split
  · rw [ByteArray.size_extract]; omega
  · exact hn

theorem txt_size (r : Rs) (m : Int) : (r.txt m).size ≤ r.s.size := Nat.le_trans (got_size ..) (cntR_size ..)

theorem cnt_nonneg (r : Rs) (m : Int) : 0 ≤ r.cnt m := by unfold Rs.cnt; split <;> omega

theorem be_pow : ∀ (l : List UInt8) {a k : Nat}, a < 256 ^ k → be l a < 256 ^ (k + l.length)
  | [], _, _, h => h
  | b :: l, a, k, h => by
    have hb := b.toNat_lt
    have h1 : (a * 256 + b.toNat) % 18446744073709551616 < 256 ^ (k + 1) := by
      refine Nat.lt_of_le_of_lt (Nat.mod_le _ _) ?_
      rw [Nat.pow_succ]
      omega
    have := be_pow l h1
    rw [List.length_cons, show k + (l.length + 1) = k + 1 + l.length by omega]
    exact this

theorem num_lt {r : Rs} {n : Nat} : r.num n < 256 ^ n := by
  have h := be_pow (r.got n).data.toList (a := 0) (k := 0) (by decide)
  have g := got_le (r := r) (n := (n : Int)) (by omega)
  have e : (r.got n).data.toList.length = (r.got n).size := Array.length_toList
  rw [Nat.zero_add, e] at h
  exact Nat.lt_of_lt_of_le h (Nat.pow_le_pow_right (by decide) (by omega))

theorem num1_lt (r : Rs) : r.num 1 < 256 := num_lt (n := 1)

theorem num4_lt (r : Rs) : r.num 4 < 4294967296 := num_lt (n := 4)

theorem num8_lt (r : Rs) : r.num 8 < 18446744073709551616 := num_lt (n := 8)

theorem nfail_c {r : Rs} {f : Int} : CallR cx 84 [.ptr 0 [], i64 f] [.var (.d r.d)] fun v S => v = .tup [] ∧ S = [.var (.d (r.fail f).d)] := fail_c

theorem nend_c {r : Rs} : CallR cx 85 [.ptr 0 []] [.var (.d r.d)] fun v S => v = i64 r.out ∧ S = [.var (.d r.d)] := end_c

theorem ntake_c {r : Rs} {n : Int} (hn : 0 ≤ n) : CallR cx 104 [.ptr 0 [], i64 n] [.var (.d r.d)] fun v S => v = st (r.got n) ∧ S = [.var (.d (r.take n).d)] := rd_take_c hn

theorem nnum_c {r : Rs} {n : Int} (hn : 0 ≤ n) (hm : r.s.size < 9223372036854775807) : CallR cx 101 [.ptr 0 [], i64 n] [.var (.d r.d)] fun v S => v = u64 ((r.num n : Nat) : Int) ∧ S = [.var (.d (r.take n).d)] := number_c hn hm

theorem nbyte_c {r : Rs} (hm : r.s.size < 9223372036854775807) : CallR cx 78 [.ptr 0 []] [.var (.d r.d)] fun v S => v = u8 ((r.num 1 : Nat) : Int) ∧ S = [.var (.d (r.take 1).d)] := by
  have h := byte_c (s := r.s) (e := r.e) hm
  have := num1_lt r
  rw [show IntKind.u8.wrap ((be (tkS r.s r.e 1).data.toList 0 : Nat) : Int) = ((r.num 1 : Nat) : Int) from wrap8 ⟨by omega, by show ((r.num 1 : Nat) : Int) < 256; omega⟩] at h
  exact h

theorem nword_c {r : Rs} (hm : r.s.size < 9223372036854775807) : CallR cx 82 [.ptr 0 []] [.var (.d r.d)] fun v S => v = u32 ((r.num 4 : Nat) : Int) ∧ S = [.var (.d (r.take 4).d)] := by
  have nu := nnum_c (r := r) (n := 4) (by decide) hm
  have e := wrap32 (n := ((r.num 4 : Nat) : Int)) (by have := num4_lt r; omega)
  generalize ((r.num 4 : Nat) : Int) = m at *
  generalize (r.take 4).d = R at *
  generalize r.d = R0 at *
  refine callR_of (R := R1) cx_ok Try.func82 (by kernel_rfl) rfl ?_
  conv => whnf
  refine ⟨_, nu, ?_⟩
  rintro _ _ ⟨rfl, rfl⟩
  conv => whnf
  exact ⟨congrArg u32 e, rfl⟩

theorem nlong_c {r : Rs} (hm : r.s.size < 9223372036854775807) : CallR cx 102 [.ptr 0 []] [.var (.d r.d)] fun v S => v = u64 ((r.num 8 : Nat) : Int) ∧ S = [.var (.d (r.take 8).d)] := by
  have nu := nnum_c (r := r) (n := 8) (by decide) hm
  generalize ((r.num 8 : Nat) : Int) = m at *
  generalize (r.take 8).d = R at *
  generalize r.d = R0 at *
  refine callR_of (R := R1) cx_ok Try.func102 (by kernel_rfl) rfl ?_
  conv => whnf
  refine ⟨_, nu, ?_⟩
  rintro _ _ ⟨rfl, rfl⟩
  conv => whnf
  exact ⟨rfl, rfl⟩

theorem ncount_c {r : Rs} {m : Int} (h0 : 0 ≤ m) (hmm : m < 4611686018427387904) (hm : r.s.size < 9223372036854775807) :
    CallR cx 105 [.ptr 0 [], i64 m] [.var (.d r.d)] fun v S => v = i64 (r.cnt m) ∧ S = [.var (.d (r.cntR m).d)] := by
  have nu := nnum_c (r := r) (n := 4) (by decide) hm
  have fa := nfail_c (r := r.take 4) (f := 5)
  unfold Rs.cnt Rs.cntR
  have hlt := num4_lt r
  generalize hk : ((r.num 4 : Nat) : Int) = k at *
  generalize r.d = R0 at *
  have e1 : IntKind.u64.wrap (if (0 : Int) > m then 0 else m) = m := by rw [if_neg (by omega)]; exact wrapU ⟨h0, by omega⟩
  refine callR_of (R := R1) cx_ok Try.func105 (by kernel_rfl) rfl ?_
  conv => whnf
  refine ⟨_, nu, ?_⟩
  rintro _ _ ⟨rfl, rfl⟩
  conv => whnf
  refine brec (fun h => ?_) (fun h => ?_)
  · have h := of_decide_eq_true h
    rw [e1] at h
    rw [if_pos h, if_pos h]
    conv => whnf
    refine ⟨_, fa, ?_⟩
    rintro _ _ ⟨rfl, rfl⟩
    conv => whnf
    exact ⟨rfl, rfl⟩
  · have h := of_decide_eq_false h
    rw [e1] at h
    rw [if_neg h, if_neg h]
    conv => whnf
    exact ⟨congrArg i64 (w64 (by omega)), rfl⟩

theorem ntext_c {r : Rs} {m : Int} (h0 : 0 ≤ m) (hmm : m < 4611686018427387904) (hm : r.s.size < 9223372036854775807) :
    CallR cx 80 [.ptr 0 [], i64 m] [.var (.d r.d)] fun v S => v = st (r.txt m) ∧ S = [.var (.d (r.txtR m).d)] := by
  have nc := ncount_c (r := r) h0 hmm hm
  have nt := ntake_c (r := r.cntR m) (cnt_nonneg r m)
  unfold Rs.txt Rs.txtR
  generalize r.cnt m = k at *
  generalize r.cntR m = q at *
  refine callR_of (R := R1) cx_ok Try.func80 (by kernel_rfl) rfl ?_
  conv => whnf
  refine ⟨_, nc, ?_⟩
  rintro _ _ ⟨rfl, rfl⟩
  conv => whnf
  refine ⟨_, nt, ?_⟩
  rintro _ _ ⟨rfl, rfl⟩
  conv => whnf
  exact ⟨rfl, rfl⟩

theorem fail_bad (r : Rs) {f : Int} (hf : f ≠ 0) : (r.fail f).e ≠ 0 := by show (if r.e = 0 then f else r.e) ≠ 0; split <;> assumption

theorem over2_c {s : ByteArray} : CallR cx 77 [st s] [] fun r S => r = .ptr 0 [] ∧ S = [.var (.d (Rs.mk s 0).d)] := over_c

def bigL (n k : Nat) : List UInt8 := (List.range k).map fun i => UInt8.ofNat (n / 256 ^ (k - 1 - i))

theorem bigL_succ (n k : Nat) : bigL n (k + 1) = bigL (n / 256) k ++ [UInt8.ofNat n] := by
  unfold bigL
  rw [List.range_succ, List.map_append]
  congr 1
  · refine List.map_congr_left fun i hi => ?_
    have hi := List.mem_range.1 hi
    rw [Nat.div_div_eq_div_mul, ← Nat.pow_succ', show (k - 1 - i).succ = k + 1 - 1 - i by omega]
  · simp

theorem be_append (l : List UInt8) (b : UInt8) (a : Nat) : be (l ++ [b]) a = (be l a * 256 + b.toNat) % 18446744073709551616 := by
  unfold be; rw [List.foldl_append]; rfl

theorem pow_le8 {k : Nat} (h : k ≤ 8) : 256 ^ k ≤ 18446744073709551616 := Nat.pow_le_pow_right (n := 256) (by decide) h

theorem be_bigL : ∀ (k n : Nat), k ≤ 8 → be (bigL n k) 0 = n % 256 ^ k
  | 0, n, _ => by rw [Nat.pow_zero, Nat.mod_one]; rfl
  | k + 1, n, h => by
    rw [bigL_succ, be_append, be_bigL k _ (by omega), UInt8.toNat_ofNat']
    have h1 : n / 256 % 256 ^ k * 256 + n % 256 = n % 256 ^ (k + 1) := by
      rw [Nat.pow_succ, Nat.mul_comm (256 ^ k) 256, Nat.mod_mul]
      omega
    have h2 : n % 256 ^ (k + 1) < 256 ^ (k + 1) := Nat.mod_lt _ (Nat.pow_pos (by decide))
    have h3 := pow_le8 h
    rw [show (2 : Nat) ^ 8 = 256 from rfl, h1]
    exact Nat.mod_eq_of_lt (by omega)

theorem bigL_be : ∀ (k : Nat) (l : List UInt8), l.length = k → k ≤ 8 → bigL (be l 0) k = l
  | 0, l, hl, _ => by rw [List.eq_nil_of_length_eq_zero hl]; rfl
  | k + 1, l, hl, h => by
    have hne : l ≠ [] := by intro e; subst e; simp at hl
    have e := List.dropLast_concat_getLast hne
    have hd : l.dropLast.length = k := by rw [List.length_dropLast]; omega
    have hlt : be l.dropLast 0 < 256 ^ k := by have := be_pow l.dropLast (a := 0) (k := 0) (by decide); rw [Nat.zero_add, hd] at this; exact this
    have hp : 256 ^ k * 256 ≤ 18446744073709551616 := by rw [← Nat.pow_succ]; exact pow_le8 h
    have hb := (l.getLast hne).toNat_lt
    have e2 : be l 0 = be l.dropLast 0 * 256 + (l.getLast hne).toNat := by
      have q := be_append l.dropLast (l.getLast hne) 0
      rw [e] at q
      rw [q]
      exact Nat.mod_eq_of_lt (by omega)
    rw [bigL_succ, e2, show (be l.dropLast 0 * 256 + (l.getLast hne).toNat) / 256 = be l.dropLast 0 by omega, bigL_be k _ hd (by omega)]
    have e3 : UInt8.ofNat (be l.dropLast 0 * 256 + (l.getLast hne).toNat) = l.getLast hne := by
      apply UInt8.toNat_inj.1
      rw [UInt8.toNat_ofNat']
      omega
    rw [e3, e]

theorem bigB_list (n k : Nat) : (bigB n k).data.toList = bigL n k := by unfold bigB bigL; rw [List.toList_toArray]

theorem ba_ext {a b : ByteArray} (h : a.data.toList = b.data.toList) : a = b := by
  cases a; cases b; congr 1; exact Array.toList_inj.1 h

theorem be_bigB {n k : Nat} (hk : k ≤ 8) (hn : n < 256 ^ k) : be (bigB n k).data.toList 0 = n := by
  rw [bigB_list, be_bigL k n hk, Nat.mod_eq_of_lt hn]

theorem bigB_be {x : ByteArray} {k : Nat} (hx : x.size = k) (hk : k ≤ 8) : bigB (be x.data.toList 0) k = x := by
  apply ba_ext
  rw [bigB_list]
  exact bigL_be k _ (by rw [Array.length_toList]; exact hx) hk

-- Forward: a reader over what was written.

theorem rd_take_ok {r : Rs} {n : Int} (hn : 0 ≤ n) (h : (r.take n).e = 0) : r.e = 0 ∧ ((r.got n).size : Int) = n ∧ r.s = r.got n ++ (r.take n).s := by
  have h : rd_tkE r.s r.e n = 0 := h
  have e0 : r.e = 0 := by
    unfold rd_tkE at h
    split at h
    · assumption
    · exact h
  have hle : n ≤ r.s.size := by
    unfold rd_tkE at h
    rw [if_pos e0] at h
    split at h
    · assumption
    · cases h
  have e1 : r.got n = r.s.extract 0 n.toNat := if_pos ⟨e0, hle⟩
  have e2 : (r.take n).s = r.s.extract n.toNat r.s.size := if_pos ⟨e0, hle⟩
  refine ⟨e0, ?_, ?_⟩
  · rw [e1, ByteArray.size_extract]; omega
  · rw [e1, e2, ByteArray.extract_append_extract, Nat.min_eq_left (Nat.zero_le _), Nat.max_eq_right (by omega), ByteArray.extract_zero_size]

theorem num_ok {r : Rs} {k : Nat} (hk : k ≤ 8) (h : (r.take (k : Int)).e = 0) : r.e = 0 ∧ r.s = bigB (r.num (k : Int)) k ++ (r.take (k : Int)).s := by
  obtain ⟨h1, h2, h3⟩ := rd_take_ok (by omega) h
  refine ⟨h1, ?_⟩
  unfold Rs.num
  rw [bigB_be (by omega) hk]
  exact h3

theorem fail_no {r : Rs} {f : Int} (hf : f ≠ 0) : (r.fail f).e ≠ 0 := fail_bad r hf

theorem txt_ok {r : Rs} {m : Int} (h : (r.txtR m).e = 0) : r.e = 0 ∧ r.s = textB (r.txt m) ++ (r.txtR m).s := by
  unfold Rs.txtR at h
  obtain ⟨h1, h2, h3⟩ := rd_take_ok (cnt_nonneg r m) h
  by_cases hc : (r.num 4 : Int) > m
  · have e : r.cntR m = (r.take 4).fail 5 := if_pos hc
    rw [e] at h1
    exact absurd h1 (fail_no (by decide))
  have e : r.cntR m = r.take 4 := if_neg hc
  have e' : r.cnt m = r.num 4 := if_neg hc
  rw [e] at h1
  obtain ⟨g1, g2⟩ := num_ok (k := 4) (by decide) h1
  refine ⟨g1, ?_⟩
  have e3 : (r.txt m).size = r.num 4 := by
    have : ((r.txt m).size : Int) = r.cnt m := h2
    rw [e'] at this
    omega
  have h3 : (r.cntR m).s = r.txt m ++ (r.txtR m).s := h3
  rw [e] at h3
  unfold textB
  rw [e3, ByteArray.append_assoc, ← h3]
  exact g2

-- Sizes of right names and texts.

theorem out_ok {r : Rs} (h : r.out = 0) : r.e = 0 ∧ r.s = .empty := by
  unfold Rs.out at h
  split at h
  · split at h
    · exact ⟨by assumption, by assumption⟩
    · cases h
  · exact absurd h (by assumption)

end Go.Proofs.Ytboohfijacjhjaa

/- The document's bytes and readers. -/
set_option linter.unusedVariables false
namespace Go.Proofs.Ytboohfijacjhjaa
open Go.Ab Go.RowKit

theorem rbig1_c {n : Nat} (hn : n < 18446744073709551616) : CallR cx 66 [u64 n, i64 1] [] fun r S => r = st (bigB n 1) ∧ S = [] := by
  let f : Nat → List D := fun j => match j with
    | 0 => [z8, z8, z8, z8, z8, z8, z8, z8]
    | _ => [by8 n 0, z8, z8, z8, z8, z8, z8, z8]
  let g : Nat → Int := fun j => match j with
    | 0 => (n : Int)
    | j + 1 => ((n / 256 ^ (j + 1) : Nat) : Int)
  have hg : ∀ j, g j = ((n / 256 ^ j : Nat) : Int) := fun j => by
    cases j with
    | zero => exact div_1 n
    | succ j => rfl
  refine callR_of (R := R1) cx_ok Try.func66 (by kernel_rfl) rfl ?_
  conv => whnf
  refine .inl ⟨fun m l S => ∃ j : Nat, j ≤ 1 ∧ m = 1 - j ∧ l = [(0, u64 (g j)), (1, i64 1), (5, .ptr 0 []), (6, i64 (1 - 1 - (j : Int)))] ∧
    S = [.var (.d (.arr 8 1 (f j)))], ⟨1, _, ⟨0, by decide, rfl, rfl, rfl⟩, ⟨rfl, rfl, rfl, rfl, trivial⟩⟩, ?_⟩
  rintro _ _ _ ⟨j, hj, rfl, rfl, rfl⟩
  have hq := quo_e n j hn (hg j)
  have hm := by8_mod n j (hg j)
  rcases j with _ | _ | j
  · conv => whnf
    refine ⟨by decide, ?_⟩
    conv => whnf
    refine ⟨by decide, ?_⟩
    conv => whnf
    refine ⟨by decide, ?_⟩
    conv => whnf
    exact ⟨0, _, 1, by decide, ⟨1, by decide, rfl, rfl, congrArg (fun z => [Blk.var (.d (.arr 8 1 [z, z8, z8, z8, z8, z8, z8, z8]))]) hm⟩, ⟨congrArg (fun z => some (u64 z)) hq, rfl, rfl, rfl, trivial⟩, rfl⟩
  · conv => whnf
    refine ⟨by decide, ?_⟩
    conv => whnf
    refine ⟨bigB n 1, ⟨by rw [bigB_bytes]; rfl, by rw [bigB_size]; rfl⟩, ?_⟩
    conv => whnf
    exact ⟨rfl, rfl⟩
  · omega

theorem rbig4_c {n : Nat} (hn : n < 18446744073709551616) : CallR cx 66 [u64 n, i64 4] [] fun r S => r = st (bigB n 4) ∧ S = [] := by
  let f : Nat → List D := fun j => match j with
    | 0 => [z8, z8, z8, z8, z8, z8, z8, z8]
    | 1 => [z8, z8, z8, by8 n 0, z8, z8, z8, z8]
    | 2 => [z8, z8, by8 n 1, by8 n 0, z8, z8, z8, z8]
    | 3 => [z8, by8 n 2, by8 n 1, by8 n 0, z8, z8, z8, z8]
    | _ => [by8 n 3, by8 n 2, by8 n 1, by8 n 0, z8, z8, z8, z8]
  let g : Nat → Int := fun j => match j with
    | 0 => (n : Int)
    | j + 1 => ((n / 256 ^ (j + 1) : Nat) : Int)
  have hg : ∀ j, g j = ((n / 256 ^ j : Nat) : Int) := fun j => by
    cases j with
    | zero => exact div_1 n
    | succ j => rfl
  refine callR_of (R := R1) cx_ok Try.func66 (by kernel_rfl) rfl ?_
  conv => whnf
  refine .inl ⟨fun m l S => ∃ j : Nat, j ≤ 4 ∧ m = 4 - j ∧ l = [(0, u64 (g j)), (1, i64 4), (5, .ptr 0 []), (6, i64 (4 - 1 - (j : Int)))] ∧
    S = [.var (.d (.arr 8 1 (f j)))], ⟨4, _, ⟨0, by decide, rfl, rfl, rfl⟩, ⟨rfl, rfl, rfl, rfl, trivial⟩⟩, ?_⟩
  rintro _ _ _ ⟨j, hj, rfl, rfl, rfl⟩
  have hq := quo_e n j hn (hg j)
  have hm := by8_mod n j (hg j)
  rcases j with _ | _ | _ | _ | _ | j
  · conv => whnf
    refine ⟨by decide, ?_⟩
    conv => whnf
    refine ⟨by decide, ?_⟩
    conv => whnf
    refine ⟨by decide, ?_⟩
    conv => whnf
    exact ⟨3, _, 1, by decide, ⟨1, by decide, rfl, rfl, congrArg (fun z => [Blk.var (.d (.arr 8 1 [z8, z8, z8, z, z8, z8, z8, z8]))]) hm⟩, ⟨congrArg (fun z => some (u64 z)) hq, rfl, rfl, rfl, trivial⟩, rfl⟩
  · conv => whnf
    refine ⟨by decide, ?_⟩
    conv => whnf
    refine ⟨by decide, ?_⟩
    conv => whnf
    refine ⟨by decide, ?_⟩
    conv => whnf
    exact ⟨2, _, 1, by decide, ⟨2, by decide, rfl, rfl, congrArg (fun z => [Blk.var (.d (.arr 8 1 [z8, z8, z, by8 n 0, z8, z8, z8, z8]))]) hm⟩, ⟨congrArg (fun z => some (u64 z)) hq, rfl, rfl, rfl, trivial⟩, rfl⟩
  · conv => whnf
    refine ⟨by decide, ?_⟩
    conv => whnf
    refine ⟨by decide, ?_⟩
    conv => whnf
    refine ⟨by decide, ?_⟩
    conv => whnf
    exact ⟨1, _, 1, by decide, ⟨3, by decide, rfl, rfl, congrArg (fun z => [Blk.var (.d (.arr 8 1 [z8, z, by8 n 1, by8 n 0, z8, z8, z8, z8]))]) hm⟩, ⟨congrArg (fun z => some (u64 z)) hq, rfl, rfl, rfl, trivial⟩, rfl⟩
  · conv => whnf
    refine ⟨by decide, ?_⟩
    conv => whnf
    refine ⟨by decide, ?_⟩
    conv => whnf
    refine ⟨by decide, ?_⟩
    conv => whnf
    exact ⟨0, _, 1, by decide, ⟨4, by decide, rfl, rfl, congrArg (fun z => [Blk.var (.d (.arr 8 1 [z, by8 n 2, by8 n 1, by8 n 0, z8, z8, z8, z8]))]) hm⟩, ⟨congrArg (fun z => some (u64 z)) hq, rfl, rfl, rfl, trivial⟩, rfl⟩
  · conv => whnf
    refine ⟨by decide, ?_⟩
    conv => whnf
    refine ⟨bigB n 4, ⟨by rw [bigB_bytes]; rfl, by rw [bigB_size]; rfl⟩, ?_⟩
    conv => whnf
    exact ⟨rfl, rfl⟩
  · omega

theorem rbig8_c {n : Nat} (hn : n < 18446744073709551616) : CallR cx 66 [u64 n, i64 8] [] fun r S => r = st (bigB n 8) ∧ S = [] := by
  let f : Nat → List D := fun j => match j with
    | 0 => [z8, z8, z8, z8, z8, z8, z8, z8]
    | 1 => [z8, z8, z8, z8, z8, z8, z8, by8 n 0]
    | 2 => [z8, z8, z8, z8, z8, z8, by8 n 1, by8 n 0]
    | 3 => [z8, z8, z8, z8, z8, by8 n 2, by8 n 1, by8 n 0]
    | 4 => [z8, z8, z8, z8, by8 n 3, by8 n 2, by8 n 1, by8 n 0]
    | 5 => [z8, z8, z8, by8 n 4, by8 n 3, by8 n 2, by8 n 1, by8 n 0]
    | 6 => [z8, z8, by8 n 5, by8 n 4, by8 n 3, by8 n 2, by8 n 1, by8 n 0]
    | 7 => [z8, by8 n 6, by8 n 5, by8 n 4, by8 n 3, by8 n 2, by8 n 1, by8 n 0]
    | _ => [by8 n 7, by8 n 6, by8 n 5, by8 n 4, by8 n 3, by8 n 2, by8 n 1, by8 n 0]
  let g : Nat → Int := fun j => match j with
    | 0 => (n : Int)
    | j + 1 => ((n / 256 ^ (j + 1) : Nat) : Int)
  have hg : ∀ j, g j = ((n / 256 ^ j : Nat) : Int) := fun j => by
    cases j with
    | zero => exact div_1 n
    | succ j => rfl
  refine callR_of (R := R1) cx_ok Try.func66 (by kernel_rfl) rfl ?_
  conv => whnf
  refine .inl ⟨fun m l S => ∃ j : Nat, j ≤ 8 ∧ m = 8 - j ∧ l = [(0, u64 (g j)), (1, i64 8), (5, .ptr 0 []), (6, i64 (8 - 1 - (j : Int)))] ∧
    S = [.var (.d (.arr 8 1 (f j)))], ⟨8, _, ⟨0, by decide, rfl, rfl, rfl⟩, ⟨rfl, rfl, rfl, rfl, trivial⟩⟩, ?_⟩
  rintro _ _ _ ⟨j, hj, rfl, rfl, rfl⟩
  have hq := quo_e n j hn (hg j)
  have hm := by8_mod n j (hg j)
  rcases j with _ | _ | _ | _ | _ | _ | _ | _ | _ | j
  · conv => whnf
    refine ⟨by decide, ?_⟩
    conv => whnf
    refine ⟨by decide, ?_⟩
    conv => whnf
    refine ⟨by decide, ?_⟩
    conv => whnf
    exact ⟨7, _, 1, by decide, ⟨1, by decide, rfl, rfl, congrArg (fun z => [Blk.var (.d (.arr 8 1 [z8, z8, z8, z8, z8, z8, z8, z]))]) hm⟩, ⟨congrArg (fun z => some (u64 z)) hq, rfl, rfl, rfl, trivial⟩, rfl⟩
  · conv => whnf
    refine ⟨by decide, ?_⟩
    conv => whnf
    refine ⟨by decide, ?_⟩
    conv => whnf
    refine ⟨by decide, ?_⟩
    conv => whnf
    exact ⟨6, _, 1, by decide, ⟨2, by decide, rfl, rfl, congrArg (fun z => [Blk.var (.d (.arr 8 1 [z8, z8, z8, z8, z8, z8, z, by8 n 0]))]) hm⟩, ⟨congrArg (fun z => some (u64 z)) hq, rfl, rfl, rfl, trivial⟩, rfl⟩
  · conv => whnf
    refine ⟨by decide, ?_⟩
    conv => whnf
    refine ⟨by decide, ?_⟩
    conv => whnf
    refine ⟨by decide, ?_⟩
    conv => whnf
    exact ⟨5, _, 1, by decide, ⟨3, by decide, rfl, rfl, congrArg (fun z => [Blk.var (.d (.arr 8 1 [z8, z8, z8, z8, z8, z, by8 n 1, by8 n 0]))]) hm⟩, ⟨congrArg (fun z => some (u64 z)) hq, rfl, rfl, rfl, trivial⟩, rfl⟩
  · conv => whnf
    refine ⟨by decide, ?_⟩
    conv => whnf
    refine ⟨by decide, ?_⟩
    conv => whnf
    refine ⟨by decide, ?_⟩
    conv => whnf
    exact ⟨4, _, 1, by decide, ⟨4, by decide, rfl, rfl, congrArg (fun z => [Blk.var (.d (.arr 8 1 [z8, z8, z8, z8, z, by8 n 2, by8 n 1, by8 n 0]))]) hm⟩, ⟨congrArg (fun z => some (u64 z)) hq, rfl, rfl, rfl, trivial⟩, rfl⟩
  · conv => whnf
    refine ⟨by decide, ?_⟩
    conv => whnf
    refine ⟨by decide, ?_⟩
    conv => whnf
    refine ⟨by decide, ?_⟩
    conv => whnf
    exact ⟨3, _, 1, by decide, ⟨5, by decide, rfl, rfl, congrArg (fun z => [Blk.var (.d (.arr 8 1 [z8, z8, z8, z, by8 n 3, by8 n 2, by8 n 1, by8 n 0]))]) hm⟩, ⟨congrArg (fun z => some (u64 z)) hq, rfl, rfl, rfl, trivial⟩, rfl⟩
  · conv => whnf
    refine ⟨by decide, ?_⟩
    conv => whnf
    refine ⟨by decide, ?_⟩
    conv => whnf
    refine ⟨by decide, ?_⟩
    conv => whnf
    exact ⟨2, _, 1, by decide, ⟨6, by decide, rfl, rfl, congrArg (fun z => [Blk.var (.d (.arr 8 1 [z8, z8, z, by8 n 4, by8 n 3, by8 n 2, by8 n 1, by8 n 0]))]) hm⟩, ⟨congrArg (fun z => some (u64 z)) hq, rfl, rfl, rfl, trivial⟩, rfl⟩
  · conv => whnf
    refine ⟨by decide, ?_⟩
    conv => whnf
    refine ⟨by decide, ?_⟩
    conv => whnf
    refine ⟨by decide, ?_⟩
    conv => whnf
    exact ⟨1, _, 1, by decide, ⟨7, by decide, rfl, rfl, congrArg (fun z => [Blk.var (.d (.arr 8 1 [z8, z, by8 n 5, by8 n 4, by8 n 3, by8 n 2, by8 n 1, by8 n 0]))]) hm⟩, ⟨congrArg (fun z => some (u64 z)) hq, rfl, rfl, rfl, trivial⟩, rfl⟩
  · conv => whnf
    refine ⟨by decide, ?_⟩
    conv => whnf
    refine ⟨by decide, ?_⟩
    conv => whnf
    refine ⟨by decide, ?_⟩
    conv => whnf
    exact ⟨0, _, 1, by decide, ⟨8, by decide, rfl, rfl, congrArg (fun z => [Blk.var (.d (.arr 8 1 [z, by8 n 6, by8 n 5, by8 n 4, by8 n 3, by8 n 2, by8 n 1, by8 n 0]))]) hm⟩, ⟨congrArg (fun z => some (u64 z)) hq, rfl, rfl, rfl, trivial⟩, rfl⟩
  · conv => whnf
    refine ⟨by decide, ?_⟩
    conv => whnf
    refine ⟨bigB n 8, ⟨by rw [bigB_bytes]; rfl, by rw [bigB_size]; rfl⟩, ?_⟩
    conv => whnf
    exact ⟨rfl, rfl⟩
  · omega

theorem rtext_c {s : ByteArray} (h : s.size < 4294967296) : CallR cx 67 [st s] [] fun r S => r = st (textB s) ∧ S = [] := by
  have w : CallR cx 66 [u64 (IntKind.u64.wrap (s.size : Int)), i64 4] [] fun r S => r = st (bigB s.size 4) ∧ S = [] := by rw [wrapN (by omega)]; exact rbig4_c (by omega)
  refine callR_of (R := R1) cx_ok Try.func67 (by kernel_rfl) rfl ?_
  conv => whnf
  refine ⟨_, w, ?_⟩
  rintro _ _ ⟨rfl, rfl⟩
  conv => whnf
  refine ⟨by rw [bigB_size]; omega, ?_⟩
  conv => whnf
  exact ⟨rfl, rfl⟩

theorem rd_rtake_c {r : Rs} {n : Int} (hn : 0 ≤ n) : CallR cx 89 [.ptr 0 [], i64 n] [.var (.d r.d)] fun v S => v = st (r.got n) ∧ S = [.var (.d (r.take n).d)] := by
  obtain ⟨s, e⟩ := r
  show CallR cx 89 [.ptr 0 [], i64 n] [.var (.d (rd s e))] fun v S => v = st (tkS s e n) ∧ S = [.var (.d (rd (tkR s e n) (rd_tkE s e n)))]
  refine callR_of (R := R1) cx_ok Try.func89 (by kernel_rfl) rfl ?_
  conv => whnf
  by_cases h : e = 0
  · refine brT (beq_iff_eq.2 h) ?_
    subst h
    conv => whnf
    refine brec (fun g => ?_) (fun g => ?_)
    · have g := of_decide_eq_true g
      have e1 : tkS s 0 n = .empty := if_neg fun k => by omega
      have e2 : tkR s 0 n = s := if_neg fun k => by omega
      have e3 : rd_tkE s 0 n = 3 := by unfold rd_tkE; rw [if_pos rfl, if_neg (by omega)]
      rw [e1, e2, e3]
      conv => whnf
      exact ⟨rfl, rfl⟩
    · have g := of_decide_eq_false g
      have g : n ≤ s.size := by omega
      have e1 : tkS s 0 n = s.extract 0 n.toNat := if_pos ⟨rfl, g⟩
      have e2 : tkR s 0 n = s.extract n.toNat s.size := if_pos ⟨rfl, g⟩
      have e3 : rd_tkE s 0 n = 0 := by unfold rd_tkE; rw [if_pos rfl, if_pos g]
      rw [e1, e2, e3]
      conv => whnf
      refine ⟨⟨by decide, hn, g⟩, ?_⟩
      conv => whnf
      refine ⟨⟨hn, g, Int.le_refl _⟩, ?_⟩
      conv => whnf
      exact ⟨rfl, rfl⟩
  · have e1 : tkS s e n = .empty := if_neg fun g => h g.1
    have e2 : tkR s e n = s := if_neg fun g => h g.1
    have e3 : rd_tkE s e n = e := if_neg h
    rw [e1, e2, e3]
    refine brF (beq_eq_false_iff_ne.2 h) ?_
    conv => whnf
    refine brec (fun g => ?_) (fun g => absurd g ?_)
    · conv => whnf
      exact ⟨rfl, rfl⟩
    · simp [h]

theorem rfail_c {r : Rs} {f : Int} : CallR cx 38 [.ptr 0 [], i64 f] [.var (.d r.d)] fun v S => v = .tup [] ∧ S = [.var (.d (r.fail f).d)] := by
  obtain ⟨s, e⟩ := r
  show CallR cx 38 [.ptr 0 [], i64 f] [.var (.d (rd s e))] fun v S => v = .tup [] ∧ S = [.var (.d (rd s (if e = 0 then f else e)))]
  refine callR_of (R := R1) cx_ok Try.func38 (by kernel_rfl) rfl ?_
  conv => whnf
  refine brec (fun h => ?_) (fun h => ?_)
  · rw [if_pos (eq_of_beq h)]
    conv => whnf
    exact ⟨rfl, rfl⟩
  · rw [if_neg (ne_of_beq_false h)]
    conv => whnf
    exact ⟨rfl, rfl⟩

theorem rend_c {r : Rs} : CallR cx 43 [.ptr 0 []] [.var (.d r.d)] fun v S => v = i64 r.out ∧ S = [.var (.d r.d)] := by
  obtain ⟨s, e⟩ := r
  show CallR cx 43 [.ptr 0 []] [.var (.d (rd s e))] fun v S => v = i64 (if e = 0 then (if s = .empty then 0 else 4) else e) ∧ S = [.var (.d (rd s e))]
  refine callR_of (R := R1) cx_ok Try.func43 (by kernel_rfl) rfl ?_
  conv => whnf
  refine brec (fun h => ?_) (fun h => ?_)
  · have h := eq_of_beq h
    subst h
    rw [if_pos rfl]
    conv => whnf
    refine brec (fun g => ?_) (fun g => ?_)
    · have g := of_decide_eq_true g
      have e1 : ¬ s = .empty := fun e => by subst e; exact absurd g (by decide)
      rw [if_neg e1]
      conv => whnf
      exact ⟨rfl, rfl⟩
    · have g := of_decide_eq_false g
      have e1 : s = .empty := size0 (by omega)
      rw [if_pos e1]
      conv => whnf
      exact ⟨rfl, rfl⟩
  · rw [if_neg (ne_of_beq_false h)]
    have h' := ne_of_beq_false h
    conv => whnf
    exact ⟨rfl, rfl⟩

theorem be_step2 {a : Nat} {b : Nat} (hb : b < 256) : IntKind.u64.wrap (IntKind.u64.wrap ((a : Int) * 256) + IntKind.u64.wrap (b : Int)) = (((a * 256 + b) % 18446744073709551616 : Nat) : Int) := by
  rw [Ab.wrap64, Ab.wrap64, Ab.wrap64]; omega

theorem list_getD {t : ByteArray} {j : Nat} (h : j < t.data.toList.length) : byteAt t j = (((t.data.toList[j]'h).toNat : Nat) : Int) := by
  unfold byteAt; rw [List.getD_eq_getElem?_getD, List.getElem?_eq_getElem h]; rfl

theorem rnum_c {r : Rs} {n : Int} (hn : 0 ≤ n) (hm : r.s.size < 9223372036854775807) : CallR cx 37 [.ptr 0 [], i64 n] [.var (.d r.d)] fun v S => v = u64 ((r.num n : Nat) : Int) ∧ S = [.var (.d (r.take n).d)] := by
  have tk := rd_rtake_c (r := r) hn
  have ht := got_size r n
  unfold Rs.num
  generalize r.got n = t at *
  generalize (r.take n).d = R at *
  generalize r.d = R0 at *
  have hts : t.data.toList.length = t.size := Array.length_toList
  refine callR_of (R := R1) cx_ok Try.func37 (by kernel_rfl) rfl ?_
  conv => whnf
  refine ⟨_, tk, ?_⟩
  rintro _ _ ⟨rfl, rfl⟩
  conv => whnf
  refine .inl ⟨fun k l S => ∃ j : Nat, j ≤ t.size ∧ k = t.size - j ∧
      l = [(5, u64 ((be (t.data.toList.take j) 0 : Nat) : Int)), (6, st t), (7, i64 (j : Int))] ∧ S = [.var (.d R)],
    ⟨_, _, ⟨0, Nat.zero_le _, rfl, rfl, rfl⟩, ⟨rfl, rfl, rfl, trivial⟩⟩, ?_⟩
  rintro _ _ _ ⟨j, hj, rfl, rfl, rfl⟩
  conv => whnf
  refine brec (fun h1 => ?_) (fun h1 => ?_)
  · have h1 := of_decide_eq_true h1
    have hlt : j < t.data.toList.length := by omega
    conv => whnf
    refine ⟨⟨by omega, by show (j : Int) < (t.size : Int); omega⟩, ?_⟩
    rw [Int.toNat_natCast, list_getD hlt]
    conv => whnf
    have e1 := be_step2 (a := be (t.data.toList.take j) 0) (t.data.toList[j]'hlt).toNat_lt
    have e2 : (be (t.data.toList.take j) 0 * 256 + (t.data.toList[j]'hlt).toNat) % 18446744073709551616 = be (t.data.toList.take (j + 1)) 0 := by
      rw [List.take_add_one, List.getElem?_eq_getElem hlt]
      unfold be
      rw [List.foldl_append]
      rfl
    rw [e2] at e1
    have e3 : IntKind.i64.wrap ((j : Int) + 1) = ((j + 1 : Nat) : Int) := by rw [w64 (by omega)]; omega
    exact ⟨_, _, 1, (by omega : t.size - (j + 1) < t.size - j), ⟨j + 1, by omega, rfl, rfl, rfl⟩,
      ⟨congrArg (fun z => some (u64 z)) e1, rfl, congrArg (fun z => some (i64 z)) e3, trivial⟩, rfl⟩
  · have h1 := of_decide_eq_false h1
    have : j = t.size := by omega
    subst this
    conv => whnf
    rw [← hts, List.take_length]
    exact ⟨rfl, rfl⟩

theorem rmany_c {r : Rs} {m : Int} (h0 : 0 ≤ m) (hmm : m < 4611686018427387904) (hm : r.s.size < 9223372036854775807) :
    CallR cx 90 [.ptr 0 [], i64 m] [.var (.d r.d)] fun v S => v = i64 (r.cnt m) ∧ S = [.var (.d (r.cntR m).d)] := by
  have nu := rnum_c (r := r) (n := 4) (by decide) hm
  have fa := rfail_c (r := r.take 4) (f := 5)
  unfold Rs.cnt Rs.cntR
  have hlt := num4_lt r
  generalize hk : ((r.num 4 : Nat) : Int) = k at *
  generalize r.d = R0 at *
  have e1 : IntKind.u64.wrap m = m := wrapU ⟨h0, by omega⟩
  refine callR_of (R := R1) cx_ok Try.func90 (by kernel_rfl) rfl ?_
  conv => whnf
  refine ⟨_, nu, ?_⟩
  rintro _ _ ⟨rfl, rfl⟩
  conv => whnf
  refine brF (decide_eq_false (by omega)) ?_
  conv => whnf
  refine brT (decide_eq_true (by omega)) ?_
  conv => whnf
  refine brec (fun h => ?_) (fun h => ?_)
  · have h := of_decide_eq_true h
    rw [e1] at h
    rw [if_pos h, if_pos h]
    conv => whnf
    refine ⟨_, fa, ?_⟩
    rintro _ _ ⟨rfl, rfl⟩
    conv => whnf
    exact ⟨rfl, rfl⟩
  · have h := of_decide_eq_false h
    rw [e1] at h
    rw [if_neg h, if_neg h]
    conv => whnf
    exact ⟨congrArg i64 (w64 (by omega)), rfl⟩

theorem rtextR_c {r : Rs} {m : Int} (h0 : 0 ≤ m) (hmm : m < 4611686018427387904) (hm : r.s.size < 9223372036854775807) :
    CallR cx 39 [.ptr 0 [], i64 m] [.var (.d r.d)] fun v S => v = st (r.txt m) ∧ S = [.var (.d (r.txtR m).d)] := by
  have nc := rmany_c (r := r) h0 hmm hm
  have nt := rd_rtake_c (r := r.cntR m) (cnt_nonneg r m)
  unfold Rs.txt Rs.txtR
  generalize r.cnt m = k at *
  generalize r.cntR m = q at *
  refine callR_of (R := R1) cx_ok Try.func39 (by kernel_rfl) rfl ?_
  conv => whnf
  refine ⟨_, nc, ?_⟩
  rintro _ _ ⟨rfl, rfl⟩
  conv => whnf
  refine ⟨_, nt, ?_⟩
  rintro _ _ ⟨rfl, rfl⟩
  conv => whnf
  exact ⟨rfl, rfl⟩

theorem bad_got {r : Rs} (h : r.e ≠ 0) (n : Int) : r.got n = .empty := if_neg fun g => h g.1

theorem bad_take {r : Rs} (h : r.e ≠ 0) (n : Int) : r.take n = r := by
  have e1 : tkR r.s r.e n = r.s := if_neg fun g => h g.1
  have e2 : rd_tkE r.s r.e n = r.e := if_neg h
  unfold Rs.take
  rw [e1, e2]

theorem bad_num {r : Rs} (h : r.e ≠ 0) (n : Int) : r.num n = 0 := by unfold Rs.num; rw [bad_got h]; rfl

theorem bad_cnt {r : Rs} (h : r.e ≠ 0) {m : Int} (hm : 0 ≤ m) : r.cnt m = 0 := by unfold Rs.cnt; rw [bad_num h, if_neg (by omega)]; rfl

theorem bad_cntR {r : Rs} (h : r.e ≠ 0) {m : Int} (hm : 0 ≤ m) : r.cntR m = r := by unfold Rs.cntR; rw [bad_num h, if_neg (by omega), bad_take h]

theorem bad_txt {r : Rs} (h : r.e ≠ 0) {m : Int} (hm : 0 ≤ m) : r.txt m = .empty := by unfold Rs.txt; rw [bad_cntR h hm, bad_got h]

theorem bad_txtR {r : Rs} (h : r.e ≠ 0) {m : Int} (hm : 0 ≤ m) : r.txtR m = r := by unfold Rs.txtR; rw [bad_cntR h hm, bad_take h]

theorem brecL {b : Bool} {A A' : Prop} (ht : b = true → A) (hf : b = false → A') : @Bool.rec (fun _ => Prop) A' A b := brec ht hf
end Go.Proofs.Ytboohfijacjhjaa
