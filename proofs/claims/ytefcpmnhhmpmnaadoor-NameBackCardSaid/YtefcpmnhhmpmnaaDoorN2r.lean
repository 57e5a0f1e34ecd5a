/- Names: how many runes, told by the program and by the model. -/
import Derived.Test.YtefcpmnhhmpmnaaDoorN2
import Derived.Test.YtefcpmnhhmpmnaaDoorUD
namespace Go.Proofs.YtefcpmnhhmpmnaaDoor
open Go.Ab Go.RowKit

theorem runes_c {s : ByteArray} (hm : s.size < 1000000000) : CallR cx 10 [st s] [] fun r S => r = .tup [i64 (runesN (keysAt s 0) : Int), i64 (strN (keysAt s 0) : Int)] ∧ S = [] := by
  have hL := keysAt_length s 0
  have hR := runesN_le (keysAt s 0)
  have hS := strN_le (keysAt s 0)
  refine callR_of (R := R1) cx_ok Tryd.func10 (by kernel_rfl) rfl ?_
  conv => whnf
  refine .inl ⟨fun m l S => ∃ (i a b : Nat), a + runesN (keysAt s i) = runesN (keysAt s 0) ∧ b + strN (keysAt s i) = strN (keysAt s 0) ∧ i ≤ s.size + 3 ∧ m = s.size + 4 - i ∧
      l = [(0, st s), (4, i64 (a : Int)), (5, i64 (b : Int)), (9, .ptr 0 [])] ∧ S = [.iter s i],
    ⟨_, _, ⟨0, 0, 0, Nat.zero_add _, Nat.zero_add _, by omega, rfl, rfl, rfl⟩, ⟨rfl, rfl, rfl, rfl, trivial⟩⟩, ?_⟩
  rintro _ _ _ ⟨i, a, b, h1, h2, h3, rfl, rfl, rfl⟩
  conv => whnf
  refine brec (fun h4 => ?_) (fun h4 => ?_)
  · have hi := of_decide_eq_true h4
    have br := broken_c (s := s) hi
    have hd := decode_range s i
    rw [keysAt_lt hi, runesN_cons, key_two] at h1
    rw [keysAt_lt hi, strN_cons, key_two] at h2
    have hk := stray_key s i
    generalize stray s i = q at *
    generalize (key s i).1 = k at *
    generalize Utf8.decode s i = d at *
    obtain ⟨r, w⟩ := d
    simp only at hd h1 h2 br
    generalize (r : Int) = R at *
    conv => whnf
    refine ⟨_, br, ?_⟩
    rintro _ _ ⟨rfl, rfl⟩
    conv => whnf
    refine brec (fun h5 => ?_) (fun h5 => ?_)
    · have h5 : ¬ k < 2000000 := of_decide_eq_true (hk.symm.trans h5)
      rw [if_neg h5] at h1 h2
      conv => whnf
      have e1 : IntKind.i64.wrap ((b : Int) + 1) = ((b + 1 : Nat) : Int) := by rw [w64 (by omega)]; omega
      exact ⟨_, _, 1, (by omega : s.size + 4 - (i + w) < s.size + 4 - i), ⟨i + w, a, b + 1, by omega, by omega, by omega, rfl, rfl, rfl⟩,
        ⟨rfl, rfl, congrArg (fun z => some (i64 z)) e1, rfl, trivial⟩, rfl⟩
    · have h5 : k < 2000000 := by have := of_decide_eq_false (hk.symm.trans h5); omega
      rw [if_pos h5] at h1 h2
      conv => whnf
      have e1 : IntKind.i64.wrap ((a : Int) + 1) = ((a + 1 : Nat) : Int) := by rw [w64 (by omega)]; omega
      exact ⟨_, _, 1, (by omega : s.size + 4 - (i + w) < s.size + 4 - i), ⟨i + w, a + 1, b, by omega, by omega, by omega, rfl, rfl, rfl⟩,
        ⟨rfl, congrArg (fun z => some (i64 z)) e1, rfl, rfl, trivial⟩, rfl⟩
  · have h4 := of_decide_eq_false h4
    rw [keysAt_ge (by omega)] at h1 h2
    rw [runesN_nil, Nat.add_zero] at h1
    rw [strN_nil, Nat.add_zero] at h2
    conv => whnf
    rw [← h1, ← h2]
    exact ⟨rfl, rfl⟩

theorem count_c {s : ByteArray} (hm : s.size < 1000000000) : CallR cx 11 [st s] [] fun r S => r = .tup [i64 (runesN (keysAt s 0) : Int), i64 (strN (keysAt s 0) : Int)] ∧ S = [] := by
  have nu := numbers_c hm
  have hL := keysAt_length s 0
  have hR := runesN_le (keysAt s 0)
  have hS := strN_le (keysAt s 0)
  generalize keysAt s 0 = L at *
  have hlen : (ints L).length = L.length := List.length_map _
  refine callR_of (R := R1) cx_ok Tryd.func11 (by kernel_rfl) rfl ?_
  conv => whnf
  refine ⟨_, nu, ?_⟩
  rintro _ _ ⟨rfl, rfl⟩
  conv => whnf
  refine .inl ⟨fun m l S => ∃ (j a b : Nat), j ≤ L.length ∧ a + runesN (L.drop j) = runesN L ∧ b + strN (L.drop j) = strN L ∧ m = L.length - j ∧
      l = [(4, i64 (a : Int)), (5, i64 (b : Int)), (9, .d (.sl 1 (ints L))), (10, i64 (((ints L).length : Nat) : Int)), (11, i64 (j : Int))] ∧ S = [],
    ⟨_, _, ⟨0, 0, 0, Nat.zero_le _, Nat.zero_add _, Nat.zero_add _, rfl, rfl, rfl⟩, ⟨rfl, rfl, rfl, rfl, rfl, trivial⟩⟩, ?_⟩
  rintro _ _ _ ⟨j, a, b, hj, h1, h2, rfl, rfl, rfl⟩
  conv => whnf
  refine brec (fun h4 => ?_) (fun h4 => ?_)
  · have h4 := of_decide_eq_true h4
    rw [hlen] at h4
    have hlt : j < L.length := by omega
    conv => whnf
    refine ⟨⟨by omega, by rw [hlen]; omega⟩, ?_⟩
    rw [ints_getD hlt]
    rw [List.drop_eq_getElem_cons hlt, runesN_cons] at h1
    rw [List.drop_eq_getElem_cons hlt, strN_cons] at h2
    generalize L[j]'hlt = k at *
    generalize hK : (k : Int) = K at *
    have e3 : IntKind.i64.wrap ((j : Int) + 1) = ((j + 1 : Nat) : Int) := by rw [w64 (by omega)]; omega
    obtain ⟨C, hC⟩ : ∃ C : Int, C = 2000000 := ⟨_, rfl⟩
    rw [← hC]
    conv => whnf
    by_cases h5 : k < 2000000
    · rw [if_pos h5] at h1 h2
      refine brT (decide_eq_true (by omega)) ?_
      conv => whnf
      have e1 : IntKind.i64.wrap ((a : Int) + 1) = ((a + 1 : Nat) : Int) := by rw [w64 (by omega)]; omega
      exact ⟨_, _, 0, (by omega : L.length - (j + 1) < L.length - j), ⟨j + 1, a + 1, b, by omega, by omega, by omega, rfl, rfl, rfl⟩,
        ⟨congrArg (fun z => some (i64 z)) e1, rfl, rfl, rfl, congrArg (fun z => some (i64 z)) e3, trivial⟩, rfl⟩
    · rw [if_neg h5] at h1 h2
      refine brF (decide_eq_false (by omega)) ?_
      conv => whnf
      have e1 : IntKind.i64.wrap ((b : Int) + 1) = ((b + 1 : Nat) : Int) := by rw [w64 (by omega)]; omega
      exact ⟨_, _, 0, (by omega : L.length - (j + 1) < L.length - j), ⟨j + 1, a, b + 1, by omega, by omega, by omega, rfl, rfl, rfl⟩,
        ⟨rfl, congrArg (fun z => some (i64 z)) e1, rfl, rfl, congrArg (fun z => some (i64 z)) e3, trivial⟩, rfl⟩
  · have h4 := of_decide_eq_false h4
    rw [hlen] at h4
    obtain rfl : j = L.length := by omega
    rw [List.drop_length, runesN_nil, Nat.add_zero] at h1
    rw [List.drop_length, strN_nil, Nat.add_zero] at h2
    conv => whnf
    rw [← h1, ← h2]
    exact ⟨rfl, rfl⟩
end Go.Proofs.YtefcpmnhhmpmnaaDoor
