/- The law NameKeeps. -/
import Derived.Test.YtefcpmnhhmpmnaaDoorKeeps0
namespace Go.Proofs.YtefcpmnhhmpmnaaDoor
open Go.Ab Go.RowKit

theorem keeps_out {s : ByteArray} {k : Int} (h : (s.size : Int) > 2000) : CallR cx 5 [st s, i64 k] [] fun r S => r = .d (.bool true) ∧ S = [] := by
  have aw := awake_c
  refine callR_of (R := R1) cx_ok Tryd.func5 (by kernel_rfl) rfl ?_
  conv => whnf
  refine ⟨_, aw, ?_⟩
  rintro _ _ ⟨rfl, rfl⟩
  conv => whnf
  refine brT (decide_eq_true h) ?_
  conv => whnf
  refine ⟨_, aw, ?_⟩
  rintro _ _ ⟨rfl, rfl⟩
  conv => whnf
  exact ⟨rfl, rfl⟩

theorem keeps_wrong {s : ByteArray} {k : Int} (h : ¬ (s.size : Int) > 2000) (hr : rightT s = false) : CallR cx 5 [st s, i64 k] [] fun r S => r = .d (.bool true) ∧ S = [] := by
  have aw := awake_c
  have hl := foldAt_len s
  have f1 := fold_c (s := s) (by omega)
  have f2 := fold_c (s := baL (foldAt s 0)) (by show (foldAt s 0).toArray.size < _; rw [List.size_toArray]; omega)
  rw [fold_twice] at f2
  have ri := right_c (s := s) (by omega)
  rw [hr] at ri
  generalize baL (foldAt s 0) = F at *
  refine callR_of (R := R1) cx_ok Tryd.func5 (by kernel_rfl) rfl ?_
  conv => whnf
  refine ⟨_, aw, ?_⟩
  rintro _ _ ⟨rfl, rfl⟩
  conv => whnf
  refine brF (decide_eq_false h) ?_
  conv => whnf
  refine ⟨_, f1, ?_⟩
  rintro _ _ ⟨rfl, rfl⟩
  conv => whnf
  refine ⟨_, f2, ?_⟩
  rintro _ _ ⟨rfl, rfl⟩
  conv => whnf
  refine ⟨_, f1, ?_⟩
  rintro _ _ ⟨rfl, rfl⟩
  conv => whnf
  refine brF (by simp) ?_
  conv => whnf
  refine ⟨_, ri, ?_⟩
  rintro _ _ ⟨rfl, rfl⟩
  conv => whnf
  refine ⟨_, aw, ?_⟩
  rintro _ _ ⟨rfl, rfl⟩
  conv => whnf
  exact ⟨rfl, rfl⟩

theorem keeps_right {s : ByteArray} {k : Int} (h : ¬ (s.size : Int) > 2000) (hr : rightT s = true) : CallR cx 5 [st s, i64 k] [] fun r S => r = .d (.bool true) ∧ S = [] := by
  have aw := awake_c
  have f1 := fold_c (s := s) (by omega)
  rw [right_fold hr] at f1
  have ri := right_c (s := s) (by omega)
  have sa := says_c (s := s) (by omega)
  rw [right_says hr] at sa
  have hs := right_size hr
  have cut := fun c => right_cut (s := s) (c := c) hr
  rw [hr] at ri
  refine callR_of (R := R1) cx_ok Tryd.func5 (by kernel_rfl) rfl ?_
  conv => whnf
  refine ⟨_, aw, ?_⟩
  rintro _ _ ⟨rfl, rfl⟩
  conv => whnf
  refine brF (decide_eq_false h) ?_
  conv => whnf
  refine ⟨_, f1, ?_⟩
  rintro _ _ ⟨rfl, rfl⟩
  conv => whnf
  refine ⟨_, f1, ?_⟩
  rintro _ _ ⟨rfl, rfl⟩
  conv => whnf
  refine ⟨_, f1, ?_⟩
  rintro _ _ ⟨rfl, rfl⟩
  conv => whnf
  refine brF (by simp) ?_
  conv => whnf
  refine ⟨_, ri, ?_⟩
  rintro _ _ ⟨rfl, rfl⟩
  conv => whnf
  obtain ⟨u, hu⟩ : ∃ u : Nat, IntKind.u64.wrap k = (u : Int) := ⟨(IntKind.u64.wrap k).toNat, by
    have : 0 ≤ IntKind.u64.wrap k := by simp [IntKind.wrap, IntKind.bits, IntKind.signed]; omega
    omega⟩
  have es : IntKind.u64.wrap (s.size : Int) = (s.size : Int) := by rw [wrap64n]; omega
  have hlt : u % s.size < s.size := Nat.mod_lt _ (by omega)
  have et : (u : Int).tmod (s.size : Int) = ((u % s.size : Nat) : Int) := rfl
  have e1 : IntKind.i64.wrap ((u % s.size : Nat) : Int) = ((u % s.size : Nat) : Int) := w64 (by omega)
  have e2 : IntKind.i64.wrap (1 + ((u % s.size : Nat) : Int)) = ((u % s.size + 1 : Nat) : Int) := by rw [w64 (by omega)]; omega
  rw [hu, es]
  refine ⟨by omega, ?_⟩
  rw [et]
  conv => whnf
  rw [e1, e2]
  have cut := cut (u % s.size + 1) (by omega) (by omega)
  have rn := runes_c (s := s.extract 0 (u % s.size + 1)) (by rw [ByteArray.size_extract]; omega)
  have rc := right_c (s := s.extract 0 (u % s.size + 1)) (by rw [ByteArray.size_extract]; omega)
  have hc : u % s.size + 1 ≤ s.size := by omega
  generalize u % s.size + 1 = c at *
  generalize hP : s.extract 0 c = P at *
  refine ⟨⟨by omega, by omega, by omega⟩, ?_⟩
  have hP' : s.extract (Int.toNat 0) c = P := hP
  rw [Int.toNat_natCast, hP']
  generalize hn1 : (runesN (keysAt P 0) : Int) = n1 at *
  generalize hn2 : strN (keysAt P 0) = n2 at *
  generalize hn3 : (n2 : Int) = n3 at *
  conv => whnf
  refine ⟨_, rn, ?_⟩
  rintro _ _ ⟨rfl, rfl⟩
  conv => whnf
  refine ⟨_, aw, ?_⟩
  rintro _ _ ⟨rfl, rfl⟩
  conv => whnf
  refine ⟨_, f1, ?_⟩
  rintro _ _ ⟨rfl, rfl⟩
  conv => whnf
  refine brT (decide_eq_true rfl) ?_
  conv => whnf
  refine ⟨_, sa, ?_⟩
  rintro _ _ ⟨rfl, rfl⟩
  conv => whnf
  by_cases g : n3 > 0
  · refine brT (decide_eq_true g) ?_
    conv => whnf
    exact ⟨rfl, rfl⟩
  refine brF (decide_eq_false g) ?_
  conv => whnf
  refine ⟨by omega, ?_⟩
  rw [Int.toNat_natCast, hP']
  conv => whnf
  rw [cut.resolve_left (by omega)] at rc
  refine ⟨_, rc, ?_⟩
  rintro _ _ ⟨rfl, rfl⟩
  conv => whnf
  exact ⟨rfl, rfl⟩

theorem nameKeeps_c (ys : List D) (hy : Ty.hass [.str, .int .i64] ys) : CallR cx 5 (ys.map AV.d) [] fun r S => r = .d (.bool true) ∧ S = [] := by
  obtain ⟨_, _, rfl, ⟨s, rfl, _⟩, _, _, rfl, ⟨k, rfl, _⟩, rfl⟩ := hy
  by_cases h : (s.size : Int) > 2000
  · exact keeps_out h
  cases hr : rightT s with
  | false => exact keeps_wrong h hr
  | true => exact keeps_right h hr
end Go.Proofs.YtefcpmnhhmpmnaaDoor
