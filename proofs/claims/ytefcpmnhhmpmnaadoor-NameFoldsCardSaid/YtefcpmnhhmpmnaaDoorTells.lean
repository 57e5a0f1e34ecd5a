/- The laws NameTells and NameFolds. -/
import Derived.Test.YtefcpmnhhmpmnaaDoorND
namespace Go.Proofs.YtefcpmnhhmpmnaaDoor
open Go.Ab Go.RowKit

theorem nameTells_c (ys : List D) (hy : Ty.hass [.str] ys) : CallR cx 3 (ys.map AV.d) [] fun r S => r = .d (.bool true) ∧ S = [] := by
  obtain ⟨_, _, rfl, ⟨s, rfl, _⟩, rfl⟩ := hy
  have aw := awake_c
  refine callR_of (R := R1) cx_ok Tryd.func3 (by kernel_rfl) rfl ?_
  conv => whnf
  refine ⟨_, aw, ?_⟩
  rintro _ _ ⟨rfl, rfl⟩
  conv => whnf
  by_cases h : (s.size : Int) > 5000
  · refine brT (decide_eq_true h) ?_
    conv => whnf
    refine ⟨_, aw, ?_⟩
    rintro _ _ ⟨rfl, rfl⟩
    conv => whnf
    exact ⟨rfl, rfl⟩
  have rn := runes_c (s := s) (by omega)
  have cn := count_c (s := s) (by omega)
  have ri := right_c (s := s) (by omega)
  have rr := rright_c (s := s) (by omega)
  have sa := says_c (s := s) (by omega)
  have rs := rsays_c (s := s) (by omega)
  generalize rightT s = b1 at *
  generalize saysT s = b2 at *
  generalize (runesN (keysAt s 0) : Int) = n1 at *
  generalize (strN (keysAt s 0) : Int) = n2 at *
  refine brF (decide_eq_false h) ?_
  conv => whnf
  refine ⟨_, rn, ?_⟩
  rintro _ _ ⟨rfl, rfl⟩
  conv => whnf
  refine ⟨_, cn, ?_⟩
  rintro _ _ ⟨rfl, rfl⟩
  conv => whnf
  refine ⟨_, aw, ?_⟩
  rintro _ _ ⟨rfl, rfl⟩
  conv => whnf
  refine ⟨_, ri, ?_⟩
  rintro _ _ ⟨rfl, rfl⟩
  conv => whnf
  refine ⟨_, rr, ?_⟩
  rintro _ _ ⟨rfl, rfl⟩
  conv => whnf
  refine brT (by simp) ?_
  conv => whnf
  refine ⟨_, sa, ?_⟩
  rintro _ _ ⟨rfl, rfl⟩
  conv => whnf
  refine ⟨_, rs, ?_⟩
  rintro _ _ ⟨rfl, rfl⟩
  conv => whnf
  refine brT (by simp) ?_
  conv => whnf
  refine brT (by simp) ?_
  conv => whnf
  exact ⟨congrArg (fun z => bo z) (beq_self_eq_true n2), rfl⟩

theorem nameFolds_c (ys : List D) (hy : Ty.hass [.str, .str] ys) : CallR cx 6 (ys.map AV.d) [] fun r S => r = .d (.bool true) ∧ S = [] := by
  obtain ⟨_, _, rfl, ⟨s, rfl, _⟩, _, _, rfl, ⟨t, rfl, _⟩, rfl⟩ := hy
  have aw := awake_c
  have out : (s.size : Int) > 5000 ∨ (t.size : Int) > 5000 → CallR cx 6 [st s, st t] [] fun r S => r = .d (.bool true) ∧ S = [] := fun h => by
    refine callR_of (R := R1) cx_ok Tryd.func6 (by kernel_rfl) rfl ?_
    conv => whnf
    refine ⟨_, aw, ?_⟩
    rintro _ _ ⟨rfl, rfl⟩
    conv => whnf
    by_cases h1 : (s.size : Int) > 5000
    · refine brT (decide_eq_true h1) ?_
      conv => whnf
      refine ⟨_, aw, ?_⟩
      rintro _ _ ⟨rfl, rfl⟩
      conv => whnf
      exact ⟨rfl, rfl⟩
    · refine brF (decide_eq_false h1) ?_
      conv => whnf
      refine brT (decide_eq_true (h.resolve_left h1)) ?_
      conv => whnf
      refine ⟨_, aw, ?_⟩
      rintro _ _ ⟨rfl, rfl⟩
      conv => whnf
      exact ⟨rfl, rfl⟩
  by_cases h : (s.size : Int) > 5000 ∨ (t.size : Int) > 5000
  · exact out h
  have f1 := fold_c (s := s) (by omega)
  have f2 := rfold_c (s := s) (by omega)
  have o1 := order_c (a := s) (b := t) (by omega) (by omega)
  have o2 := rorder_c (a := s) (b := t) (by omega) (by omega)
  generalize baL (foldAt s 0) = F at *
  generalize ordL (keysAt s 0) (keysAt t 0) = O at *
  refine callR_of (R := R1) cx_ok Tryd.func6 (by kernel_rfl) rfl ?_
  conv => whnf
  refine ⟨_, aw, ?_⟩
  rintro _ _ ⟨rfl, rfl⟩
  conv => whnf
  refine brF (decide_eq_false (fun g => h (.inl g))) ?_
  conv => whnf
  refine brF (decide_eq_false (fun g => h (.inr g))) ?_
  conv => whnf
  refine ⟨_, aw, ?_⟩
  rintro _ _ ⟨rfl, rfl⟩
  conv => whnf
  refine ⟨_, f1, ?_⟩
  rintro _ _ ⟨rfl, rfl⟩
  conv => whnf
  refine ⟨_, f2, ?_⟩
  rintro _ _ ⟨rfl, rfl⟩
  conv => whnf
  refine brT (decide_eq_true rfl) ?_
  conv => whnf
  refine ⟨_, o1, ?_⟩
  rintro _ _ ⟨rfl, rfl⟩
  conv => whnf
  refine ⟨_, o2, ?_⟩
  rintro _ _ ⟨rfl, rfl⟩
  conv => whnf
  exact ⟨congrArg (fun z => bo z) (beq_self_eq_true O), rfl⟩
end Go.Proofs.YtefcpmnhhmpmnaaDoor
