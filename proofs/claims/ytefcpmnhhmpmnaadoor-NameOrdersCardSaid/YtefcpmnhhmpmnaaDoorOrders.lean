/- The law NameOrders. -/
import Derived.Test.YtefcpmnhhmpmnaaDoorND
namespace Go.Proofs.YtefcpmnhhmpmnaaDoor
open Go.Ab Go.RowKit

theorem ordL_range : ∀ x y, -1 ≤ ordL x y ∧ ordL x y ≤ 1
  | [], [] => by simp [ordL]
  | [], _ :: _ => by simp [ordL]
  | _ :: _, [] => by simp [ordL]
  | a :: x, b :: y => by
    simp only [ordL]
    split
    · decide
    split
    · decide
    · exact ordL_range x y

theorem orders_out {s t v : ByteArray} (h : (s.size : Int) > 2000 ∨ (t.size : Int) > 2000 ∨ (v.size : Int) > 2000) : CallR cx 4 [st s, st t, st v] [] fun r S => r = .d (.bool true) ∧ S = [] := by
  have aw := awake_c
  refine callR_of (R := R1) cx_ok Tryd.func4 (by kernel_rfl) rfl ?_
  conv => whnf
  refine ⟨_, aw, ?_⟩
  rintro _ _ ⟨rfl, rfl⟩
  conv => whnf
  by_cases h1 : (s.size : Int) > 2000
  · refine brT (decide_eq_true h1) ?_
    conv => whnf
    refine ⟨_, aw, ?_⟩
    rintro _ _ ⟨rfl, rfl⟩
    conv => whnf
    exact ⟨rfl, rfl⟩
  refine brF (decide_eq_false h1) ?_
  conv => whnf
  by_cases h2 : (t.size : Int) > 2000
  · refine brT (decide_eq_true h2) ?_
    conv => whnf
    refine ⟨_, aw, ?_⟩
    rintro _ _ ⟨rfl, rfl⟩
    conv => whnf
    exact ⟨rfl, rfl⟩
  refine brF (decide_eq_false h2) ?_
  conv => whnf
  refine brT (decide_eq_true ((h.resolve_left h1).resolve_left h2)) ?_
  conv => whnf
  refine ⟨_, aw, ?_⟩
  rintro _ _ ⟨rfl, rfl⟩
  conv => whnf
  exact ⟨rfl, rfl⟩

theorem nameOrders_c (ys : List D) (hy : Ty.hass [.str, .str, .str] ys) : CallR cx 4 (ys.map AV.d) [] fun r S => r = .d (.bool true) ∧ S = [] := by
  obtain ⟨_, _, rfl, ⟨s, rfl, _⟩, _, _, rfl, ⟨t, rfl, _⟩, _, _, rfl, ⟨v, rfl, _⟩, rfl⟩ := hy
  have aw := awake_c
  by_cases h : (s.size : Int) > 2000 ∨ (t.size : Int) > 2000 ∨ (v.size : Int) > 2000
  · exact orders_out h
  have o1 := order_c (a := s) (b := t) (by omega) (by omega)
  have o2 := order_c (a := t) (b := s) (by omega) (by omega)
  have o3 := order_c (a := t) (b := v) (by omega) (by omega)
  have o4 := order_c (a := s) (b := v) (by omega) (by omega)
  have e1 := ordL_turn (keysAt s 0) (keysAt t 0)
  have e2 := ordL_zero (keysAt s 0) (keysAt t 0)
  have e3 := ordL_goes (keysAt s 0) (keysAt t 0) (keysAt v 0)
  have r1 := ordL_range (keysAt s 0) (keysAt t 0)
  have r2 := ordL_range (keysAt t 0) (keysAt s 0)
  rw [keysAt_inj] at e2
  generalize ordL (keysAt s 0) (keysAt t 0) = A at *
  generalize ordL (keysAt t 0) (keysAt s 0) = B at *
  generalize ordL (keysAt t 0) (keysAt v 0) = C at *
  generalize ordL (keysAt s 0) (keysAt v 0) = E at *
  have w : IntKind.i64.wrap (0 - B) = A := by rw [w64 (by omega)]; omega
  have q : ((A == 0) == decide (s = t)) = true := by
    by_cases g : s = t
    · rw [decide_eq_true g, beq_iff_eq.2 (e2.2 g)]; rfl
    · rw [decide_eq_false g, beq_eq_false_iff_ne.2 (fun z => g (e2.1 z))]; rfl
  refine callR_of (R := R1) cx_ok Tryd.func4 (by kernel_rfl) rfl ?_
  conv => whnf
  refine ⟨_, aw, ?_⟩
  rintro _ _ ⟨rfl, rfl⟩
  conv => whnf
  refine brF (decide_eq_false (by omega)) ?_
  conv => whnf
  refine brF (decide_eq_false (by omega)) ?_
  conv => whnf
  refine brF (decide_eq_false (by omega)) ?_
  conv => whnf
  refine ⟨_, o1, ?_⟩
  rintro _ _ ⟨rfl, rfl⟩
  conv => whnf
  refine ⟨_, aw, ?_⟩
  rintro _ _ ⟨rfl, rfl⟩
  conv => whnf
  refine ⟨_, o2, ?_⟩
  rintro _ _ ⟨rfl, rfl⟩
  conv => whnf
  rw [w]
  refine brT (beq_self_eq_true A) ?_
  conv => whnf
  refine brT q ?_
  conv => whnf
  by_cases g1 : A > 0
  · refine brT (decide_eq_true g1) ?_
    conv => whnf
    exact ⟨rfl, rfl⟩
  refine brF (decide_eq_false g1) ?_
  conv => whnf
  refine ⟨_, o3, ?_⟩
  rintro _ _ ⟨rfl, rfl⟩
  conv => whnf
  by_cases g2 : C > 0
  · refine brT (decide_eq_true g2) ?_
    conv => whnf
    exact ⟨rfl, rfl⟩
  refine brF (decide_eq_false g2) ?_
  conv => whnf
  refine ⟨_, o4, ?_⟩
  rintro _ _ ⟨rfl, rfl⟩
  conv => whnf
  exact ⟨congrArg (fun z => bo z) (decide_eq_true (e3 (by omega) (by omega))), rfl⟩
end Go.Proofs.YtefcpmnhhmpmnaaDoor
