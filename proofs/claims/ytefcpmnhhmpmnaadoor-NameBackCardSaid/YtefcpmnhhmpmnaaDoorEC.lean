/- The laws NameQuotes and NameBack. -/
import Derived.Test.YtefcpmnhhmpmnaaDoorEB
set_option linter.unusedVariables false
namespace Go.Proofs.YtefcpmnhhmpmnaaDoor
open Go.Ab Go.RowKit
variable [Errs]

theorem runq_c {t : List UInt8} (ht : t.length ≤ 100000) : CallR cxE 21 [st (baL t)] [] fun r S => r = unqT t (candP t) ∧ S = [] := by
  rw [← unq_same]
  by_cases h : 2 ≤ t.length ∧ t.head? = some 34 ∧ t.getLast? = some 34
  · have e : candR t = decR t.length (t.drop 1) := by unfold candR; rw [if_pos h]
    rw [e]
    exact runq_yes ht h rfl
  · have e : candR t = none := by unfold candR; rw [if_neg h]
    rw [e]
    exact runq_no ht h
omit [Errs] in
theorem unq_shape (t : List UInt8) (o : Option (List UInt8)) : ∃ A B, unqT t o = .tup [st (baL A), bo B] := by
  cases o with
  | none => exact ⟨_, _, rfl⟩
  | some u =>
    unfold unqT
    simp only
    split
    · exact ⟨_, _, rfl⟩
    · exact ⟨_, _, rfl⟩

theorem nq_no {s t : ByteArray} (h : 2000 < s.size ∨ 2000 < t.size) : CallR cxE 7 [st s, st t] [] fun r S => r = bo true ∧ S = [] := by
  refine callR_of (R := R1) cxE_ok Tryd.func7 (by kernel_rfl) rfl ?_
  conv => whnf
  refine ⟨_, lift awake_c, ?_⟩
  rintro _ _ ⟨rfl, rfl⟩
  conv => whnf
  by_cases h1 : 2000 < s.size
  · refine brT (decide_eq_true (by show (2000 : Int) < _; omega)) ?_
    conv => whnf
    refine ⟨_, lift awake_c, ?_⟩
    rintro _ _ ⟨rfl, rfl⟩
    conv => whnf
    exact ⟨rfl, rfl⟩
  · refine brF (decide_eq_false (by show ¬ (2000 : Int) < _; omega)) ?_
    conv => whnf
    refine brT (decide_eq_true (by show (2000 : Int) < _; omega)) ?_
    conv => whnf
    refine ⟨_, lift awake_c, ?_⟩
    rintro _ _ ⟨rfl, rfl⟩
    conv => whnf
    exact ⟨rfl, rfl⟩

theorem nq_yes {s t Q A : ByteArray} {B : Bool} (h1 : s.size ≤ 2000) (h2 : t.size ≤ 2000)
    (q1 : CallR cxE 22 [st s] [] fun r S => r = st Q ∧ S = [])
    (q2 : CallR cxE 23 [st s] [] fun r S => r = st Q ∧ S = [])
    (u1 : CallR cxE 20 [st t] [] fun r S => r = .tup [st A, bo B] ∧ S = [])
    (u2 : CallR cxE 21 [st t] [] fun r S => r = .tup [st A, bo B] ∧ S = []) :
    CallR cxE 7 [st s, st t] [] fun r S => r = bo true ∧ S = [] := by
  refine callR_of (R := R1) cxE_ok Tryd.func7 (by kernel_rfl) rfl ?_
  conv => whnf
  refine ⟨_, lift awake_c, ?_⟩
  rintro _ _ ⟨rfl, rfl⟩
  conv => whnf
  refine brF (decide_eq_false (by show ¬ (2000 : Int) < _; omega)) ?_
  conv => whnf
  refine brF (decide_eq_false (by show ¬ (2000 : Int) < _; omega)) ?_
  conv => whnf
  refine ⟨_, u1, ?_⟩
  rintro _ _ ⟨rfl, rfl⟩
  conv => whnf
  refine ⟨_, u2, ?_⟩
  rintro _ _ ⟨rfl, rfl⟩
  conv => whnf
  refine ⟨_, lift awake_c, ?_⟩
  rintro _ _ ⟨rfl, rfl⟩
  conv => whnf
  refine ⟨_, q1, ?_⟩
  rintro _ _ ⟨rfl, rfl⟩
  conv => whnf
  refine ⟨_, q2, ?_⟩
  rintro _ _ ⟨rfl, rfl⟩
  conv => whnf
  refine brT (decide_eq_true rfl) ?_
  conv => whnf
  refine brT (decide_eq_true rfl) ?_
  conv => whnf
  exact ⟨congrArg bo (by cases B <;> rfl), rfl⟩

omit [Errs] in
theorem bl_of (s : ByteArray) : ∃ l, s = baL l ∧ l.length = s.size := ⟨s.data.toList, (toL s).symm, by rw [Array.length_toList]; rfl⟩

theorem nameQuotes_c (ys : List D) (hy : Ty.hass [.str, .str] ys) : CallR cxE 7 (ys.map AV.d) [] fun r S => r = .d (.bool true) ∧ S = [] := by
  obtain ⟨_, _, rfl, ⟨s, rfl, _⟩, _, _, rfl, ⟨t, rfl, _⟩, rfl⟩ := hy
  by_cases h : 2000 < s.size ∨ 2000 < t.size
  · exact nq_no h
  obtain ⟨l, rfl, hl⟩ := bl_of t
  obtain ⟨A, B, e⟩ := unq_shape l (candP l)
  have u1 := unq_c (t := l) (by omega)
  have u2 := runq_c (t := l) (by omega)
  rw [e] at u1 u2
  exact nq_yes (by omega) (by omega) (lift (quote_c (by omega))) (lift (rquote_c (by omega))) u1 u2
end Go.Proofs.YtefcpmnhhmpmnaaDoor
