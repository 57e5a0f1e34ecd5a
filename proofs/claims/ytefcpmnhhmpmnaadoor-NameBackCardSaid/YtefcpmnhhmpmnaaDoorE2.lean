/- Texts cut behind a first quote, ahead of a last one. -/
import Derived.Test.YtefcpmnhhmpmnaaDoorE1
set_option linter.unusedVariables false
namespace Go.Proofs.YtefcpmnhhmpmnaaDoor
open Go.Ab Go.RowKit
variable [Errs]

theorem hp0_c {s : ByteArray} (h : s.size = 0) : CallR cxE 53 [st s, st ⟨#[34]⟩] [] fun r S => r = bo false ∧ S = [] := by
  refine callR_of (R := R1) cxE_ok Tryd.func53 (by kernel_rfl) rfl ?_
  conv => whnf
  refine brF (decide_eq_false (by rw [h]; decide)) ?_
  rw [decide_eq_false (by rw [h]; decide)]
  conv => whnf
  exact ⟨rfl, rfl⟩
theorem hp1_c {s : ByteArray} (h : 1 ≤ s.size) : CallR cxE 53 [st s, st ⟨#[34]⟩] [] fun r S => r = bo (decide (s.extract 0 1 = ⟨#[34]⟩)) ∧ S = [] := by
  refine callR_of (R := R1) cxE_ok Tryd.func53 (by kernel_rfl) rfl ?_
  conv => whnf
  refine brT (decide_eq_true (by show (1 : Int) ≤ _; omega)) ?_
  conv => whnf
  refine ⟨⟨by decide, by decide, by show (1 : Int) ≤ _; omega⟩, ?_⟩
  conv => whnf
  exact ⟨rfl, rfl⟩
theorem hs0_c {s : ByteArray} (h : s.size = 0) : CallR cxE 54 [st s, st ⟨#[34]⟩] [] fun r S => r = bo false ∧ S = [] := by
  refine callR_of (R := R1) cxE_ok Tryd.func54 (by kernel_rfl) rfl ?_
  conv => whnf
  refine brF (decide_eq_false (by rw [h]; decide)) ?_
  rw [decide_eq_false (by rw [h]; decide)]
  conv => whnf
  exact ⟨rfl, rfl⟩
theorem hs1_c {s : ByteArray} (h : 1 ≤ s.size) (hm : s.size < 1000000000) : CallR cxE 54 [st s, st ⟨#[34]⟩] [] fun r S => r = bo (decide (s.extract (s.size - 1) s.size = ⟨#[34]⟩)) ∧ S = [] := by
  refine callR_of (R := R1) cxE_ok Tryd.func54 (by kernel_rfl) rfl ?_
  conv => whnf
  refine brT (decide_eq_true (by show (1 : Int) ≤ _; omega)) ?_
  conv => whnf
  have ew : IntKind.i64.wrap ((s.size : Int) - (((⟨#[34]⟩ : ByteArray).size : Nat) : Int)) = ((s.size - 1 : Nat) : Int) := by
    show IntKind.i64.wrap ((s.size : Int) - 1) = _
    rw [w64 (by omega)]; omega
  rw [ew]
  refine ⟨⟨by omega, by omega, by omega⟩, ?_⟩
  conv => whnf
  exact ⟨rfl, rfl⟩

def preT : List UInt8 → List UInt8 × Bool
  | [] => ([], false)
  | a :: l => if a = 34 then (l, true) else (a :: l, false)
def sufT (l : List UInt8) : List UInt8 × Bool := if l.getLast? = some 34 then (l.dropLast, true) else (l, false)

omit [Errs] in
theorem one_eq (a : UInt8) : baL [a] = (⟨#[34]⟩ : ByteArray) ↔ a = 34 := by
  constructor
  · intro h
    have h : ([a] : List UInt8).toArray = #[34] := congrArg ByteArray.data h
    simpa using h
  · rintro rfl; rfl

theorem pre_c {l : List UInt8} (hl : l.length < 1000000000) : CallR cxE 34 [st (baL l), st ⟨#[34]⟩] [] fun r S => r = .tup [st (baL (preT l).1), bo (preT l).2] ∧ S = [] := by
  have key : CallR cxE 45 [st (baL l), st ⟨#[34]⟩] [] fun r S => r = .tup [st (baL (preT l).1), bo (preT l).2] ∧ S = [] := by
    have hz := baL_size l
    cases l with
    | nil =>
      have h := hp0_c (s := baL []) hz
      unfold preT
      simp only
      generalize baL [] = s at *
      refine callR_of (R := R1) cxE_ok Tryd.func45 (by kernel_rfl) rfl ?_
      conv => whnf
      refine ⟨_, h, ?_⟩
      rintro _ _ ⟨rfl, rfl⟩
      conv => whnf
      exact ⟨rfl, rfl⟩
    | cons a l =>
      have h := hp1_c (s := baL (a :: l)) (by rw [hz]; simp)
      rw [baL_ext] at h
      have e0 : ((a :: l).drop 0).take (1 - 0) = [a] := rfl
      rw [e0] at h
      have e1 : (baL (a :: l)).extract 1 (baL (a :: l)).size = baL l := by rw [baL_ext, hz]; simp
      rw [show preT (a :: l) = if a = 34 then (l, true) else (a :: l, false) from rfl]
      by_cases ha : a = 34
      · rw [decide_eq_true ((one_eq a).2 ha)] at h
        rw [if_pos ha]
        simp only
        rw [← e1]
        simp only [List.length_cons] at hz
        generalize baL (a :: l) = s at *
        refine callR_of (R := R1) cxE_ok Tryd.func45 (by kernel_rfl) rfl ?_
        conv => whnf
        refine ⟨_, h, ?_⟩
        rintro _ _ ⟨rfl, rfl⟩
        conv => whnf
        refine ⟨⟨by decide, by show (1 : Int) ≤ _; omega, by omega⟩, ?_⟩
        conv => whnf
        exact ⟨rfl, rfl⟩
      · rw [decide_eq_false (fun k => ha ((one_eq a).1 k))] at h
        rw [if_neg ha]
        simp only
        generalize baL (a :: l) = s at *
        refine callR_of (R := R1) cxE_ok Tryd.func45 (by kernel_rfl) rfl ?_
        conv => whnf
        refine ⟨_, h, ?_⟩
        rintro _ _ ⟨rfl, rfl⟩
        conv => whnf
        exact ⟨rfl, rfl⟩
  refine callR_of (R := R1) cxE_ok Tryd.func34 (by kernel_rfl) rfl ?_
  conv => whnf
  refine ⟨_, key, ?_⟩
  rintro _ _ ⟨rfl, rfl⟩
  conv => whnf
  exact ⟨rfl, rfl⟩

theorem suf_c {l : List UInt8} (hl : l.length < 1000000000) : CallR cxE 35 [st (baL l), st ⟨#[34]⟩] [] fun r S => r = .tup [st (baL (sufT l).1), bo (sufT l).2] ∧ S = [] := by
  have key : CallR cxE 46 [st (baL l), st ⟨#[34]⟩] [] fun r S => r = .tup [st (baL (sufT l).1), bo (sufT l).2] ∧ S = [] := by
    have hz := baL_size l
    rcases List.eq_nil_or_concat l with rfl | ⟨t, a, rfl⟩
    · have h := hs0_c (s := baL []) hz
      have es : sufT [] = ([], false) := rfl
      rw [es]
      simp only
      generalize baL [] = s at *
      refine callR_of (R := R1) cxE_ok Tryd.func46 (by kernel_rfl) rfl ?_
      conv => whnf
      refine ⟨_, h, ?_⟩
      rintro _ _ ⟨rfl, rfl⟩
      conv => whnf
      exact ⟨rfl, rfl⟩
    · rw [List.concat_eq_append] at *
      have hz' : (baL (t ++ [a])).size = t.length + 1 := by rw [hz]; simp
      have h := hs1_c (s := baL (t ++ [a])) (by omega) (by rw [hz]; exact hl)
      rw [baL_ext, hz', Nat.add_sub_cancel] at h
      have e0 : ((t ++ [a]).drop t.length).take (t.length + 1 - t.length) = [a] := by simp
      rw [e0] at h
      have e1 : (baL (t ++ [a])).extract 0 t.length = baL t := by rw [baL_ext]; simp
      have hl' : t.length + 1 < 1000000000 := by simpa using hl
      have es : sufT (t ++ [a]) = if a = 34 then (t, true) else (t ++ [a], false) := by
        unfold sufT
        rw [List.getLast?_append]
        simp
      rw [es]
      by_cases ha : a = 34
      · rw [decide_eq_true ((one_eq a).2 ha)] at h
        rw [if_pos ha]
        simp only
        rw [← e1]
        clear e1 es hz
        generalize baL (t ++ [a]) = s at *
        have ew : IntKind.i64.wrap ((s.size : Int) - (((⟨#[34]⟩ : ByteArray).size : Nat) : Int)) = ((t.length : Nat) : Int) := by
          show IntKind.i64.wrap ((s.size : Int) - 1) = _
          rw [w64 (by omega)]; omega
        refine callR_of (R := R1) cxE_ok Tryd.func46 (by kernel_rfl) rfl ?_
        conv => whnf
        refine ⟨_, h, ?_⟩
        rintro _ _ ⟨rfl, rfl⟩
        conv => whnf
        rw [ew]
        refine ⟨⟨by omega, by omega, by omega⟩, ?_⟩
        conv => whnf
        exact ⟨rfl, rfl⟩
      · rw [decide_eq_false (fun k => ha ((one_eq a).1 k))] at h
        rw [if_neg ha]
        simp only
        clear e1 es hz
        generalize baL (t ++ [a]) = s at *
        refine callR_of (R := R1) cxE_ok Tryd.func46 (by kernel_rfl) rfl ?_
        conv => whnf
        refine ⟨_, h, ?_⟩
        rintro _ _ ⟨rfl, rfl⟩
        conv => whnf
        exact ⟨rfl, rfl⟩
  refine callR_of (R := R1) cxE_ok Tryd.func35 (by kernel_rfl) rfl ?_
  conv => whnf
  refine ⟨_, key, ?_⟩
  rintro _ _ ⟨rfl, rfl⟩
  conv => whnf
  exact ⟨rfl, rfl⟩
end Go.Proofs.YtefcpmnhhmpmnaaDoor
