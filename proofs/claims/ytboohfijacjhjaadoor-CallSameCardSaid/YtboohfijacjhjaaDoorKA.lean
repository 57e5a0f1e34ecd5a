/- Calls: the law CallSame. -/
import Derived.Test.YtboohfijacjhjaaDoorKB
set_option linter.unusedVariables false
namespace Go.Proofs.YtboohfijacjhjaaDoor
open Go.Ab Go.RowKit

theorem csl_no {x y : An} (lx : CallR cx 20 [.d x.d] [] fun r S => ∃ b, r = bo b ∧ S = [])
    (ly : CallR cx 20 [.d y.d] [] fun r S => r = bo false ∧ S = []) :
    CallR cx 4 [.d x.d, .d y.d] [] fun r S => r = bo true ∧ S = [] := by
  refine callR_of (R := R1) cx_ok Tryd.func4 (by kernel_rfl) rfl ?_
  conv => whnf
  refine ⟨_, cawake_c, ?_⟩
  rintro _ _ ⟨rfl, rfl⟩
  conv => whnf
  refine ⟨_, lx, ?_⟩
  rintro _ _ ⟨b, rfl, rfl⟩
  cases b with
  | false =>
    conv => whnf
    refine ⟨_, cawake_c, ?_⟩
    rintro _ _ ⟨rfl, rfl⟩
    conv => whnf
    exact ⟨rfl, rfl⟩
  | true =>
  conv => whnf
  refine ⟨_, ly, ?_⟩
  rintro _ _ ⟨rfl, rfl⟩
  conv => whnf
  refine ⟨_, cawake_c, ?_⟩
  rintro _ _ ⟨rfl, rfl⟩
  conv => whnf
  exact ⟨rfl, rfl⟩

theorem csl_yes {x y : An} {X Y : D} {f g : Fd} {q r : Bool} (hq : q = (decide (0 < f.tag) && r))
    (lx : CallR cx 20 [.d x.d] [] fun r S => ∃ b, r = bo b ∧ S = [])
    (ly : CallR cx 20 [.d y.d] [] fun r S => ∃ b, r = bo b ∧ S = [])
    (tx : CallR cx 21 [.d x.d] [] fun r S => r = .d X ∧ S = [])
    (ty : CallR cx 21 [.d y.d] [] fun r S => r = .d Y ∧ S = [])
    (ox : CallR cx 22 [.d X] [] fun r S => r = .d f.d ∧ S = [])
    (oy : CallR cx 22 [.d Y] [] fun r S => r = .d g.d ∧ S = [])
    (cs : CallR cx 23 [.d X, .d Y] [] fun r S => r = bo q ∧ S = [])
    (rs : CallR cx 24 [.d f.d, .d g.d] [] fun z S => z = bo r ∧ S = []) :
    CallR cx 4 [.d x.d, .d y.d] [] fun r S => r = bo true ∧ S = [] := by
  refine callR_of (R := R1) cx_ok Tryd.func4 (by kernel_rfl) rfl ?_
  conv => whnf
  refine ⟨_, cawake_c, ?_⟩
  rintro _ _ ⟨rfl, rfl⟩
  conv => whnf
  refine ⟨_, lx, ?_⟩
  rintro _ _ ⟨b, rfl, rfl⟩
  cases b with
  | false =>
    conv => whnf
    refine ⟨_, cawake_c, ?_⟩
    rintro _ _ ⟨rfl, rfl⟩
    conv => whnf
    exact ⟨rfl, rfl⟩
  | true =>
  conv => whnf
  refine ⟨_, ly, ?_⟩
  rintro _ _ ⟨b, rfl, rfl⟩
  cases b with
  | false =>
    conv => whnf
    refine ⟨_, cawake_c, ?_⟩
    rintro _ _ ⟨rfl, rfl⟩
    conv => whnf
    exact ⟨rfl, rfl⟩
  | true =>
  conv => whnf
  refine ⟨by kernel_rfl, ?_⟩
  conv => whnf
  refine ⟨_, tx, ?_⟩
  conv => whnf
  refine ⟨_, ty, ?_⟩
  conv => whnf
  refine ⟨by kernel_rfl, ?_⟩
  conv => whnf
  refine ⟨_, ox, ?_⟩
  rintro _ _ ⟨rfl, rfl⟩
  conv => whnf
  refine ⟨_, oy, ?_⟩
  rintro _ _ ⟨rfl, rfl⟩
  conv => whnf
  refine ⟨by kernel_rfl, ?_⟩
  conv => whnf
  refine ⟨_, cawake_c, ?_⟩
  conv => whnf
  refine ⟨_, cs, ?_⟩
  conv => whnf
  by_cases h0 : 0 < f.tag
  · rw [decide_eq_true h0, Bool.true_and] at hq
    refine brT (decide_eq_true (by omega)) ?_
    conv => whnf
    refine ⟨_, rs, ?_⟩
    conv => whnf
    refine ⟨by kernel_rfl, ?_⟩
    conv => whnf
    refine ⟨?_, rfl⟩
    subst hq
    cases q <;> rfl
  · rw [decide_eq_false h0, Bool.false_and] at hq
    refine brF (decide_eq_false (by omega)) ?_
    conv => whnf
    refine ⟨by kernel_rfl, ?_⟩
    conv => whnf
    refine ⟨?_, rfl⟩
    subst hq
    rfl

theorem csl_nx {x y : An} (lx : CallR cx 20 [.d x.d] [] fun r S => r = bo false ∧ S = []) :
    CallR cx 4 [.d x.d, .d y.d] [] fun r S => r = bo true ∧ S = [] := by
  refine callR_of (R := R1) cx_ok Tryd.func4 (by kernel_rfl) rfl ?_
  conv => whnf
  refine ⟨_, cawake_c, ?_⟩
  rintro _ _ ⟨rfl, rfl⟩
  conv => whnf
  refine ⟨_, lx, ?_⟩
  rintro _ _ ⟨rfl, rfl⟩
  conv => whnf
  refine ⟨_, cawake_c, ?_⟩
  rintro _ _ ⟨rfl, rfl⟩
  conv => whnf
  exact ⟨rfl, rfl⟩

theorem csame_law {x y : An} (hx : x.wf) (hy : y.wf) : CallR cx 4 [.d x.d, .d y.d] [] fun r S => r = bo true ∧ S = [] := by
  have lx0 := clight_c (x := x)
  have ly0 := clight_c (x := y)
  have lx := lx0.mono fun r S ⟨b, h1, h2, h3⟩ => (⟨b, h1, h3⟩ : ∃ b, r = bo b ∧ S = [])
  have ly := ly0.mono fun r S ⟨b, h1, h2, h3⟩ => (⟨b, h1, h3⟩ : ∃ b, r = bo b ∧ S = [])
  by_cases hlx : x.light
  case neg => exact csl_nx (lx0.mono fun r S ⟨b, h1, h2, h3⟩ => ⟨by cases b with | false => exact h1 | true => exact absurd (h2 rfl) hlx, h3⟩)
  by_cases hly : y.light
  case neg => exact csl_no lx (ly0.mono fun r S ⟨b, h1, h2, h3⟩ => ⟨by cases b with | false => exact h1 | true => exact absurd (h2 rfl) hly, h3⟩)
  have fx := An.fit hx hlx
  have fy := An.fit hy hly
  refine csl_yes (q := decide (0 < x.cl.tag) && decide (x.cl = y.cl)) (r := decide (x.cl.fd = y.cl.fd)) ?_ lx ly cto_c cto_c cof_c cof_c (csame_c fx fy) (fsame_c (fd_fit fx) (fd_fit fy))
  rw [fd_tag]
  by_cases h0 : 0 < x.cl.tag
  · rw [decide_eq_true h0, Bool.true_and, Bool.true_and]
    exact dec_iff ⟨fun e => by rw [e], fun e => fd_inj h0 e⟩
  · rw [decide_eq_false h0, Bool.false_and, Bool.false_and]

theorem callSame_c (ys : List D) (hy : Ty.hass [tyAn, tyAn] ys) : CallR cx 4 (ys.map AV.d) [] fun r S => r = .d (.bool true) ∧ S = [] := by
  obtain ⟨_, _, rfl, ha, _, _, rfl, hb, rfl⟩ := hy
  obtain ⟨x, rfl, hx⟩ := an_of ha
  obtain ⟨y, rfl, hy⟩ := an_of hb
  exact csame_law hx hy
end Go.Proofs.YtboohfijacjhjaaDoor
