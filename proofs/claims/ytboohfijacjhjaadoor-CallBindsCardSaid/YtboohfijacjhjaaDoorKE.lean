/- Readers of signatures. -/
import Derived.Test.YtboohfijacjhjaaDoorKD
set_option linter.unusedVariables false
namespace Go.Proofs.YtboohfijacjhjaaDoor
open Go.Ab Go.RowKit

theorem dglR_size (r : Rs) (m : Int) : (r.dglR m).s.size ≤ r.s.size := Nat.le_trans (take_size ..) (cntR_size ..)
theorem sg1_size (r : Rs) : r.sg1.s.size ≤ r.s.size := by
  unfold Rs.sg1; split
  · rw [fail_size]; exact take_size ..
  · exact take_size ..
theorem sgR_size (r : Rs) : r.sgR.s.size ≤ r.s.size := by
  have h1 := sg1_size r
  have h2 := dglR_size r.sg1 32
  have h3 := dglR_size r.sg2 32
  have h4 := dglR_size r.sg3 32
  unfold Rs.sgR
  unfold Rs.sg3 at *
  unfold Rs.sg2 at *
  omega

theorem nsig_c {r : Rs} (hm : r.s.size < 9223372036854775807) : CallR cx 120 [.ptr 0 []] [.var (.d r.d)] fun v S => v = .d r.sg.d ∧ S = [.var (.d r.sgR.d)] := by
  have nw := nword_c (r := r) hm
  have h1 := sg1_size r
  have h2 := dglR_size r.sg1 32
  have h3 := dglR_size r.sg2 32
  have d1 := ndgs_c (r := r.sg1) (m := 32) (by decide) (by decide) (by omega)
  have d2 := ndgs_c (r := r.sg2) (m := 32) (by decide) (by decide) (by unfold Rs.sg2; omega)
  have d3 := ndgs_c (r := r.sg3) (m := 32) (by decide) (by decide) (by unfold Rs.sg3; unfold Rs.sg2 at *; omega)
  have fa := nfail_c (r := r.take 4) (f := 8)
  have hn := num4_lt r
  have e1 : r.sg1.dglR 32 = r.sg2 := rfl
  have e2 : r.sg2.dglR 32 = r.sg3 := rfl
  have e3 : r.sg3.dglR 32 = r.sgR := rfl
  rw [e1] at d1
  rw [e2] at d2
  rw [e3] at d3
  clear e1 e2 e3 h1 h2 h3
  have es : r.sg.d = if r.sgR.e = 0 then D.agg [.int .i64 ((r.num 4 : Nat) : Int), .sl 32 (dgs (r.sg1.dgl 32)), .sl 32 (dgs (r.sg2.dgl 32)), .sl 32 (dgs (r.sg3.dgl 32))] else .agg [.int .i64 0, .sl 32 [], .sl 32 [], .sl 32 []] := by
    unfold Rs.sg; split <;> rfl
  rw [es]
  clear es
  have eo : r.sg1 = if ((r.num 4 : Nat) : Int) > 2147483647 then (r.take 4).fail 8 else r.take 4 := rfl
  have ew : IntKind.i64.wrap ((r.num 4 : Nat) : Int) = ((r.num 4 : Nat) : Int) := w64 (by omega)
  generalize dgs (r.sg1.dgl 32) = x1 at *
  generalize dgs (r.sg2.dgl 32) = x2 at *
  generalize dgs (r.sg3.dgl 32) = x3 at *
  generalize r.sg3 = r3 at *
  generalize r.sg2 = r2 at *
  generalize r.sg1 = r1 at *
  generalize r.take 4 = r0 at *
  generalize hK : ((r.num 4 : Nat) : Int) = K at *
  obtain ⟨sR, eR⟩ : ∃ q, r.sgR = q := ⟨_, rfl⟩
  rw [eR] at d3 ⊢
  obtain ⟨sR, e⟩ := sR
  generalize r.d = R0 at *
  have go : ∀ (A : Prop), True := fun _ => trivial
  refine callR_of (R := R1) cx_ok Tryd.func120 (by kernel_rfl) rfl ?_
  conv => whnf
  refine ⟨_, nw, ?_⟩
  rintro _ _ ⟨rfl, rfl⟩
  conv => whnf
  refine brec (fun h => ?_) (fun h => ?_)
  · have h := of_decide_eq_true h
    rw [if_pos h] at eo
    subst eo
    conv => whnf
    refine ⟨_, fa, ?_⟩
    rintro _ _ ⟨rfl, rfl⟩
    conv => whnf
    rw [ew]
    refine ⟨_, d1, ?_⟩
    rintro _ _ ⟨rfl, rfl⟩
    conv => whnf
    refine ⟨_, d2, ?_⟩
    rintro _ _ ⟨rfl, rfl⟩
    conv => whnf
    refine ⟨_, d3, ?_⟩
    rintro _ _ ⟨rfl, rfl⟩
    conv => whnf
    refine brec (fun g => ?_) (fun g => ?_)
    · have g : ¬ e = 0 := by simpa using g
      conv => whnf
      rw [if_neg g]
      exact ⟨rfl, rfl⟩
    · have g : e = 0 := by simpa using g
      conv => whnf
      rw [if_pos g]
      exact ⟨rfl, rfl⟩
  · have h := of_decide_eq_false h
    rw [if_neg h] at eo
    subst eo
    conv => whnf
    rw [ew]
    refine ⟨_, d1, ?_⟩
    rintro _ _ ⟨rfl, rfl⟩
    conv => whnf
    refine ⟨_, d2, ?_⟩
    rintro _ _ ⟨rfl, rfl⟩
    conv => whnf
    refine ⟨_, d3, ?_⟩
    rintro _ _ ⟨rfl, rfl⟩
    conv => whnf
    refine brec (fun g => ?_) (fun g => ?_)
    · have g : ¬ e = 0 := by simpa using g
      conv => whnf
      rw [if_neg g]
      exact ⟨rfl, rfl⟩
    · have g : e = 0 := by simpa using g
      conv => whnf
      rw [if_pos g]
      exact ⟨rfl, rfl⟩

theorem rsigR_c {r : Rs} (hm : r.s.size < 9223372036854775807) : CallR cx 99 [.ptr 0 []] [.var (.d r.d)] fun v S => v = .d r.sg.d ∧ S = [.var (.d r.sgR.d)] := by
  have nw := rnum_c (r := r) (n := 4) (by decide) hm
  have h1 := sg1_size r
  have h2 := dglR_size r.sg1 32
  have h3 := dglR_size r.sg2 32
  have d1 := rdgsR_c (r := r.sg1) (m := 32) (by decide) (by decide) (by omega)
  have d2 := rdgsR_c (r := r.sg2) (m := 32) (by decide) (by decide) (by unfold Rs.sg2; omega)
  have d3 := rdgsR_c (r := r.sg3) (m := 32) (by decide) (by decide) (by unfold Rs.sg3; unfold Rs.sg2 at *; omega)
  have fa := rfail_c (r := r.take 4) (f := 8)
  have hn := num4_lt r
  have e1 : r.sg1.dglR 32 = r.sg2 := rfl
  have e2 : r.sg2.dglR 32 = r.sg3 := rfl
  have e3 : r.sg3.dglR 32 = r.sgR := rfl
  rw [e1] at d1
  rw [e2] at d2
  rw [e3] at d3
  clear e1 e2 e3 h1 h2 h3
  have es : r.sg.d = if r.sgR.e = 0 then D.agg [.int .i64 ((r.num 4 : Nat) : Int), .sl 32 (dgs (r.sg1.dgl 32)), .sl 32 (dgs (r.sg2.dgl 32)), .sl 32 (dgs (r.sg3.dgl 32))] else .agg [.int .i64 0, .sl 32 [], .sl 32 [], .sl 32 []] := by
    unfold Rs.sg; split <;> rfl
  rw [es]
  clear es
  have eo : r.sg1 = if ((r.num 4 : Nat) : Int) > 2147483647 then (r.take 4).fail 8 else r.take 4 := rfl
  have ew : IntKind.i64.wrap ((r.num 4 : Nat) : Int) = ((r.num 4 : Nat) : Int) := w64 (by omega)
  generalize dgs (r.sg1.dgl 32) = x1 at *
  generalize dgs (r.sg2.dgl 32) = x2 at *
  generalize dgs (r.sg3.dgl 32) = x3 at *
  generalize r.sg3 = r3 at *
  generalize r.sg2 = r2 at *
  generalize r.sg1 = r1 at *
  generalize r.take 4 = r0 at *
  generalize hK : ((r.num 4 : Nat) : Int) = K at *
  obtain ⟨sR, eR⟩ : ∃ q, r.sgR = q := ⟨_, rfl⟩
  rw [eR] at d3 ⊢
  obtain ⟨sR, e⟩ := sR
  generalize r.d = R0 at *
  have go : ∀ (A : Prop), True := fun _ => trivial
  refine callR_of (R := R1) cx_ok Tryd.func99 (by kernel_rfl) rfl ?_
  conv => whnf
  refine ⟨_, nw, ?_⟩
  rintro _ _ ⟨rfl, rfl⟩
  conv => whnf
  refine brec (fun h => ?_) (fun h => ?_)
  · have h := of_decide_eq_true h
    rw [if_pos (by omega)] at eo
    subst eo
    conv => whnf
    refine ⟨_, fa, ?_⟩
    rintro _ _ ⟨rfl, rfl⟩
    conv => whnf
    rw [ew]
    refine ⟨_, d1, ?_⟩
    rintro _ _ ⟨rfl, rfl⟩
    conv => whnf
    refine ⟨_, d2, ?_⟩
    rintro _ _ ⟨rfl, rfl⟩
    conv => whnf
    refine ⟨_, d3, ?_⟩
    rintro _ _ ⟨rfl, rfl⟩
    conv => whnf
    refine brec (fun g => ?_) (fun g => ?_)
    · have g : ¬ e = 0 := by simpa using g
      conv => whnf
      rw [if_neg g]
      exact ⟨rfl, rfl⟩
    · have g : e = 0 := by simpa using g
      conv => whnf
      rw [if_pos g]
      exact ⟨rfl, rfl⟩
  · have h := of_decide_eq_false h
    rw [if_neg (by omega)] at eo
    subst eo
    conv => whnf
    rw [ew]
    refine ⟨_, d1, ?_⟩
    rintro _ _ ⟨rfl, rfl⟩
    conv => whnf
    refine ⟨_, d2, ?_⟩
    rintro _ _ ⟨rfl, rfl⟩
    conv => whnf
    refine ⟨_, d3, ?_⟩
    rintro _ _ ⟨rfl, rfl⟩
    conv => whnf
    refine brec (fun g => ?_) (fun g => ?_)
    · have g : ¬ e = 0 := by simpa using g
      conv => whnf
      rw [if_neg g]
      exact ⟨rfl, rfl⟩
    · have g : e = 0 := by simpa using g
      conv => whnf
      rw [if_pos g]
      exact ⟨rfl, rfl⟩
end Go.Proofs.YtboohfijacjhjaaDoor
