/- What the functions of wide numbers compute: less, sums, differences. -/
import Derived.Test.YtmmgdbcppmabaaaAmt2
namespace Go.Proofs.Ytmmgdbcppmabaaa
open Go.Ab

/-- A wide number: its high and its low half. -/
abbrev wd (h l : Int) : D := .agg [.int .u64 h, .int .u64 l]

/-- One is less. -/
def wless (ah al bh bl : Int) : Bool := decide (ah * 18446744073709551616 + al < bh * 18446744073709551616 + bl)

theorem less_c {ah al bh bl : Int} (h1 : U ah) (h2 : U al) (h3 : U bh) (h4 : U bl) :
    CallR cx 15 [.d (wd ah al), .d (wd bh bl)] [] fun r S => r = bo (wless ah al bh bl) ∧ S = [] := by
  obtain ⟨h1, h1'⟩ := h1
  obtain ⟨h2, h2'⟩ := h2
  obtain ⟨h3, h3'⟩ := h3
  obtain ⟨h4, h4'⟩ := h4
  refine callR_of (R := R1) cx_ok Try.func15 (by kernel_rfl) rfl ?_
  conv => whnf
  refine brec (fun h => ?_) (fun h => ?_)
  · conv => whnf
    have h := of_decide_eq_true h
    have e : wless ah al bh bl = true := decide_eq_true (by omega)
    rw [e]
    refine ⟨?_, rfl⟩
    simp [pack, h]
  · conv => whnf
    have h := of_decide_eq_false h
    refine brec (fun g => ?_) (fun g => ?_)
    · conv => whnf
      have g := eq_of_beq g
      subst g
      have e : wless ah al ah bl = decide (al < bl) := by unfold wless; congr 1; simp
      rw [e]
      refine ⟨?_, rfl⟩
      simp [pack]
    · conv => whnf
      have g := ne_of_beq_false g
      have e : wless ah al bh bl = false := decide_eq_false (by omega)
      rw [e]
      refine ⟨?_, rfl⟩
      simp [pack, h]

/-- Two wide numbers together. -/
def wsum (ah al bh bl : Int) : Int := ah * 18446744073709551616 + al + (bh * 18446744073709551616 + bl)
def wover (v : Int) : Int := if v < 340282366920938463463374607431768211456 then 0 else 10
def whigh (v : Int) : Int := if v < 340282366920938463463374607431768211456 then v / 18446744073709551616 else 0
def wlow (v : Int) : Int := if v < 340282366920938463463374607431768211456 then v % 18446744073709551616 else 0

theorem wadd_c {ah al bh bl : Int} (h1 : U ah) (h2 : U al) (h3 : U bh) (h4 : U bl) :
    CallR cx 16 [.d (wd ah al), .d (wd bh bl)] [] fun r S =>
      r = .tup [.d (wd (whigh (wsum ah al bh bl)) (wlow (wsum ah al bh bl))), i64 (wover (wsum ah al bh bl))] ∧ S = [] := by
  have a1 : 0 ≤ (al + bl + 0) / 18446744073709551616 ∧ (al + bl + 0) / 18446744073709551616 ≤ 1 := by
    have := h2.1; have := h2.2; have := h4.1; have := h4.2; omega
  refine callR_of (R := R1) cx_ok Try.func16 (by kernel_rfl) rfl ?_
  conv => whnf
  refine ⟨_, add64 h2 h4 (by decide), ?_⟩
  rintro _ _ ⟨rfl, rfl⟩
  conv => whnf
  refine ⟨_, add64 h1 h3 a1, ?_⟩
  rintro _ _ ⟨rfl, rfl⟩
  obtain ⟨h1, h1'⟩ := h1
  obtain ⟨h2, h2'⟩ := h2
  obtain ⟨h3, h3'⟩ := h3
  obtain ⟨h4, h4'⟩ := h4
  conv => whnf
  refine brec (fun h => ?_) (fun h => ?_)
  · conv => whnf
    have h : ¬ (ah + bh + (al + bl + 0) / 18446744073709551616) / 18446744073709551616 = 0 := by simpa using h
    have e : ¬ wsum ah al bh bl < 340282366920938463463374607431768211456 := by unfold wsum; omega
    unfold whigh wlow wover
    rw [if_neg e, if_neg e, if_neg e]
    exact ⟨rfl, rfl⟩
  · conv => whnf
    have h : (ah + bh + (al + bl + 0) / 18446744073709551616) / 18446744073709551616 = 0 := by simpa using h
    have e : wsum ah al bh bl < 340282366920938463463374607431768211456 := by unfold wsum; omega
    unfold whigh wlow wover
    rw [if_pos e, if_pos e, if_pos e]
    unfold wsum
    refine ⟨?_, rfl⟩
    have e1 : (ah + bh + (al + bl + 0) / 18446744073709551616) % 18446744073709551616 = (ah * 18446744073709551616 + al + (bh * 18446744073709551616 + bl)) / 18446744073709551616 := by omega
    have e2 : (al + bl + 0) % 18446744073709551616 = (ah * 18446744073709551616 + al + (bh * 18446744073709551616 + bl)) % 18446744073709551616 := by omega
    rw [← e1, ← e2]
    rfl

theorem U_high (v : Int) (h : 0 ≤ v) : U (whigh v) := by unfold U whigh; split <;> omega
theorem U_low (v : Int) (h : 0 ≤ v) : U (wlow v) := by unfold U wlow; split <;> omega

def wdiff (ah al bh bl : Int) : Int := ah * 18446744073709551616 + al - (bh * 18446744073709551616 + bl)

theorem wsub_c {ah al bh bl : Int} (h1 : U ah) (h2 : U al) (h3 : U bh) (h4 : U bl) :
    CallR cx 19 [.d (wd ah al), .d (wd bh bl)] [] fun r S =>
      r = .tup [.d (wd (if wdiff ah al bh bl < 0 then 0 else wdiff ah al bh bl / 18446744073709551616) (if wdiff ah al bh bl < 0 then 0 else wdiff ah al bh bl % 18446744073709551616)), i64 (if wdiff ah al bh bl < 0 then 11 else 0)] ∧ S = [] := by
  refine callR_of (R := R1) cx_ok Try.func19 (by kernel_rfl) rfl ?_
  conv => whnf
  refine ⟨_, less_c h1 h2 h3 h4, ?_⟩
  rintro _ _ ⟨rfl, rfl⟩
  conv => whnf
  refine brec (fun h => ?_) (fun h => ?_)
  · conv => whnf
    have h := of_decide_eq_true h
    have e : wdiff ah al bh bl < 0 := by unfold wdiff; omega
    rw [if_pos e, if_pos e, if_pos e]
    exact ⟨rfl, rfl⟩
  · conv => whnf
    have h := of_decide_eq_false h
    have e : ¬ wdiff ah al bh bl < 0 := by unfold wdiff; omega
    rw [if_neg e, if_neg e, if_neg e]
    refine ⟨_, sub64 h2 h4 (by decide), ?_⟩
    rintro _ _ ⟨rfl, rfl⟩
    conv => whnf
    have a1 : (0 : Int) ≤ (if al < bl + 0 then 1 else 0) ∧ (if al < bl + 0 then 1 else 0 : Int) ≤ 1 := by split <;> omega
    refine ⟨_, sub64 h1 h3 a1, ?_⟩
    rintro _ _ ⟨rfl, rfl⟩
    obtain ⟨h1, h1'⟩ := h1
    obtain ⟨h2, h2'⟩ := h2
    obtain ⟨h3, h3'⟩ := h3
    obtain ⟨h4, h4'⟩ := h4
    conv => whnf
    refine ⟨?_, rfl⟩
    unfold wdiff at e ⊢
    have e1 : (ah - bh - (if al < bl + 0 then 1 else 0)) % 18446744073709551616 = (ah * 18446744073709551616 + al - (bh * 18446744073709551616 + bl)) / 18446744073709551616 := by split <;> omega
    have e2 : (al - bl - 0) % 18446744073709551616 = (ah * 18446744073709551616 + al - (bh * 18446744073709551616 + bl)) % 18446744073709551616 := by omega
    rw [← e1, ← e2]
    rfl
end Go.Proofs.Ytmmgdbcppmabaaa
