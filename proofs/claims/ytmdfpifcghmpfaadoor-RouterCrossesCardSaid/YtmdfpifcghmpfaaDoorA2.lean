/- Wide numbers: sums. -/
import Derived.Test.YtmdfpifcghmpfaaDoorA1
namespace Go.Proofs.YtmdfpifcghmpfaaDoor
open Go.Ab

/-- A wide number: its high and its low half. -/
abbrev wd (h l : Int) : D := .agg [.int .u64 h, .int .u64 l]

/-- Two wide numbers together. -/
def wsum (ah al bh bl : Int) : Int := ah * 18446744073709551616 + al + (bh * 18446744073709551616 + bl)
def wover (v : Int) : Int := if v < 340282366920938463463374607431768211456 then 0 else 10
def whigh (v : Int) : Int := if v < 340282366920938463463374607431768211456 then v / 18446744073709551616 else 0
def wlow (v : Int) : Int := if v < 340282366920938463463374607431768211456 then v % 18446744073709551616 else 0

theorem wadd_c {ah al bh bl : Int} (h1 : U ah) (h2 : U al) (h3 : U bh) (h4 : U bl) :
    CallR cx 19 [.d (wd ah al), .d (wd bh bl)] [] fun r S =>
      r = .tup [.d (wd (whigh (wsum ah al bh bl)) (wlow (wsum ah al bh bl))), i64 (wover (wsum ah al bh bl))] ∧ S = [] := by
  have a1 : 0 ≤ (al + bl + 0) / 18446744073709551616 ∧ (al + bl + 0) / 18446744073709551616 ≤ 1 := by
    have := h2.1; have := h2.2; have := h4.1; have := h4.2; omega
  refine callR_of (R := R1) cx_ok Tryd.func19 (by kernel_rfl) rfl ?_
  conv => whnf
  refine ⟨_, add64 h2 h4 (by decide), ?_⟩
  rintro _ _ ⟨rfl, rfl⟩
  conv => whnf
  refine ⟨_, add64 h1 h3 a1, ?_⟩
  rintro _ _ ⟨rfl, rfl⟩
  obtain ⟨h1, h1'⟩ := h1
  obtain ⟨h2, h2'⟩ := h2
  obtain ⟨h3, h3'⟩ := h3
  obtain ⟨h4, h4'⟩ := h4
  conv => whnf
  refine brec (fun h => ?_) (fun h => ?_)
  · conv => whnf
    have h : ¬ (ah + bh + (al + bl + 0) / 18446744073709551616) / 18446744073709551616 = 0 := by simpa using h
    have e : ¬ wsum ah al bh bl < 340282366920938463463374607431768211456 := by unfold wsum; omega
    unfold whigh wlow wover
    rw [if_neg e, if_neg e, if_neg e]
    exact ⟨rfl, rfl⟩
  · conv => whnf
    have h : (ah + bh + (al + bl + 0) / 18446744073709551616) / 18446744073709551616 = 0 := by simpa using h
    have e : wsum ah al bh bl < 340282366920938463463374607431768211456 := by unfold wsum; omega
    unfold whigh wlow wover
    rw [if_pos e, if_pos e, if_pos e]
    unfold wsum
    refine ⟨?_, rfl⟩
    have e1 : (ah + bh + (al + bl + 0) / 18446744073709551616) % 18446744073709551616 = (ah * 18446744073709551616 + al + (bh * 18446744073709551616 + bl)) / 18446744073709551616 := by omega
    have e2 : (al + bl + 0) % 18446744073709551616 = (ah * 18446744073709551616 + al + (bh * 18446744073709551616 + bl)) % 18446744073709551616 := by omega
    rw [← e1, ← e2]
    rfl

theorem U_high (v : Int) (h : 0 ≤ v) : U (whigh v) := by unfold U whigh; split <;> omega
theorem U_low (v : Int) (h : 0 ≤ v) : U (wlow v) := by unfold U wlow; split <;> omega

def wdiff (ah al bh bl : Int) : Int := ah * 18446744073709551616 + al - (bh * 18446744073709551616 + bl)
end Go.Proofs.YtmdfpifcghmpfaaDoor
