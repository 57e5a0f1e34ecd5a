/- Calls: weights and words; the law CallBytes. -/
import Derived.Test.YtboohfijacjhjaaDoorKI
import Derived.Test.YtboohfijacjhjaaDoorKL
import Derived.Test.YtboohfijacjhjaaDoorK9w
set_option linter.unusedVariables false
namespace Go.Proofs.YtboohfijacjhjaaDoor
open Go.Ab Go.RowKit

theorem cweight_c {c : Cl} : CallR cx 37 [.d c.d] [] fun r S => r = u64 (wgL.getD c.tag 0) ∧ S = [] := by
  have tg := ctag_c (c := c)
  have h12 : c.tag ≤ 12 := by cases c <;> (unfold Cl.tag; simp only; decide)
  have hx : ∀ t : Nat, t ≤ 12 → CallR cx 36 [.d c.d] [] (fun r S => r = i64 (t : Int) ∧ S = []) → CallR cx 37 [.d c.d] [] fun r S => r = u64 (wgL.getD t 0) ∧ S = [] := by
    intro t ht tg
    generalize c.d = X at *
    have : t = 0 ∨ t = 1 ∨ t = 2 ∨ t = 3 ∨ t = 4 ∨ t = 5 ∨ t = 6 ∨ t = 7 ∨ t = 8 ∨ t = 9 ∨ t = 10 ∨ t = 11 ∨ t = 12 := by omega
    rcases this with rfl | rfl | rfl | rfl | rfl | rfl | rfl | rfl | rfl | rfl | rfl | rfl | rfl
    all_goals
      refine callR_of (R := R1) cx_ok Tryd.func37 (by kernel_rfl) rfl ?_
      conv => whnf
      refine ⟨_, tg, ?_⟩
      rintro _ _ ⟨rfl, rfl⟩
      conv => whnf
      refine ⟨⟨by decide, by decide⟩, ?_⟩
      conv => whnf
      exact ⟨rfl, rfl⟩
  exact hx _ h12 tg

theorem rweight_c {t : Nat} (h : t ≤ 12) : CallR cx 38 [i64 (t : Int)] [] fun r S => r = u64 (wgL.getD t 0) ∧ S = [] := by
  have : t = 0 ∨ t = 1 ∨ t = 2 ∨ t = 3 ∨ t = 4 ∨ t = 5 ∨ t = 6 ∨ t = 7 ∨ t = 8 ∨ t = 9 ∨ t = 10 ∨ t = 11 ∨ t = 12 := by omega
  rcases this with rfl | rfl | rfl | rfl | rfl | rfl | rfl | rfl | rfl | rfl | rfl | rfl | rfl
  all_goals
    refine callR_of (R := R1) cx_ok Tryd.func38 (by kernel_rfl) rfl ?_
    conv => whnf
    refine ⟨⟨by decide, by decide⟩, ?_⟩
    conv => whnf
    exact ⟨rfl, rfl⟩

/-- What stands for a tag. -/
def wordP (n : Int) : ByteArray := if 1 ≤ n ∧ n ≤ 12 then wdL.getD n.toNat .empty else .empty

theorem cword_c {n : Int} (hn : -9223372036854775808 ≤ n ∧ n < 9223372036854775808) : CallR cx 39 [i64 n] [] fun r S => r = st (wordP n) ∧ S = [] := by
  unfold wordP
  by_cases h : 1 ≤ n ∧ n ≤ 12
  · rw [if_pos h]
    obtain ⟨t, rfl⟩ : ∃ t : Nat, n = (t : Int) := ⟨n.toNat, by omega⟩
    have : t = 1 ∨ t = 2 ∨ t = 3 ∨ t = 4 ∨ t = 5 ∨ t = 6 ∨ t = 7 ∨ t = 8 ∨ t = 9 ∨ t = 10 ∨ t = 11 ∨ t = 12 := by omega
    clear h hn
    rcases this with rfl | rfl | rfl | rfl | rfl | rfl | rfl | rfl | rfl | rfl | rfl | rfl
    all_goals
      refine callR_of (R := R1) cx_ok Tryd.func39 (by kernel_rfl) rfl ?_
      conv => whnf
      refine ⟨⟨by decide, by decide⟩, ?_⟩
      conv => whnf
      exact ⟨rfl, rfl⟩
  · rw [if_neg h]
    by_cases h0 : n < 0
    · refine callR_of (R := R1) cx_ok Tryd.func39 (by kernel_rfl) rfl ?_
      conv => whnf
      refine brT (decide_eq_true h0) ?_
      conv => whnf
      exact ⟨rfl, rfl⟩
    · by_cases h1 : n = 0
      · subst h1
        refine callR_of (R := R1) cx_ok Tryd.func39 (by kernel_rfl) rfl ?_
        conv => whnf
        refine ⟨⟨by decide, by decide⟩, ?_⟩
        conv => whnf
        exact ⟨rfl, rfl⟩
      · refine callR_of (R := R1) cx_ok Tryd.func39 (by kernel_rfl) rfl ?_
        conv => whnf
        refine brF (decide_eq_false h0) ?_
        conv => whnf
        refine brT (decide_eq_true (by omega)) ?_
        conv => whnf
        exact ⟨rfl, rfl⟩

theorem rword_c {n : Int} (hn : -9223372036854775808 ≤ n ∧ n < 9223372036854775808) : CallR cx 40 [i64 n] [] fun r S => r = st (wordP n) ∧ S = [] := by
  unfold wordP
  by_cases h : 1 ≤ n ∧ n ≤ 12
  · rw [if_pos h]
    obtain ⟨t, rfl⟩ : ∃ t : Nat, n = (t : Int) := ⟨n.toNat, by omega⟩
    have : t = 1 ∨ t = 2 ∨ t = 3 ∨ t = 4 ∨ t = 5 ∨ t = 6 ∨ t = 7 ∨ t = 8 ∨ t = 9 ∨ t = 10 ∨ t = 11 ∨ t = 12 := by omega
    clear h hn
    rcases this with rfl | rfl | rfl | rfl | rfl | rfl | rfl | rfl | rfl | rfl | rfl | rfl
    all_goals
      refine callR_of (R := R1) cx_ok Tryd.func40 (by kernel_rfl) rfl ?_
      conv => whnf
      refine ⟨⟨by decide, by decide⟩, ?_⟩
      conv => whnf
      exact ⟨rfl, rfl⟩
  · rw [if_neg h]
    by_cases h0 : n < 1
    · refine callR_of (R := R1) cx_ok Tryd.func40 (by kernel_rfl) rfl ?_
      conv => whnf
      refine brT (decide_eq_true h0) ?_
      conv => whnf
      exact ⟨rfl, rfl⟩
    · refine callR_of (R := R1) cx_ok Tryd.func40 (by kernel_rfl) rfl ?_
      conv => whnf
      refine brF (decide_eq_false h0) ?_
      conv => whnf
      refine brT (decide_eq_true (by omega)) ?_
      conv => whnf
      exact ⟨rfl, rfl⟩
end Go.Proofs.YtboohfijacjhjaaDoor
