/- The document's rune at a place: 'within'. -/
import Derived.Test.YtefcpmnhhmpmnaaDoorU2
namespace Go.Proofs.YtefcpmnhhmpmnaaDoor
open Go.Ab Go.RowKit

def win (s : ByteArray) (k : Nat) (lo hi : Int) : Bool := decide (k < s.size) && (decide (lo ≤ byteAt s k) && decide (byteAt s k ≤ hi))

theorem within_c {s : ByteArray} {x lo hi : Int} {k : Nat} (hx : x = (k : Int)) : CallR cx 44 [st s, i64 x, u8 lo, u8 hi] [] fun r S => r = bo (win s k lo hi) ∧ S = [] := by
  unfold win
  have e0 : x.toNat = k := by omega
  have e1 : decide (x < (s.size : Int)) = decide (k < s.size) := by
    have : (x < (s.size : Int)) = (k < s.size) := propext ⟨fun h => by omega, fun h => by omega⟩
    simp only [this]
  refine callR_of (R := R1) cx_ok Tryd.func44 (by kernel_rfl) rfl ?_
  conv => whnf
  refine brec (fun h1 => ?_) (fun h1 => ?_)
  · rw [e1] at h1
    rw [h1]
    conv => whnf
    have h2 := of_decide_eq_true h1
    refine ⟨⟨by omega, by show x < (s.size : Int); omega⟩, ?_⟩
    rw [e0]
    conv => whnf
    refine brec (fun h3 => ?_) (fun h3 => ?_)
    · have h3' := of_decide_eq_true h3
      rw [decide_eq_true (show lo ≤ byteAt s k from h3')]
      conv => whnf
      refine ⟨⟨by omega, by show x < (s.size : Int); omega⟩, ?_⟩
      rw [e0]
      conv => whnf
      exact ⟨rfl, rfl⟩
    · have h3' := of_decide_eq_false h3
      rw [decide_eq_false (show ¬ lo ≤ byteAt s k from h3')]
      conv => whnf
      exact ⟨rfl, rfl⟩
  · rw [e1] at h1
    rw [h1]
    conv => whnf
    exact ⟨rfl, rfl⟩
end Go.Proofs.YtefcpmnhhmpmnaaDoor
