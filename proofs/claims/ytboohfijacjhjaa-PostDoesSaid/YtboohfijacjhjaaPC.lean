/- Posts: what they become (plain), and the contracts. -/
import Derived.Test.YtboohfijacjhjaaPB
set_option linter.unusedVariables false
namespace Go.Proofs.Ytboohfijacjhjaa
open Go.Ab Go.RowKit

abbrev pod (l : List It) : D := po (its l)
def inB (l : List It) (i : Int) : Prop := 0 ≤ i ∧ i < (l.length : Int)
instance (l : List It) (i : Int) : Decidable (inB l i) := inferInstanceAs (Decidable (_ ∧ _))
def it0 : It := ⟨0, .empty⟩
def sendP (l : List It) (h : Nat) (c : Cl) : List It × Int := if c.cE = 0 then (if 256 ≤ l.length then (l, 6) else (l ++ [⟨h, c.cS⟩], 0)) else (l, c.cE)
def takeP (l : List It) (i : Int) : List It × It × Bool := if inB l i then (l.take i.toNat ++ l.drop (i.toNat + 1), l.getD i.toNat it0, true) else (l, it0, false)
def twiceP (l : List It) (i : Int) : List It × Int := if inB l i then (if 256 ≤ l.length then (l, 6) else (l.take (i.toNat + 1) ++ l.getD i.toNat it0 :: l.drop (i.toNat + 1), 0)) else (l, 2)

theorem its_len (l : List It) : (its l).length = l.length := List.length_map _
theorem its_getD {l : List It} {i : Nat} (h : i < l.length) : (its l).getD i .nilP = (l.getD i it0).d := by
  unfold its
  rw [List.getD_eq_getElem?_getD, List.getElem?_map, List.getElem?_eq_getElem h, List.getD_eq_getElem?_getD, List.getElem?_eq_getElem h]
  rfl

theorem send_c {l : List It} {h : Nat} {c : Cl} (hl : l.length ≤ 100000) (hc : c.fit) : CallR cx 11 [.d (pod l), u32' (h : Int), .d c.d] [] fun r S => r = .tup [.d (pod (sendP l h c).1), i64 (sendP l h c).2] ∧ S = [] := by
  have cb := cbytes_c hc
  have cl := cloneP_c (l := l) hl
  unfold sendP
  by_cases he : c.cE = 0
  · rw [if_pos he]
    rw [he] at cb
    by_cases hf : 256 ≤ l.length
    · rw [if_pos hf]
      exact snd_full (by rw [its_len]; exact hf) cb
    · rw [if_neg hf]
      have e : its (l ++ [⟨h, c.cS⟩]) = its l ++ [.agg [.int .u32 (h : Int), .str c.cS]] := by unfold its; rw [List.map_append]; rfl
      simp only
      unfold pod
      rw [e]
      exact snd_ok (by rw [its_len]; exact hf) cl cb
  · rw [if_neg he]
    exact snd_no he cb

theorem take_c {l : List It} {i : Int} (hl : l.length ≤ 100000) : CallR cx 14 [.d (pod l), i64 i] [] fun r S => r = .tup [.d (pod (takeP l i).1), .d (takeP l i).2.1.d, bo (takeP l i).2.2] ∧ S = [] := by
  have cl := cloneP_c (l := l) hl
  unfold takeP
  by_cases h : inB l i
  · rw [if_pos h]
    obtain ⟨h0, h1⟩ := h
    have dl := deleteP_c (l := l) (i := i.toNat) (by omega)
    have e1 : ((i.toNat : Nat) : Int) = i := by omega
    have e2 : ((i.toNat + 1 : Nat) : Int) = IntKind.i64.wrap (i + 1) := by rw [w64 (by omega)]; omega
    rw [e1, e2] at dl
    exact tak_ok (by rw [its_len]; exact ⟨h0, h1⟩) (by rw [its_len]; exact hl) cl (its_getD (by omega)) dl
  · rw [if_neg h]
    exact tak_no (by rw [its_len]; exact h)

theorem lose_c {l : List It} {i : Int} (hl : l.length ≤ 100000) : CallR cx 16 [.d (pod l), i64 i] [] fun r S => r = .tup [.d (pod (takeP l i).1), bo (takeP l i).2.2] ∧ S = [] :=
  los_c (take_c hl)

theorem twice_c {l : List It} {i : Int} (hl : l.length ≤ 100000) : CallR cx 17 [.d (pod l), i64 i] [] fun r S => r = .tup [.d (pod (twiceP l i).1), i64 (twiceP l i).2] ∧ S = [] := by
  have cl := cloneP_c (l := l) hl
  unfold twiceP
  by_cases h : inB l i
  · rw [if_pos h]
    obtain ⟨h0, h1⟩ := h
    by_cases hf : 256 ≤ l.length
    · rw [if_pos hf]
      exact twi_full (by rw [its_len]; exact ⟨h0, h1⟩) (by rw [its_len]; exact hf)
    · rw [if_neg hf]
      have dl := insertP_c (l := l) (b := l.getD i.toNat it0) (i := i.toNat + 1) (by omega) hl
      have e2 : ((i.toNat + 1 : Nat) : Int) = IntKind.i64.wrap (i + 1) := by rw [w64 (by omega)]; omega
      rw [e2] at dl
      exact twi_ok (by rw [its_len]; exact ⟨h0, h1⟩) (by rw [its_len]; exact hf) cl (its_getD (by omega)) dl
  · rw [if_neg h]
    exact twi_no (by rw [its_len]; exact h)
end Go.Proofs.Ytboohfijacjhjaa
