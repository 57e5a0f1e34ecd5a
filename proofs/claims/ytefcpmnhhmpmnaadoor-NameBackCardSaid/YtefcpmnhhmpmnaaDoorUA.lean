/- Names: the document's right names; texts that may be said, the program's and the document's. -/
import Derived.Test.YtefcpmnhhmpmnaaDoorU9
namespace Go.Proofs.YtefcpmnhhmpmnaaDoor
open Go.Ab Go.RowKit

theorem ints_getD {l : List Nat} {j : Nat} (h : j < l.length) : (ints l).getD (j : Int).toNat .nilP = .int .i64 ((l[j]'h : Nat) : Int) := by
  rw [Int.toNat_natCast, List.getD_eq_getElem?_getD, List.getElem?_map, List.getElem?_eq_getElem h]
  rfl

theorem rright_c {s : ByteArray} (hm : s.size < 1000000000) : CallR cx 13 [st s] [] fun r S => r = bo (rightT s) ∧ S = [] := by
  have nu := numbers_c hm
  have hL := keysAt_length s 0
  unfold rightT
  generalize keysAt s 0 = L at *
  have hlen : (ints L).length = L.length := List.length_map _
  refine callR_of (R := R1) cx_ok Tryd.func13 (by kernel_rfl) rfl ?_
  conv => whnf
  refine ⟨_, nu, ?_⟩
  rintro _ _ ⟨rfl, rfl⟩
  conv => whnf
  refine .inl ⟨fun m l S => ∃ j : Nat, j ≤ L.length ∧ goR (L.drop j) j = goR L 0 ∧ m = L.length - j ∧
      l = [(3, .d (.sl 1 (ints L))), (8, .d (.sl 1 (ints L))), (9, i64 (((ints L).length : Nat) : Int)), (10, i64 (j : Int))] ∧ S = [],
    ⟨_, _, ⟨0, Nat.zero_le _, rfl, rfl, rfl, rfl⟩, ⟨rfl, rfl, rfl, rfl, trivial⟩⟩, ?_⟩
  rintro _ _ _ ⟨j, hj, h1, rfl, rfl, rfl⟩
  conv => whnf
  refine brec (fun h4 => ?_) (fun h4 => ?_)
  · have h4 := of_decide_eq_true h4
    rw [hlen] at h4
    have hlt : j < L.length := by omega
    conv => whnf
    refine ⟨⟨by omega, by rw [hlen]; omega⟩, ?_⟩
    rw [ints_getD hlt]
    rw [List.drop_eq_getElem_cons hlt, goR_cons] at h1
    generalize L[j]'hlt = K at *
    have sm := rsmall_c (k := (K : Int))
    generalize hK : (K : Int) = R at *
    have e1 : IntKind.i64.wrap ((j : Int) + 1) = ((j + 1 : Nat) : Int) := by rw [w64 (by omega)]; omega
    conv => whnf
    by_cases hs : smallI R
    · rw [decide_eq_true hs] at sm
      rw [ok_small hs, Bool.true_and] at h1
      refine ⟨_, sm, ?_⟩
      rintro _ _ ⟨rfl, rfl⟩
      conv => whnf
      exact ⟨_, _, 0, (by omega : L.length - (j + 1) < L.length - j), ⟨j + 1, by omega, h1, rfl, rfl, rfl⟩,
        ⟨rfl, rfl, rfl, congrArg (fun z => some (i64 z)) e1, trivial⟩, rfl⟩
    · rw [decide_eq_false hs] at sm
      refine ⟨_, sm, ?_⟩
      rintro _ _ ⟨rfl, rfl⟩
      conv => whnf
      by_cases hn : j = 0
      · refine brT (beq_iff_eq.2 (by omega)) ?_
        conv => whnf
        subst hn
        rw [show ((0 : Nat) == 0) = true from rfl, ok_first hs, Bool.false_and] at h1
        rw [← h1]
        exact ⟨rfl, rfl⟩
      · refine brF (beq_eq_false_iff_ne.2 (by omega)) ?_
        conv => whnf
        by_cases hl : R < 48
        · refine brT (decide_eq_true (by omega)) ?_
          conv => whnf
          rw [ok_low hs hl, Bool.false_and] at h1
          rw [← h1]
          exact ⟨rfl, rfl⟩
        · refine brF (decide_eq_false (by omega)) ?_
          conv => whnf
          by_cases hh : 57 < R
          · refine brT (decide_eq_true (by omega)) ?_
            conv => whnf
            rw [ok_high hs hh, Bool.false_and] at h1
            rw [← h1]
            exact ⟨rfl, rfl⟩
          · refine brF (decide_eq_false (by omega)) ?_
            conv => whnf
            rw [ok_digit hn (by omega) (by omega), Bool.true_and] at h1
            exact ⟨_, _, 0, (by omega : L.length - (j + 1) < L.length - j), ⟨j + 1, by omega, h1, rfl, rfl, rfl⟩,
              ⟨rfl, rfl, rfl, congrArg (fun z => some (i64 z)) e1, trivial⟩, rfl⟩
  · have h4 := of_decide_eq_false h4
    rw [hlen] at h4
    obtain rfl : j = L.length := by omega
    rw [List.drop_length] at h1
    conv => whnf
    have e0 : goR L 0 = (decide ((((ints L).length : Nat) : Int) ≥ 1) && decide ((((ints L).length : Nat) : Int) ≤ 12)) := by
      rw [← h1, hlen]
      show (decide (1 ≤ L.length) && decide (L.length ≤ 12)) = _
      have a1 : (((L.length : Nat) : Int) ≥ 1) = (1 ≤ L.length) := propext ⟨fun h => by omega, fun h => by omega⟩
      have a2 : (((L.length : Nat) : Int) ≤ 12) = (L.length ≤ 12) := propext ⟨fun h => by omega, fun h => by omega⟩
      simp only [a1, a2]
    rw [e0]
    refine brec (fun h5 => ?_) (fun h5 => ?_)
    · conv => whnf
      rw [show decide ((((ints L).length : Nat) : Int) ≥ 1) = true from h5]
      exact ⟨rfl, rfl⟩
    · conv => whnf
      rw [show decide ((((ints L).length : Nat) : Int) ≥ 1) = false from h5]
      exact ⟨rfl, rfl⟩
end Go.Proofs.YtefcpmnhhmpmnaaDoor
