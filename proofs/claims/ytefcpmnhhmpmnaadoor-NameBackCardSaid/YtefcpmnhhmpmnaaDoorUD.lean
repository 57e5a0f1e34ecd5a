/- Names: may a text be said. -/
import Derived.Test.YtefcpmnhhmpmnaaDoorUA
namespace Go.Proofs.YtefcpmnhhmpmnaaDoor
open Go.Ab Go.RowKit

theorem goS_cons (k : Nat) (l : List Nat) (n : Nat) : goS (k :: l) n = (!(decide (k < 32) || decide (k = 127) || decide (2000000 ≤ k)) && goS l (n + 1)) := rfl

theorem says_c {s : ByteArray} (hm : s.size < 1000000000) : CallR cx 14 [st s] [] fun r S => r = bo (saysT s) ∧ S = [] := by
  refine callR_of (R := R1) cx_ok Tryd.func14 (by kernel_rfl) rfl ?_
  conv => whnf
  refine .inl ⟨fun m l S => ∃ (i n : Nat), goS (keysAt s i) n = saysT s ∧ n ≤ i ∧ i ≤ s.size + 3 ∧ m = s.size + 4 - i ∧
      l = [(0, st s), (3, i64 (n : Int)), (7, .ptr 0 [])] ∧ S = [.iter s i],
    ⟨_, _, ⟨0, 0, rfl, Nat.le_refl _, by omega, rfl, rfl, rfl⟩, ⟨rfl, rfl, rfl, trivial⟩⟩, ?_⟩
  rintro _ _ _ ⟨i, n, h1, h2, h3, rfl, rfl, rfl⟩
  conv => whnf
  refine brec (fun h4 => ?_) (fun h4 => ?_)
  · have hi := of_decide_eq_true h4
    have hd := decode_range s i
    have br := broken_c (s := s) hi
    rw [keysAt_lt hi, goS_cons, key_two] at h1
    have e1 : IntKind.i64.wrap ((n : Int) + 1) = ((n + 1 : Nat) : Int) := by rw [w64 (by omega)]; omega
    have hkey : (decide ((key s i).1 < 32) || decide ((key s i).1 = 127) || decide (2000000 ≤ (key s i).1)) = (decide ((Utf8.decode s i).1 < 32) || decide ((Utf8.decode s i).1 = 127) || stray s i) := by
      cases h : stray s i with
      | false =>
        rw [key_plain h, decide_eq_false (p := 2000000 ≤ (Utf8.decode s i).1) (by omega)]
      | true =>
        rw [(key_stray h).1]
        simp
    rw [hkey] at h1
    generalize stray s i = q at *
    generalize hk : Utf8.decode s i = d at *
    obtain ⟨r, w⟩ := d
    simp only at hd h1 br
    generalize hr : (r : Int) = R at *
    conv => whnf
    by_cases hs : R < 32
    · refine brT (decide_eq_true (by omega)) ?_
      conv => whnf
      rw [decide_eq_true (show r < 32 by omega)] at h1
      simp only [Bool.true_or, Bool.not_true, Bool.false_and] at h1
      rw [← h1]
      exact ⟨rfl, rfl⟩
    · refine brF (decide_eq_false (by omega)) ?_
      conv => whnf
      rw [decide_eq_false (show ¬ r < 32 by omega)] at h1
      by_cases hl : R = 127
      · refine brT (beq_iff_eq.2 (by omega)) ?_
        conv => whnf
        rw [decide_eq_true (show r = 127 by omega)] at h1
        simp only [Bool.or_true, Bool.true_or, Bool.not_true, Bool.false_and] at h1
        rw [← h1]
        exact ⟨rfl, rfl⟩
      · refine brF (beq_eq_false_iff_ne.2 (by omega)) ?_
        conv => whnf
        rw [decide_eq_false (show ¬ r = 127 by omega)] at h1
        refine ⟨_, br, ?_⟩
        rintro _ _ ⟨rfl, rfl⟩
        conv => whnf
        refine brec (fun h5 => ?_) (fun h5 => ?_)
        · subst h5
          conv => whnf
          simp only [Bool.or_true, Bool.not_true, Bool.false_and] at h1
          rw [← h1]
          exact ⟨rfl, rfl⟩
        · subst h5
          conv => whnf
          simp only [Bool.or_false, Bool.not_false, Bool.true_and] at h1
          exact ⟨_, _, 1, (by omega : s.size + 4 - (i + w) < s.size + 4 - i), ⟨i + w, n + 1, h1, by omega, by omega, rfl, rfl, rfl⟩,
            ⟨rfl, congrArg (fun z => some (i64 z)) e1, rfl, trivial⟩, rfl⟩
  · have h4 := of_decide_eq_false h4
    rw [keysAt_ge (by omega)] at h1
    conv => whnf
    have e0 : saysT s = decide ((n : Int) ≤ 64) := by
      rw [← h1]
      show decide (n ≤ 64) = _
      have a2 : ((n : Int) ≤ 64) = (n ≤ 64) := propext ⟨fun h => by omega, fun h => by omega⟩
      simp only [a2]
    rw [e0]
    exact ⟨rfl, rfl⟩

theorem rsays_c {s : ByteArray} (hm : s.size < 1000000000) : CallR cx 15 [st s] [] fun r S => r = bo (saysT s) ∧ S = [] := by
  have nu := numbers_c hm
  have hL := keysAt_length s 0
  unfold saysT
  generalize keysAt s 0 = L at *
  have hlen : (ints L).length = L.length := List.length_map _
  refine callR_of (R := R1) cx_ok Tryd.func15 (by kernel_rfl) rfl ?_
  conv => whnf
  refine ⟨_, nu, ?_⟩
  rintro _ _ ⟨rfl, rfl⟩
  conv => whnf
  refine .inl ⟨fun m l S => ∃ j : Nat, j ≤ L.length ∧ goS (L.drop j) j = goS L 0 ∧ m = L.length - j ∧
      l = [(3, .d (.sl 1 (ints L))), (8, .d (.sl 1 (ints L))), (9, i64 (((ints L).length : Nat) : Int)), (10, i64 (j : Int))] ∧ S = [],
    ⟨_, _, ⟨0, Nat.zero_le _, rfl, rfl, rfl, rfl⟩, ⟨rfl, rfl, rfl, rfl, trivial⟩⟩, ?_⟩
  rintro _ _ _ ⟨j, hj, h1, rfl, rfl, rfl⟩
  conv => whnf
  refine brec (fun h4 => ?_) (fun h4 => ?_)
  · have h4 := of_decide_eq_true h4
    rw [hlen] at h4
    have hlt : j < L.length := by omega
    conv => whnf
    refine ⟨⟨by omega, by rw [hlen]; omega⟩, ?_⟩
    rw [ints_getD hlt]
    rw [List.drop_eq_getElem_cons hlt, goS_cons] at h1
    generalize L[j]'hlt = r at *
    generalize hK : (r : Int) = R at *
    have e1 : IntKind.i64.wrap ((j : Int) + 1) = ((j + 1 : Nat) : Int) := by rw [w64 (by omega)]; omega
    conv => whnf
    by_cases hs : R < 32
    · refine brT (decide_eq_true (by omega)) ?_
      conv => whnf
      rw [decide_eq_true (show r < 32 by omega)] at h1
      simp only [Bool.true_or, Bool.not_true, Bool.false_and] at h1
      rw [← h1]
      exact ⟨rfl, rfl⟩
    · refine brF (decide_eq_false (by omega)) ?_
      conv => whnf
      rw [decide_eq_false (show ¬ r < 32 by omega)] at h1
      by_cases hl : R = 127
      · refine brT (beq_iff_eq.2 (by omega)) ?_
        conv => whnf
        rw [decide_eq_true (show r = 127 by omega)] at h1
        simp only [Bool.or_true, Bool.true_or, Bool.not_true, Bool.false_and] at h1
        rw [← h1]
        exact ⟨rfl, rfl⟩
      · refine brF (beq_eq_false_iff_ne.2 (by omega)) ?_
        conv => whnf
        rw [decide_eq_false (show ¬ r = 127 by omega)] at h1
        by_cases hb : 2000000 ≤ R
        · refine brT (decide_eq_true (by omega)) ?_
          conv => whnf
          rw [decide_eq_true (show 2000000 ≤ r by omega)] at h1
          simp only [Bool.or_true, Bool.not_true, Bool.false_and] at h1
          rw [← h1]
          exact ⟨rfl, rfl⟩
        · refine brF (decide_eq_false (by omega)) ?_
          conv => whnf
          rw [decide_eq_false (show ¬ 2000000 ≤ r by omega)] at h1
          simp only [Bool.or_false, Bool.not_false, Bool.true_and] at h1
          exact ⟨_, _, 0, (by omega : L.length - (j + 1) < L.length - j), ⟨j + 1, by omega, h1, rfl, rfl, rfl⟩,
            ⟨rfl, rfl, rfl, congrArg (fun z => some (i64 z)) e1, trivial⟩, rfl⟩
  · have h4 := of_decide_eq_false h4
    rw [hlen] at h4
    obtain rfl : j = L.length := by omega
    rw [List.drop_length] at h1
    conv => whnf
    have e0 : goS L 0 = decide ((((ints L).length : Nat) : Int) ≤ 64) := by
      rw [← h1, hlen]
      show decide (L.length ≤ 64) = _
      have a2 : (((L.length : Nat) : Int) ≤ 64) = (L.length ≤ 64) := propext ⟨fun h => by omega, fun h => by omega⟩
      simp only [a2]
    rw [e0]
    exact ⟨rfl, rfl⟩
end Go.Proofs.YtefcpmnhhmpmnaaDoor
