/- Names: right names, the program's and the document's. -/
import Derived.Test.YtefcpmnhhmpmnaaDoorU8
namespace Go.Proofs.YtefcpmnhhmpmnaaDoor
open Go.Ab Go.RowKit

theorem okR_key (f : Bool) (s : ByteArray) (i : Nat) : okR f ((key s i).1 : Int) = okR f ((Utf8.decode s i).1 : Int) := by
  cases h : stray s i with
  | false => rw [key_plain h]
  | true =>
    obtain ⟨h1, h2⟩ := key_stray h
    rw [h1, h2]
    have e1 : okR f (((s.get! i).toNat + 2000000 : Nat) : Int) = false := by
      unfold okR
      rw [decide_eq_false (by unfold smallI; omega), decide_eq_false (p := (((s.get! i).toNat + 2000000 : Nat) : Int) ≤ 57) (by omega)]
      simp
    have e2 : okR f ((65533 : Nat) : Int) = false := by
      unfold okR
      rw [decide_eq_false (by unfold smallI; omega), decide_eq_false (p := ((65533 : Nat) : Int) ≤ 57) (by omega)]
      simp
    exact e1.trans e2.symm

theorem goR_cons (k : Nat) (l : List Nat) (n : Nat) : goR (k :: l) n = (okR (n == 0) (k : Int) && goR l (n + 1)) := rfl

theorem ok_small {f : Bool} {k : Int} (h : smallI k) : okR f k = true := by unfold okR; rw [decide_eq_true h]; rfl
theorem ok_first {k : Int} (h : ¬ smallI k) : okR true k = false := by unfold okR; rw [decide_eq_false h]; rfl
theorem ok_low {f : Bool} {k : Int} (h : ¬ smallI k) (g : k < 48) : okR f k = false := by
  unfold okR; rw [decide_eq_false h, decide_eq_false (p := 48 ≤ k) (by omega)]; simp
theorem ok_high {f : Bool} {k : Int} (h : ¬ smallI k) (g : 57 < k) : okR f k = false := by
  unfold okR; rw [decide_eq_false h, decide_eq_false (p := k ≤ 57) (by omega)]; simp
theorem ok_digit {n : Nat} {k : Int} (hn : n ≠ 0) (g : 48 ≤ k) (g' : k ≤ 57) : okR (n == 0) k = true := by
  unfold okR; rw [decide_eq_true g, decide_eq_true g', beq_eq_false_iff_ne.2 hn]; simp

theorem right_c {s : ByteArray} (hm : s.size < 1000000000) : CallR cx 12 [st s] [] fun r S => r = bo (rightT s) ∧ S = [] := by
  refine callR_of (R := R1) cx_ok Tryd.func12 (by kernel_rfl) rfl ?_
  conv => whnf
  refine .inl ⟨fun m l S => ∃ (i n : Nat), goR (keysAt s i) n = rightT s ∧ n ≤ i ∧ i ≤ s.size + 3 ∧ m = s.size + 4 - i ∧
      l = [(0, st s), (3, i64 (n : Int)), (7, .ptr 0 [])] ∧ S = [.iter s i],
    ⟨_, _, ⟨0, 0, rfl, Nat.le_refl _, by omega, rfl, rfl, rfl⟩, ⟨rfl, rfl, rfl, trivial⟩⟩, ?_⟩
  rintro _ _ _ ⟨i, n, h1, h2, h3, rfl, rfl, rfl⟩
  conv => whnf
  refine brec (fun h4 => ?_) (fun h4 => ?_)
  · have hi := of_decide_eq_true h4
    have hd := decode_range s i
    rw [keysAt_lt hi, goR_cons, okR_key, key_two] at h1
    generalize hk : Utf8.decode s i = d at *
    obtain ⟨r, w⟩ := d
    simp only at hd h1
    generalize hr : (r : Int) = R at *
    have e1 : IntKind.i64.wrap ((n : Int) + 1) = ((n + 1 : Nat) : Int) := by rw [w64 (by omega)]; omega
    have sm := small_c (k := R)
    conv => whnf
    by_cases hs : smallI R
    · rw [decide_eq_true hs] at sm
      rw [ok_small hs, Bool.true_and] at h1
      refine ⟨_, sm, ?_⟩
      rintro _ _ ⟨rfl, rfl⟩
      conv => whnf
      exact ⟨_, _, 1, (by omega : s.size + 4 - (i + w) < s.size + 4 - i), ⟨i + w, n + 1, h1, by omega, by omega, rfl, rfl, rfl⟩,
        ⟨rfl, congrArg (fun z => some (i64 z)) e1, rfl, trivial⟩, rfl⟩
    · rw [decide_eq_false hs] at sm
      refine ⟨_, sm, ?_⟩
      rintro _ _ ⟨rfl, rfl⟩
      conv => whnf
      by_cases hn : n = 0
      · refine brT (beq_iff_eq.2 (by rw [e1]; omega)) ?_
        conv => whnf
        subst hn
        rw [show ((0 : Nat) == 0) = true from rfl, ok_first hs, Bool.false_and] at h1
        rw [← h1]
        exact ⟨rfl, rfl⟩
      · refine brF (beq_eq_false_iff_ne.2 (by rw [e1]; omega)) ?_
        conv => whnf
        by_cases hl : R < 48
        · refine brT (decide_eq_true (by omega)) ?_
          conv => whnf
          rw [ok_low hs hl, Bool.false_and] at h1
          rw [← h1]
          exact ⟨rfl, rfl⟩
        · refine brF (decide_eq_false (by omega)) ?_
          conv => whnf
          by_cases hh : 57 < R
          · refine brT (decide_eq_true (by omega)) ?_
            conv => whnf
            rw [ok_high hs hh, Bool.false_and] at h1
            rw [← h1]
            exact ⟨rfl, rfl⟩
          · refine brF (decide_eq_false (by omega)) ?_
            conv => whnf
            rw [ok_digit hn (by omega) (by omega), Bool.true_and] at h1
            exact ⟨_, _, 1, (by omega : s.size + 4 - (i + w) < s.size + 4 - i), ⟨i + w, n + 1, h1, by omega, by omega, rfl, rfl, rfl⟩,
              ⟨rfl, congrArg (fun z => some (i64 z)) e1, rfl, trivial⟩, rfl⟩
  · have h4 := of_decide_eq_false h4
    rw [keysAt_ge (by omega)] at h1
    conv => whnf
    have e0 : rightT s = (decide (0 < (n : Int)) && decide ((n : Int) ≤ 12)) := by
      rw [← h1]
      show (decide (1 ≤ n) && decide (n ≤ 12)) = _
      have a1 : (0 < (n : Int)) = (1 ≤ n) := propext ⟨fun h => by omega, fun h => by omega⟩
      have a2 : ((n : Int) ≤ 12) = (n ≤ 12) := propext ⟨fun h => by omega, fun h => by omega⟩
      simp only [a1, a2]
    rw [e0]
    refine brec (fun h5 => ?_) (fun h5 => ?_)
    · conv => whnf
      rw [show decide (0 < (n : Int)) = true from h5]
      exact ⟨rfl, rfl⟩
    · conv => whnf
      rw [show decide (0 < (n : Int)) = false from h5]
      exact ⟨rfl, rfl⟩
end Go.Proofs.YtefcpmnhhmpmnaaDoor
