/- Ledgers: small ones; the same ones. -/
import Derived.Test.YtmdfpifcghmpfaaDoorL9
namespace Go.Proofs.YtmdfpifcghmpfaaDoor
open Go.Ab Go.RowKit

def fewP (l : Lg) : Prop := l.accs.length ≤ 100 ∧ (∀ a ∈ l.accs, a.name.size ≤ 200) ∧ l.evs.length ≤ 4100

theorem few_c {l : Lg} : CallR cx 13 [.d l.d] [] fun r S => ∃ b, r = bo b ∧ (b = true → fewP l) ∧ S = [] := by
  obtain ⟨h, t, g, al, es⟩ := l
  unfold fewP
  simp only
  have hlen : (acs al).length = al.length := List.length_map _
  refine callR_of (R := R1) cx_ok Tryd.func13 (by kernel_rfl) rfl ?_
  conv => whnf
  refine .inl ⟨fun m L S => ∃ (j : Nat), (0 < j → al.length ≤ 100) ∧ (∀ a ∈ al.take j, a.name.size ≤ 200) ∧ j ≤ al.length ∧ m = al.length - j ∧
      L = [(1, .ptr 0 []), (6, .d (.sl 35 (acs al))), (7, i64 (((acs al).length : Nat) : Int)), (8, i64 (j : Int))] ∧ S = [.var (.d (Lg.d ⟨h, t, g, al, es⟩))],
    ⟨_, _, ⟨0, by omega, by simp, Nat.zero_le _, rfl, rfl, rfl⟩, ⟨rfl, rfl, rfl, rfl, trivial⟩⟩, ?_⟩
  rintro _ _ _ ⟨j, h1, h2, hj, rfl, rfl, rfl⟩
  conv => whnf
  refine brec (fun h4 => ?_) (fun h4 => ?_)
  · have h4 := of_decide_eq_true h4
    rw [hlen] at h4
    have hlt : j < al.length := by omega
    conv => whnf
    refine ⟨⟨by omega, by rw [hlen]; omega⟩, ?_⟩
    rw [acs_getD hlt]
    have ht : al.take (j + 1) = al.take j ++ [al[j]'hlt] := by rw [List.take_add_one, List.getElem?_eq_getElem hlt]; rfl
    generalize al[j]'hlt = a at *
    obtain ⟨nm, ky, nn, cn⟩ := a
    conv => whnf
    by_cases c : ((acs al).length : Int) > 100
    · refine brT (decide_eq_true c) ?_
      conv => whnf
      exact ⟨false, rfl, by simp, rfl⟩
    · refine brF (decide_eq_false c) ?_
      conv => whnf
      by_cases c2 : (nm.size : Int) > 200
      · refine brT (decide_eq_true c2) ?_
        conv => whnf
        exact ⟨false, rfl, by simp, rfl⟩
      · refine brF (decide_eq_false c2) ?_
        conv => whnf
        rw [hlen] at c
        have e3 : IntKind.i64.wrap ((j : Int) + 1) = ((j + 1 : Nat) : Int) := by rw [w64 (by omega)]; omega
        refine ⟨_, _, 1, (by omega : al.length - (j + 1) < al.length - j), ⟨j + 1, fun _ => by omega, ?_, by omega, rfl, rfl, rfl⟩, ⟨rfl, rfl, rfl, congrArg (fun z => some (i64 z)) e3, trivial⟩, rfl⟩
        rw [ht]
        intro a ha
        rcases List.mem_append.1 ha with ha | ha
        · exact h2 a ha
        · simp at ha; subst ha; show nm.size ≤ 200; omega
  · have h4 := of_decide_eq_false h4
    rw [hlen] at h4
    obtain rfl : j = al.length := by omega
    rw [List.take_length] at h2
    have hq : al.length ≤ 100 := by
      rcases Nat.eq_zero_or_pos al.length with q | q
      · omega
      · exact h1 q
    conv => whnf
    by_cases c1 : (es.length : Int) ≤ 200
    · refine brT (decide_eq_true c1) ?_
      conv => whnf
      exact ⟨true, rfl, fun _ => ⟨hq, h2, by omega⟩, rfl⟩
    refine brF (decide_eq_false c1) ?_
    conv => whnf
    by_cases c2 : (es.length : Int) ≥ 4094
    · refine brT (decide_eq_true c2) ?_
      conv => whnf
      exact ⟨_, rfl, fun h => ⟨hq, h2, by have q : (es.length : Int) ≤ 4100 := of_decide_eq_true h; omega⟩, rfl⟩
    · refine brF (decide_eq_false c2) ?_
      conv => whnf
      exact ⟨_, rfl, by simp, rfl⟩
end Go.Proofs.YtmdfpifcghmpfaaDoor
