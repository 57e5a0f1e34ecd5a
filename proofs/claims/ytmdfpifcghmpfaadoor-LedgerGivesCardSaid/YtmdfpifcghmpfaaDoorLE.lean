/- Ledgers, the model's: may it be. -/
import Derived.Test.YtmdfpifcghmpfaaDoorLD
namespace Go.Proofs.YtmdfpifcghmpfaaDoor
open Go.Ab Go.RowKit

theorem rrightL_c {l : Lg} (hl : l.ok) (hn : ∀ a ∈ l.accs, a.name.size ≤ 200) : CallR cx 27 [.d l.d] [] fun r S => r = bo (chainB l.accs 0 l.accs && limB l) ∧ S = [] := by
  have hL := hl.2.2
  obtain ⟨h, t, g, al, es⟩ := l
  unfold limB
  simp only at hL hn ⊢
  have hlen : (acs al).length = al.length := List.length_map _
  obtain ⟨B, hB⟩ : ∃ B : Int, B = 1099511627776 := ⟨_, rfl⟩
  rw [← hB]
  refine callR_of (R := R1) cx_ok Tryd.func27 (by kernel_rfl) rfl ?_
  conv => whnf
  by_cases c1 : ((acs al).length : Int) > 64
  · rw [decide_eq_false (show ¬ al.length ≤ 64 by omega), Bool.false_and, Bool.false_and, Bool.false_and, Bool.and_false]
    refine brT (decide_eq_true c1) ?_
    conv => whnf
    exact ⟨rfl, rfl⟩
  rw [decide_eq_true (show al.length ≤ 64 by omega), Bool.true_and]
  refine brF (decide_eq_false c1) ?_
  conv => whnf
  by_cases c2 : (es.length : Int) > 4096
  · rw [decide_eq_false (show ¬ es.length ≤ 4096 by omega), Bool.false_and, Bool.false_and, Bool.and_false]
    refine brT (decide_eq_true c2) ?_
    conv => whnf
    exact ⟨rfl, rfl⟩
  rw [decide_eq_true (show es.length ≤ 4096 by omega), Bool.true_and]
  refine brF (decide_eq_false c2) ?_
  conv => whnf
  by_cases c3 : g > 40
  · rw [decide_eq_false (show ¬ g ≤ 40 by omega), Bool.false_and, Bool.and_false]
    refine brT (decide_eq_true c3) ?_
    conv => whnf
    exact ⟨rfl, rfl⟩
  rw [decide_eq_true (show g ≤ 40 by omega), Bool.true_and]
  refine brF (decide_eq_false c3) ?_
  conv => whnf
  rw [← hB]
  by_cases c4 : t > B
  · rw [decide_eq_false (show ¬ t ≤ B by omega), Bool.and_false]
    refine brT (decide_eq_true c4) ?_
    conv => whnf
    exact ⟨rfl, rfl⟩
  rw [decide_eq_true (show t ≤ B by omega), Bool.and_true]
  refine brF (decide_eq_false c4) ?_
  conv => whnf
  refine .inl ⟨fun m L S => ∃ (j : Nat), chainB al j (al.drop j) = chainB al 0 al ∧ j ≤ al.length ∧ m = al.length - j ∧
      L = [(1, .ptr 0 []), (26, .d (.sl 35 (acs al))), (27, i64 (((acs al).length : Nat) : Int)), (28, i64 (j : Int))] ∧ S = [.var (.d (Lg.d ⟨h, t, g, al, es⟩))],
    ⟨_, _, ⟨0, rfl, Nat.zero_le _, rfl, rfl, rfl⟩, ⟨rfl, rfl, rfl, rfl, trivial⟩⟩, ?_⟩
  rintro _ _ _ ⟨j, h1, hj, rfl, rfl, rfl⟩
  conv => whnf
  refine brec (fun h4 => ?_) (fun h4 => ?_)
  · have h4 := of_decide_eq_true h4
    rw [hlen] at h4
    have hlt : j < al.length := by omega
    conv => whnf
    refine ⟨⟨by omega, by rw [hlen]; omega⟩, ?_⟩
    rw [acs_getD hlt]
    rw [List.drop_eq_getElem_cons hlt, chainB] at h1
    have hs := hn _ (List.getElem_mem hlt)
    generalize al[j]'hlt = a at *
    have e3 : IntKind.i64.wrap ((j : Int) + 1) = ((j + 1 : Nat) : Int) := by rw [w64 (by omega)]; omega
    have e4 : 0 < j → IntKind.i64.wrap ((j : Int) - 1) = ((j - 1 : Nat) : Int) := fun q => by rw [w64 (by omega)]; omega
    obtain ⟨nm, ky, nn, cn⟩ := a
    simp only at h1 hs
    have rc := rright_c (s := nm) (by omega)
    generalize hJ : (j : Int) = J at *
    conv => whnf
    refine ⟨_, rc, ?_⟩
    rintro _ _ ⟨rfl, rfl⟩
    conv => whnf
    by_cases c1 : rightT nm = true
    · rw [c1] at h1 ⊢
      conv => whnf
      refine ⟨by kernel_rfl, ?_⟩
      conv => whnf
      by_cases c2 : 0 < j
      · refine brT (decide_eq_true (by omega)) ?_
        conv => whnf
        have hlp : j - 1 < al.length := by omega
        have hgp := acs_getD hlp
        have hpn : al.getD (j - 1) ⟨.empty, [], 0, 0⟩ = al[j - 1]'hlp := by rw [List.getD_eq_getElem?_getD, List.getElem?_eq_getElem hlp]; rfl
        have hsp := hn _ (List.getElem_mem hlp)
        rw [hpn] at h1
        rw [e4 c2]
        refine ⟨⟨by omega, by rw [hlen]; omega⟩, ?_⟩
        rw [hgp]
        generalize al[j - 1]'hlp = p at *
        obtain ⟨pn, pk, pq, pc⟩ := p
        simp only at h1 hsp
        have oc := rorder_c (a := pn) (b := nm) (by omega) (by omega)
        have hor := ordL_range (keysAt pn 0) (keysAt nm 0)
        unfold ordN at h1
        generalize ordL (keysAt pn 0) (keysAt nm 0) = O at *
        conv => whnf
        refine ⟨_, oc, ?_⟩
        conv => whnf
        refine ⟨by kernel_rfl, ?_⟩
        conv => whnf
        have ej : (j == 0) = false := beq_eq_false_iff_ne.2 (by omega)
        rw [ej, Bool.true_and, Bool.false_or] at h1
        by_cases c3 : O = -1
        · rw [decide_eq_true (by omega), Bool.true_and] at h1
          refine brF (bne_eq_false_iff_eq.2 c3) ?_
          conv => whnf
          exact ⟨_, _, 1, (by omega : al.length - (j + 1) < al.length - j), ⟨j + 1, h1, by omega, rfl, rfl, rfl⟩, ⟨rfl, rfl, rfl, congrArg (fun z => some (i64 z)) e3, trivial⟩, rfl⟩
        · rw [decide_eq_false (by omega), Bool.false_and] at h1
          refine brT (bne_iff_ne.2 c3) ?_
          conv => whnf
          rw [← h1]
          exact ⟨rfl, rfl⟩
      · refine brF (decide_eq_false (by omega)) ?_
        conv => whnf
        refine ⟨by kernel_rfl, ?_⟩
        conv => whnf
        obtain rfl : j = 0 := by omega
        exact ⟨_, _, 1, (by omega : al.length - (0 + 1) < al.length - 0), ⟨0 + 1, by simpa using h1, by omega, rfl, rfl, rfl⟩, ⟨rfl, rfl, rfl, congrArg (fun z => some (i64 z)) e3, trivial⟩, rfl⟩
    · have c1 : rightT nm = false := by cases q : rightT nm with
        | false => rfl
        | true => exact absurd q c1
      rw [c1] at h1 ⊢
      conv => whnf
      rw [← h1]
      exact ⟨rfl, rfl⟩
  · have h4 := of_decide_eq_false h4
    rw [hlen] at h4
    obtain rfl : j = al.length := by omega
    rw [List.drop_length, chainB] at h1
    conv => whnf
    rw [← h1]
    exact ⟨rfl, rfl⟩
end Go.Proofs.YtmdfpifcghmpfaaDoor
