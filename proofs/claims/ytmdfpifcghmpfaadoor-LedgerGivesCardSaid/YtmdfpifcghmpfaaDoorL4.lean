/- Ledgers: what is taken; a nonce used; coins moved. -/
import Derived.Test.YtmdfpifcghmpfaaDoorL3
namespace Go.Proofs.YtmdfpifcghmpfaaDoor
open Go.Ab Go.RowKit

def bumpL (l : Lg) (who : ByteArray) (n : Int) : Lg × Int := match look l.accs who with
  | none => (l, 14)
  | some a => if a.nonce ≠ n then (l, 20) else if n = 18446744073709551615 then (l, 10) else ({ l with accs := putA l.accs { a with nonce := n + 1 } }, 0)

theorem take_c {l : Lg} {who : ByteArray} {n : Int} (hl : l.ok) (hn : U n) : CallR cx 17 [.d l.d, st who, u64 n] [] fun r S => r = .tup [.d (takeL l who n).1.d, i64 (takeL l who n).2] ∧ S = [] := by
  have at' := at_c (who := who) hl.2.2
  have hix := idx_look l.accs who 0
  have hlk := fun a => look_mem (l := l.accs) (who := who) (a := a)
  have wi := fun (i : Nat) (a : Ac) => with_c (l := l) (i := i) (a := a) hl.2.2
  have hok := hl.2.1
  obtain ⟨h, t, g, al, es⟩ := l
  simp only at hix hlk wi hok
  have hlen : (acs al).length = al.length := List.length_map _
  unfold takeL
  simp only
  unfold atN at at'
  rcases hix with ⟨h1, h2⟩ | ⟨j, hj, h1, h2, h3, h4⟩
  · simp only at at'
    rw [h1] at at'
    rw [h2]
    refine callR_of (R := R1) cx_ok Tryd.func17 (by kernel_rfl) rfl ?_
    conv => whnf
    refine ⟨_, at', ?_⟩
    rintro _ _ ⟨rfl, rfl⟩
    conv => whnf
    exact ⟨rfl, rfl⟩
  · simp only at at'
    rw [h1, Nat.zero_add] at at'
    rw [h2]
    have hgd := acs_getD hj
    have ha := hok _ (hlk _ h2).1
    have w := fun b => wi j b hj
    generalize al[j]'hj = a at *
    have ad := sub_c ha.2 hn
    obtain ⟨nm, ky, nn, cn⟩ := a
    simp only at ad h3 ⊢
    generalize hJ : (j : Int) = J at *
    refine callR_of (R := R1) cx_ok Tryd.func17 (by kernel_rfl) rfl ?_
    conv => whnf
    refine ⟨_, at', ?_⟩
    rintro _ _ ⟨rfl, rfl⟩
    conv => whnf
    refine brF (decide_eq_false (by omega)) ?_
    conv => whnf
    refine ⟨⟨by omega, by rw [hlen]; omega⟩, ?_⟩
    rw [hgd]
    conv => whnf
    by_cases c : cn < n
    · rw [if_pos c, if_pos c] at ad
      rw [if_pos c]
      refine ⟨_, ad, ?_⟩
      rintro _ _ ⟨rfl, rfl⟩
      conv => whnf
      exact ⟨rfl, rfl⟩
    · rw [if_neg c, if_neg c] at ad
      rw [if_neg c]
      have w := w ⟨nm, ky, nn, cn - n⟩
      rw [h4 ⟨nm, ky, nn, cn - n⟩ h3] at w
      refine ⟨_, ad, ?_⟩
      rintro _ _ ⟨rfl, rfl⟩
      conv => whnf
      refine ⟨_, w, ?_⟩
      rintro _ _ ⟨rfl, rfl⟩
      conv => whnf
      exact ⟨rfl, rfl⟩

theorem bump_c {l : Lg} {who : ByteArray} {n : Int} (hl : l.ok) (hn : U n) : CallR cx 62 [.d l.d, st who, u64 n] [] fun r S => r = .tup [.d (bumpL l who n).1.d, i64 (bumpL l who n).2] ∧ S = [] := by
  have at' := at_c (who := who) hl.2.2
  have hix := idx_look l.accs who 0
  have hlk := fun a => look_mem (l := l.accs) (who := who) (a := a)
  have wi := fun (i : Nat) (a : Ac) => with_c (l := l) (i := i) (a := a) hl.2.2
  have hok := hl.2.1
  obtain ⟨h, t, g, al, es⟩ := l
  simp only at hix hlk wi hok
  have hlen : (acs al).length = al.length := List.length_map _
  unfold bumpL
  simp only
  unfold atN at at'
  rcases hix with ⟨h1, h2⟩ | ⟨j, hj, h1, h2, h3, h4⟩
  · simp only at at'
    rw [h1] at at'
    rw [h2]
    refine callR_of (R := R1) cx_ok Tryd.func62 (by kernel_rfl) rfl ?_
    conv => whnf
    refine ⟨_, at', ?_⟩
    rintro _ _ ⟨rfl, rfl⟩
    conv => whnf
    exact ⟨rfl, rfl⟩
  · simp only at at'
    rw [h1, Nat.zero_add] at at'
    rw [h2]
    have hgd := acs_getD hj
    have ha := hok _ (hlk _ h2).1
    have w := fun b => wi j b hj
    generalize al[j]'hj = a at *
    obtain ⟨nm, ky, nn, cn⟩ := a
    simp only at h3 ⊢
    generalize hJ : (j : Int) = J at *
    refine callR_of (R := R1) cx_ok Tryd.func62 (by kernel_rfl) rfl ?_
    conv => whnf
    refine ⟨_, at', ?_⟩
    rintro _ _ ⟨rfl, rfl⟩
    conv => whnf
    refine brF (decide_eq_false (by omega)) ?_
    conv => whnf
    refine ⟨⟨by omega, by rw [hlen]; omega⟩, ?_⟩
    rw [hgd]
    conv => whnf
    obtain ⟨C, hC⟩ : ∃ C : Int, C = 18446744073709551615 := ⟨_, rfl⟩
    rw [← hC]
    have hn2 := ha.1
    unfold U at hn hn2
    simp only at hn2
    by_cases c : nn = n
    · subst c
      rw [if_neg (by simp)]
      refine brF (bne_eq_false_iff_eq.2 rfl) ?_
      conv => whnf
      by_cases c2 : nn = C
      · rw [if_pos c2]
        refine brT (beq_iff_eq.2 c2) ?_
        conv => whnf
        exact ⟨rfl, rfl⟩
      · rw [if_neg c2]
        have e : IntKind.u64.wrap (nn + 1) = nn + 1 := by rw [Go.Ab.wrap64]; omega
        have w := w ⟨nm, ky, nn + 1, cn⟩
        rw [h4 ⟨nm, ky, nn + 1, cn⟩ h3] at w
        refine brF (beq_eq_false_iff_ne.2 c2) ?_
        conv => whnf
        rw [e]
        refine ⟨_, w, ?_⟩
        rintro _ _ ⟨rfl, rfl⟩
        conv => whnf
        exact ⟨rfl, rfl⟩
    · rw [if_pos c]
      refine brT (bne_iff_ne.2 c) ?_
      conv => whnf
      exact ⟨rfl, rfl⟩

end Go.Proofs.YtmdfpifcghmpfaaDoor
