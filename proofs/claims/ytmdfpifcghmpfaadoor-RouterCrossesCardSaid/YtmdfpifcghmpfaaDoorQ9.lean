/- Purses: may it be; small ones; the same ones. -/
import Derived.Test.YtmdfpifcghmpfaaDoorQM
set_option linter.unusedVariables false
namespace Go.Proofs.YtmdfpifcghmpfaaDoor
open Go.Ab Go.RowKit

def tkE : Tk := ⟨0, .empty, 0, 0, 0, 0, 0⟩
def hdE : Hd := ⟨0, .empty, .empty, 0⟩
def tokB : List Tk → Nat → List Tk → Bool
  | _, _, [] => true
  | al, j, t :: l => rightT t.name && (!decide (t.burned > t.minted) && (!decide (t.unlocked > t.locked) && (((j == 0) || bef (al.getD (j - 1) tkE).org (al.getD (j - 1) tkE).name t.org t.name) && tokB al (j + 1) l)))
def ltH (g h : Hd) : Bool := bef g.org g.token h.org h.token || (same2 g.org g.token h.org h.token && decide (ordN g.owner h.owner < 0))
def holdB : List Tk → List Hd → Nat → List Hd → Bool
  | _, _, _, [] => true
  | ts, al, j, h :: l => !decide (h.amount = 0) && (rightT h.owner && ((lookP (tkP h.org h.token) ts).isSome && (((j == 0) || ltH (al.getD (j - 1) hdE) h) && holdB ts al (j + 1) l)))
def rightPu (p : Pu) : Bool := tokB p.toks 0 p.toks && (holdB p.toks p.holds 0 p.holds && decide (p.toks.length ≤ 32))

theorem prightL_c {p : Pu} (hp : p.ok) : CallR cx 31 [.d p.d] [] fun r S => r = bo (rightPu p) ∧ S = [] := by
  have tcs := fun (o : Int) (n : ByteArray) => token_c (o := o) (n := n) hp
  have hT := hp.nt
  have hH := hp.nh
  have hto := hp.t
  have hho := hp.h
  obtain ⟨ts, hs⟩ := p
  unfold rightPu
  simp only at hT hH hto hho tcs ⊢
  have hlt' : (tks ts).length = ts.length := List.length_map _
  have hlh' : (hds hs).length = hs.length := List.length_map _
  refine callR_of (R := R1) cx_ok Tryd.func31 (by kernel_rfl) rfl ?_
  conv => whnf
  refine .inl ⟨fun m L S => ∃ (j : Nat), tokB ts j (ts.drop j) = tokB ts 0 ts ∧ j ≤ ts.length ∧ m = ts.length - j ∧
      L = [(1, .ptr 0 []), (9, .d (.sl 7 (tks ts))), (10, i64 (((tks ts).length : Nat) : Int)), (11, i64 (j : Int))] ∧ S = [.var (.d (Pu.d ⟨ts, hs⟩))],
    ⟨_, _, ⟨0, rfl, Nat.zero_le _, rfl, rfl, rfl⟩, ⟨rfl, rfl, rfl, rfl, trivial⟩⟩, ?_⟩
  rintro _ _ _ ⟨j, h1, hj, rfl, rfl, rfl⟩
  conv => whnf
  refine brec (fun h4 => ?_) (fun h4 => ?_)
  · have h4 := of_decide_eq_true h4
    rw [hlt'] at h4
    have hlt : j < ts.length := by omega
    conv => whnf
    refine ⟨⟨by omega, by rw [hlt']; omega⟩, ?_⟩
    rw [tks_getD hlt]
    rw [List.drop_eq_getElem_cons hlt, tokB] at h1
    have hs' := (hto _ (List.getElem_mem hlt)).2.2.2.2.2
    have oc := keyOf_c (t := ts[j]'hlt)
    generalize ts[j]'hlt = a at *
    have e3 : IntKind.i64.wrap ((j : Int) + 1) = ((j + 1 : Nat) : Int) := by rw [w64 (by omega)]; omega
    have e4 : 0 < j → IntKind.i64.wrap ((j : Int) - 1) = ((j - 1 : Nat) : Int) := fun q => by rw [w64 (by omega)]; omega
    obtain ⟨to, nm, ta, tb, tc, td, te⟩ := a
    simp only at h1 hs' oc
    have rc := right_c (s := nm) (by omega)
    generalize hJ : (j : Int) = J at *
    conv => whnf
    refine ⟨by kernel_rfl, ?_⟩
    conv => whnf
    refine ⟨_, rc, ?_⟩
    by_cases c1 : rightT nm = true
    · rw [c1, Bool.true_and] at h1
      rw [c1]
      conv => whnf
      by_cases c2 : te > td
      · rw [decide_eq_true c2, Bool.not_true, Bool.false_and] at h1
        refine brT (decide_eq_true c2) ?_
        conv => whnf
        refine ⟨by kernel_rfl, ?_⟩
        conv => whnf
        rw [← h1]
        exact ⟨rfl, rfl⟩
      rw [decide_eq_false c2, Bool.not_false, Bool.true_and] at h1
      refine brF (decide_eq_false c2) ?_
      conv => whnf
      by_cases c3 : tc > tb
      · rw [decide_eq_true c3, Bool.not_true, Bool.false_and] at h1
        refine brT (decide_eq_true c3) ?_
        conv => whnf
        refine ⟨by kernel_rfl, ?_⟩
        conv => whnf
        rw [← h1]
        exact ⟨rfl, rfl⟩
      rw [decide_eq_false c3, Bool.not_false, Bool.true_and] at h1
      refine brF (decide_eq_false c3) ?_
      conv => whnf
      by_cases c4 : 0 < j
      · refine brT (decide_eq_true (by omega)) ?_
        conv => whnf
        have hlp : j - 1 < ts.length := by omega
        have hgp := tks_getD hlp
        have hpn : ts.getD (j - 1) tkE = ts[j - 1]'hlp := by rw [List.getD_eq_getElem?_getD, List.getElem?_eq_getElem hlp]; rfl
        have hsp := (hto _ (List.getElem_mem hlp)).2.2.2.2.2
        have oc2 := keyOf_c (t := ts[j - 1]'hlp)
        rw [hpn] at h1
        rw [e4 c4]
        refine ⟨⟨by omega, by rw [hlt']; omega⟩, ?_⟩
        rw [hgp]
        generalize ts[j - 1]'hlp = q at *
        obtain ⟨qo, qn, qa, qb, qc, qd, qe⟩ := q
        simp only at h1 hsp oc2
        have bc := before_c (o := qo) (o' := to) hsp hs'
        have ej : (j == 0) = false := beq_eq_false_iff_ne.2 (by omega)
        rw [ej, Bool.false_or] at h1
        generalize bef qo qn to nm = B at *
        conv => whnf
        refine ⟨_, oc2, ?_⟩
        conv => whnf
        refine ⟨_, oc, ?_⟩
        conv => whnf
        refine ⟨_, bc, ?_⟩
        cases B with
        | false =>
          rw [Bool.false_and] at h1
          conv => whnf
          refine ⟨by kernel_rfl, ?_⟩
          conv => whnf
          rw [← h1]
          exact ⟨rfl, rfl⟩
        | true =>
          rw [Bool.true_and] at h1
          conv => whnf
          refine ⟨by kernel_rfl, ?_⟩
          conv => whnf
          exact ⟨_, _, 1, (by omega : ts.length - (j + 1) < ts.length - j), ⟨j + 1, h1, by omega, rfl, rfl, rfl⟩, ⟨rfl, rfl, rfl, congrArg (fun z => some (i64 z)) e3, trivial⟩, rfl⟩
      · refine brF (decide_eq_false (by omega)) ?_
        conv => whnf
        refine ⟨by kernel_rfl, ?_⟩
        conv => whnf
        obtain rfl : j = 0 := by omega
        rw [show ((0 : Nat) == 0) = true from rfl, Bool.true_or, Bool.true_and] at h1
        exact ⟨_, _, 1, (by omega : ts.length - (0 + 1) < ts.length - 0), ⟨0 + 1, h1, by omega, rfl, rfl, rfl⟩, ⟨rfl, rfl, rfl, congrArg (fun z => some (i64 z)) e3, trivial⟩, rfl⟩
    · have c1 : rightT nm = false := by simpa using c1
      rw [c1, Bool.false_and] at h1
      rw [c1]
      conv => whnf
      refine ⟨by kernel_rfl, ?_⟩
      conv => whnf
      rw [← h1]
      exact ⟨rfl, rfl⟩
  · have h4 := of_decide_eq_false h4
    rw [hlt'] at h4
    obtain rfl : j = ts.length := by omega
    rw [List.drop_length, tokB] at h1
    rw [← h1, Bool.true_and]
    conv => whnf
    refine .inl ⟨fun m L S => ∃ (j : Nat), holdB ts hs j (hs.drop j) = holdB ts hs 0 hs ∧ j ≤ hs.length ∧ m = hs.length - j ∧
        L = [(1, .ptr 0 []), (53, .d (.sl 4 (hds hs))), (54, i64 (((hds hs).length : Nat) : Int)), (55, i64 (j : Int))] ∧ S = [.var (.d (Pu.d ⟨ts, hs⟩))],
      ⟨_, _, ⟨0, rfl, Nat.zero_le _, rfl, rfl, rfl⟩, ⟨rfl, rfl, rfl, rfl, trivial⟩⟩, ?_⟩
    rintro _ _ _ ⟨j, h2, hj, rfl, rfl, rfl⟩
    conv => whnf
    refine brec (fun h5 => ?_) (fun h5 => ?_)
    · have h5 := of_decide_eq_true h5
      rw [hlh'] at h5
      have hlt : j < hs.length := by omega
      conv => whnf
      refine ⟨⟨by omega, by rw [hlh']; omega⟩, ?_⟩
      rw [hds_getD hlt]
      rw [List.drop_eq_getElem_cons hlt, holdB] at h2
      have hok := hho _ (List.getElem_mem hlt)
      have oc := keyHeld_c (h := hs[j]'hlt)
      generalize hs[j]'hlt = a at *
      have e3 : IntKind.i64.wrap ((j : Int) + 1) = ((j + 1 : Nat) : Int) := by rw [w64 (by omega)]; omega
      have e4 : 0 < j → IntKind.i64.wrap ((j : Int) - 1) = ((j - 1 : Nat) : Int) := fun q => by rw [w64 (by omega)]; omega
      obtain ⟨ho, hn, hw, ha⟩ := a
      have hs1 := hok.2.1
      have hs2 := hok.2.2
      simp only at h2 oc hs1 hs2
      have rc := right_c (s := hw) (by omega)
      have tc := tcs ho hn
      have hix := ix_look (tkP ho hn) ts 0
      generalize hJ : (j : Int) = J at *
      conv => whnf
      refine ⟨by kernel_rfl, ?_⟩
      conv => whnf
      by_cases c1 : ha = 0
      · rw [decide_eq_true c1, Bool.not_true, Bool.false_and] at h2
        refine brT (decide_eq_true c1) ?_
        conv => whnf
        refine ⟨by kernel_rfl, ?_⟩
        conv => whnf
        rw [← h2]
        exact ⟨rfl, rfl⟩
      rw [decide_eq_false c1, Bool.not_false, Bool.true_and] at h2
      refine brF (decide_eq_false c1) ?_
      conv => whnf
      refine ⟨_, rc, ?_⟩
      by_cases c2 : rightT hw = true
      · rw [c2, Bool.true_and] at h2
        rw [c2]
        conv => whnf
        refine ⟨_, oc, ?_⟩
        conv => whnf
        refine ⟨_, tc, ?_⟩
        rcases hix with ⟨g1, g2⟩ | ⟨q, hq, g1, g2, _⟩
        · rw [g2, show (none : Option Tk).isSome = false from rfl, Bool.false_and] at h2
          rw [g1]
          conv => whnf
          refine ⟨by kernel_rfl, ?_⟩
          conv => whnf
          rw [← h2]
          exact ⟨rfl, rfl⟩
        · rw [g2, Option.isSome_some, Bool.true_and] at h2
          rw [Nat.zero_add] at g1
          rw [g1]
          generalize hQ : (q : Int) = Q at *
          have hQ0 : decide (Q < 0) = false := decide_eq_false (by omega)
          conv => whnf
          refine ⟨by kernel_rfl, ?_⟩
          conv => whnf
          refine brF hQ0 ?_
          conv => whnf
          by_cases c4 : 0 < j
          · refine brT (decide_eq_true (by omega)) ?_
            conv => whnf
            have hlp : j - 1 < hs.length := by omega
            have hgp := hds_getD hlp
            have hpn : hs.getD (j - 1) hdE = hs[j - 1]'hlp := by rw [List.getD_eq_getElem?_getD, List.getElem?_eq_getElem hlp]; rfl
            have hsp := hho _ (List.getElem_mem hlp)
            have oc2 := keyHeld_c (h := hs[j - 1]'hlp)
            rw [hpn] at h2
            rw [e4 c4]
            refine ⟨⟨by omega, by rw [hlh']; omega⟩, ?_⟩
            rw [hgp]
            generalize hs[j - 1]'hlp = g at *
            obtain ⟨go, gn, gw, ga⟩ := g
            have hs3 := hsp.2.1
            have hs4 := hsp.2.2
            unfold ltH at h2
            simp only at h2 oc2 hs3 hs4
            have bc := before_c (o := go) (o' := ho) hs3 hs1
            have rd := order_c (a := gw) (b := hw) (by omega) (by omega)
            have ej : (j == 0) = false := beq_eq_false_iff_ne.2 (by omega)
            rw [ej, Bool.false_or] at h2
            unfold ordN at h2
            generalize bef go gn ho hn = B at *
            generalize ordL (keysAt gw 0) (keysAt hw 0) = O at *
            conv => whnf
            refine ⟨by kernel_rfl, ?_⟩
            conv => whnf
            refine ⟨_, oc2, ?_⟩
            conv => whnf
            refine ⟨_, oc, ?_⟩
            conv => whnf
            refine ⟨_, bc, ?_⟩
            cases B with
            | true =>
              rw [Bool.true_or, Bool.true_and] at h2
              conv => whnf
              refine ⟨by kernel_rfl, ?_⟩
              conv => whnf
              exact ⟨_, _, 1, (by omega : hs.length - (j + 1) < hs.length - j), ⟨j + 1, h2, by omega, rfl, rfl, rfl⟩, ⟨rfl, rfl, rfl, congrArg (fun z => some (i64 z)) e3, trivial⟩, rfl⟩
            | false =>
              rw [Bool.false_or] at h2
              conv => whnf
              refine ⟨_, oc2, ?_⟩
              conv => whnf
              refine ⟨_, oc, ?_⟩
              conv => whnf
              refine ⟨sideK, ?_⟩
              rw [deq_ky]
              generalize same2 go gn ho hn = E at *
              cases E with
              | false =>
                rw [Bool.false_and, Bool.false_and] at h2
                conv => whnf
                refine ⟨by kernel_rfl, ?_⟩
                conv => whnf
                rw [← h2]
                exact ⟨rfl, rfl⟩
              | true =>
                rw [Bool.true_and] at h2
                conv => whnf
                refine ⟨_, rd, ?_⟩
                conv => whnf
                refine ⟨by kernel_rfl, ?_⟩
                conv => whnf
                by_cases c5 : O ≥ 0
                · rw [decide_eq_false (by omega), Bool.false_and] at h2
                  refine brT (decide_eq_true c5) ?_
                  conv => whnf
                  rw [← h2]
                  exact ⟨rfl, rfl⟩
                · rw [decide_eq_true (by omega), Bool.true_and] at h2
                  refine brF (decide_eq_false c5) ?_
                  conv => whnf
                  exact ⟨_, _, 1, (by omega : hs.length - (j + 1) < hs.length - j), ⟨j + 1, h2, by omega, rfl, rfl, rfl⟩, ⟨rfl, rfl, rfl, congrArg (fun z => some (i64 z)) e3, trivial⟩, rfl⟩
          · refine brF (decide_eq_false (by omega)) ?_
            conv => whnf
            obtain rfl : j = 0 := by omega
            rw [show ((0 : Nat) == 0) = true from rfl, Bool.true_or, Bool.true_and] at h2
            exact ⟨_, _, 1, (by omega : hs.length - (0 + 1) < hs.length - 0), ⟨0 + 1, h2, by omega, rfl, rfl, rfl⟩, ⟨rfl, rfl, rfl, congrArg (fun z => some (i64 z)) e3, trivial⟩, rfl⟩
      · have c2 : rightT hw = false := by simpa using c2
        rw [c2, Bool.false_and] at h2
        rw [c2]
        conv => whnf
        refine ⟨by kernel_rfl, ?_⟩
        conv => whnf
        rw [← h2]
        exact ⟨rfl, rfl⟩
    · have h5 := of_decide_eq_false h5
      rw [hlh'] at h5
      obtain rfl : j = hs.length := by omega
      rw [List.drop_length, holdB] at h2
      rw [← h2, Bool.true_and, ← hlt']
      conv => whnf
      refine ⟨?_, rfl⟩
      show bo (decide (((tks ts).length : Int) ≤ 32)) = bo (decide ((tks ts).length ≤ 32))
      have e : decide (((tks ts).length : Int) ≤ 32) = decide ((tks ts).length ≤ 32) := decide_eq_decide.2 ⟨fun h => by omega, fun h => by omega⟩
      rw [e]
end Go.Proofs.YtmdfpifcghmpfaaDoor
