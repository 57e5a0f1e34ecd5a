/- Purses, the model's: which is first; a token known; who holds how much; a token set. Purses, the model's: somebody holds so much; a token more. Purses, the model's: a token more; sums less one another. -/
import Derived.Test.YtmdfpifcghmpfaaDoorQA
set_option linter.unusedVariables false
namespace Go.Proofs.YtmdfpifcghmpfaaDoor
open Go.Ab Go.RowKit

def ordP (o : Int) (n : ByteArray) (o' : Int) (n' : ByteArray) : Int := if o < o' then -1 else if o > o' then 1 else ordN n n'
theorem ordP_lt {o o' : Int} {n n' : ByteArray} : decide (ordP o n o' n' < 0) = bef o n o' n' := by
  unfold ordP bef
  by_cases h1 : o < o'
  · rw [if_pos h1, decide_eq_true h1]; rfl
  · rw [if_neg h1, decide_eq_false h1]
    by_cases h2 : o > o'
    · rw [if_pos h2, decide_eq_false (by omega : ¬ o = o')]; rfl
    · rw [if_neg h2, decide_eq_true (by omega : o = o')]; simp
theorem ordP_eq {o o' : Int} {n n' : ByteArray} : decide (ordP o n o' n' = 0) = same2 o n o' n' := by
  unfold ordP same2
  have hz : ordN n n' = 0 ↔ n = n' := (ordL_zero _ _).trans keysAt_inj
  by_cases h1 : o < o'
  · rw [if_pos h1, decide_eq_false (by omega : ¬ o = o')]; rfl
  · rw [if_neg h1]
    by_cases h2 : o > o'
    · rw [if_pos h2, decide_eq_false (by omega : ¬ o = o')]; rfl
    · rw [if_neg h2, decide_eq_true (by omega : o = o'), Bool.true_and]
      exact decide_eq_decide.2 hz

theorem porder_c {o o' : Int} {n n' : ByteArray} (h1 : n.size ≤ 200) (h2 : n'.size ≤ 200) : CallR cx 121 [.d (.int .u32 o), st n, .d (.int .u32 o'), st n'] [] fun r S => r = i64 (ordP o n o' n') ∧ S = [] := by
  have oc := rorder_c (a := n) (b := n') (by omega) (by omega)
  unfold ordP ordN
  generalize ordL (keysAt n 0) (keysAt n' 0) = O at *
  refine callR_of (R := R1) cx_ok Tryd.func121 (by kernel_rfl) rfl ?_
  conv => whnf
  by_cases c1 : o < o'
  · rw [if_pos c1]
    refine brT (decide_eq_true c1) ?_
    conv => whnf
    exact ⟨rfl, rfl⟩
  rw [if_neg c1]
  refine brF (decide_eq_false c1) ?_
  conv => whnf
  by_cases c2 : o > o'
  · rw [if_pos c2]
    refine brT (decide_eq_true c2) ?_
    conv => whnf
    exact ⟨rfl, rfl⟩
  · rw [if_neg c2]
    refine brF (decide_eq_false c2) ?_
    conv => whnf
    refine ⟨_, oc, ?_⟩
    rintro _ _ ⟨rfl, rfl⟩
    conv => whnf
    exact ⟨rfl, rfl⟩

theorem rknown_c {p : Pu} {o : Int} {n : ByteArray} (hp : p.ok) : CallR cx 120 [.d p.d, .d (.int .u32 o), st n] [] fun r S => r = .tup [.d (knownP p o n).1.d, bo (knownP p o n).2] ∧ S = [] := by
  have hT := hp.nt
  obtain ⟨ts, hs⟩ := p
  simp only at hT
  have hlt' : (tks ts).length = ts.length := List.length_map _
  unfold knownP
  simp only
  refine callR_of (R := R1) cx_ok Tryd.func120 (by kernel_rfl) rfl ?_
  conv => whnf
  refine .inl ⟨fun m L S => ∃ (j : Nat), lookP (tkP o n) (ts.drop j) = lookP (tkP o n) ts ∧ j ≤ ts.length ∧ m = ts.length - j ∧
      L = [(1, .d (.int .u32 o)), (2, st n), (6, .ptr 1 []), (11, .d (.sl 7 (tks ts))), (12, i64 (((tks ts).length : Nat) : Int)), (13, i64 (j : Int))] ∧ S = [.var (.d (Pu.d ⟨ts, hs⟩)), .var (.d tk0.d)],
    ⟨_, _, ⟨0, rfl, Nat.zero_le _, rfl, rfl, rfl⟩, ⟨rfl, rfl, rfl, rfl, rfl, rfl, trivial⟩⟩, ?_⟩
  rintro _ _ _ ⟨j, h1, hj, rfl, rfl, rfl⟩
  conv => whnf
  refine brec (fun h4 => ?_) (fun h4 => ?_)
  · have h4 := of_decide_eq_true h4
    rw [hlt'] at h4
    have hlt : j < ts.length := by omega
    conv => whnf
    refine ⟨⟨by omega, by rw [hlt']; omega⟩, ?_⟩
    rw [tks_getD hlt]
    rw [List.drop_eq_getElem_cons hlt, lookP] at h1
    generalize ts[j]'hlt = a at *
    have e3 : IntKind.i64.wrap ((j : Int) + 1) = ((j + 1 : Nat) : Int) := by rw [w64 (by omega)]; omega
    obtain ⟨ao, an, a1, a2, a3, a4, a5⟩ := a
    have hq : tkP o n ⟨ao, an, a1, a2, a3, a4, a5⟩ = (decide (ao = o) && decide (an = n)) := rfl
    rw [hq] at h1
    conv => whnf
    by_cases c1 : ao = o
    · rw [decide_eq_true c1, Bool.true_and] at h1
      refine brT (decide_eq_true c1) ?_
      conv => whnf
      by_cases c2 : an = n
      · rw [decide_eq_true c2, if_pos rfl] at h1
        refine brT (decide_eq_true c2) ?_
        conv => whnf
        rw [← h1]
        exact ⟨rfl, rfl⟩
      · rw [decide_eq_false c2, if_neg (by decide)] at h1
        refine brF (decide_eq_false c2) ?_
        conv => whnf
        exact ⟨_, _, 2, (by omega : ts.length - (j + 1) < ts.length - j), ⟨j + 1, h1, by omega, rfl, rfl, rfl⟩, ⟨rfl, rfl, rfl, rfl, rfl, congrArg (fun z => some (i64 z)) e3, trivial⟩, rfl⟩
    · rw [decide_eq_false c1, Bool.false_and, if_neg (by decide)] at h1
      refine brF (decide_eq_false c1) ?_
      conv => whnf
      exact ⟨_, _, 2, (by omega : ts.length - (j + 1) < ts.length - j), ⟨j + 1, h1, by omega, rfl, rfl, rfl⟩, ⟨rfl, rfl, rfl, rfl, rfl, congrArg (fun z => some (i64 z)) e3, trivial⟩, rfl⟩
  · have h4 := of_decide_eq_false h4
    rw [hlt'] at h4
    obtain rfl : j = ts.length := by omega
    rw [List.drop_length, lookP] at h1
    conv => whnf
    rw [← h1]
    exact ⟨rfl, rfl⟩

theorem rheld_c {p : Pu} {o : Int} {n w : ByteArray} (hp : p.ok) : CallR cx 122 [.d p.d, .d (.int .u32 o), st n, st w] [] fun r S => r = u64 (heldV p o n w) ∧ S = [] := by
  have hH := hp.nh
  obtain ⟨ts, hs⟩ := p
  simp only at hH
  have hlh' : (hds hs).length = hs.length := List.length_map _
  unfold heldV
  simp only
  refine callR_of (R := R1) cx_ok Tryd.func122 (by kernel_rfl) rfl ?_
  conv => whnf
  refine .inl ⟨fun m L S => ∃ (j : Nat), lookP (hdP o n w) (hs.drop j) = lookP (hdP o n w) hs ∧ j ≤ hs.length ∧ m = hs.length - j ∧
      L = [(1, .d (.int .u32 o)), (2, st n), (3, st w), (12, .d (.sl 4 (hds hs))), (13, i64 (((hds hs).length : Nat) : Int)), (14, i64 (j : Int))] ∧ S = [.var (.d (Pu.d ⟨ts, hs⟩))],
    ⟨_, _, ⟨0, rfl, Nat.zero_le _, rfl, rfl, rfl⟩, ⟨rfl, rfl, rfl, rfl, rfl, rfl, trivial⟩⟩, ?_⟩
  rintro _ _ _ ⟨j, h1, hj, rfl, rfl, rfl⟩
  conv => whnf
  refine brec (fun h4 => ?_) (fun h4 => ?_)
  · have h4 := of_decide_eq_true h4
    rw [hlh'] at h4
    have hlt : j < hs.length := by omega
    conv => whnf
    refine ⟨⟨by omega, by rw [hlh']; omega⟩, ?_⟩
    rw [hds_getD hlt]
    rw [List.drop_eq_getElem_cons hlt, lookP] at h1
    generalize hs[j]'hlt = a at *
    have e3 : IntKind.i64.wrap ((j : Int) + 1) = ((j + 1 : Nat) : Int) := by rw [w64 (by omega)]; omega
    obtain ⟨ao, an, aw, am⟩ := a
    have hq : hdP o n w ⟨ao, an, aw, am⟩ = (decide (ao = o) && decide (an = n) && decide (aw = w)) := rfl
    rw [hq] at h1
    conv => whnf
    by_cases c1 : ao = o
    · rw [decide_eq_true c1, Bool.true_and] at h1
      refine brT (decide_eq_true c1) ?_
      conv => whnf
      by_cases c2 : an = n
      · rw [decide_eq_true c2, Bool.true_and] at h1
        refine brT (decide_eq_true c2) ?_
        conv => whnf
        by_cases c3 : aw = w
        · rw [decide_eq_true c3, if_pos rfl] at h1
          refine brT (decide_eq_true c3) ?_
          conv => whnf
          rw [← h1]
          exact ⟨rfl, rfl⟩
        · rw [decide_eq_false c3, if_neg (by decide)] at h1
          refine brF (decide_eq_false c3) ?_
          conv => whnf
          exact ⟨_, _, 1, (by omega : hs.length - (j + 1) < hs.length - j), ⟨j + 1, h1, by omega, rfl, rfl, rfl⟩, ⟨rfl, rfl, rfl, rfl, rfl, congrArg (fun z => some (i64 z)) e3, trivial⟩, rfl⟩
      · rw [decide_eq_false c2, Bool.false_and, if_neg (by decide)] at h1
        refine brF (decide_eq_false c2) ?_
        conv => whnf
        exact ⟨_, _, 1, (by omega : hs.length - (j + 1) < hs.length - j), ⟨j + 1, h1, by omega, rfl, rfl, rfl⟩, ⟨rfl, rfl, rfl, rfl, rfl, congrArg (fun z => some (i64 z)) e3, trivial⟩, rfl⟩
    · rw [decide_eq_false c1, Bool.false_and, Bool.false_and, if_neg (by decide)] at h1
      refine brF (decide_eq_false c1) ?_
      conv => whnf
      exact ⟨_, _, 1, (by omega : hs.length - (j + 1) < hs.length - j), ⟨j + 1, h1, by omega, rfl, rfl, rfl⟩, ⟨rfl, rfl, rfl, rfl, rfl, congrArg (fun z => some (i64 z)) e3, trivial⟩, rfl⟩
  · have h4 := of_decide_eq_false h4
    rw [hlh'] at h4
    obtain rfl : j = hs.length := by omega
    rw [List.drop_length, lookP] at h1
    conv => whnf
    rw [← h1]
    exact ⟨rfl, rfl⟩

theorem pset_c {p : Pu} {b : Tk} (hp : p.ok) : CallR cx 126 [.d p.d, .d b.d] [] fun r S => r = .d (Pu.d ⟨putP (tkP b.org b.name) p.toks b, p.holds⟩) ∧ S = [] := by
  have hT := hp.nt
  obtain ⟨ts, hs⟩ := p
  obtain ⟨bo', bn, b1, b2, b3, b4, b5⟩ := b
  simp only at hT ⊢
  have hlt' : (tks ts).length = ts.length := List.length_map _
  obtain ⟨p0, hp0⟩ : ∃ p0 : AV, p0 = .d (Pu.d ⟨ts, hs⟩) := ⟨_, rfl⟩
  refine callR_of (R := R1) cx_ok Tryd.func126 (by kernel_rfl) rfl ?_
  conv => whnf
  refine .inr ⟨78, 7, ?_⟩
  conv => whnf
  refine .inr ⟨fun m L S => ∃ (j : Nat) (dn : Bool) (out : List Tk), out ++ (if dn then ts.drop j else putP (tkP bo' bn) (ts.drop j) ⟨bo', bn, b1, b2, b3, b4, b5⟩) = putP (tkP bo' bn) ts ⟨bo', bn, b1, b2, b3, b4, b5⟩ ∧ out.length = j ∧ j ≤ ts.length ∧ m = ts.length - j ∧
      L = [(2, .ptr 0 []), (3, .ptr 1 []), (4, .ptr 2 []), (5, .row 3), (6, bo dn), (10, .d (.sl 7 (tks ts))), (11, i64 (((tks ts).length : Nat) : Int)), (12, i64 (j : Int))] ∧
      S = [.var (.d (Pu.d ⟨ts, hs⟩)), .var (.d (Tk.d ⟨bo', bn, b1, b2, b3, b4, b5⟩)), .var (.d (.agg [.sl 7 [], .sl 4 []])), .row 78 7 (tks out)],
    ⟨_, _, ⟨0, false, [], rfl, rfl, Nat.zero_le _, rfl, rfl, rfl⟩, ⟨rfl, rfl, rfl, rfl, rfl, rfl, rfl, rfl, trivial⟩⟩, ?_⟩
  rintro _ _ _ ⟨j, dn, out, h1, h2, hj, rfl, rfl, rfl⟩
  have hlo : (tks out).length = out.length := List.length_map _
  conv => whnf
  refine brec (fun h4 => ?_) (fun h4 => ?_)
  · have h4 := of_decide_eq_true h4
    rw [hlt'] at h4
    have hlt : j < ts.length := by omega
    conv => whnf
    refine ⟨⟨by omega, by rw [hlt']; omega⟩, ?_⟩
    rw [tks_getD hlt]
    rw [List.drop_eq_getElem_cons hlt, putP] at h1
    generalize ts[j]'hlt = a at *
    have e3 : IntKind.i64.wrap ((j : Int) + 1) = ((j + 1 : Nat) : Int) := by rw [w64 (by omega)]; omega
    have ea : ∀ x : Tk, tks out ++ [x.d] = tks (out ++ [x]) := fun x => by unfold tks; rw [List.map_append]; rfl
    obtain ⟨ao, an, a1, a2, a3, a4, a5⟩ := a
    have hq : tkP bo' bn ⟨ao, an, a1, a2, a3, a4, a5⟩ = (decide (ao = bo') && decide (an = bn)) := rfl
    rw [hq] at h1
    conv => whnf
    cases dn with
    | true =>
      rw [if_pos rfl] at h1
      conv => whnf
      refine ⟨⟨Nat.succ_pos _, by show ((tks out).length + 1) * (64 + 1) ≤ _; omega⟩, ?_⟩
      conv => whnf
      refine ⟨ts.length - (j + 1), [(2, .ptr 0 []), (3, .ptr 1 []), (4, .ptr 2 []), (5, .row 5), (6, bo true), (10, .d (.sl 7 (tks ts))), (11, i64 (((tks ts).length : Nat) : Int)), (12, i64 ((j + 1 : Nat) : Int))], [0, 1, 2, 5], by omega, ⟨rfl, rfl, rfl, rfl, rfl, rfl, rfl, congrArg (fun z => some (i64 z)) e3, trivial⟩, ?_⟩
      conv => whnf
      refine ⟨j + 1, true, out ++ [⟨ao, an, a1, a2, a3, a4, a5⟩], by rw [if_pos rfl, List.append_assoc]; exact h1, by rw [List.length_append, h2]; rfl, by omega, rfl, rfl, ?_⟩
      exact congrArg (fun z => [Blk.var (.d (Pu.d ⟨ts, hs⟩)), .var (.d (Tk.d ⟨bo', bn, b1, b2, b3, b4, b5⟩)), .var (.d (.agg [.sl 7 [], .sl 4 []])), .row 78 7 z]) (ea ⟨ao, an, a1, a2, a3, a4, a5⟩)
    | false =>
      rw [if_neg (by decide)] at h1
      conv => whnf
      by_cases c1 : ao = bo'
      · rw [decide_eq_true c1, Bool.true_and] at h1
        refine brT (decide_eq_true c1) ?_
        conv => whnf
        by_cases c2 : an = bn
        · rw [decide_eq_true c2, if_pos rfl] at h1
          refine brT (decide_eq_true c2) ?_
          conv => whnf
          refine ⟨⟨Nat.succ_pos _, by show ((tks out).length + 1) * (64 + 1) ≤ _; omega⟩, ?_⟩
          conv => whnf
          refine ⟨ts.length - (j + 1), [(2, .ptr 0 []), (3, .ptr 1 []), (4, .ptr 2 []), (5, .row 5), (6, bo true), (10, .d (.sl 7 (tks ts))), (11, i64 (((tks ts).length : Nat) : Int)), (12, i64 ((j + 1 : Nat) : Int))], [0, 1, 2, 5], by omega, ⟨rfl, rfl, rfl, rfl, rfl, rfl, rfl, congrArg (fun z => some (i64 z)) e3, trivial⟩, ?_⟩
          conv => whnf
          refine ⟨j + 1, true, out ++ [⟨bo', bn, b1, b2, b3, b4, b5⟩], by rw [if_pos rfl, List.append_assoc]; exact h1, by rw [List.length_append, h2]; rfl, by omega, rfl, rfl, ?_⟩
          exact congrArg (fun z => [Blk.var (.d (Pu.d ⟨ts, hs⟩)), .var (.d (Tk.d ⟨bo', bn, b1, b2, b3, b4, b5⟩)), .var (.d (.agg [.sl 7 [], .sl 4 []])), .row 78 7 z]) (ea ⟨bo', bn, b1, b2, b3, b4, b5⟩)
        · rw [decide_eq_false c2, if_neg (by decide)] at h1
          refine brF (decide_eq_false c2) ?_
          conv => whnf
          refine ⟨⟨Nat.succ_pos _, by show ((tks out).length + 1) * (64 + 1) ≤ _; omega⟩, ?_⟩
          conv => whnf
          refine ⟨ts.length - (j + 1), [(2, .ptr 0 []), (3, .ptr 1 []), (4, .ptr 2 []), (5, .row 5), (6, bo false), (10, .d (.sl 7 (tks ts))), (11, i64 (((tks ts).length : Nat) : Int)), (12, i64 ((j + 1 : Nat) : Int))], [0, 1, 2, 5], by omega, ⟨rfl, rfl, rfl, rfl, rfl, rfl, rfl, congrArg (fun z => some (i64 z)) e3, trivial⟩, ?_⟩
          conv => whnf
          refine ⟨j + 1, false, out ++ [⟨ao, an, a1, a2, a3, a4, a5⟩], by rw [if_neg (by decide), List.append_assoc]; exact h1, by rw [List.length_append, h2]; rfl, by omega, rfl, rfl, ?_⟩
          exact congrArg (fun z => [Blk.var (.d (Pu.d ⟨ts, hs⟩)), .var (.d (Tk.d ⟨bo', bn, b1, b2, b3, b4, b5⟩)), .var (.d (.agg [.sl 7 [], .sl 4 []])), .row 78 7 z]) (ea ⟨ao, an, a1, a2, a3, a4, a5⟩)
      · rw [decide_eq_false c1, Bool.false_and, if_neg (by decide)] at h1
        refine brF (decide_eq_false c1) ?_
        conv => whnf
        refine ⟨⟨Nat.succ_pos _, by show ((tks out).length + 1) * (64 + 1) ≤ _; omega⟩, ?_⟩
        conv => whnf
        refine ⟨ts.length - (j + 1), [(2, .ptr 0 []), (3, .ptr 1 []), (4, .ptr 2 []), (5, .row 5), (6, bo false), (10, .d (.sl 7 (tks ts))), (11, i64 (((tks ts).length : Nat) : Int)), (12, i64 ((j + 1 : Nat) : Int))], [0, 1, 2, 5], by omega, ⟨rfl, rfl, rfl, rfl, rfl, rfl, rfl, congrArg (fun z => some (i64 z)) e3, trivial⟩, ?_⟩
        conv => whnf
        refine ⟨j + 1, false, out ++ [⟨ao, an, a1, a2, a3, a4, a5⟩], by rw [if_neg (by decide), List.append_assoc]; exact h1, by rw [List.length_append, h2]; rfl, by omega, rfl, rfl, ?_⟩
        exact congrArg (fun z => [Blk.var (.d (Pu.d ⟨ts, hs⟩)), .var (.d (Tk.d ⟨bo', bn, b1, b2, b3, b4, b5⟩)), .var (.d (.agg [.sl 7 [], .sl 4 []])), .row 78 7 z]) (ea ⟨ao, an, a1, a2, a3, a4, a5⟩)
  · have h4 := of_decide_eq_false h4
    rw [hlt'] at h4
    obtain rfl : j = ts.length := by omega
    rw [List.drop_length] at h1
    have h1 : out = putP (tkP bo' bn) ts ⟨bo', bn, b1, b2, b3, b4, b5⟩ := by cases dn <;> simpa [putP] using h1
    conv => whnf
    rw [← h1]
    exact ⟨rfl, rfl⟩
end Go.Proofs.YtmdfpifcghmpfaaDoor

set_option linter.unusedVariables false
namespace Go.Proofs.YtmdfpifcghmpfaaDoor
open Go.Ab Go.RowKit

def modL (o : Int) (n w : ByteArray) (k : Int) : List Hd → List Hd
  | [] => []
  | h :: l => if hdP o n w h then (if k = 0 then l else { h with amount := k } :: l) else h :: modL o n w k l
theorem modL_some {o k : Int} {n w : ByteArray} : ∀ {l : List Hd} {x : Hd}, lookP (hdP o n w) l = some x → modL o n w k l = if k = 0 then delP (hdP o n w) l else putP (hdP o n w) l { x with amount := k }
  | [], _, h => by cases h
  | a :: l, x, h => by
    rw [lookP] at h
    rw [modL, delP, putP]
    by_cases e : hdP o n w a = true
    · rw [if_pos e] at h ⊢
      cases h
      rw [if_pos e, if_pos e]
    · rw [if_neg e] at h ⊢
      rw [if_neg e, if_neg e, modL_some h]
      split <;> rfl
theorem modL_none {o k : Int} {n w : ByteArray} : ∀ {l : List Hd}, lookP (hdP o n w) l = none → modL o n w k l = l
  | [], _ => rfl
  | a :: l, h => by
    rw [lookP] at h
    split at h
    · cases h
    rename_i e
    rw [modL, if_neg e, modL_none h]
theorem modL_len {o k : Int} {n w : ByteArray} : ∀ (l : List Hd), (modL o n w k l).length ≤ l.length
  | [] => Nat.le_refl _
  | a :: l => by
    rw [modL]
    have := modL_len (o := o) (k := k) (n := n) (w := w) l
    split
    · split <;> simp
    · simp; exact this

theorem hold_c {p : Pu} {o k : Int} {n w : ByteArray} (hp : p.ok) (hn : n.size ≤ 200) (hw : w.size ≤ 200) (hk : U k) :
    CallR cx 123 [.d p.d, .d (.int .u32 o), st n, st w, u64 k] [] fun r S => r = .d (Pu.d ⟨p.toks, putH p.holds o n w k⟩) ∧ S = [] := by
  have hH := hp.nh
  have hho := hp.h
  obtain ⟨ts, hs⟩ := p
  simp only at hH hho ⊢
  unfold U at hk
  have hlh' : (hds hs).length = hs.length := List.length_map _
  refine callR_of (R := R1) cx_ok Tryd.func123 (by kernel_rfl) rfl ?_
  conv => whnf
  refine .inr ⟨129, 4, ?_⟩
  conv => whnf
  refine .inr ⟨fun m L S => ∃ (j : Nat) (dn : Bool) (out : List Hd), (out ++ (if dn then hs.drop j else modL o n w k (hs.drop j)) = modL o n w k hs ∧ (if dn then true else (lookP (hdP o n w) (hs.drop j)).isSome) = (lookP (hdP o n w) hs).isSome ∧ out.length ≤ j ∧ j ≤ hs.length) ∧ m = hs.length - j ∧
      L = [(1, .d (.int .u32 o)), (2, st n), (3, st w), (4, u64 k), (5, .ptr 0 []), (10, .ptr 1 []), (11, .row 2), (12, bo dn), (20, .d (.sl 4 (hds hs))), (21, i64 (((hds hs).length : Nat) : Int)), (22, i64 (j : Int))] ∧ S = [.var (.d (Pu.d ⟨ts, hs⟩)), .var (.d (.agg [.sl 7 [], .sl 4 []])), .row 129 4 (hds out)],
    ⟨_, _, ⟨0, false, [], ⟨rfl, rfl, Nat.le_refl _, Nat.zero_le _⟩, rfl, rfl, rfl⟩, ⟨rfl, rfl, rfl, rfl, rfl, rfl, rfl, rfl, rfl, rfl, rfl, trivial⟩⟩, ?_⟩
  rintro _ _ _ ⟨j, dn, out, ⟨h1, h1', h2, hj⟩, rfl, rfl, rfl⟩
  have hlo : (hds out).length = out.length := List.length_map _
  conv => whnf
  refine brec (fun h4 => ?_) (fun h4 => ?_)
  · have h4 := of_decide_eq_true h4
    rw [hlh'] at h4
    have hlt : j < hs.length := by omega
    conv => whnf
    refine ⟨⟨by omega, by rw [hlh']; omega⟩, ?_⟩
    rw [hds_getD hlt]
    rw [List.drop_eq_getElem_cons hlt, modL] at h1
    rw [List.drop_eq_getElem_cons hlt, lookP] at h1'
    generalize hs[j]'hlt = a at *
    have e3 : IntKind.i64.wrap ((j : Int) + 1) = ((j + 1 : Nat) : Int) := by rw [w64 (by omega)]; omega
    have ea : ∀ x : Hd, hds out ++ [x.d] = hds (out ++ [x]) := fun x => by unfold hds; rw [List.map_append]; rfl
    obtain ⟨ao, an, aw, am⟩ := a
    have hq : hdP o n w ⟨ao, an, aw, am⟩ = (decide (ao = o) && decide (an = n) && decide (aw = w)) := rfl
    rw [hq] at h1 h1'
    conv => whnf
    cases dn with
    | true =>
      rw [if_pos rfl] at h1 h1'
      conv => whnf
      refine ⟨⟨Nat.succ_pos _, by show ((hds out).length + 1) * (48 + 1) ≤ _; omega⟩, ?_⟩
      conv => whnf
      refine ⟨hs.length - (j + 1), [(1, .d (.int .u32 o)), (2, st n), (3, st w), (4, u64 k), (5, .ptr 0 []), (10, .ptr 1 []), (11, .row 4), (12, bo true), (20, .d (.sl 4 (hds hs))), (21, i64 (((hds hs).length : Nat) : Int)), (22, i64 ((j + 1 : Nat) : Int))], [0, 1, 4], by omega, ⟨rfl, rfl, rfl, rfl, rfl, rfl, rfl, rfl, rfl, rfl, congrArg (fun z => some (i64 z)) e3, trivial⟩, ?_⟩
      conv => whnf
      refine ⟨j + 1, true, out ++ [⟨ao, an, aw, am⟩], ⟨by rw [if_pos rfl, List.append_assoc]; exact h1, by rw [if_pos rfl]; exact h1', by rw [List.length_append]; show out.length + 1 ≤ _; omega, by omega⟩, rfl, rfl, ?_⟩
      exact congrArg (fun z => [Blk.var (.d (Pu.d ⟨ts, hs⟩)), .var (.d (.agg [.sl 7 [], .sl 4 []])), .row 129 4 z]) (ea ⟨ao, an, aw, am⟩)
    | false =>
      rw [if_neg (by decide)] at h1 h1'
      conv => whnf
      by_cases c1 : ao = o
      · rw [decide_eq_true c1, Bool.true_and] at h1 h1'
        refine brT (decide_eq_true c1) ?_
        conv => whnf
        by_cases c2 : an = n
        · rw [decide_eq_true c2, Bool.true_and] at h1 h1'
          refine brT (decide_eq_true c2) ?_
          conv => whnf
          by_cases c3 : aw = w
          · rw [decide_eq_true c3, if_pos rfl] at h1 h1'
            refine brT (decide_eq_true c3) ?_
            conv => whnf
            by_cases c4 : k = 0
            · rw [if_pos c4] at h1
              refine brT (decide_eq_true c4) ?_
              conv => whnf
              refine ⟨hs.length - (j + 1), [(1, .d (.int .u32 o)), (2, st n), (3, st w), (4, u64 k), (5, .ptr 0 []), (10, .ptr 1 []), (11, .row 2), (12, bo true), (20, .d (.sl 4 (hds hs))), (21, i64 (((hds hs).length : Nat) : Int)), (22, i64 ((j + 1 : Nat) : Int))], [0, 1, 2], by omega, ⟨rfl, rfl, rfl, rfl, rfl, rfl, rfl, rfl, rfl, rfl, congrArg (fun z => some (i64 z)) e3, trivial⟩, ?_⟩
              conv => whnf
              exact ⟨j + 1, true, out, ⟨by rw [if_pos rfl]; exact h1, by rw [if_pos rfl]; exact h1', by omega, by omega⟩, rfl, rfl, rfl⟩
            · rw [if_neg c4] at h1
              refine brF (decide_eq_false c4) ?_
              conv => whnf
              refine ⟨⟨Nat.succ_pos _, by show ((hds out).length + 1) * (48 + 1) ≤ _; omega⟩, ?_⟩
              conv => whnf
              refine ⟨hs.length - (j + 1), [(1, .d (.int .u32 o)), (2, st n), (3, st w), (4, u64 k), (5, .ptr 0 []), (10, .ptr 1 []), (11, .row 4), (12, bo true), (20, .d (.sl 4 (hds hs))), (21, i64 (((hds hs).length : Nat) : Int)), (22, i64 ((j + 1 : Nat) : Int))], [0, 1, 4], by omega, ⟨rfl, rfl, rfl, rfl, rfl, rfl, rfl, rfl, rfl, rfl, congrArg (fun z => some (i64 z)) e3, trivial⟩, ?_⟩
              conv => whnf
              refine ⟨j + 1, true, out ++ [⟨ao, an, aw, k⟩], ⟨by rw [if_pos rfl, List.append_assoc]; exact h1, by rw [if_pos rfl]; exact h1', by rw [List.length_append]; show out.length + 1 ≤ _; omega, by omega⟩, rfl, rfl, ?_⟩
              exact congrArg (fun z => [Blk.var (.d (Pu.d ⟨ts, hs⟩)), .var (.d (.agg [.sl 7 [], .sl 4 []])), .row 129 4 z]) (ea ⟨ao, an, aw, k⟩)
          · rw [decide_eq_false c3, if_neg (by decide)] at h1 h1'
            refine brF (decide_eq_false c3) ?_
            conv => whnf
            refine ⟨⟨Nat.succ_pos _, by show ((hds out).length + 1) * (48 + 1) ≤ _; omega⟩, ?_⟩
            conv => whnf
            refine ⟨hs.length - (j + 1), [(1, .d (.int .u32 o)), (2, st n), (3, st w), (4, u64 k), (5, .ptr 0 []), (10, .ptr 1 []), (11, .row 4), (12, bo false), (20, .d (.sl 4 (hds hs))), (21, i64 (((hds hs).length : Nat) : Int)), (22, i64 ((j + 1 : Nat) : Int))], [0, 1, 4], by omega, ⟨rfl, rfl, rfl, rfl, rfl, rfl, rfl, rfl, rfl, rfl, congrArg (fun z => some (i64 z)) e3, trivial⟩, ?_⟩
            conv => whnf
            refine ⟨j + 1, false, out ++ [⟨ao, an, aw, am⟩], ⟨by rw [if_neg (by decide), List.append_assoc]; exact h1, by rw [if_neg (by decide)]; exact h1', by rw [List.length_append]; show out.length + 1 ≤ _; omega, by omega⟩, rfl, rfl, ?_⟩
            exact congrArg (fun z => [Blk.var (.d (Pu.d ⟨ts, hs⟩)), .var (.d (.agg [.sl 7 [], .sl 4 []])), .row 129 4 z]) (ea ⟨ao, an, aw, am⟩)
        · rw [decide_eq_false c2, Bool.false_and, if_neg (by decide)] at h1 h1'
          refine brF (decide_eq_false c2) ?_
          conv => whnf
          refine ⟨⟨Nat.succ_pos _, by show ((hds out).length + 1) * (48 + 1) ≤ _; omega⟩, ?_⟩
          conv => whnf
          refine ⟨hs.length - (j + 1), [(1, .d (.int .u32 o)), (2, st n), (3, st w), (4, u64 k), (5, .ptr 0 []), (10, .ptr 1 []), (11, .row 4), (12, bo false), (20, .d (.sl 4 (hds hs))), (21, i64 (((hds hs).length : Nat) : Int)), (22, i64 ((j + 1 : Nat) : Int))], [0, 1, 4], by omega, ⟨rfl, rfl, rfl, rfl, rfl, rfl, rfl, rfl, rfl, rfl, congrArg (fun z => some (i64 z)) e3, trivial⟩, ?_⟩
          conv => whnf
          refine ⟨j + 1, false, out ++ [⟨ao, an, aw, am⟩], ⟨by rw [if_neg (by decide), List.append_assoc]; exact h1, by rw [if_neg (by decide)]; exact h1', by rw [List.length_append]; show out.length + 1 ≤ _; omega, by omega⟩, rfl, rfl, ?_⟩
          exact congrArg (fun z => [Blk.var (.d (Pu.d ⟨ts, hs⟩)), .var (.d (.agg [.sl 7 [], .sl 4 []])), .row 129 4 z]) (ea ⟨ao, an, aw, am⟩)
      · rw [decide_eq_false c1, Bool.false_and, Bool.false_and, if_neg (by decide)] at h1 h1'
        refine brF (decide_eq_false c1) ?_
        conv => whnf
        refine ⟨⟨Nat.succ_pos _, by show ((hds out).length + 1) * (48 + 1) ≤ _; omega⟩, ?_⟩
        conv => whnf
        refine ⟨hs.length - (j + 1), [(1, .d (.int .u32 o)), (2, st n), (3, st w), (4, u64 k), (5, .ptr 0 []), (10, .ptr 1 []), (11, .row 4), (12, bo false), (20, .d (.sl 4 (hds hs))), (21, i64 (((hds hs).length : Nat) : Int)), (22, i64 ((j + 1 : Nat) : Int))], [0, 1, 4], by omega, ⟨rfl, rfl, rfl, rfl, rfl, rfl, rfl, rfl, rfl, rfl, congrArg (fun z => some (i64 z)) e3, trivial⟩, ?_⟩
        conv => whnf
        refine ⟨j + 1, false, out ++ [⟨ao, an, aw, am⟩], ⟨by rw [if_neg (by decide), List.append_assoc]; exact h1, by rw [if_neg (by decide)]; exact h1', by rw [List.length_append]; show out.length + 1 ≤ _; omega, by omega⟩, rfl, rfl, ?_⟩
        exact congrArg (fun z => [Blk.var (.d (Pu.d ⟨ts, hs⟩)), .var (.d (.agg [.sl 7 [], .sl 4 []])), .row 129 4 z]) (ea ⟨ao, an, aw, am⟩)
  · have h4 := of_decide_eq_false h4
    rw [hlh'] at h4
    obtain rfl : j = hs.length := by omega
    rw [List.drop_length] at h1 h1'
    have h1 : out = modL o n w k hs := by cases dn <;> simpa [modL] using h1
    have h1' : dn = (lookP (hdP o n w) hs).isSome := by cases dn <;> simpa [lookP] using h1'
    unfold putH
    simp only
    cases hx : lookP (hdP o n w) hs with
    | some x =>
      rw [hx] at h1'
      rw [modL_some hx] at h1
      simp only
      rw [← h1]
      rw [show dn = true from h1']
      conv => whnf
      exact ⟨rfl, rfl⟩
    | none =>
      rw [hx] at h1'
      rw [modL_none hx] at h1
      simp only
      rw [show dn = false from h1']
      conv => whnf
      by_cases c4 : k = 0
      · rw [if_neg (by omega), ← h1]
        refine brT (decide_eq_true c4) ?_
        conv => whnf
        exact ⟨rfl, rfl⟩
      rw [if_pos (by omega)]
      refine brF (decide_eq_false c4) ?_
      conv => whnf
      refine .inr ⟨129, 4, ?_⟩
      conv => whnf
      obtain ⟨o1, ho1⟩ : ∃ o1, o1 = out := ⟨_, rfl⟩
      rw [← ho1]
      clear ho1 h1 h2 hlo hx h1'
      refine .inr ⟨fun m L S => ∃ (j : Nat) (dn : Bool) (out : List Hd), (out ++ (if dn then hs.drop j else insP (hbP o n w) (hs.drop j) ⟨o, n, w, k⟩) = insP (hbP o n w) hs ⟨o, n, w, k⟩ ∧ out.length ≤ 2 * j ∧ j ≤ hs.length) ∧ m = hs.length - j ∧
          L = [(1, .d (.int .u32 o)), (2, st n), (3, st w), (5, .ptr 0 []), (10, .ptr 1 []), (11, .row 3), (12, bo dn), (15, .ptr 4 []), (69, .d (.sl 4 (hds hs))), (70, i64 (((hds hs).length : Nat) : Int)), (71, i64 (j : Int))] ∧ S = [.var (.d (Pu.d ⟨ts, hs⟩)), .var (.d (.agg [.sl 7 [], .sl 4 []])), .row 129 4 (hds o1), .row 129 4 (hds out), .var (.d (Hd.d ⟨o, n, w, k⟩))],
        ⟨_, _, ⟨0, false, [], ⟨rfl, by decide, Nat.zero_le _⟩, rfl, rfl, rfl⟩, ⟨rfl, rfl, rfl, rfl, rfl, rfl, rfl, rfl, rfl, rfl, rfl, trivial⟩⟩, ?_⟩
      rintro _ _ _ ⟨j, dn, out, ⟨h1, h2, hj⟩, rfl, rfl, rfl⟩
      have hlo : (hds out).length = out.length := List.length_map _
      conv => whnf
      refine brec (fun h4 => ?_) (fun h4 => ?_)
      · have h4 := of_decide_eq_true h4
        rw [hlh'] at h4
        have hlt : j < hs.length := by omega
        conv => whnf
        refine ⟨⟨by omega, by rw [hlh']; omega⟩, ?_⟩
        rw [hds_getD hlt]
        rw [List.drop_eq_getElem_cons hlt, insP] at h1
        have hok := hho _ (List.getElem_mem hlt)
        generalize hs[j]'hlt = a at *
        have e3 : IntKind.i64.wrap ((j : Int) + 1) = ((j + 1 : Nat) : Int) := by rw [w64 (by omega)]; omega
        have ea : ∀ x : Hd, hds out ++ [x.d] = hds (out ++ [x]) := fun x => by unfold hds; rw [List.map_append]; rfl
        have ea2 : ∀ x y : Hd, hds out ++ [x.d] ++ [y.d] = hds (out ++ [x, y]) := fun x y => by unfold hds; rw [List.map_append, List.append_assoc]; rfl
        obtain ⟨ao, an, aw, am⟩ := a
        have s1 := hok.2.1
        have s2 := hok.2.2
        simp only at s1 s2
        have pc := porder_c (o := o) (o' := ao) hn s1
        have rc := rorder_c (a := w) (b := aw) (by omega) (by omega)
        have hq : hbP o n w ⟨ao, an, aw, am⟩ = (decide (ordP o n ao an < 0) || (decide (ordP o n ao an = 0) && decide (ordL (keysAt w 0) (keysAt aw 0) < 0))) := by
          rw [ordP_lt, ordP_eq]; rfl
        rw [hq] at h1
        generalize ordP o n ao an = O1 at *
        generalize ordL (keysAt w 0) (keysAt aw 0) = O2 at *
        conv => whnf
        refine ⟨_, pc, ?_⟩
        rintro _ _ ⟨rfl, rfl⟩
        conv => whnf
        cases dn with
        | true =>
          rw [if_pos rfl] at h1
          conv => whnf
          refine ⟨⟨Nat.succ_pos _, by show ((hds out).length + 1) * (48 + 1) ≤ _; omega⟩, ?_⟩
          conv => whnf
          refine ⟨hs.length - (j + 1), [(1, .d (.int .u32 o)), (2, st n), (3, st w), (5, .ptr 0 []), (10, .ptr 1 []), (11, .row 6), (12, bo true), (15, .ptr 4 []), (69, .d (.sl 4 (hds hs))), (70, i64 (((hds hs).length : Nat) : Int)), (71, i64 ((j + 1 : Nat) : Int))], [0, 1, 2, 6, 4], by omega, ⟨rfl, rfl, rfl, rfl, rfl, rfl, rfl, rfl, rfl, rfl, congrArg (fun z => some (i64 z)) e3, trivial⟩, ?_⟩
          conv => whnf
          refine ⟨j + 1, true, out ++ [⟨ao, an, aw, am⟩], ⟨by rw [if_pos rfl, List.append_assoc]; exact h1, by rw [List.length_append]; first | (show _ + 1 ≤ _; omega) | (show _ + 2 ≤ _; omega), by omega⟩, rfl, rfl, ?_⟩
          exact congrArg (fun z => [Blk.var (.d (Pu.d ⟨ts, hs⟩)), .var (.d (.agg [.sl 7 [], .sl 4 []])), .row 129 4 (hds o1), .row 129 4 z, .var (.d (Hd.d ⟨o, n, w, k⟩))]) (ea ⟨ao, an, aw, am⟩)
        | false =>
          rw [if_neg (by decide)] at h1
          conv => whnf
          by_cases c1 : O1 < 0
          · rw [decide_eq_true c1, Bool.true_or, if_pos rfl] at h1
            refine brT (decide_eq_true c1) ?_
            conv => whnf
            refine ⟨⟨Nat.succ_pos _, by show ((hds out).length + 1) * (48 + 1) ≤ _; omega⟩, ?_⟩
            conv => whnf
            refine ⟨⟨Nat.succ_pos _, by show ((hds out ++ [_]).length + 1) * (48 + 1) ≤ _; rw [List.length_append]; show ((hds out).length + 1 + 1) * _ ≤ _; omega⟩, ?_⟩
            conv => whnf
            refine ⟨hs.length - (j + 1), [(1, .d (.int .u32 o)), (2, st n), (3, st w), (5, .ptr 0 []), (10, .ptr 1 []), (11, .row 7), (12, bo true), (15, .ptr 4 []), (69, .d (.sl 4 (hds hs))), (70, i64 (((hds hs).length : Nat) : Int)), (71, i64 ((j + 1 : Nat) : Int))], [0, 1, 2, 7, 4], by omega, ⟨rfl, rfl, rfl, rfl, rfl, rfl, rfl, rfl, rfl, rfl, congrArg (fun z => some (i64 z)) e3, trivial⟩, ?_⟩
            conv => whnf
            refine ⟨j + 1, true, out ++ [⟨o, n, w, k⟩, ⟨ao, an, aw, am⟩], ⟨by rw [if_pos rfl, List.append_assoc]; exact h1, by rw [List.length_append]; first | (show _ + 1 ≤ _; omega) | (show _ + 2 ≤ _; omega), by omega⟩, rfl, rfl, ?_⟩
            exact congrArg (fun z => [Blk.var (.d (Pu.d ⟨ts, hs⟩)), .var (.d (.agg [.sl 7 [], .sl 4 []])), .row 129 4 (hds o1), .row 129 4 z, .var (.d (Hd.d ⟨o, n, w, k⟩))]) (ea2 ⟨o, n, w, k⟩ ⟨ao, an, aw, am⟩)
          rw [decide_eq_false c1, Bool.false_or] at h1
          refine brF (decide_eq_false c1) ?_
          conv => whnf
          by_cases c2 : O1 = 0
          · rw [decide_eq_true c2, Bool.true_and] at h1
            refine brT (decide_eq_true c2) ?_
            conv => whnf
            refine ⟨_, rc, ?_⟩
            rintro _ _ ⟨rfl, rfl⟩
            conv => whnf
            by_cases c3 : O2 < 0
            · rw [decide_eq_true c3, if_pos rfl] at h1
              refine brT (decide_eq_true c3) ?_
              conv => whnf
              refine ⟨⟨Nat.succ_pos _, by show ((hds out).length + 1) * (48 + 1) ≤ _; omega⟩, ?_⟩
              conv => whnf
              refine ⟨⟨Nat.succ_pos _, by show ((hds out ++ [_]).length + 1) * (48 + 1) ≤ _; rw [List.length_append]; show ((hds out).length + 1 + 1) * _ ≤ _; omega⟩, ?_⟩
              conv => whnf
              refine ⟨hs.length - (j + 1), [(1, .d (.int .u32 o)), (2, st n), (3, st w), (5, .ptr 0 []), (10, .ptr 1 []), (11, .row 7), (12, bo true), (15, .ptr 4 []), (69, .d (.sl 4 (hds hs))), (70, i64 (((hds hs).length : Nat) : Int)), (71, i64 ((j + 1 : Nat) : Int))], [0, 1, 2, 7, 4], by omega, ⟨rfl, rfl, rfl, rfl, rfl, rfl, rfl, rfl, rfl, rfl, congrArg (fun z => some (i64 z)) e3, trivial⟩, ?_⟩
              conv => whnf
              refine ⟨j + 1, true, out ++ [⟨o, n, w, k⟩, ⟨ao, an, aw, am⟩], ⟨by rw [if_pos rfl, List.append_assoc]; exact h1, by rw [List.length_append]; first | (show _ + 1 ≤ _; omega) | (show _ + 2 ≤ _; omega), by omega⟩, rfl, rfl, ?_⟩
              exact congrArg (fun z => [Blk.var (.d (Pu.d ⟨ts, hs⟩)), .var (.d (.agg [.sl 7 [], .sl 4 []])), .row 129 4 (hds o1), .row 129 4 z, .var (.d (Hd.d ⟨o, n, w, k⟩))]) (ea2 ⟨o, n, w, k⟩ ⟨ao, an, aw, am⟩)
            · rw [decide_eq_false c3, if_neg (by decide)] at h1
              refine brF (decide_eq_false c3) ?_
              conv => whnf
              refine ⟨⟨Nat.succ_pos _, by show ((hds out).length + 1) * (48 + 1) ≤ _; omega⟩, ?_⟩
              conv => whnf
              refine ⟨hs.length - (j + 1), [(1, .d (.int .u32 o)), (2, st n), (3, st w), (5, .ptr 0 []), (10, .ptr 1 []), (11, .row 6), (12, bo false), (15, .ptr 4 []), (69, .d (.sl 4 (hds hs))), (70, i64 (((hds hs).length : Nat) : Int)), (71, i64 ((j + 1 : Nat) : Int))], [0, 1, 2, 6, 4], by omega, ⟨rfl, rfl, rfl, rfl, rfl, rfl, rfl, rfl, rfl, rfl, congrArg (fun z => some (i64 z)) e3, trivial⟩, ?_⟩
              conv => whnf
              refine ⟨j + 1, false, out ++ [⟨ao, an, aw, am⟩], ⟨by rw [if_neg (by decide), List.append_assoc]; exact h1, by rw [List.length_append]; first | (show _ + 1 ≤ _; omega) | (show _ + 2 ≤ _; omega), by omega⟩, rfl, rfl, ?_⟩
              exact congrArg (fun z => [Blk.var (.d (Pu.d ⟨ts, hs⟩)), .var (.d (.agg [.sl 7 [], .sl 4 []])), .row 129 4 (hds o1), .row 129 4 z, .var (.d (Hd.d ⟨o, n, w, k⟩))]) (ea ⟨ao, an, aw, am⟩)
          · rw [decide_eq_false c2, Bool.false_and, if_neg (by decide)] at h1
            refine brF (decide_eq_false c2) ?_
            conv => whnf
            refine ⟨⟨Nat.succ_pos _, by show ((hds out).length + 1) * (48 + 1) ≤ _; omega⟩, ?_⟩
            conv => whnf
            refine ⟨hs.length - (j + 1), [(1, .d (.int .u32 o)), (2, st n), (3, st w), (5, .ptr 0 []), (10, .ptr 1 []), (11, .row 6), (12, bo false), (15, .ptr 4 []), (69, .d (.sl 4 (hds hs))), (70, i64 (((hds hs).length : Nat) : Int)), (71, i64 ((j + 1 : Nat) : Int))], [0, 1, 2, 6, 4], by omega, ⟨rfl, rfl, rfl, rfl, rfl, rfl, rfl, rfl, rfl, rfl, congrArg (fun z => some (i64 z)) e3, trivial⟩, ?_⟩
            conv => whnf
            refine ⟨j + 1, false, out ++ [⟨ao, an, aw, am⟩], ⟨by rw [if_neg (by decide), List.append_assoc]; exact h1, by rw [List.length_append]; first | (show _ + 1 ≤ _; omega) | (show _ + 2 ≤ _; omega), by omega⟩, rfl, rfl, ?_⟩
            exact congrArg (fun z => [Blk.var (.d (Pu.d ⟨ts, hs⟩)), .var (.d (.agg [.sl 7 [], .sl 4 []])), .row 129 4 (hds o1), .row 129 4 z, .var (.d (Hd.d ⟨o, n, w, k⟩))]) (ea ⟨ao, an, aw, am⟩)
      · have h4 := of_decide_eq_false h4
        rw [hlh'] at h4
        obtain rfl : j = hs.length := by omega
        rw [List.drop_length, insP] at h1
        have ea : ∀ x : Hd, hds out ++ [x.d] = hds (out ++ [x]) := fun x => by unfold hds; rw [List.map_append]; rfl
        conv => whnf
        cases dn with
        | true =>
          rw [if_pos rfl, List.append_nil] at h1
          conv => whnf
          rw [← h1]
          exact ⟨rfl, rfl⟩
        | false =>
          rw [if_neg (by decide)] at h1
          conv => whnf
          refine ⟨⟨Nat.succ_pos _, by show ((hds out).length + 1) * (48 + 1) ≤ _; omega⟩, ?_⟩
          conv => whnf
          rw [← h1]
          exact ⟨congrArg (fun z => AV.d (.agg [.sl 7 (tks ts), .sl 4 z])) (ea ⟨o, n, w, k⟩), rfl⟩
end Go.Proofs.YtmdfpifcghmpfaaDoor

set_option linter.unusedVariables false
namespace Go.Proofs.YtmdfpifcghmpfaaDoor
open Go.Ab Go.RowKit

theorem renlist_c {p : Pu} {o : Int} {n : ByteArray} {k : Int} (hp : p.ok) (hn : n.size ≤ 200) : CallR cx 83 [.d p.d, .d (.int .u32 o), st n, u64 k] [] fun r S =>
    r = .tup [.d (enlistP p o n k).1.d, i64 (enlistP p o n k).2] ∧ S = [] := by
  have rc := rright_c (s := n) (by omega)
  have kc := rknown_c (o := o) (n := n) hp
  have hT := hp.nt
  have hto := hp.t
  obtain ⟨ts, hs⟩ := p
  simp only at hT hto
  have hlt' : (tks ts).length = ts.length := List.length_map _
  unfold knownP at kc
  unfold enlistP
  simp only at kc ⊢
  cases q : rightT n with
  | false =>
    rw [q] at rc
    rw [if_pos rfl]
    refine callR_of (R := R1) cx_ok Tryd.func83 (by kernel_rfl) rfl ?_
    conv => whnf
    refine ⟨_, rc, ?_⟩
    rintro _ _ ⟨rfl, rfl⟩
    conv => whnf
    exact ⟨rfl, rfl⟩
  | true =>
    rw [q] at rc
    rw [if_neg (by decide)]
    cases hx : lookP (tkP o n) ts with
    | some a =>
      rw [hx] at kc
      simp only at kc ⊢
      obtain ⟨ao, an, a1, a2, a3, a4, a5⟩ := a
      refine callR_of (R := R1) cx_ok Tryd.func83 (by kernel_rfl) rfl ?_
      conv => whnf
      refine ⟨_, rc, ?_⟩
      rintro _ _ ⟨rfl, rfl⟩
      conv => whnf
      refine ⟨_, kc, ?_⟩
      rintro _ _ ⟨rfl, rfl⟩
      conv => whnf
      exact ⟨rfl, rfl⟩
    | none =>
      rw [hx] at kc
      simp only at kc ⊢
      refine callR_of (R := R1) cx_ok Tryd.func83 (by kernel_rfl) rfl ?_
      conv => whnf
      refine ⟨_, rc, ?_⟩
      rintro _ _ ⟨rfl, rfl⟩
      conv => whnf
      refine ⟨_, kc, ?_⟩
      rintro _ _ ⟨rfl, rfl⟩
      conv => whnf
      by_cases c : ((tks ts).length : Int) > 31
      · rw [if_pos (by omega)]
        refine brT (decide_eq_true c) ?_
        conv => whnf
        exact ⟨rfl, rfl⟩
      rw [if_neg (by omega)]
      refine brF (decide_eq_false c) ?_
      conv => whnf
      refine .inr ⟨78, 7, ?_⟩
      conv => whnf
      refine .inr ⟨fun m L S => ∃ (j : Nat) (dn : Bool) (out : List Tk), (out ++ (if dn then ts.drop j else insP (tbP o n) (ts.drop j) ⟨o, n, k, 0, 0, 0, 0⟩) = insP (tbP o n) ts ⟨o, n, k, 0, 0, 0, 0⟩ ∧ out.length ≤ 2 * j ∧ j ≤ ts.length) ∧ m = ts.length - j ∧
          L = [(1, .d (.int .u32 o)), (2, st n), (4, .ptr 0 []), (8, .ptr 1 []), (12, .ptr 3 []), (13, .row 4), (14, bo dn), (40, .d (.sl 7 (tks ts))), (41, i64 (((tks ts).length : Nat) : Int)), (42, i64 (j : Int))] ∧
          S = [Blk.var (.d (Pu.d ⟨ts, hs⟩)), .var (.d (.agg [.sl 7 [], .sl 4 []])), .var (.d tk0.d), .var (.d (Tk.d ⟨o, n, k, 0, 0, 0, 0⟩)), .row 78 7 (tks out)],
        ⟨_, _, ⟨0, false, [], ⟨rfl, by decide, Nat.zero_le _⟩, rfl, rfl, rfl⟩, ⟨rfl, rfl, rfl, rfl, rfl, rfl, rfl, rfl, rfl, rfl, trivial⟩⟩, ?_⟩
      rintro _ _ _ ⟨j, dn, out, ⟨h1, h2, hj⟩, rfl, rfl, rfl⟩
      have hlo : (tks out).length = out.length := List.length_map _
      conv => whnf
      refine brec (fun h4 => ?_) (fun h4 => ?_)
      · have h4 := of_decide_eq_true h4
        rw [hlt'] at h4
        have hlt : j < ts.length := by omega
        conv => whnf
        refine ⟨⟨by omega, by rw [hlt']; omega⟩, ?_⟩
        rw [tks_getD hlt]
        rw [List.drop_eq_getElem_cons hlt, insP] at h1
        have hok := (hto _ (List.getElem_mem hlt)).2.2.2.2.2
        generalize ts[j]'hlt = a at *
        have e3 : IntKind.i64.wrap ((j : Int) + 1) = ((j + 1 : Nat) : Int) := by rw [w64 (by omega)]; omega
        have ea : ∀ x : Tk, tks out ++ [x.d] = tks (out ++ [x]) := fun x => by unfold tks; rw [List.map_append]; rfl
        have ea2 : ∀ x y : Tk, tks out ++ [x.d] ++ [y.d] = tks (out ++ [x, y]) := fun x y => by unfold tks; rw [List.map_append, List.append_assoc]; rfl
        obtain ⟨ao, an, a1, a2, a3, a4, a5⟩ := a
        simp only at hok
        have pc := porder_c (o := o) (o' := ao) hn hok
        have hq : tbP o n ⟨ao, an, a1, a2, a3, a4, a5⟩ = decide (ordP o n ao an < 0) := ordP_lt.symm
        rw [hq] at h1
        generalize ordP o n ao an = O1 at *
        conv => whnf
        cases dn with
        | true =>
          rw [if_pos rfl] at h1
          conv => whnf
          refine ⟨⟨Nat.succ_pos _, by show ((tks out).length + 1) * (64 + 1) ≤ _; omega⟩, ?_⟩
          conv => whnf
          refine ⟨ts.length - (j + 1), [(1, .d (.int .u32 o)), (2, st n), (4, .ptr 0 []), (8, .ptr 1 []), (12, .ptr 3 []), (13, .row 6), (14, bo true), (40, .d (.sl 7 (tks ts))), (41, i64 (((tks ts).length : Nat) : Int)), (42, i64 ((j + 1 : Nat) : Int))], [0, 1, 2, 3, 6], by omega, ⟨rfl, rfl, rfl, rfl, rfl, rfl, rfl, rfl, rfl, congrArg (fun z => some (i64 z)) e3, trivial⟩, ?_⟩
          conv => whnf
          refine ⟨j + 1, true, out ++ [⟨ao, an, a1, a2, a3, a4, a5⟩], ⟨by rw [if_pos rfl, List.append_assoc]; exact h1, by rw [List.length_append]; first | (show _ + 1 ≤ _; omega) | (show _ + 2 ≤ _; omega), by omega⟩, rfl, rfl, ?_⟩
          exact congrArg (fun z => [Blk.var (.d (Pu.d ⟨ts, hs⟩)), .var (.d (.agg [.sl 7 [], .sl 4 []])), .var (.d tk0.d), .var (.d (Tk.d ⟨o, n, k, 0, 0, 0, 0⟩)), .row 78 7 z]) (ea ⟨ao, an, a1, a2, a3, a4, a5⟩)
        | false =>
          rw [if_neg (by decide)] at h1
          conv => whnf
          refine ⟨_, pc, ?_⟩
          rintro _ _ ⟨rfl, rfl⟩
          conv => whnf
          by_cases c5 : O1 < 0
          · rw [decide_eq_true c5, if_pos rfl] at h1
            refine brT (decide_eq_true c5) ?_
            conv => whnf
            refine ⟨⟨Nat.succ_pos _, by show ((tks out).length + 1) * (64 + 1) ≤ _; omega⟩, ?_⟩
            conv => whnf
            refine ⟨⟨Nat.succ_pos _, by show ((tks out ++ [_]).length + 1) * (64 + 1) ≤ _; rw [List.length_append]; show ((tks out).length + 1 + 1) * _ ≤ _; omega⟩, ?_⟩
            conv => whnf
            refine ⟨ts.length - (j + 1), [(1, .d (.int .u32 o)), (2, st n), (4, .ptr 0 []), (8, .ptr 1 []), (12, .ptr 3 []), (13, .row 7), (14, bo true), (40, .d (.sl 7 (tks ts))), (41, i64 (((tks ts).length : Nat) : Int)), (42, i64 ((j + 1 : Nat) : Int))], [0, 1, 2, 3, 7], by omega, ⟨rfl, rfl, rfl, rfl, rfl, rfl, rfl, rfl, rfl, congrArg (fun z => some (i64 z)) e3, trivial⟩, ?_⟩
            conv => whnf
            refine ⟨j + 1, true, out ++ [⟨o, n, k, 0, 0, 0, 0⟩, ⟨ao, an, a1, a2, a3, a4, a5⟩], ⟨by rw [if_pos rfl, List.append_assoc]; exact h1, by rw [List.length_append]; first | (show _ + 1 ≤ _; omega) | (show _ + 2 ≤ _; omega), by omega⟩, rfl, rfl, ?_⟩
            exact congrArg (fun z => [Blk.var (.d (Pu.d ⟨ts, hs⟩)), .var (.d (.agg [.sl 7 [], .sl 4 []])), .var (.d tk0.d), .var (.d (Tk.d ⟨o, n, k, 0, 0, 0, 0⟩)), .row 78 7 z]) (ea2 ⟨o, n, k, 0, 0, 0, 0⟩ ⟨ao, an, a1, a2, a3, a4, a5⟩)
          · rw [decide_eq_false c5, if_neg (by decide)] at h1
            refine brF (decide_eq_false c5) ?_
            conv => whnf
            refine ⟨⟨Nat.succ_pos _, by show ((tks out).length + 1) * (64 + 1) ≤ _; omega⟩, ?_⟩
            conv => whnf
            refine ⟨ts.length - (j + 1), [(1, .d (.int .u32 o)), (2, st n), (4, .ptr 0 []), (8, .ptr 1 []), (12, .ptr 3 []), (13, .row 6), (14, bo false), (40, .d (.sl 7 (tks ts))), (41, i64 (((tks ts).length : Nat) : Int)), (42, i64 ((j + 1 : Nat) : Int))], [0, 1, 2, 3, 6], by omega, ⟨rfl, rfl, rfl, rfl, rfl, rfl, rfl, rfl, rfl, congrArg (fun z => some (i64 z)) e3, trivial⟩, ?_⟩
            conv => whnf
            refine ⟨j + 1, false, out ++ [⟨ao, an, a1, a2, a3, a4, a5⟩], ⟨by rw [if_neg (by decide), List.append_assoc]; exact h1, by rw [List.length_append]; first | (show _ + 1 ≤ _; omega) | (show _ + 2 ≤ _; omega), by omega⟩, rfl, rfl, ?_⟩
            exact congrArg (fun z => [Blk.var (.d (Pu.d ⟨ts, hs⟩)), .var (.d (.agg [.sl 7 [], .sl 4 []])), .var (.d tk0.d), .var (.d (Tk.d ⟨o, n, k, 0, 0, 0, 0⟩)), .row 78 7 z]) (ea ⟨ao, an, a1, a2, a3, a4, a5⟩)
      · have h4 := of_decide_eq_false h4
        rw [hlt'] at h4
        obtain rfl : j = ts.length := by omega
        rw [List.drop_length, insP] at h1
        have ea : ∀ x : Tk, tks out ++ [x.d] = tks (out ++ [x]) := fun x => by unfold tks; rw [List.map_append]; rfl
        conv => whnf
        cases dn with
        | true =>
          rw [if_pos rfl, List.append_nil] at h1
          conv => whnf
          rw [← h1]
          exact ⟨rfl, rfl⟩
        | false =>
          rw [if_neg (by decide)] at h1
          conv => whnf
          refine ⟨⟨Nat.succ_pos _, by show ((tks out).length + 1) * (64 + 1) ≤ _; omega⟩, ?_⟩
          conv => whnf
          rw [← h1]
          exact ⟨congrArg (fun z => AV.tup [.d (.agg [.sl 7 z, .sl 4 (hds hs)]), i64 0]) (ea ⟨o, n, k, 0, 0, 0, 0⟩), rfl⟩

theorem minus_c {a b : Int} (ha : U a) (hb : U b) : CallR cx 151 [u64 a, u64 b] [] fun r S => r = u64 (if a < b then 0 else a - b) ∧ S = [] := by
  obtain ⟨ha1, ha2⟩ := ha
  obtain ⟨hb1, hb2⟩ := hb
  refine callR_of (R := R1) cx_ok Tryd.func151 (by kernel_rfl) rfl ?_
  conv => whnf
  by_cases c : b > a
  · rw [if_pos (by omega)]
    refine brT (decide_eq_true c) ?_
    conv => whnf
    exact ⟨rfl, rfl⟩
  · rw [if_neg (by omega)]
    refine brF (decide_eq_false c) ?_
    conv => whnf
    rw [Go.Ab.wrap64]
    exact ⟨congrArg u64 (by omega), rfl⟩

theorem rout_c {t : Tk} (ht : t.ok) : CallR cx 127 [.d t.d] [] fun r S => r = .tup [u64 (outM t), u64 (outL t)] ∧ S = [] := by
  have s1 := minus_c ht.2.2.2.1 ht.2.2.2.2.1
  have s2 := minus_c ht.2.1 ht.2.2.1
  obtain ⟨o, n, a, b, c, d, e⟩ := t
  unfold outM outL
  simp only at s1 s2 ⊢
  generalize (if d < e then (0 : Int) else d - e) = X at *
  generalize (if b < c then (0 : Int) else b - c) = Y at *
  refine callR_of (R := R1) cx_ok Tryd.func127 (by kernel_rfl) rfl ?_
  conv => whnf
  refine ⟨by kernel_rfl, ?_⟩
  conv => whnf
  refine ⟨_, s1, ?_⟩
  conv => whnf
  refine ⟨_, s2, ?_⟩
  conv => whnf
  refine ⟨by kernel_rfl, ?_⟩
  conv => whnf
  exact ⟨rfl, rfl⟩
end Go.Proofs.YtmdfpifcghmpfaaDoor
