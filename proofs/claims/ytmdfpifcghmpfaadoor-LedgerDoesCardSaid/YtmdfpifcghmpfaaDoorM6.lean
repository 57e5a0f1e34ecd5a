/- Ledgers: what both do. -/
import Derived.Test.YtmdfpifcghmpfaaDoorM5
namespace Go.Proofs.YtmdfpifcghmpfaaDoor
open Go.Ab Go.RowKit

def doL (l : Lg) (q : Int) (a b : ByteArray) (n : Int) (key : List D) (ev : D) : Lg :=
  if q = 0 then (openL l a key n).1 else if q = 1 ∨ q = -1 then (giveL l a n).1 else if q = 2 ∨ q = -2 then (takeL l a n).1 else if q = 3 ∨ q = -3 then (moveL l a b n).1
  else if q = 4 ∨ q = -4 then (bumpL l a n).1 else if q = 5 ∨ q = -5 then (spendL l n).1 else if q = 6 ∨ q = -6 then (tickL l n).1 else if q = 7 ∨ q = -7 then noteL l ev else l

/-- An act. -/
def actD (k : Int) (a b : ByteArray) (n : Int) (key : List D) (e : D) : D := .agg [.int .i64 k, .str a, .str b, .int .u64 n, .arr 32 1 key, e]

theorem do_c {l : Lg} {k : Int} {a b : ByteArray} {n : Int} {key : List D} {e : D} (hl : l.ok) (hn : ∀ a ∈ l.accs, a.name.size ≤ 200) (he : ∀ e ∈ l.evs, evOk e) (hel : l.evs.length ≤ 99999) (ha : a.size ≤ 200) (hU : U n) (hev : evOk e) :
    CallR cx 20 [.d l.d, .d l.d, .d (actD k a b n key e)] [] fun r S => r = .tup [.d (doL l (Int.tmod k 9) a b n key e).d, .d (doL l (Int.tmod k 9) a b n key e).d, bo true] ∧ S = [] := by
  obtain ⟨ek, es, en, ed, rfl, hkd⟩ := hev
  refine callR_of (R := R1) cx_ok Tryd.func20 (by kernel_rfl) rfl ?_
  conv => whnf
  refine ⟨by decide, ?_⟩
  generalize Int.tmod k 9 = q
  have hcase : (q = 0 ∨ q = 1 ∨ q = -1 ∨ q = 2 ∨ q = -2 ∨ q = 3 ∨ q = -3 ∨ q = 4 ∨ q = -4 ∨ q = 5 ∨ q = -5 ∨ q = 6 ∨ q = -6 ∨ q = 7 ∨ q = -7) ∨ (q ≠ 0 ∧ q ≠ 1 ∧ q ≠ -1 ∧ q ≠ 2 ∧ q ≠ -2 ∧ q ≠ 3 ∧ q ≠ -3 ∧ q ≠ 4 ∧ q ≠ -4 ∧ q ≠ 5 ∧ q ≠ -5 ∧ q ≠ 6 ∧ q ≠ -6 ∧ q ≠ 7 ∧ q ≠ -7) := by omega
  rcases hcase with (rfl | rfl | rfl | rfl | rfl | rfl | rfl | rfl | rfl | rfl | rfl | rfl | rfl | rfl | rfl) | hne
  · conv => whnf
    refine ⟨_, open_c hl hn ha, ?_⟩
    rintro _ _ ⟨rfl, rfl⟩
    conv => whnf
    refine ⟨_, ropen_c hl hn ha, ?_⟩
    rintro _ _ ⟨rfl, rfl⟩
    conv => whnf
    refine ⟨by kernel_rfl, ?_⟩
    conv => whnf
    refine ⟨by kernel_rfl, ?_⟩
    conv => whnf
    refine ⟨?_, rfl⟩
    show AV.tup [_, _, bo (decide (_ = _))] = _
    rw [decide_eq_true rfl]
    rfl
  · conv => whnf
    refine ⟨_, give_c hl hU, ?_⟩
    rintro _ _ ⟨rfl, rfl⟩
    conv => whnf
    refine ⟨_, rgive_c hl hU, ?_⟩
    rintro _ _ ⟨rfl, rfl⟩
    conv => whnf
    refine ⟨by kernel_rfl, ?_⟩
    conv => whnf
    refine ⟨by kernel_rfl, ?_⟩
    conv => whnf
    refine ⟨?_, rfl⟩
    show AV.tup [_, _, bo (decide (_ = _))] = _
    rw [decide_eq_true rfl]
    rfl
  · conv => whnf
    refine ⟨_, give_c hl hU, ?_⟩
    rintro _ _ ⟨rfl, rfl⟩
    conv => whnf
    refine ⟨_, rgive_c hl hU, ?_⟩
    rintro _ _ ⟨rfl, rfl⟩
    conv => whnf
    refine ⟨by kernel_rfl, ?_⟩
    conv => whnf
    refine ⟨by kernel_rfl, ?_⟩
    conv => whnf
    refine ⟨?_, rfl⟩
    show AV.tup [_, _, bo (decide (_ = _))] = _
    rw [decide_eq_true rfl]
    rfl
  · conv => whnf
    refine ⟨_, take_c hl hU, ?_⟩
    rintro _ _ ⟨rfl, rfl⟩
    conv => whnf
    refine ⟨_, rtake_c hl hU, ?_⟩
    rintro _ _ ⟨rfl, rfl⟩
    conv => whnf
    refine ⟨by kernel_rfl, ?_⟩
    conv => whnf
    refine ⟨by kernel_rfl, ?_⟩
    conv => whnf
    refine ⟨?_, rfl⟩
    show AV.tup [_, _, bo (decide (_ = _))] = _
    rw [decide_eq_true rfl]
    rfl
  · conv => whnf
    refine ⟨_, take_c hl hU, ?_⟩
    rintro _ _ ⟨rfl, rfl⟩
    conv => whnf
    refine ⟨_, rtake_c hl hU, ?_⟩
    rintro _ _ ⟨rfl, rfl⟩
    conv => whnf
    refine ⟨by kernel_rfl, ?_⟩
    conv => whnf
    refine ⟨by kernel_rfl, ?_⟩
    conv => whnf
    refine ⟨?_, rfl⟩
    show AV.tup [_, _, bo (decide (_ = _))] = _
    rw [decide_eq_true rfl]
    rfl
  · conv => whnf
    refine ⟨_, move_c hl hU, ?_⟩
    rintro _ _ ⟨rfl, rfl⟩
    conv => whnf
    refine ⟨_, rmove_c hl hU, ?_⟩
    rintro _ _ ⟨rfl, rfl⟩
    conv => whnf
    refine ⟨by kernel_rfl, ?_⟩
    conv => whnf
    refine ⟨by kernel_rfl, ?_⟩
    conv => whnf
    refine ⟨?_, rfl⟩
    show AV.tup [_, _, bo (decide (_ = _))] = _
    rw [decide_eq_true rfl]
    rfl
  · conv => whnf
    refine ⟨_, move_c hl hU, ?_⟩
    rintro _ _ ⟨rfl, rfl⟩
    conv => whnf
    refine ⟨_, rmove_c hl hU, ?_⟩
    rintro _ _ ⟨rfl, rfl⟩
    conv => whnf
    refine ⟨by kernel_rfl, ?_⟩
    conv => whnf
    refine ⟨by kernel_rfl, ?_⟩
    conv => whnf
    refine ⟨?_, rfl⟩
    show AV.tup [_, _, bo (decide (_ = _))] = _
    rw [decide_eq_true rfl]
    rfl
  · conv => whnf
    refine ⟨_, bump_c hl hU, ?_⟩
    rintro _ _ ⟨rfl, rfl⟩
    conv => whnf
    refine ⟨_, rbump_c hl hU, ?_⟩
    rintro _ _ ⟨rfl, rfl⟩
    conv => whnf
    refine ⟨by kernel_rfl, ?_⟩
    conv => whnf
    refine ⟨by kernel_rfl, ?_⟩
    conv => whnf
    refine ⟨?_, rfl⟩
    show AV.tup [_, _, bo (decide (_ = _))] = _
    rw [decide_eq_true rfl]
    rfl
  · conv => whnf
    refine ⟨_, bump_c hl hU, ?_⟩
    rintro _ _ ⟨rfl, rfl⟩
    conv => whnf
    refine ⟨_, rbump_c hl hU, ?_⟩
    rintro _ _ ⟨rfl, rfl⟩
    conv => whnf
    refine ⟨by kernel_rfl, ?_⟩
    conv => whnf
    refine ⟨by kernel_rfl, ?_⟩
    conv => whnf
    refine ⟨?_, rfl⟩
    show AV.tup [_, _, bo (decide (_ = _))] = _
    rw [decide_eq_true rfl]
    rfl
  · conv => whnf
    refine ⟨_, spend_c hl hU, ?_⟩
    rintro _ _ ⟨rfl, rfl⟩
    conv => whnf
    refine ⟨_, rspend_c hl hU, ?_⟩
    rintro _ _ ⟨rfl, rfl⟩
    conv => whnf
    refine ⟨by kernel_rfl, ?_⟩
    conv => whnf
    refine ⟨by kernel_rfl, ?_⟩
    conv => whnf
    refine ⟨?_, rfl⟩
    show AV.tup [_, _, bo (decide (_ = _))] = _
    rw [decide_eq_true rfl]
    rfl
  · conv => whnf
    refine ⟨_, spend_c hl hU, ?_⟩
    rintro _ _ ⟨rfl, rfl⟩
    conv => whnf
    refine ⟨_, rspend_c hl hU, ?_⟩
    rintro _ _ ⟨rfl, rfl⟩
    conv => whnf
    refine ⟨by kernel_rfl, ?_⟩
    conv => whnf
    refine ⟨by kernel_rfl, ?_⟩
    conv => whnf
    refine ⟨?_, rfl⟩
    show AV.tup [_, _, bo (decide (_ = _))] = _
    rw [decide_eq_true rfl]
    rfl
  · conv => whnf
    refine ⟨_, tick_c hl hU, ?_⟩
    rintro _ _ ⟨rfl, rfl⟩
    conv => whnf
    refine ⟨_, rtick_c hl hU, ?_⟩
    rintro _ _ ⟨rfl, rfl⟩
    conv => whnf
    refine ⟨by kernel_rfl, ?_⟩
    conv => whnf
    refine ⟨by kernel_rfl, ?_⟩
    conv => whnf
    refine ⟨?_, rfl⟩
    show AV.tup [_, _, bo (decide (_ = _))] = _
    rw [decide_eq_true rfl]
    rfl
  · conv => whnf
    refine ⟨_, tick_c hl hU, ?_⟩
    rintro _ _ ⟨rfl, rfl⟩
    conv => whnf
    refine ⟨_, rtick_c hl hU, ?_⟩
    rintro _ _ ⟨rfl, rfl⟩
    conv => whnf
    refine ⟨by kernel_rfl, ?_⟩
    conv => whnf
    refine ⟨by kernel_rfl, ?_⟩
    conv => whnf
    refine ⟨?_, rfl⟩
    show AV.tup [_, _, bo (decide (_ = _))] = _
    rw [decide_eq_true rfl]
    rfl
  · conv => whnf
    refine ⟨by kernel_rfl, ?_⟩
    conv => whnf
    refine ⟨_, note_c hel, ?_⟩
    conv => whnf
    refine ⟨_, rnote_c hl he (by omega), ?_⟩
    conv => whnf
    refine ⟨by kernel_rfl, ?_⟩
    conv => whnf
    refine ⟨by kernel_rfl, ?_⟩
    conv => whnf
    refine ⟨by kernel_rfl, ?_⟩
    conv => whnf
    refine ⟨?_, rfl⟩
    show AV.tup [_, _, bo (decide (_ = _))] = _
    rw [decide_eq_true rfl]
    rfl
  · conv => whnf
    refine ⟨by kernel_rfl, ?_⟩
    conv => whnf
    refine ⟨_, note_c hel, ?_⟩
    conv => whnf
    refine ⟨_, rnote_c hl he (by omega), ?_⟩
    conv => whnf
    refine ⟨by kernel_rfl, ?_⟩
    conv => whnf
    refine ⟨by kernel_rfl, ?_⟩
    conv => whnf
    refine ⟨by kernel_rfl, ?_⟩
    conv => whnf
    refine ⟨?_, rfl⟩
    show AV.tup [_, _, bo (decide (_ = _))] = _
    rw [decide_eq_true rfl]
    rfl
  · obtain ⟨h0, h1, h2, h3, h4, h5, h6, h7, h8, h9, h10, h11, h12, h13, h14⟩ := hne
    have hd : doL l q a b n key (.agg [.int .i64 ek, .str es, .int .u64 en, .arr 32 1 ed]) = l := by
      unfold doL
      rw [if_neg h0, if_neg (by omega), if_neg (by omega), if_neg (by omega), if_neg (by omega), if_neg (by omega), if_neg (by omega), if_neg (by omega)]
    rw [hd]
    conv => whnf
    refine brF (decide_eq_false h0) ?_
    conv => whnf
    refine brF (decide_eq_false h1) ?_
    conv => whnf
    refine brF (decide_eq_false h2) ?_
    conv => whnf
    refine brF (decide_eq_false h3) ?_
    conv => whnf
    refine brF (decide_eq_false h4) ?_
    conv => whnf
    refine brF (decide_eq_false h5) ?_
    conv => whnf
    refine brF (decide_eq_false h6) ?_
    conv => whnf
    refine brF (decide_eq_false h7) ?_
    conv => whnf
    refine brF (decide_eq_false h8) ?_
    conv => whnf
    refine brF (decide_eq_false h9) ?_
    conv => whnf
    refine brF (decide_eq_false h10) ?_
    conv => whnf
    refine brF (decide_eq_false h11) ?_
    conv => whnf
    refine brF (decide_eq_false h12) ?_
    conv => whnf
    refine brF (decide_eq_false h13) ?_
    conv => whnf
    refine brF (decide_eq_false h14) ?_
    conv => whnf
    refine ⟨by kernel_rfl, ?_⟩
    conv => whnf
    refine ⟨by kernel_rfl, ?_⟩
    conv => whnf
    exact ⟨rfl, rfl⟩
end Go.Proofs.YtmdfpifcghmpfaaDoor
