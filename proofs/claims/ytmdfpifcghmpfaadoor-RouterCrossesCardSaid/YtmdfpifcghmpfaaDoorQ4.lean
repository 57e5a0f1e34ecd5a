/- Purses: a token's place, a holding's; who holds how much; a token more. -/
import Derived.Test.YtmdfpifcghmpfaaDoorQ3
namespace Go.Proofs.YtmdfpifcghmpfaaDoor
open Go.Ab Go.RowKit

def tkP (o : Int) (n : ByteArray) (t : Tk) : Bool := same2 t.org t.name o n
def hdP (o : Int) (n w : ByteArray) (h : Hd) : Bool := same2 h.org h.token o n && decide (h.owner = w)
def tbP (o : Int) (n : ByteArray) (t : Tk) : Bool := bef o n t.org t.name
def hbP (o : Int) (n w : ByteArray) (h : Hd) : Bool := bef o n h.org h.token || (same2 o n h.org h.token && decide (ordN w h.owner < 0))

theorem token_c {p : Pu} {o : Int} {n : ByteArray} (hp : p.ok) : CallR cx 79 [.d p.d, .d (ky o n)] [] fun r S => r = i64 (ixOf (tkP o n) p.toks 0) ∧ S = [] := by
  have ix := ixT_c (f := 119) (p := tkP o n) (x0 := ky o n) hp.nt (fun t _ => token1_c)
  obtain ⟨ts, hs⟩ := p
  refine callR_of (R := R1) cx_ok Tryd.func79 (by kernel_rfl) rfl ?_
  conv => whnf
  refine ⟨_, ix, ?_⟩
  rintro _ _ ⟨rfl, rfl⟩
  conv => whnf
  exact ⟨rfl, rfl⟩

theorem holding_c {p : Pu} {o : Int} {n w : ByteArray} (hp : p.ok) : CallR cx 102 [.d p.d, .d (ky o n), st w] [] fun r S => r = i64 (ixOf (hdP o n w) p.holds 0) ∧ S = [] := by
  have ix := ixH_c (f := 140) (p := hdP o n w) (x0 := ky o n) (x1 := .str w) hp.nh (fun t _ => holding1_c)
  obtain ⟨ts, hs⟩ := p
  refine callR_of (R := R1) cx_ok Tryd.func102 (by kernel_rfl) rfl ?_
  conv => whnf
  refine ⟨_, ix, ?_⟩
  rintro _ _ ⟨rfl, rfl⟩
  conv => whnf
  exact ⟨rfl, rfl⟩

def tk0 : Tk := ⟨0, .empty, 0, 0, 0, 0, 0⟩
def knownP (p : Pu) (o : Int) (n : ByteArray) : Tk × Bool := match lookP (tkP o n) p.toks with
  | none => (tk0, false)
  | some t => (t, true)
def heldV (p : Pu) (o : Int) (n w : ByteArray) : Int := match lookP (hdP o n w) p.holds with
  | none => 0
  | some h => h.amount

theorem known_c {p : Pu} {o : Int} {n : ByteArray} (hp : p.ok) : CallR cx 40 [.d p.d, .d (.int .u32 o), st n] [] fun r S => r = .tup [.d (knownP p o n).1.d, bo (knownP p o n).2] ∧ S = [] := by
  have tc := token_c (o := o) (n := n) hp
  have hix := ix_look (tkP o n) p.toks 0
  obtain ⟨ts, hs⟩ := p
  simp only at hix tc
  have hlen : (tks ts).length = ts.length := List.length_map _
  unfold knownP
  simp only
  rcases hix with ⟨h1, h2⟩ | ⟨j, hj, h1, h2, _⟩
  · rw [h1] at tc
    rw [h2]
    refine callR_of (R := R1) cx_ok Tryd.func40 (by kernel_rfl) rfl ?_
    conv => whnf
    refine ⟨_, tc, ?_⟩
    rintro _ _ ⟨rfl, rfl⟩
    conv => whnf
    exact ⟨rfl, rfl⟩
  · rw [h1, Nat.zero_add] at tc
    rw [h2]
    have hgd := tks_getD hj
    generalize ts[j]'hj = a at *
    generalize hJ : (j : Int) = J at *
    refine callR_of (R := R1) cx_ok Tryd.func40 (by kernel_rfl) rfl ?_
    conv => whnf
    refine ⟨_, tc, ?_⟩
    rintro _ _ ⟨rfl, rfl⟩
    conv => whnf
    refine brF (decide_eq_false (by omega)) ?_
    conv => whnf
    refine ⟨⟨by omega, by rw [hlen]; omega⟩, ?_⟩
    rw [hgd]
    conv => whnf
    exact ⟨rfl, rfl⟩

theorem heldv_c {p : Pu} {o : Int} {n w : ByteArray} (hp : p.ok) : CallR cx 47 [.d p.d, .d (.int .u32 o), st n, st w] [] fun r S => r = u64 (heldV p o n w) ∧ S = [] := by
  have tc := holding_c (o := o) (n := n) (w := w) hp
  have hix := ix_look (hdP o n w) p.holds 0
  obtain ⟨ts, hs⟩ := p
  simp only at hix tc
  have hlen : (hds hs).length = hs.length := List.length_map _
  unfold heldV
  simp only
  rcases hix with ⟨h1, h2⟩ | ⟨j, hj, h1, h2, _⟩
  · rw [h1] at tc
    rw [h2]
    refine callR_of (R := R1) cx_ok Tryd.func47 (by kernel_rfl) rfl ?_
    conv => whnf
    refine ⟨_, tc, ?_⟩
    rintro _ _ ⟨rfl, rfl⟩
    conv => whnf
    exact ⟨rfl, rfl⟩
  · rw [h1, Nat.zero_add] at tc
    rw [h2]
    have hgd := hds_getD hj
    generalize hs[j]'hj = a at *
    generalize hJ : (j : Int) = J at *
    refine callR_of (R := R1) cx_ok Tryd.func47 (by kernel_rfl) rfl ?_
    conv => whnf
    refine ⟨_, tc, ?_⟩
    rintro _ _ ⟨rfl, rfl⟩
    conv => whnf
    refine brF (decide_eq_false (by omega)) ?_
    conv => whnf
    refine ⟨⟨by omega, by rw [hlen]; omega⟩, ?_⟩
    rw [hgd]
    conv => whnf
    exact ⟨rfl, rfl⟩

theorem pwith_c {p : Pu} {i : Nat} {t : Tk} (hp : p.ok) (hi : i < p.toks.length) : CallR cx 82 [.d p.d, i64 (i : Int), .d t.d] [] fun r S => r = .d (Pu.d ⟨p.toks.set i t, p.holds⟩) ∧ S = [] := by
  have c1 := cloneT_c (l := p.toks) hp.nt
  obtain ⟨ts, hs⟩ := p
  simp only at c1 hi
  have hlen : (tks ts).length = ts.length := List.length_map _
  have hset : tks (ts.set i t) = (tks ts).set (i : Int).toNat t.d := by simp [tks, List.map_set]
  unfold Pu.d
  simp only
  rw [hset]
  generalize hJ : (i : Int) = J at *
  refine callR_of (R := R1) cx_ok Tryd.func82 (by kernel_rfl) rfl ?_
  conv => whnf
  refine ⟨_, c1, ?_⟩
  rintro _ _ ⟨rfl, rfl⟩
  conv => whnf
  refine ⟨⟨by omega, by rw [hlen]; omega⟩, ?_⟩
  conv => whnf
  refine ⟨by rw [hlen]; omega, ?_⟩
  conv => whnf
  exact ⟨rfl, rfl⟩

def enlistP (p : Pu) (o : Int) (n : ByteArray) (k : Int) : Pu × Int :=
  if rightT n = false then (p, 7) else match lookP (tkP o n) p.toks with
    | some _ => (p, 13)
    | none => if p.toks.length > 31 then (p, 6) else (⟨insP (tbP o n) p.toks ⟨o, n, k, 0, 0, 0, 0⟩, p.holds⟩, 0)

theorem enlist_c {p : Pu} {o : Int} {n : ByteArray} {k : Int} (hp : p.ok) (hn : n.size ≤ 1000) : CallR cx 43 [.d p.d, .d (.int .u32 o), st n, u64 k] [] fun r S =>
    r = .tup [.d (enlistP p o n k).1.d, i64 (enlistP p o n k).2] ∧ S = [] := by
  have rc := right_c (s := n) (by omega)
  have tc := token_c (o := o) (n := n) hp
  have hix := ix_look (tkP o n) p.toks 0
  have hax := ix_ins (tbP o n) ⟨o, n, k, 0, 0, 0, 0⟩ p.toks 0
  have ix := ixT_c (f := 93) (p := tbP o n) (x0 := ky o n) hp.nt (fun t ht => enlist1_c (hp.t t ht).2.2.2.2.2 hn)
  have c1 := cloneT_c (l := p.toks) hp.nt
  have hll := hp.nt
  obtain ⟨ts, hs⟩ := p
  simp only at hix tc ix c1 hll hax
  have hlen : (tks ts).length = ts.length := List.length_map _
  have ins : ∀ i, i ≤ ts.length → _ := fun i hi => insertT_c (l := ts) (b := ⟨o, n, k, 0, 0, 0, 0⟩) (i := i) hi hll
  unfold enlistP
  simp only
  cases q : rightT n with
  | false =>
    rw [q] at rc
    rw [if_pos rfl]
    refine callR_of (R := R1) cx_ok Tryd.func43 (by kernel_rfl) rfl ?_
    conv => whnf
    refine ⟨_, rc, ?_⟩
    rintro _ _ ⟨rfl, rfl⟩
    conv => whnf
    exact ⟨rfl, rfl⟩
  | true =>
    rw [q] at rc
    rw [if_neg (by decide)]
    rcases hix with ⟨h1, h2⟩ | ⟨j, hj, h1, h2, _⟩
    · rw [h1] at tc
      rw [h2]
      simp only
      refine callR_of (R := R1) cx_ok Tryd.func43 (by kernel_rfl) rfl ?_
      conv => whnf
      refine ⟨_, rc, ?_⟩
      rintro _ _ ⟨rfl, rfl⟩
      conv => whnf
      refine ⟨_, tc, ?_⟩
      rintro _ _ ⟨rfl, rfl⟩
      conv => whnf
      refine brec (fun h5 => ?_) (fun h5 => ?_)
      · have h5 := of_decide_eq_true h5
        rw [hlen] at h5
        rw [if_pos (by omega)]
        conv => whnf
        exact ⟨rfl, rfl⟩
      · have h5 := of_decide_eq_false h5
        rw [hlen] at h5
        rw [if_neg (by omega)]
        conv => whnf
        refine ⟨_, ix, ?_⟩
        rintro _ _ ⟨rfl, rfl⟩
        rcases hax with ⟨g1, g2⟩ | ⟨j, hj, g1, g2⟩
        · rw [g1, g2]
          have ins0 := ins ts.length (Nat.le_refl _)
          rw [List.take_length, List.drop_length] at ins0
          obtain ⟨M, hM⟩ : ∃ M, M = ts ++ [(⟨o, n, k, 0, 0, 0, 0⟩ : Tk)] := ⟨_, rfl⟩
          rw [← hM] at ins0 ⊢
          rw [← hlen] at ins0
          conv => whnf
          refine ⟨_, c1, ?_⟩
          rintro _ _ ⟨rfl, rfl⟩
          conv => whnf
          refine ⟨_, ins0, ?_⟩
          rintro _ _ ⟨rfl, rfl⟩
          conv => whnf
          exact ⟨rfl, rfl⟩
        · rw [g1, g2, Nat.zero_add]
          have ins0 := ins j (by omega)
          obtain ⟨M, hM⟩ : ∃ M, M = ts.take j ++ (⟨o, n, k, 0, 0, 0, 0⟩ : Tk) :: ts.drop j := ⟨_, rfl⟩
          rw [← hM] at ins0 ⊢
          generalize hJ : (j : Int) = J at *
          conv => whnf
          refine brF (decide_eq_false (by omega)) ?_
          conv => whnf
          refine ⟨_, c1, ?_⟩
          rintro _ _ ⟨rfl, rfl⟩
          conv => whnf
          refine ⟨_, ins0, ?_⟩
          rintro _ _ ⟨rfl, rfl⟩
          conv => whnf
          exact ⟨rfl, rfl⟩
    · rw [h1, Nat.zero_add] at tc
      rw [h2]
      simp only
      generalize hJ : (j : Int) = J at *
      refine callR_of (R := R1) cx_ok Tryd.func43 (by kernel_rfl) rfl ?_
      conv => whnf
      refine ⟨_, rc, ?_⟩
      rintro _ _ ⟨rfl, rfl⟩
      conv => whnf
      refine ⟨_, tc, ?_⟩
      rintro _ _ ⟨rfl, rfl⟩
      conv => whnf
      refine brT (decide_eq_true (by omega)) ?_
      conv => whnf
      exact ⟨rfl, rfl⟩
end Go.Proofs.YtmdfpifcghmpfaaDoor
