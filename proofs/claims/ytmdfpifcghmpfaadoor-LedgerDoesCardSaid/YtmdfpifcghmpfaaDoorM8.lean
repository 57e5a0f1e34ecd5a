/- Ledgers: the laws LedgerDoes, LedgerKeeps and LedgerPlays. -/
import Derived.Test.YtmdfpifcghmpfaaDoorM7
namespace Go.Proofs.YtmdfpifcghmpfaaDoor
open Go.Ab Go.RowKit

abbrev tyActL : Ty := .st [.int .i64, .str, .str, .int .u64, .arr 32 1 (.int .u8), tyEv]

/-- What comes in of an act. -/
theorem act_of {x : D} (h : tyActL.has x) : ∃ k a b n key e, x = actD k a b n key e ∧ U n ∧ keyOk key ∧ evOk e := by
  obtain ⟨_, rfl, _, _, rfl, ⟨k, rfl, _⟩, _, _, rfl, ⟨a, rfl, _⟩, _, _, rfl, ⟨b, rfl, _⟩, _, _, rfl, ⟨n, rfl, wn⟩, _, _, rfl, ⟨key, rfl, k1, k2⟩, _, _, rfl, he, rfl⟩ := h
  exact ⟨k, a, b, n, key, _, rfl, U.of_wf wn, key_of k1 k2, ev_of he⟩

theorem fine_same {l : Lg} {N M : Nat} (h : l.fine N M) (hN : N ≤ 100000) (hM : M ≤ 100000) : CallR cx 15 [.d l.d, .d l.d] [] fun r S => r = bo true ∧ S = [] :=
  same_c (h.ok hN) (fun a ha => (h.a a ha).2.1) h.e (Nat.le_trans h.m hM)
theorem fine_do {l : Lg} {N M : Nat} (h : l.fine N M) (hN : N ≤ 100000) (hM : M ≤ 99999) {k : Int} {a b : ByteArray} {n : Int} {key : List D} {e : D} (ha : a.size ≤ 200) (hU : U n) (hev : evOk e) :
    CallR cx 20 [.d l.d, .d l.d, .d (actD k a b n key e)] [] fun r S => r = .tup [.d (doL l (Int.tmod k 9) a b n key e).d, .d (doL l (Int.tmod k 9) a b n key e).d, bo true] ∧ S = [] :=
  do_c (h.ok hN) (fun a ha => (h.a a ha).2.2) h.e (Nat.le_trans h.m hM) ha hU hev

theorem keeps_c {l : Lg} (hf : l.fits) {k : Int} {a b : ByteArray} {n : Int} {key : List D} {e : D} (hU : U n) (hk : keyOk key) (he : evOk e) :
    CallR cx 5 [.d l.d, .d (actD k a b n key e)] [] fun r S => r = bo true ∧ S = [] := by
  have fc := few_c (l := l)
  obtain ⟨ek, es, en, ed, rfl, hkd⟩ := he
  refine callR_of (R := R1) cx_ok Tryd.func5 (by kernel_rfl) rfl ?_
  conv => whnf
  refine ⟨_, awake_c, ?_⟩
  rintro _ _ ⟨rfl, rfl⟩
  conv => whnf
  refine ⟨_, fc, ?_⟩
  rintro _ _ ⟨b0, rfl, hb, rfl⟩
  cases b0 with
  | false =>
    conv => whnf
    exact ⟨rfl, rfl⟩
  | true =>
    obtain ⟨f1, f2, f3⟩ := hb rfl
    have hfi : l.fine 100 4100 := ⟨hf.u, fun a ha => ⟨(hf.a a ha).1, (hf.a a ha).2, f2 a ha⟩, hf.e, f1, f3⟩
    have hev : evOk (.agg [.int .i64 ek, .str es, .int .u64 en, .arr 32 1 ed]) := ⟨ek, es, en, ed, rfl, hkd⟩
    have rc := rightL_c (hfi.ok (by omega)) f2
    conv => whnf
    refine brec (fun h1 => ?_) (fun h1 => ?_)
    · conv => whnf
      exact ⟨rfl, rfl⟩
    conv => whnf
    refine brec (fun h2 => ?_) (fun h2 => ?_)
    · conv => whnf
      exact ⟨rfl, rfl⟩
    conv => whnf
    have h1 := of_decide_eq_false h1
    have h2 := of_decide_eq_false h2
    refine ⟨_, rc, ?_⟩
    rintro _ _ ⟨rfl, rfl⟩
    cases hr : (chainB l.accs 0 l.accs && limB l) with
    | false =>
      conv => whnf
      exact ⟨rfl, rfl⟩
    | true =>
      have dc := fine_do hfi (by omega) (by omega) (k := k) (a := a) (b := b) (key := key) (by omega) hU hev
      have hx := doL_fine hfi (q := Int.tmod k 9) (a := a) (b := b) (n := n) (key := key) (by omega) hU hk hev
      have hrx := doL_right (l := l) (q := Int.tmod k 9) (a := a) (b := b) (n := n) (key := key) (ev := .agg [.int .i64 ek, .str es, .int .u64 en, .arr 32 1 ed]) hr
      have htx := doL_total (l := l) (q := Int.tmod k 9) (a := a) (b := b) (n := n) (key := key) (ev := .agg [.int .i64 ek, .str es, .int .u64 en, .arr 32 1 ed])
      have rx := rightL_c (hx.ok (by omega)) (fun a ha => (hx.a a ha).2.2)
      have tx := total_c (hx.ok (by omega)) (by have := hx.n; omega)
      have tl := total_c (hfi.ok (by omega)) (by omega)
      have mc := move_c (fr := a) (to := b) (hfi.ok (by omega)) hU
      have hm := moveL_fine hfi (a := a) (b := b) hU
      have hmt := moveL_total l a b n
      have hme := moveL_err (l := l) (a := a) (b := b) (n := n)
      have tm := total_c (hm.ok (by omega)) (by have := hm.n; omega)
      have sm := fine_same hfi (by omega) (by omega)
      unfold rightL at hrx
      generalize doL l (Int.tmod k 9) a b n key (.agg [.int .i64 ek, .str es, .int .u64 en, .arr 32 1 ed]) = x at *
      unfold total at htx hmt
      rw [hmt] at tm
      rw [hrx] at rx
      generalize (coinsL l.accs).sum = sl at *
      generalize (coinsL x.accs).sum = sx at *
      generalize (moveL l a b n).2 = me at *
      generalize (moveL l a b n).1 = m at *
      conv => whnf
      refine ⟨_, dc, ?_⟩
      rintro _ _ ⟨rfl, rfl⟩
      conv => whnf
      refine ⟨_, rx, ?_⟩
      rintro _ _ ⟨rfl, rfl⟩
      conv => whnf
      refine ⟨by decide, ?_⟩
      generalize Int.tmod k 9 = q at *
      conv => whnf
      refine ⟨by kernel_rfl, ?_⟩
      conv => whnf
      refine ⟨_, tx, ?_⟩
      conv => whnf
      refine ⟨_, tl, ?_⟩
      conv => whnf
      refine ⟨⟨.st [.int .u64, .int .u64], by kernel_rfl, by kernel_rfl, ⟨_, rfl, _, _, rfl, ⟨_, rfl⟩, _, _, rfl, ⟨_, rfl⟩, rfl⟩, ⟨_, rfl, _, _, rfl, ⟨_, rfl⟩, _, _, rfl, ⟨_, rfl⟩, rfl⟩⟩, ?_⟩
      have hsm : (q ≥ 3 ∨ q ≤ -3) → deq (wv sx) (wv sl) = true := fun h => by rw [htx h]; exact deq_self _
      generalize deq (wv sx) (wv sl) = same at *
      conv => whnf
      refine ⟨by kernel_rfl, ?_⟩
      conv => whnf
      refine ⟨_, mc, ?_⟩
      rintro _ _ ⟨rfl, rfl⟩
      conv => whnf
      refine ⟨by kernel_rfl, ?_⟩
      rcases (by omega : q ≥ 3 ∨ q ≤ -3 ∨ (0 ≤ q ∧ q < 3) ∨ (q < 0 ∧ q > -3)) with hq | hq | hq | hq
      · have hs := hsm (.inl hq)
        subst hs
        by_cases h0 : me = 0
        · subst h0
          conv => whnf
          repeat first | (refine brT (decide_eq_true (by omega)) ?_; conv => whnf) | (refine brF (decide_eq_false (by omega)) ?_; conv => whnf)
          refine ⟨_, tm, ?_⟩
          conv => whnf
          refine ⟨_, tl, ?_⟩
          conv => whnf
          refine ⟨⟨.st [.int .u64, .int .u64], by kernel_rfl, by kernel_rfl, ⟨_, rfl, _, _, rfl, ⟨_, rfl⟩, _, _, rfl, ⟨_, rfl⟩, rfl⟩, ⟨_, rfl, _, _, rfl, ⟨_, rfl⟩, _, _, rfl, ⟨_, rfl⟩, rfl⟩⟩, ?_⟩
          rw [deq_self]
          conv => whnf
          refine ⟨by kernel_rfl, ?_⟩
          conv => whnf
          exact ⟨rfl, rfl⟩
        · have hml := hme h0
          subst hml
          conv => whnf
          repeat first | (refine brT (decide_eq_true (by omega)) ?_; conv => whnf) | (refine brF (decide_eq_false (by omega)) ?_; conv => whnf) | (refine brT (bne_iff_ne.2 h0) ?_; conv => whnf) | (refine brF (beq_eq_false_iff_ne.2 h0) ?_; conv => whnf)
          refine ⟨_, sm, ?_⟩
          conv => whnf
          refine ⟨by kernel_rfl, ?_⟩
          conv => whnf
          exact ⟨rfl, rfl⟩
      · have hs := hsm (.inr hq)
        subst hs
        by_cases h0 : me = 0
        · subst h0
          conv => whnf
          repeat first | (refine brT (decide_eq_true (by omega)) ?_; conv => whnf) | (refine brF (decide_eq_false (by omega)) ?_; conv => whnf)
          refine ⟨_, tm, ?_⟩
          conv => whnf
          refine ⟨_, tl, ?_⟩
          conv => whnf
          refine ⟨⟨.st [.int .u64, .int .u64], by kernel_rfl, by kernel_rfl, ⟨_, rfl, _, _, rfl, ⟨_, rfl⟩, _, _, rfl, ⟨_, rfl⟩, rfl⟩, ⟨_, rfl, _, _, rfl, ⟨_, rfl⟩, _, _, rfl, ⟨_, rfl⟩, rfl⟩⟩, ?_⟩
          rw [deq_self]
          conv => whnf
          refine ⟨by kernel_rfl, ?_⟩
          conv => whnf
          exact ⟨rfl, rfl⟩
        · have hml := hme h0
          subst hml
          conv => whnf
          repeat first | (refine brT (decide_eq_true (by omega)) ?_; conv => whnf) | (refine brF (decide_eq_false (by omega)) ?_; conv => whnf) | (refine brT (bne_iff_ne.2 h0) ?_; conv => whnf) | (refine brF (beq_eq_false_iff_ne.2 h0) ?_; conv => whnf)
          refine ⟨_, sm, ?_⟩
          conv => whnf
          refine ⟨by kernel_rfl, ?_⟩
          conv => whnf
          exact ⟨rfl, rfl⟩
      · by_cases h0 : me = 0
        · subst h0
          conv => whnf
          repeat first | (refine brT (decide_eq_true (by omega)) ?_; conv => whnf) | (refine brF (decide_eq_false (by omega)) ?_; conv => whnf)
          refine ⟨_, tm, ?_⟩
          conv => whnf
          refine ⟨_, tl, ?_⟩
          conv => whnf
          refine ⟨⟨.st [.int .u64, .int .u64], by kernel_rfl, by kernel_rfl, ⟨_, rfl, _, _, rfl, ⟨_, rfl⟩, _, _, rfl, ⟨_, rfl⟩, rfl⟩, ⟨_, rfl, _, _, rfl, ⟨_, rfl⟩, _, _, rfl, ⟨_, rfl⟩, rfl⟩⟩, ?_⟩
          rw [deq_self]
          conv => whnf
          refine ⟨by kernel_rfl, ?_⟩
          conv => whnf
          exact ⟨rfl, rfl⟩
        · have hml := hme h0
          subst hml
          conv => whnf
          repeat first | (refine brT (decide_eq_true (by omega)) ?_; conv => whnf) | (refine brF (decide_eq_false (by omega)) ?_; conv => whnf) | (refine brT (bne_iff_ne.2 h0) ?_; conv => whnf) | (refine brF (beq_eq_false_iff_ne.2 h0) ?_; conv => whnf)
          refine ⟨_, sm, ?_⟩
          conv => whnf
          refine ⟨by kernel_rfl, ?_⟩
          conv => whnf
          exact ⟨rfl, rfl⟩
      · by_cases h0 : me = 0
        · subst h0
          conv => whnf
          repeat first | (refine brT (decide_eq_true (by omega)) ?_; conv => whnf) | (refine brF (decide_eq_false (by omega)) ?_; conv => whnf)
          refine ⟨_, tm, ?_⟩
          conv => whnf
          refine ⟨_, tl, ?_⟩
          conv => whnf
          refine ⟨⟨.st [.int .u64, .int .u64], by kernel_rfl, by kernel_rfl, ⟨_, rfl, _, _, rfl, ⟨_, rfl⟩, _, _, rfl, ⟨_, rfl⟩, rfl⟩, ⟨_, rfl, _, _, rfl, ⟨_, rfl⟩, _, _, rfl, ⟨_, rfl⟩, rfl⟩⟩, ?_⟩
          rw [deq_self]
          conv => whnf
          refine ⟨by kernel_rfl, ?_⟩
          conv => whnf
          exact ⟨rfl, rfl⟩
        · have hml := hme h0
          subst hml
          conv => whnf
          repeat first | (refine brT (decide_eq_true (by omega)) ?_; conv => whnf) | (refine brF (decide_eq_false (by omega)) ?_; conv => whnf) | (refine brT (bne_iff_ne.2 h0) ?_; conv => whnf) | (refine brF (beq_eq_false_iff_ne.2 h0) ?_; conv => whnf)
          refine ⟨_, sm, ?_⟩
          conv => whnf
          refine ⟨by kernel_rfl, ?_⟩
          conv => whnf
          exact ⟨rfl, rfl⟩

theorem find_is {l : Lg} {N M : Nat} (h : l.fine N M) (a : ByteArray) : ∃ x : Ac, (findL l a).1 = x.d ∧ keyOk x.key := by
  unfold findL
  cases hx : look l.accs a with
  | none => exact ⟨⟨.empty, List.replicate 32 (.int .u8 0), 0, 0⟩, rfl, rfl, fun y hy => ⟨0, (List.mem_replicate.1 hy).2⟩⟩
  | some b => exact ⟨b, rfl, (h.a b (look_mem hx).1).2.1⟩

theorem does_c {l : Lg} (hf : l.fits) {k : Int} {a b : ByteArray} {n : Int} {key : List D} {e : D} (hU : U n) (hk : keyOk key) (he : evOk e) :
    CallR cx 6 [.d l.d, .d (actD k a b n key e)] [] fun r S => r = bo true ∧ S = [] := by
  have fc := few_c (l := l)
  obtain ⟨ek, es, en, ed, rfl, hkd⟩ := he
  refine callR_of (R := R1) cx_ok Tryd.func6 (by kernel_rfl) rfl ?_
  conv => whnf
  refine ⟨_, awake_c, ?_⟩
  rintro _ _ ⟨rfl, rfl⟩
  conv => whnf
  refine ⟨_, fc, ?_⟩
  rintro _ _ ⟨b0, rfl, hb, rfl⟩
  cases b0 with
  | false =>
    conv => whnf
    exact ⟨rfl, rfl⟩
  | true =>
    obtain ⟨f1, f2, f3⟩ := hb rfl
    have hfi : l.fine 100 4100 := ⟨hf.u, fun a ha => ⟨(hf.a a ha).1, (hf.a a ha).2, f2 a ha⟩, hf.e, f1, f3⟩
    have hev : evOk (.agg [.int .i64 ek, .str es, .int .u64 en, .arr 32 1 ed]) := ⟨ek, es, en, ed, rfl, hkd⟩
    have rc := rightL_c (hfi.ok (by omega)) f2
    have rrc := rrightL_c (hfi.ok (by omega)) f2
    conv => whnf
    refine brec (fun h1 => ?_) (fun h1 => ?_)
    · conv => whnf
      exact ⟨rfl, rfl⟩
    conv => whnf
    refine brec (fun h2 => ?_) (fun h2 => ?_)
    · conv => whnf
      exact ⟨rfl, rfl⟩
    conv => whnf
    have h1 := of_decide_eq_false h1
    have h2 := of_decide_eq_false h2
    have tw := twin_c (l := l) (by omega) (by omega)
    have dc := fine_do hfi (by omega) (by omega) (k := k) (a := a) (b := b) (key := key) (by omega) hU hev
    have hx := doL_fine hfi (q := Int.tmod k 9) (a := a) (b := b) (n := n) (key := key) (by omega) hU hk hev
    generalize doL l (Int.tmod k 9) a b n key (.agg [.int .i64 ek, .str es, .int .u64 en, .arr 32 1 ed]) = x at *
    have sx := fine_same hx (by omega) (by omega)
    have sl := fine_same hfi (by omega) (by omega)
    have fd := find_c (who := a) (hfi.ok (by omega))
    have rfd := rfind_c (who := a) (hfi.ok (by omega))
    obtain ⟨y, hy, hky⟩ := find_is hfi a
    rw [hy] at fd rfd
    obtain ⟨nm, ky, nn, cn⟩ := y
    generalize (findL l a).2 = is at *
    have tl := total_c (hfi.ok (by omega)) (by omega)
    have rtl := rtotal_c (hfi.ok (by omega)) (by omega)
    have sb := sum_bounds (coins_U (hfi.ok (by omega)).2.1)
    rw [coinsL_len] at sb
    generalize (coinsL l.accs).sum = s at *
    have hs1 : s % 340282366920938463463374607431768211456 = s := by omega
    rw [hs1] at rtl
    have ofc := of_c (h := s / 18446744073709551616 % 18446744073709551616) (l := s % 18446744073709551616) (by unfold U; omega) (by unfold U; omega)
    have hs2 : s / 18446744073709551616 % 18446744073709551616 * 18446744073709551616 + s % 18446744073709551616 = s := by omega
    rw [hs2] at ofc
    generalize (chainB l.accs 0 l.accs && limB l) = rb at *
    refine ⟨_, tw, ?_⟩
    rintro _ _ ⟨rfl, rfl⟩
    conv => whnf
    refine ⟨_, dc, ?_⟩
    rintro _ _ ⟨rfl, rfl⟩
    conv => whnf
    refine ⟨_, fd, ?_⟩
    rintro _ _ ⟨rfl, rfl⟩
    conv => whnf
    refine ⟨_, rfd, ?_⟩
    rintro _ _ ⟨rfl, rfl⟩
    conv => whnf
    refine ⟨_, tl, ?_⟩
    rintro _ _ ⟨rfl, rfl⟩
    conv => whnf
    refine ⟨by kernel_rfl, ?_⟩
    conv => whnf
    refine ⟨_, sx, ?_⟩
    conv => whnf
    refine ⟨_, sl, ?_⟩
    conv => whnf
    refine ⟨sideA hky, ?_⟩
    rw [deq_self]
    conv => whnf
    refine brT (beq_self_eq_true is) ?_
    conv => whnf
    refine ⟨_, ofc, ?_⟩
    conv => whnf
    refine ⟨_, rtl, ?_⟩
    conv => whnf
    have hw : (Ty.arr 4 1 (.int .u64)).is (w4 s) := ⟨_, rfl, rfl, fun y hy => by
      simp only [List.mem_cons, List.not_mem_nil, or_false] at hy
      rcases hy with rfl | rfl | rfl | rfl <;> exact ⟨_, rfl⟩⟩
    refine ⟨⟨.arr 4 1 (.int .u64), by kernel_rfl, by kernel_rfl, hw, hw⟩, ?_⟩
    rw [deq_self]
    conv => whnf
    refine ⟨_, rc, ?_⟩
    conv => whnf
    refine ⟨_, rrc, ?_⟩
    conv => whnf
    refine ⟨by kernel_rfl, ?_⟩
    conv => whnf
    refine ⟨?_, rfl⟩
    show bo (rb == rb) = _
    rw [beq_self_eq_true]

structure ActA where
  k : Int
  a : ByteArray
  b : ByteArray
  n : Int
  key : List D
  ek : Int
  es : ByteArray
  en : Int
  ed : List D
def ActA.d (x : ActA) : D := actD x.k x.a x.b x.n x.key (.agg [.int .i64 x.ek, .str x.es, .int .u64 x.en, .arr 32 1 x.ed])
def ActA.ok (x : ActA) : Prop := U x.n ∧ keyOk x.key ∧ keyOk x.ed

theorem acts_of : ∀ {ys : List D}, (∀ y ∈ ys, tyActL.has y) → ∃ l : List ActA, ys = l.map ActA.d ∧ ∀ a ∈ l, a.ok
  | [], _ => ⟨[], rfl, by simp⟩
  | y :: ys, h => by
    obtain ⟨l, rfl, h2⟩ := acts_of fun z hz => h z (List.mem_cons_of_mem _ hz)
    obtain ⟨k, a, b, n, key, e, rfl, hU, hk, ek, es, en, ed, rfl, hkd⟩ := act_of (h y (by simp))
    refine ⟨⟨k, a, b, n, key, ek, es, en, ed⟩ :: l, rfl, fun x hx => ?_⟩
    rcases List.mem_cons.1 hx with rfl | hx
    · exact ⟨hU, hk, hkd⟩
    · exact h2 x hx

def lgE : Lg := ⟨0, 0, 0, [], []⟩
theorem fineE : lgE.fine 0 0 := ⟨⟨by unfold U; decide, by unfold U; decide, by unfold U; decide⟩, by simp [lgE], by simp [lgE], Nat.le_refl _, Nat.le_refl _⟩

theorem plays_c {L : List ActA} (hL : ∀ a ∈ L, a.ok) : CallR cx 4 [.d (.sl 71 (L.map ActA.d))] [] fun r S => r = bo true ∧ S = [] := by
  have hlen : (L.map ActA.d).length = L.length := List.length_map _
  refine callR_of (R := R1) cx_ok Tryd.func4 (by kernel_rfl) rfl ?_
  conv => whnf
  refine ⟨_, awake_c, ?_⟩
  rintro _ _ ⟨rfl, rfl⟩
  conv => whnf
  refine brec (fun h0 => ?_) (fun h0 => ?_)
  · conv => whnf
    exact ⟨rfl, rfl⟩
  conv => whnf
  have h0 := of_decide_eq_false h0
  rw [hlen] at h0
  refine .inl ⟨fun m Ls S => ∃ (j : Nat) (x : Lg), j ≤ L.length ∧ x.fine j j ∧ m = L.length - j ∧
      Ls = [(3, .ptr 0 []), (4, .ptr 1 []), (13, .d (.sl 71 (L.map ActA.d))), (14, i64 (((L.map ActA.d).length : Nat) : Int)), (15, i64 (j : Int))] ∧ S = [.var (.d x.d), .var (.d x.d)],
    ⟨_, _, ⟨0, lgE, Nat.zero_le _, fineE, rfl, rfl, rfl⟩, ⟨rfl, rfl, rfl, rfl, rfl, trivial⟩⟩, ?_⟩
  rintro _ _ _ ⟨j, x, hj, hx, rfl, rfl, rfl⟩
  conv => whnf
  refine brec (fun h4 => ?_) (fun h4 => ?_)
  · have h4 := of_decide_eq_true h4
    rw [hlen] at h4
    have hlt : j < L.length := by omega
    have hgd : (L.map ActA.d).getD (j : Int).toNat .nilP = (L[j]'hlt).d := by
      rw [Int.toNat_natCast, List.getD_eq_getElem?_getD, List.getElem?_map, List.getElem?_eq_getElem hlt]; rfl
    obtain ⟨hU, hk, hkd⟩ := hL _ (List.getElem_mem hlt)
    conv => whnf
    refine ⟨⟨by omega, by rw [hlen]; omega⟩, ?_⟩
    rw [hgd]
    generalize L[j]'hlt = y at *
    obtain ⟨k, a, b, n, key, ek, es, en, ed⟩ := y
    simp only at hU hk hkd
    conv => whnf
    refine brec (fun h1 => ?_) (fun h1 => ?_)
    · conv => whnf
      exact ⟨rfl, rfl⟩
    conv => whnf
    refine brec (fun h2 => ?_) (fun h2 => ?_)
    · conv => whnf
      exact ⟨rfl, rfl⟩
    have h1 : ¬ (a.size : Int) > 200 := of_decide_eq_false h1
    have hev : evOk (.agg [.int .i64 ek, .str es, .int .u64 en, .arr 32 1 ed]) := ⟨ek, es, en, ed, rfl, hkd⟩
    have dc := fine_do hx (by omega) (by omega) (k := k) (a := a) (b := b) (key := key) (by omega) hU hev
    have hz := doL_fine hx (q := Int.tmod k 9) (a := a) (b := b) (n := n) (key := key) (by omega) hU hk hev
    generalize doL x (Int.tmod k 9) a b n key (.agg [.int .i64 ek, .str es, .int .u64 en, .arr 32 1 ed]) = z at *
    have sz := fine_same hz (by omega) (by omega)
    have e3 : IntKind.i64.wrap ((j : Int) + 1) = ((j + 1 : Nat) : Int) := by rw [w64 (by omega)]; omega
    conv => whnf
    refine ⟨_, dc, ?_⟩
    rintro _ _ ⟨rfl, rfl⟩
    conv => whnf
    refine ⟨_, sz, ?_⟩
    rintro _ _ ⟨rfl, rfl⟩
    conv => whnf
    exact ⟨_, _, 2, (by omega : L.length - (j + 1) < L.length - j), ⟨j + 1, z, by omega, hz, rfl, rfl, rfl⟩, ⟨rfl, rfl, rfl, rfl, congrArg (fun z => some (i64 z)) e3, trivial⟩, rfl⟩
  · conv => whnf
    exact ⟨rfl, rfl⟩

theorem ledgerPlays_c (ys : List D) (hy : Ty.hass [.sl 71 tyActL] ys) : CallR cx 4 (ys.map AV.d) [] fun r S => r = .d (.bool true) ∧ S = [] := by
  obtain ⟨_, _, rfl, ⟨al, rfl, _, h⟩, rfl⟩ := hy
  obtain ⟨L, rfl, hL⟩ := acts_of h
  exact plays_c hL
theorem ledgerDoes_c (ys : List D) (hy : Ty.hass [tyLg, tyActL] ys) : CallR cx 6 (ys.map AV.d) [] fun r S => r = .d (.bool true) ∧ S = [] := by
  obtain ⟨_, _, rfl, hl, _, _, rfl, ha, rfl⟩ := hy
  obtain ⟨l, rfl, hf⟩ := lg_of hl
  obtain ⟨k, a, b, n, key, e, rfl, hU, hk, he⟩ := act_of ha
  exact does_c hf hU hk he
theorem ledgerKeeps_c (ys : List D) (hy : Ty.hass [tyLg, tyActL] ys) : CallR cx 5 (ys.map AV.d) [] fun r S => r = .d (.bool true) ∧ S = [] := by
  obtain ⟨_, _, rfl, hl, _, _, rfl, ha, rfl⟩ := hy
  obtain ⟨l, rfl, hf⟩ := lg_of hl
  obtain ⟨k, a, b, n, key, e, rfl, hU, hk, he⟩ := act_of ha
  exact keeps_c hf hU hk he
end Go.Proofs.YtmdfpifcghmpfaaDoor
