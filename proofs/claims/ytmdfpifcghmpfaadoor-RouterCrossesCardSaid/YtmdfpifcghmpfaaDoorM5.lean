/- Ledgers: the chapter's example. Ledgers: what comes in; the law LedgerGives. -/
import Derived.Test.YtmdfpifcghmpfaaDoorM4
namespace Go.Proofs.YtmdfpifcghmpfaaDoor
open Go.Ab Go.RowKit

def lg0 : Lg := ⟨0, 0, 0, [], []⟩
def key1 : List D := .int .u8 1 :: List.replicate 31 (.int .u8 0)
def nmA : ByteArray := ⟨#[97]⟩
theorem rightA : rightT nmA = true := by decide +kernel
theorem open0 : openL lg0 nmA key1 0 = (⟨0, 0, 0, [⟨nmA, key1, 0, 0⟩], []⟩, 0) := by
  unfold openL
  rw [if_neg (by rw [rightA]; decide)]
  rfl

theorem awake_c : CallR cx 12 [] [] fun r S => r = bo true ∧ S = [] := by
  have oc := open_c (l := lg0) (who := nmA) (key := key1) (n := 0) ⟨⟨by unfold U; decide, by unfold U; decide, by unfold U; decide⟩, by simp [lg0], by decide⟩ (by simp [lg0]) (by decide)
  rw [open0] at oc
  have h1 : Lg.ok ⟨0, 0, 0, [⟨nmA, key1, 0, 0⟩], []⟩ := ⟨⟨by unfold U; decide, by unfold U; decide, by unfold U; decide⟩, fun a ha => by simp at ha; subst ha; exact ⟨by unfold U; decide, by unfold U; decide⟩, by simp⟩
  have tc := take_c (l := ⟨0, 0, 0, [⟨nmA, key1, 0, 0⟩], []⟩) (who := nmA) (n := 1) h1 (by unfold U; decide)
  have fc := find_c (l := ⟨0, 0, 0, [⟨nmA, key1, 0, 0⟩], []⟩) (who := nmA) h1
  have e1 : takeL ⟨0, 0, 0, [⟨nmA, key1, 0, 0⟩], []⟩ nmA 1 = (⟨0, 0, 0, [⟨nmA, key1, 0, 0⟩], []⟩, 11) := by
    unfold takeL look
    simp
  have e2 : findL ⟨0, 0, 0, [⟨nmA, key1, 0, 0⟩], []⟩ nmA = ((⟨nmA, key1, 0, 0⟩ : Ac).d, true) := by
    unfold findL look
    simp
  rw [e1] at tc
  rw [e2] at fc
  refine callR_of (R := R1) cx_ok Tryd.func12 (by kernel_rfl) rfl ?_
  conv => whnf
  refine ⟨_, oc, ?_⟩
  rintro _ _ ⟨rfl, rfl⟩
  conv => whnf
  refine ⟨_, tc, ?_⟩
  rintro _ _ ⟨rfl, rfl⟩
  conv => whnf
  refine ⟨_, fc, ?_⟩
  rintro _ _ ⟨rfl, rfl⟩
  conv => whnf
  have hk1 : keyOk key1 := ⟨rfl, fun y hy => by
    rcases List.mem_cons.1 hy with rfl | hy
    · exact ⟨1, rfl⟩
    · exact ⟨0, (List.mem_replicate.1 hy).2⟩⟩
  refine ⟨⟨.arr 32 1 (.int .u8), by kernel_rfl, by kernel_rfl, ⟨_, rfl, hk1.1, hk1.2⟩, ⟨_, rfl, hk1.1, hk1.2⟩⟩, ?_⟩
  have hd : deq (D.arr 32 1 (Ac.key ⟨nmA, key1, 0, 0⟩)) (D.arr 32 1 ((List.replicate 32 (D.int IntKind.u8 0)).set 0 (D.int IntKind.u8 1))) = true := deq_self (D.arr 32 1 key1)
  rw [hd]
  conv => whnf
  exact ⟨rfl, rfl⟩

theorem sum_bounds : ∀ {l : List Int}, (∀ n ∈ l, U n) → 0 ≤ l.sum ∧ l.sum ≤ l.length * 18446744073709551616
  | [], _ => by simp
  | a :: l, h => by
    have h1 := h a (by simp)
    have h2 := sum_bounds fun n hn => h n (List.mem_cons_of_mem _ hn)
    unfold U at h1
    rw [List.sum_cons, List.length_cons]
    have : ((l.length + 1 : Nat) : Int) = (l.length : Int) + 1 := by omega
    rw [this, Int.add_mul]
    omega

theorem wv_add {s n : Int} (h0 : 0 ≤ s) (h1 : s ≤ 3689348814741910323200) (hn : U n) : CallR cx 19 [.d (wv s), .d (wd 0 n)] [] fun r S => r = .tup [.d (wv (s + n)), i64 0] ∧ S = [] := by
  have hn' := hn
  unfold U at hn'
  have a := wadd_c (ah := s / 18446744073709551616 % 18446744073709551616) (al := s % 18446744073709551616) (bh := 0) (bl := n) (by unfold U; omega) (by unfold U; omega) (by unfold U; decide) hn
  have e : wsum (s / 18446744073709551616 % 18446744073709551616) (s % 18446744073709551616) 0 n = s + n := by unfold wsum; omega
  rw [e] at a
  have e1 : whigh (s + n) = (s + n) / 18446744073709551616 % 18446744073709551616 := by unfold whigh; rw [if_pos (by omega)]; omega
  have e2 : wlow (s + n) = (s + n) % 18446744073709551616 := by unfold wlow; rw [if_pos (by omega)]
  have e3 : wover (s + n) = 0 := by unfold wover; rw [if_pos (by omega)]
  rw [e1, e2, e3] at a
  exact a

theorem gives_c {l : Lg} {who : ByteArray} {n : Int} (hU : U l.height ∧ U l.time ∧ U l.gas) (hA : ∀ a ∈ l.accs, a.ok ∧ keyOk a.key) (hE : ∀ e ∈ l.evs, evOk e) (hn : U n) :
    CallR cx 3 [.d l.d, st who, u64 n] [] fun r S => r = bo true ∧ S = [] := by
  have fc := few_c (l := l)
  refine callR_of (R := R1) cx_ok Tryd.func3 (by kernel_rfl) rfl ?_
  conv => whnf
  refine ⟨_, awake_c, ?_⟩
  rintro _ _ ⟨rfl, rfl⟩
  conv => whnf
  refine ⟨_, fc, ?_⟩
  rintro _ _ ⟨b, rfl, hb, rfl⟩
  cases b with
  | false =>
    conv => whnf
    exact ⟨rfl, rfl⟩
  | true =>
    obtain ⟨f1, f2, f3⟩ := hb rfl
    have hl : l.ok := ⟨hU, fun a ha => (hA a ha).1, by omega⟩
    have gc := give_c (who := who) hl hn
    have gt := give_take (who := who) (n := n) hl
    have hgo := giveL_ok (who := who) hl hn
    have sm := same_c hl (fun a ha => (hA a ha).2) hE (by omega)
    have fl := find_c (who := who) hl
    have tl := total_c hl (by omega)
    have sb := sum_bounds (coins_U hl.2.1)
    rw [coinsL_len] at sb
    conv => whnf
    refine brec (fun h1 => ?_) (fun h1 => ?_)
    · conv => whnf
      exact ⟨rfl, rfl⟩
    conv => whnf
    unfold giveL at gc gt hgo
    cases hx : look l.accs who with
    | none =>
      rw [hx] at gc
      simp only at gc
      refine ⟨_, gc, ?_⟩
      rintro _ _ ⟨rfl, rfl⟩
      conv => whnf
      refine ⟨_, sm, ?_⟩
      rintro _ _ ⟨rfl, rfl⟩
      conv => whnf
      exact ⟨rfl, rfl⟩
    | some a =>
      rw [hx] at gc gt hgo
      simp only at gc gt hgo
      by_cases c : a.coins + n < 18446744073709551616
      · rw [if_pos c] at gc gt hgo
        have gt := gt rfl
        have hb : ({ a with coins := a.coins + n } : Ac).name = who := (look_mem hx).2
        have hp := look_put hx hb
        have hs := sum_put hx hb
        have ha := (hl.2.1 a (look_mem hx).1).2
        unfold findL at fl
        rw [hx] at fl
        generalize hm : ({ l with accs := putA l.accs { a with coins := a.coins + n } } : Lg) = m at *
        have hma : m.accs = putA l.accs { a with coins := a.coins + n } := by rw [← hm]
        have fm := find_c (who := who) hgo
        have tk := take_c (who := who) hgo hn
        have tm := total_c hgo (by rw [hma, putA_len]; omega)
        unfold findL at fm
        rw [hma, hp] at fm
        rw [gt] at tk
        rw [hma, hs] at tm
        simp only at tm
        have wa := wv_add sb.1 (by omega) hn
        generalize hS : (coinsL l.accs).sum = s at *
        have e1 : s - a.coins + (a.coins + n) = s + n := by omega
        rw [e1] at tm
        obtain ⟨nm, ky, nn, cn⟩ := a
        refine ⟨_, gc, ?_⟩
        rintro _ _ ⟨rfl, rfl⟩
        conv => whnf
        refine ⟨_, fl, ?_⟩
        rintro _ _ ⟨rfl, rfl⟩
        conv => whnf
        refine ⟨_, fm, ?_⟩
        rintro _ _ ⟨rfl, rfl⟩
        conv => whnf
        refine ⟨_, tk, ?_⟩
        rintro _ _ ⟨rfl, rfl⟩
        conv => whnf
        refine ⟨_, tl, ?_⟩
        rintro _ _ ⟨rfl, rfl⟩
        conv => whnf
        refine ⟨_, wa, ?_⟩
        rintro _ _ ⟨rfl, rfl⟩
        conv => whnf
        refine ⟨by kernel_rfl, ?_⟩
        conv => whnf
        have hd : decide (IntKind.u64.wrap (cn + n - cn) = n) = true := decide_eq_true (by
          rw [show cn + n - cn = n by omega]
          exact wrapU hn)
        refine brT hd ?_
        conv => whnf
        refine ⟨_, sm, ?_⟩
        conv => whnf
        refine ⟨_, tm, ?_⟩
        conv => whnf
        refine ⟨⟨.st [.int .u64, .int .u64], by kernel_rfl, by kernel_rfl, ⟨_, rfl, _, _, rfl, ⟨_, rfl⟩, _, _, rfl, ⟨_, rfl⟩, rfl⟩, ⟨_, rfl, _, _, rfl, ⟨_, rfl⟩, _, _, rfl, ⟨_, rfl⟩, rfl⟩⟩, ?_⟩
        rw [deq_self]
        conv => whnf
        refine ⟨by kernel_rfl, ?_⟩
        conv => whnf
        exact ⟨rfl, rfl⟩
      · rw [if_neg c] at gc
        refine ⟨_, gc, ?_⟩
        rintro _ _ ⟨rfl, rfl⟩
        conv => whnf
        refine ⟨_, sm, ?_⟩
        rintro _ _ ⟨rfl, rfl⟩
        conv => whnf
        exact ⟨rfl, rfl⟩
end Go.Proofs.YtmdfpifcghmpfaaDoor

namespace Go.Proofs.YtmdfpifcghmpfaaDoor
open Go.Ab Go.RowKit

abbrev tyAc : Ty := .st [.str, .arr 32 1 (.int .u8), .int .u64, .int .u64]
abbrev tyEv : Ty := .st [.int .i64, .str, .int .u64, .arr 32 1 (.int .u8)]
abbrev tyLg : Ty := .st [.int .u64, .int .u64, .int .u64, .sl 35 tyAc, .sl 35 tyEv]

/-- What comes in of a ledger. -/
structure Lg.fits (l : Lg) : Prop where
  u : U l.height ∧ U l.time ∧ U l.gas
  a : ∀ a ∈ l.accs, a.ok ∧ keyOk a.key
  e : ∀ e ∈ l.evs, evOk e

theorem key_of {ds : List D} (h1 : ds.length = 32) (h2 : ∀ y ∈ ds, (Ty.int .u8).has y) : keyOk ds := ⟨h1, fun y hy => let ⟨n, h, _⟩ := h2 y hy; ⟨n, h⟩⟩

theorem accs_of : ∀ {ys : List D}, (∀ y ∈ ys, tyAc.has y) → ∃ l : List Ac, ys = acs l ∧ ∀ a ∈ l, a.ok ∧ keyOk a.key
  | [], _ => ⟨[], rfl, by simp⟩
  | y :: ys, h => by
    obtain ⟨l, rfl, h2⟩ := accs_of fun z hz => h z (List.mem_cons_of_mem _ hz)
    obtain ⟨_, rfl, _, _, rfl, ⟨nm, rfl, _⟩, _, _, rfl, ⟨ky, rfl, k1, k2⟩, _, _, rfl, ⟨nn, rfl, wn⟩, _, _, rfl, ⟨cn, rfl, wc⟩, rfl⟩ := h y (by simp)
    refine ⟨⟨nm, ky, nn, cn⟩ :: l, rfl, fun a ha => ?_⟩
    rcases List.mem_cons.1 ha with rfl | ha
    · exact ⟨⟨U.of_wf wn, U.of_wf wc⟩, key_of k1 k2⟩
    · exact h2 a ha

theorem ev_of {y : D} (h : tyEv.has y) : evOk y := by
  obtain ⟨_, rfl, _, _, rfl, ⟨k, rfl, _⟩, _, _, rfl, ⟨s, rfl, _⟩, _, _, rfl, ⟨n, rfl, _⟩, _, _, rfl, ⟨ky, rfl, k1, k2⟩, rfl⟩ := h
  exact ⟨k, s, n, ky, rfl, key_of k1 k2⟩

theorem lg_of {x : D} (h : tyLg.has x) : ∃ l : Lg, x = l.d ∧ l.fits := by
  obtain ⟨_, rfl, _, _, rfl, ⟨h, rfl, w1⟩, _, _, rfl, ⟨t, rfl, w2⟩, _, _, rfl, ⟨g, rfl, w3⟩, _, _, rfl, ⟨al, rfl, _, h4⟩, _, _, rfl, ⟨es, rfl, _, h5⟩, rfl⟩ := h
  obtain ⟨l, rfl, h6⟩ := accs_of h4
  exact ⟨⟨h, t, g, l, es⟩, rfl, ⟨⟨U.of_wf w1, U.of_wf w2, U.of_wf w3⟩, h6, fun e he => ev_of (h5 e he)⟩⟩

theorem ledgerGives_c (ys : List D) (hy : Ty.hass [tyLg, .str, .int .u64] ys) : CallR cx 3 (ys.map AV.d) [] fun r S => r = .d (.bool true) ∧ S = [] := by
  obtain ⟨_, _, rfl, hl, _, _, rfl, ⟨who, rfl, _⟩, _, _, rfl, ⟨n, rfl, wn⟩, rfl⟩ := hy
  obtain ⟨l, rfl, hf⟩ := lg_of hl
  exact gives_c hf.u hf.a hf.e (U.of_wf wn)
end Go.Proofs.YtmdfpifcghmpfaaDoor
