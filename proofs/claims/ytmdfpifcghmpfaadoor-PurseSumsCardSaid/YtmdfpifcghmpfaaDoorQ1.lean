/- Purses: tokens' keys; where a token, where a holding is. -/
import Derived.Test.YtmdfpifcghmpfaaDoorM3
namespace Go.Proofs.YtmdfpifcghmpfaaDoor
open Go.Ab Go.RowKit

structure Tk where
  org : Int
  name : ByteArray
  cap : Int
  locked : Int
  unlocked : Int
  minted : Int
  burned : Int
def Tk.d (t : Tk) : D := .agg [.int .u32 t.org, .str t.name, .int .u64 t.cap, .int .u64 t.locked, .int .u64 t.unlocked, .int .u64 t.minted, .int .u64 t.burned]
structure Hd where
  org : Int
  token : ByteArray
  owner : ByteArray
  amount : Int
def Hd.d (h : Hd) : D := .agg [.int .u32 h.org, .str h.token, .str h.owner, .int .u64 h.amount]
structure Pu where
  toks : List Tk
  holds : List Hd
abbrev tks (l : List Tk) : List D := l.map Tk.d
abbrev hds (l : List Hd) : List D := l.map Hd.d
def Pu.d (p : Pu) : D := .agg [.sl 7 (tks p.toks), .sl 4 (hds p.holds)]
def Tk.ok (t : Tk) : Prop := U t.cap ∧ U t.locked ∧ U t.unlocked ∧ U t.minted ∧ U t.burned ∧ t.name.size ≤ 200
def Hd.ok (h : Hd) : Prop := U h.amount ∧ h.token.size ≤ 200 ∧ h.owner.size ≤ 200
structure Pu.ok (p : Pu) : Prop where
  t : ∀ t ∈ p.toks, t.ok
  h : ∀ h ∈ p.holds, h.ok
  nt : p.toks.length ≤ 100000
  nh : p.holds.length ≤ 100000

/-- A token's key. -/
abbrev ky (o : Int) (n : ByteArray) : D := .agg [.int .u32 o, .str n]
/-- Does one key stand ahead of another one? -/
def bef (o : Int) (n : ByteArray) (o' : Int) (n' : ByteArray) : Bool := decide (o < o') || (decide (o = o') && decide (ordN n n' < 0))
def same2 (o : Int) (n : ByteArray) (o' : Int) (n' : ByteArray) : Bool := decide (o = o') && decide (n = n')

theorem sideK {o o' : Int} {n n' : ByteArray} : ∃ T : Ty, T.fitE cx.tt 132 = true ∧ Nat.blt T.depth 9999 = true ∧ T.is (ky o n) ∧ T.is (ky o' n') :=
  ⟨.st [.int .u32, .str], by kernel_rfl, by kernel_rfl, ⟨_, rfl, _, _, rfl, ⟨_, rfl⟩, _, _, rfl, ⟨_, rfl⟩, rfl⟩, ⟨_, rfl, _, _, rfl, ⟨_, rfl⟩, _, _, rfl, ⟨_, rfl⟩, rfl⟩⟩

theorem deq_ky {o o' : Int} {n n' : ByteArray} : deq (ky o n) (ky o' n') = same2 o n o' n' := by
  unfold same2
  by_cases h1 : o = o' <;> by_cases h2 : n = n' <;> simp [deq, h1, h2]

theorem keyOf_c {t : Tk} : CallR cx 78 [.d t.d] [] fun r S => r = .d (ky t.org t.name) ∧ S = [] := by
  obtain ⟨o, n, a, b, c, d, e⟩ := t
  refine callR_of (R := R1) cx_ok Tryd.func78 (by kernel_rfl) rfl ?_
  conv => whnf
  exact ⟨rfl, rfl⟩
theorem keyHeld_c {h : Hd} : CallR cx 80 [.d h.d] [] fun r S => r = .d (ky h.org h.token) ∧ S = [] := by
  obtain ⟨o, n, a, b⟩ := h
  refine callR_of (R := R1) cx_ok Tryd.func80 (by kernel_rfl) rfl ?_
  conv => whnf
  exact ⟨rfl, rfl⟩

theorem before_c {o o' : Int} {n n' : ByteArray} (h1 : n.size ≤ 200) (h2 : n'.size ≤ 200) : CallR cx 77 [.d (ky o n), .d (ky o' n')] [] fun r S => r = bo (bef o n o' n') ∧ S = [] := by
  have oc := order_c (a := n) (b := n') (by omega) (by omega)
  unfold bef ordN
  generalize ordL (keysAt n 0) (keysAt n' 0) = O at *
  refine callR_of (R := R1) cx_ok Tryd.func77 (by kernel_rfl) rfl ?_
  conv => whnf
  by_cases c1 : o < o'
  · refine brT (decide_eq_true c1) ?_
    conv => whnf
    rw [decide_eq_true c1]
    exact ⟨rfl, rfl⟩
  · refine brF (decide_eq_false c1) ?_
    conv => whnf
    rw [decide_eq_false c1]
    by_cases c2 : o = o'
    · refine brT (decide_eq_true c2) ?_
      conv => whnf
      refine ⟨_, oc, ?_⟩
      rintro _ _ ⟨rfl, rfl⟩
      conv => whnf
      rw [decide_eq_true c2]
      exact ⟨rfl, rfl⟩
    · refine brF (decide_eq_false c2) ?_
      conv => whnf
      rw [decide_eq_false c2]
      exact ⟨rfl, rfl⟩

theorem token1_c {t : Tk} {o : Int} {n : ByteArray} : CallR cx 119 [.d t.d, .ptr 0 []] [.var (.d (ky o n))] fun r S => r = bo (same2 t.org t.name o n) ∧ S = [.var (.d (ky o n))] := by
  have oc := keyOf_c (t := t)
  obtain ⟨o', n', a, b, c, d, e⟩ := t
  refine callR_of (R := R1) cx_ok Tryd.func119 (by kernel_rfl) rfl ?_
  conv => whnf
  refine ⟨by kernel_rfl, ?_⟩
  conv => whnf
  refine ⟨_, oc, ?_⟩
  conv => whnf
  refine ⟨sideK, ?_⟩
  rw [deq_ky]
  conv => whnf
  refine ⟨by kernel_rfl, ?_⟩
  conv => whnf
  exact ⟨rfl, rfl⟩

theorem enlist1_c {t : Tk} {o : Int} {n : ByteArray} (h1 : t.name.size ≤ 200) (h2 : n.size ≤ 200) : CallR cx 93 [.d t.d, .ptr 0 []] [.var (.d (ky o n))] fun r S => r = bo (bef o n t.org t.name) ∧ S = [.var (.d (ky o n))] := by
  have oc := keyOf_c (t := t)
  obtain ⟨o', n', a, b, c, d, e⟩ := t
  have bc := before_c (o := o) (o' := o') h2 h1
  simp only at oc ⊢
  generalize bef o n o' n' = B at *
  refine callR_of (R := R1) cx_ok Tryd.func93 (by kernel_rfl) rfl ?_
  conv => whnf
  refine ⟨by kernel_rfl, ?_⟩
  conv => whnf
  refine ⟨_, oc, ?_⟩
  conv => whnf
  refine ⟨_, bc, ?_⟩
  conv => whnf
  refine ⟨by kernel_rfl, ?_⟩
  conv => whnf
  exact ⟨rfl, rfl⟩

theorem holding1_c {h : Hd} {o : Int} {n w : ByteArray} : CallR cx 140 [.d h.d, .ptr 0 [], .ptr 1 []] [.var (.d (ky o n)), .var (st w)] fun r S =>
    r = bo (same2 h.org h.token o n && decide (h.owner = w)) ∧ S = [.var (.d (ky o n)), .var (st w)] := by
  have oc := keyHeld_c (h := h)
  obtain ⟨o', n', a, b⟩ := h
  simp only at oc ⊢
  generalize hB : same2 o' n' o n = B
  refine callR_of (R := R1) cx_ok Tryd.func140 (by kernel_rfl) rfl ?_
  conv => whnf
  refine ⟨by kernel_rfl, ?_⟩
  conv => whnf
  refine ⟨_, oc, ?_⟩
  conv => whnf
  refine ⟨sideK, ?_⟩
  rw [deq_ky, hB]
  cases B with
  | true =>
    conv => whnf
    refine ⟨by kernel_rfl, ?_⟩
    conv => whnf
    exact ⟨rfl, rfl⟩
  | false =>
    conv => whnf
    refine ⟨by kernel_rfl, ?_⟩
    conv => whnf
    exact ⟨rfl, rfl⟩

theorem put1_c {h : Hd} {o : Int} {n w : ByteArray} (h1 : h.ok) (h2 : n.size ≤ 200) (h3 : w.size ≤ 200) : CallR cx 133 [.d h.d, .ptr 0 [], .ptr 1 []] [.var (.d (ky o n)), .var (st w)] fun r S =>
    r = bo (bef o n h.org h.token || (same2 o n h.org h.token && decide (ordN w h.owner < 0))) ∧ S = [.var (.d (ky o n)), .var (st w)] := by
  have oc := keyHeld_c (h := h)
  have h4 := h1.2.1
  have h5 := h1.2.2
  obtain ⟨o', n', a, b⟩ := h
  simp only at oc h4 h5 ⊢
  have bc := before_c (o := o) (o' := o') h2 h4
  have rc := order_c (a := w) (b := a) (by omega) (by omega)
  unfold ordN
  generalize ordL (keysAt w 0) (keysAt a 0) = O at *
  generalize bef o n o' n' = B at *
  generalize hE : same2 o n o' n' = E
  refine callR_of (R := R1) cx_ok Tryd.func133 (by kernel_rfl) rfl ?_
  conv => whnf
  refine ⟨by kernel_rfl, ?_⟩
  conv => whnf
  refine ⟨_, oc, ?_⟩
  conv => whnf
  refine ⟨_, bc, ?_⟩
  cases B with
  | true =>
    conv => whnf
    refine ⟨by kernel_rfl, ?_⟩
    conv => whnf
    exact ⟨rfl, rfl⟩
  | false =>
    conv => whnf
    refine ⟨_, oc, ?_⟩
    conv => whnf
    refine ⟨sideK, ?_⟩
    rw [deq_ky, hE]
    cases E with
    | true =>
      conv => whnf
      refine ⟨_, rc, ?_⟩
      conv => whnf
      refine ⟨by kernel_rfl, ?_⟩
      conv => whnf
      exact ⟨rfl, rfl⟩
    | false =>
      conv => whnf
      refine ⟨by kernel_rfl, ?_⟩
      conv => whnf
      exact ⟨rfl, rfl⟩
end Go.Proofs.YtmdfpifcghmpfaaDoor
