/- Purses: tokens' keys; where a token, where a holding is. Purses: the first token, the first holding that is so. -/
import Derived.Test.YtmdfpifcghmpfaaDoorM3
namespace Go.Proofs.YtmdfpifcghmpfaaDoor
open Go.Ab Go.RowKit

structure Tk where
  org : Int
  name : ByteArray
  cap : Int
  locked : Int
  unlocked : Int
  minted : Int
  burned : Int
def Tk.d (t : Tk) : D := .agg [.int .u32 t.org, .str t.name, .int .u64 t.cap, .int .u64 t.locked, .int .u64 t.unlocked, .int .u64 t.minted, .int .u64 t.burned]
structure Hd where
  org : Int
  token : ByteArray
  owner : ByteArray
  amount : Int
def Hd.d (h : Hd) : D := .agg [.int .u32 h.org, .str h.token, .str h.owner, .int .u64 h.amount]
structure Pu where
  toks : List Tk
  holds : List Hd
abbrev tks (l : List Tk) : List D := l.map Tk.d
abbrev hds (l : List Hd) : List D := l.map Hd.d
def Pu.d (p : Pu) : D := .agg [.sl 7 (tks p.toks), .sl 4 (hds p.holds)]
def Tk.ok (t : Tk) : Prop := U t.cap ∧ U t.locked ∧ U t.unlocked ∧ U t.minted ∧ U t.burned ∧ t.name.size ≤ 1000
def Hd.ok (h : Hd) : Prop := U h.amount ∧ h.token.size ≤ 1000 ∧ h.owner.size ≤ 1000
structure Pu.ok (p : Pu) : Prop where
  t : ∀ t ∈ p.toks, t.ok
  h : ∀ h ∈ p.holds, h.ok
  nt : p.toks.length ≤ 100000
  nh : p.holds.length ≤ 100000

/-- A token's key. -/
abbrev ky (o : Int) (n : ByteArray) : D := .agg [.int .u32 o, .str n]
/-- Does one key stand ahead of another one? -/
def bef (o : Int) (n : ByteArray) (o' : Int) (n' : ByteArray) : Bool := decide (o < o') || (decide (o = o') && decide (ordN n n' < 0))
def same2 (o : Int) (n : ByteArray) (o' : Int) (n' : ByteArray) : Bool := decide (o = o') && decide (n = n')

theorem sideK {o o' : Int} {n n' : ByteArray} : ∃ T : Ty, T.fitE cx.tt 132 = true ∧ Nat.blt T.depth 9999 = true ∧ T.is (ky o n) ∧ T.is (ky o' n') :=
  ⟨.st [.int .u32, .str], by kernel_rfl, by kernel_rfl, ⟨_, rfl, _, _, rfl, ⟨_, rfl⟩, _, _, rfl, ⟨_, rfl⟩, rfl⟩, ⟨_, rfl, _, _, rfl, ⟨_, rfl⟩, _, _, rfl, ⟨_, rfl⟩, rfl⟩⟩

theorem deq_ky {o o' : Int} {n n' : ByteArray} : deq (ky o n) (ky o' n') = same2 o n o' n' := by
  unfold same2
  by_cases h1 : o = o' <;> by_cases h2 : n = n' <;> simp [deq, h1, h2]

theorem keyOf_c {t : Tk} : CallR cx 78 [.d t.d] [] fun r S => r = .d (ky t.org t.name) ∧ S = [] := by
  obtain ⟨o, n, a, b, c, d, e⟩ := t
  refine callR_of (R := R1) cx_ok Tryd.func78 (by kernel_rfl) rfl ?_
  conv => whnf
  exact ⟨rfl, rfl⟩
theorem keyHeld_c {h : Hd} : CallR cx 80 [.d h.d] [] fun r S => r = .d (ky h.org h.token) ∧ S = [] := by
  obtain ⟨o, n, a, b⟩ := h
  refine callR_of (R := R1) cx_ok Tryd.func80 (by kernel_rfl) rfl ?_
  conv => whnf
  exact ⟨rfl, rfl⟩

theorem before_c {o o' : Int} {n n' : ByteArray} (h1 : n.size ≤ 1000) (h2 : n'.size ≤ 1000) : CallR cx 77 [.d (ky o n), .d (ky o' n')] [] fun r S => r = bo (bef o n o' n') ∧ S = [] := by
  have oc := order_c (a := n) (b := n') (by omega) (by omega)
  unfold bef ordN
  generalize ordL (keysAt n 0) (keysAt n' 0) = O at *
  refine callR_of (R := R1) cx_ok Tryd.func77 (by kernel_rfl) rfl ?_
  conv => whnf
  by_cases c1 : o < o'
  · refine brT (decide_eq_true c1) ?_
    conv => whnf
    rw [decide_eq_true c1]
    exact ⟨rfl, rfl⟩
  · refine brF (decide_eq_false c1) ?_
    conv => whnf
    rw [decide_eq_false c1]
    by_cases c2 : o = o'
    · refine brT (decide_eq_true c2) ?_
      conv => whnf
      refine ⟨_, oc, ?_⟩
      rintro _ _ ⟨rfl, rfl⟩
      conv => whnf
      rw [decide_eq_true c2]
      exact ⟨rfl, rfl⟩
    · refine brF (decide_eq_false c2) ?_
      conv => whnf
      rw [decide_eq_false c2]
      exact ⟨rfl, rfl⟩

theorem token1_c {t : Tk} {o : Int} {n : ByteArray} : CallR cx 119 [.d t.d, .ptr 0 []] [.var (.d (ky o n))] fun r S => r = bo (same2 t.org t.name o n) ∧ S = [.var (.d (ky o n))] := by
  have oc := keyOf_c (t := t)
  obtain ⟨o', n', a, b, c, d, e⟩ := t
  refine callR_of (R := R1) cx_ok Tryd.func119 (by kernel_rfl) rfl ?_
  conv => whnf
  refine ⟨by kernel_rfl, ?_⟩
  conv => whnf
  refine ⟨_, oc, ?_⟩
  conv => whnf
  refine ⟨sideK, ?_⟩
  rw [deq_ky]
  conv => whnf
  refine ⟨by kernel_rfl, ?_⟩
  conv => whnf
  exact ⟨rfl, rfl⟩

theorem enlist1_c {t : Tk} {o : Int} {n : ByteArray} (h1 : t.name.size ≤ 1000) (h2 : n.size ≤ 1000) : CallR cx 93 [.d t.d, .ptr 0 []] [.var (.d (ky o n))] fun r S => r = bo (bef o n t.org t.name) ∧ S = [.var (.d (ky o n))] := by
  have oc := keyOf_c (t := t)
  obtain ⟨o', n', a, b, c, d, e⟩ := t
  have bc := before_c (o := o) (o' := o') h2 h1
  simp only at oc ⊢
  generalize bef o n o' n' = B at *
  refine callR_of (R := R1) cx_ok Tryd.func93 (by kernel_rfl) rfl ?_
  conv => whnf
  refine ⟨by kernel_rfl, ?_⟩
  conv => whnf
  refine ⟨_, oc, ?_⟩
  conv => whnf
  refine ⟨_, bc, ?_⟩
  conv => whnf
  refine ⟨by kernel_rfl, ?_⟩
  conv => whnf
  exact ⟨rfl, rfl⟩

theorem holding1_c {h : Hd} {o : Int} {n w : ByteArray} : CallR cx 140 [.d h.d, .ptr 0 [], .ptr 1 []] [.var (.d (ky o n)), .var (st w)] fun r S =>
    r = bo (same2 h.org h.token o n && decide (h.owner = w)) ∧ S = [.var (.d (ky o n)), .var (st w)] := by
  have oc := keyHeld_c (h := h)
  obtain ⟨o', n', a, b⟩ := h
  simp only at oc ⊢
  generalize hB : same2 o' n' o n = B
  refine callR_of (R := R1) cx_ok Tryd.func140 (by kernel_rfl) rfl ?_
  conv => whnf
  refine ⟨by kernel_rfl, ?_⟩
  conv => whnf
  refine ⟨_, oc, ?_⟩
  conv => whnf
  refine ⟨sideK, ?_⟩
  rw [deq_ky, hB]
  cases B with
  | true =>
    conv => whnf
    refine ⟨by kernel_rfl, ?_⟩
    conv => whnf
    exact ⟨rfl, rfl⟩
  | false =>
    conv => whnf
    refine ⟨by kernel_rfl, ?_⟩
    conv => whnf
    exact ⟨rfl, rfl⟩

theorem put1_c {h : Hd} {o : Int} {n w : ByteArray} (h1 : h.ok) (h2 : n.size ≤ 1000) (h3 : w.size ≤ 1000) : CallR cx 133 [.d h.d, .ptr 0 [], .ptr 1 []] [.var (.d (ky o n)), .var (st w)] fun r S =>
    r = bo (bef o n h.org h.token || (same2 o n h.org h.token && decide (ordN w h.owner < 0))) ∧ S = [.var (.d (ky o n)), .var (st w)] := by
  have oc := keyHeld_c (h := h)
  have h4 := h1.2.1
  have h5 := h1.2.2
  obtain ⟨o', n', a, b⟩ := h
  simp only at oc h4 h5 ⊢
  have bc := before_c (o := o) (o' := o') h2 h4
  have rc := order_c (a := w) (b := a) (by omega) (by omega)
  unfold ordN
  generalize ordL (keysAt w 0) (keysAt a 0) = O at *
  generalize bef o n o' n' = B at *
  generalize hE : same2 o n o' n' = E
  refine callR_of (R := R1) cx_ok Tryd.func133 (by kernel_rfl) rfl ?_
  conv => whnf
  refine ⟨by kernel_rfl, ?_⟩
  conv => whnf
  refine ⟨_, oc, ?_⟩
  conv => whnf
  refine ⟨_, bc, ?_⟩
  cases B with
  | true =>
    conv => whnf
    refine ⟨by kernel_rfl, ?_⟩
    conv => whnf
    exact ⟨rfl, rfl⟩
  | false =>
    conv => whnf
    refine ⟨_, oc, ?_⟩
    conv => whnf
    refine ⟨sideK, ?_⟩
    rw [deq_ky, hE]
    cases E with
    | true =>
      conv => whnf
      refine ⟨_, rc, ?_⟩
      conv => whnf
      refine ⟨by kernel_rfl, ?_⟩
      conv => whnf
      exact ⟨rfl, rfl⟩
    | false =>
      conv => whnf
      refine ⟨by kernel_rfl, ?_⟩
      conv => whnf
      exact ⟨rfl, rfl⟩
end Go.Proofs.YtmdfpifcghmpfaaDoor

namespace Go.Proofs.YtmdfpifcghmpfaaDoor
open Go.Ab Go.RowKit

/-- The place of the first that is so, or -1. -/
def ixOf {α : Type} (p : α → Bool) : List α → Nat → Int
  | [], _ => -1
  | a :: l, j => if p a then (j : Int) else ixOf p l (j + 1)

theorem tks_getD {l : List Tk} {j : Nat} (h : j < l.length) : (tks l).getD (j : Int).toNat .nilP = (l[j]'h).d := by
  rw [Int.toNat_natCast, List.getD_eq_getElem?_getD, List.getElem?_map, List.getElem?_eq_getElem h]; rfl
theorem hds_getD {l : List Hd} {j : Nat} (h : j < l.length) : (hds l).getD (j : Int).toNat .nilP = (l[j]'h).d := by
  rw [Int.toNat_natCast, List.getD_eq_getElem?_getD, List.getElem?_map, List.getElem?_eq_getElem h]; rfl

theorem ixT_c {f : FuncId} {p : Tk → Bool} {x0 : D} {l : List Tk} (hl : l.length ≤ 100000) (hp : ∀ t ∈ l, CallR cx f [.d t.d, .ptr 0 []] [.var (.d x0)] fun r S => r = bo (p t) ∧ S = [.var (.d x0)]) :
    CallR cx 92 [.d (.sl 7 (tks l)), .fn f [0]] [.var (.d x0)] fun r S => r = i64 (ixOf p l 0) ∧ S = [.var (.d x0)] := by
  have hlen : (tks l).length = l.length := List.length_map _
  refine callR_of (R := R1) cx_ok Tryd.func92 (by kernel_rfl) rfl ?_
  conv => whnf
  refine .inl ⟨fun m L S => ∃ j : Nat, j ≤ l.length ∧ ixOf p (l.drop j) j = ixOf p l 0 ∧ m = l.length - j ∧
      L = [(0, .d (.sl 7 (tks l))), (1, .fn f [0]), (7, i64 (((tks l).length : Nat) : Int)), (8, i64 (j : Int))] ∧ S = [.var (.d x0)],
    ⟨_, _, ⟨0, Nat.zero_le _, rfl, rfl, rfl, rfl⟩, ⟨rfl, rfl, rfl, rfl, trivial⟩⟩, ?_⟩
  rintro _ _ _ ⟨j, hj, h1, rfl, rfl, rfl⟩
  conv => whnf
  refine brec (fun h4 => ?_) (fun h4 => ?_)
  · have h4 := of_decide_eq_true h4
    rw [hlen] at h4
    have hlt : j < l.length := by omega
    conv => whnf
    refine ⟨⟨by omega, by rw [hlen]; omega⟩, ?_⟩
    rw [tks_getD hlt]
    rw [List.drop_eq_getElem_cons hlt] at h1
    have hq := hp _ (List.getElem_mem hlt)
    generalize l[j]'hlt = a at *
    conv => whnf
    refine ⟨_, hq, ?_⟩
    rintro _ _ ⟨rfl, rfl⟩
    conv => whnf
    rw [ixOf] at h1
    refine brec (fun h5 => ?_) (fun h5 => ?_)
    · rw [if_pos h5] at h1
      conv => whnf
      rw [h1]
      exact ⟨rfl, rfl⟩
    · rw [if_neg (by rw [h5]; decide)] at h1
      have e3 : IntKind.i64.wrap ((j : Int) + 1) = ((j + 1 : Nat) : Int) := by rw [w64 (by omega)]; omega
      conv => whnf
      exact ⟨_, _, 1, (by omega : l.length - (j + 1) < l.length - j), ⟨j + 1, by omega, h1, rfl, rfl, rfl⟩, ⟨rfl, rfl, rfl, congrArg (fun z => some (i64 z)) e3, trivial⟩, rfl⟩
  · have h4 := of_decide_eq_false h4
    rw [hlen] at h4
    obtain rfl : j = l.length := by omega
    rw [List.drop_length, ixOf] at h1
    conv => whnf
    rw [← h1]
    exact ⟨rfl, rfl⟩


theorem ixH_c {f : FuncId} {p : Hd → Bool} {x0 x1 : D} {l : List Hd} (hl : l.length ≤ 100000) (hp : ∀ t ∈ l, CallR cx f [.d t.d, .ptr 0 [], .ptr 1 []] [.var (.d x0), .var (.d x1)] fun r S => r = bo (p t) ∧ S = [.var (.d x0), .var (.d x1)]) :
    CallR cx 132 [.d (.sl 4 (hds l)), .fn f [0, 1]] [.var (.d x0), .var (.d x1)] fun r S => r = i64 (ixOf p l 0) ∧ S = [.var (.d x0), .var (.d x1)] := by
  have hlen : (hds l).length = l.length := List.length_map _
  refine callR_of (R := R1) cx_ok Tryd.func132 (by kernel_rfl) rfl ?_
  conv => whnf
  refine .inl ⟨fun m L S => ∃ j : Nat, j ≤ l.length ∧ ixOf p (l.drop j) j = ixOf p l 0 ∧ m = l.length - j ∧
      L = [(0, .d (.sl 4 (hds l))), (1, .fn f [0, 1]), (7, i64 (((hds l).length : Nat) : Int)), (8, i64 (j : Int))] ∧ S = [.var (.d x0), .var (.d x1)],
    ⟨_, _, ⟨0, Nat.zero_le _, rfl, rfl, rfl, rfl⟩, ⟨rfl, rfl, rfl, rfl, trivial⟩⟩, ?_⟩
  rintro _ _ _ ⟨j, hj, h1, rfl, rfl, rfl⟩
  conv => whnf
  refine brec (fun h4 => ?_) (fun h4 => ?_)
  · have h4 := of_decide_eq_true h4
    rw [hlen] at h4
    have hlt : j < l.length := by omega
    conv => whnf
    refine ⟨⟨by omega, by rw [hlen]; omega⟩, ?_⟩
    rw [hds_getD hlt]
    rw [List.drop_eq_getElem_cons hlt] at h1
    have hq := hp _ (List.getElem_mem hlt)
    generalize l[j]'hlt = a at *
    conv => whnf
    refine ⟨_, hq, ?_⟩
    rintro _ _ ⟨rfl, rfl⟩
    conv => whnf
    rw [ixOf] at h1
    refine brec (fun h5 => ?_) (fun h5 => ?_)
    · rw [if_pos h5] at h1
      conv => whnf
      rw [h1]
      exact ⟨rfl, rfl⟩
    · rw [if_neg (by rw [h5]; decide)] at h1
      have e3 : IntKind.i64.wrap ((j : Int) + 1) = ((j + 1 : Nat) : Int) := by rw [w64 (by omega)]; omega
      conv => whnf
      exact ⟨_, _, 2, (by omega : l.length - (j + 1) < l.length - j), ⟨j + 1, by omega, h1, rfl, rfl, rfl⟩, ⟨rfl, rfl, rfl, congrArg (fun z => some (i64 z)) e3, trivial⟩, rfl⟩
  · have h4 := of_decide_eq_false h4
    rw [hlen] at h4
    obtain rfl : j = l.length := by omega
    rw [List.drop_length, ixOf] at h1
    conv => whnf
    rw [← h1]
    exact ⟨rfl, rfl⟩


theorem ixO_c {f : FuncId} {p : Hd → Bool} {x0 x1 : D} {l : List Hd} (hl : l.length ≤ 100000) (hp : ∀ t ∈ l, CallR cx f [.d t.d, .ptr 0 [], .ptr 1 []] [.var (.d x0), .var (.d x1)] fun r S => r = bo (p t) ∧ S = [.var (.d x0), .var (.d x1)]) :
    CallR cx 132 [.row 0, .fn f [1, 2]] [.own 129 4 (hds l), .var (.d x0), .var (.d x1)] fun r S => r = i64 (ixOf p l 0) ∧ S = [.own 129 4 (hds l), .var (.d x0), .var (.d x1)] := by
  have hlen : (hds l).length = l.length := List.length_map _
  refine callR_ofR (rw := true) (R := R1) cx_ok Tryd.func132 (by kernel_rfl) rfl ?_
  conv => whnf
  refine .inl ⟨fun m L S => ∃ j : Nat, j ≤ l.length ∧ ixOf p (l.drop j) j = ixOf p l 0 ∧ m = l.length - j ∧
      L = [(0, .row 0), (1, .fn f [1, 2]), (7, i64 (((hds l).length : Nat) : Int)), (8, i64 (j : Int))] ∧ S = [.own 129 4 (hds l), .var (.d x0), .var (.d x1)],
    ⟨_, _, ⟨0, Nat.zero_le _, rfl, rfl, rfl, rfl⟩, ⟨rfl, rfl, rfl, rfl, trivial⟩⟩, ?_⟩
  rintro _ _ _ ⟨j, hj, h1, rfl, rfl, rfl⟩
  conv => whnf
  refine brec (fun h4 => ?_) (fun h4 => ?_)
  · have h4 := of_decide_eq_true h4
    rw [hlen] at h4
    have hlt : j < l.length := by omega
    conv => whnf
    refine ⟨⟨by omega, by rw [hlen]; omega⟩, ?_⟩
    conv => whnf
    refine ⟨by rw [hlen]; omega, ?_⟩
    rw [hds_getD hlt]
    rw [List.drop_eq_getElem_cons hlt] at h1
    have hq := hp _ (List.getElem_mem hlt)
    generalize l[j]'hlt = a at *
    conv => whnf
    refine ⟨_, hq, ?_⟩
    rintro _ _ ⟨rfl, rfl⟩
    conv => whnf
    rw [ixOf] at h1
    refine brec (fun h5 => ?_) (fun h5 => ?_)
    · rw [if_pos h5] at h1
      conv => whnf
      rw [h1]
      exact ⟨rfl, rfl⟩
    · rw [if_neg (by rw [h5]; decide)] at h1
      have e3 : IntKind.i64.wrap ((j : Int) + 1) = ((j + 1 : Nat) : Int) := by rw [w64 (by omega)]; omega
      conv => whnf
      exact ⟨_, _, 3, (by omega : l.length - (j + 1) < l.length - j), ⟨j + 1, by omega, h1, rfl, rfl, rfl⟩, ⟨rfl, rfl, rfl, congrArg (fun z => some (i64 z)) e3, trivial⟩, rfl⟩
  · have h4 := of_decide_eq_false h4
    rw [hlen] at h4
    obtain rfl : j = l.length := by omega
    rw [List.drop_length, ixOf] at h1
    conv => whnf
    rw [← h1]
    exact ⟨rfl, rfl⟩

end Go.Proofs.YtmdfpifcghmpfaaDoor
