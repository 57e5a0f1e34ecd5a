/- Ledgers: an account's place. -/
import Derived.Test.YtmdfpifcghmpfaaDoorL1
import Derived.Test.YtmdfpifcghmpfaaDoorN3
namespace Go.Proofs.YtmdfpifcghmpfaaDoor
open Go.Ab Go.RowKit

theorem at1_c {a : Ac} {who : ByteArray} : CallR cx 111 [.d a.d, .ptr 0 []] [.var (st who)] fun r S => r = bo (decide (a.name = who)) ∧ S = [.var (st who)] := by
  refine callR_of (R := R1) cx_ok Tryd.func111 (by kernel_rfl) rfl ?_
  conv => whnf
  exact ⟨rfl, rfl⟩

/-- The place of the first that is so, or -1. -/
def idxOf (p : Ac → Bool) : List Ac → Nat → Int
  | [], _ => -1
  | a :: l, j => if p a then (j : Int) else idxOf p l (j + 1)

theorem acs_getD {l : List Ac} {j : Nat} (h : j < l.length) : (acs l).getD (j : Int).toNat .nilP = (l[j]'h).d := by
  rw [Int.toNat_natCast, List.getD_eq_getElem?_getD, List.getElem?_map, List.getElem?_eq_getElem h]; rfl

theorem indexFunc_c {l : List Ac} {who : ByteArray} (hl : l.length ≤ 100000) : CallR cx 108 [.d (.sl 35 (acs l)), .fn 111 [0]] [.var (st who)] fun r S =>
    r = i64 (idxOf (fun a => decide (a.name = who)) l 0) ∧ S = [.var (st who)] := by
  have hlen : (acs l).length = l.length := List.length_map _
  refine callR_of (R := R1) cx_ok Tryd.func108 (by kernel_rfl) rfl ?_
  conv => whnf
  refine .inl ⟨fun m L S => ∃ j : Nat, j ≤ l.length ∧ idxOf (fun a => decide (a.name = who)) (l.drop j) j = idxOf (fun a => decide (a.name = who)) l 0 ∧ m = l.length - j ∧
      L = [(0, .d (.sl 35 (acs l))), (1, .fn 111 [0]), (7, i64 (((acs l).length : Nat) : Int)), (8, i64 (j : Int))] ∧ S = [.var (st who)],
    ⟨_, _, ⟨0, Nat.zero_le _, rfl, rfl, rfl, rfl⟩, ⟨rfl, rfl, rfl, rfl, trivial⟩⟩, ?_⟩
  rintro _ _ _ ⟨j, hj, h1, rfl, rfl, rfl⟩
  conv => whnf
  refine brec (fun h4 => ?_) (fun h4 => ?_)
  · have h4 := of_decide_eq_true h4
    rw [hlen] at h4
    have hlt : j < l.length := by omega
    conv => whnf
    refine ⟨⟨by omega, by rw [hlen]; omega⟩, ?_⟩
    rw [acs_getD hlt]
    rw [List.drop_eq_getElem_cons hlt] at h1
    generalize l[j]'hlt = a at *
    conv => whnf
    refine ⟨_, at1_c, ?_⟩
    rintro _ _ ⟨rfl, rfl⟩
    conv => whnf
    rw [idxOf] at h1
    refine brec (fun h5 => ?_) (fun h5 => ?_)
    · rw [if_pos h5] at h1
      conv => whnf
      rw [h1]
      exact ⟨rfl, rfl⟩
    · rw [if_neg (by rw [h5]; decide)] at h1
      have e3 : IntKind.i64.wrap ((j : Int) + 1) = ((j + 1 : Nat) : Int) := by rw [w64 (by omega)]; omega
      conv => whnf
      exact ⟨_, _, 1, (by omega : l.length - (j + 1) < l.length - j), ⟨j + 1, by omega, h1, rfl, rfl, rfl⟩, ⟨rfl, rfl, rfl, congrArg (fun z => some (i64 z)) e3, trivial⟩, rfl⟩
  · have h4 := of_decide_eq_false h4
    rw [hlen] at h4
    obtain rfl : j = l.length := by omega
    rw [List.drop_length, idxOf] at h1
    conv => whnf
    rw [← h1]
    exact ⟨rfl, rfl⟩

/-- A ledger. -/
structure Lg where
  height : Int
  time : Int
  gas : Int
  accs : List Ac
  evs : List D
abbrev esz : Nat := 35
def Lg.d (l : Lg) : D := .agg [.int .u64 l.height, .int .u64 l.time, .int .u64 l.gas, .sl 35 (acs l.accs), .sl esz l.evs]

def atN (l : List Ac) (who : ByteArray) : Int := idxOf (fun a => decide (a.name = who)) l 0

theorem at_c {l : Lg} {who : ByteArray} (hl : l.accs.length ≤ 100000) : CallR cx 52 [.d l.d, st who] [] fun r S => r = i64 (atN l.accs who) ∧ S = [] := by
  have ix := indexFunc_c (who := who) hl
  obtain ⟨h, t, g, al, es⟩ := l
  refine callR_of (R := R1) cx_ok Tryd.func52 (by kernel_rfl) rfl ?_
  conv => whnf
  refine ⟨_, ix, ?_⟩
  rintro _ _ ⟨rfl, rfl⟩
  conv => whnf
  exact ⟨rfl, rfl⟩

theorem with_c {l : Lg} {i : Nat} {a : Ac} (hl : l.accs.length ≤ 100000) (hi : i < l.accs.length) : CallR cx 54 [.d l.d, i64 (i : Int), .d a.d] [] fun r S => r = .d (Lg.d { l with accs := l.accs.set i a }) ∧ S = [] := by
  have cl := cloneA_c hl
  obtain ⟨h, t, g, al, es⟩ := l
  simp only at hl hi cl ⊢
  have hlen : (acs al).length = al.length := List.length_map _
  refine callR_of (R := R1) cx_ok Tryd.func54 (by kernel_rfl) rfl ?_
  conv => whnf
  refine ⟨_, cl, ?_⟩
  rintro _ _ ⟨rfl, rfl⟩
  conv => whnf
  refine ⟨⟨by omega, by rw [hlen]; omega⟩, ?_⟩
  rw [Int.toNat_natCast]
  conv => whnf
  refine ⟨by rw [hlen]; exact hi, ?_⟩
  conv => whnf
  have e : (acs al).set i a.d = acs (al.set i a) := List.map_set.symm
  rw [e]
  exact ⟨rfl, rfl⟩
end Go.Proofs.YtmdfpifcghmpfaaDoor
