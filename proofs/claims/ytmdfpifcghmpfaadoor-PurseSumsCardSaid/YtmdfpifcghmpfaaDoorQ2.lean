/- Purses: the first token, the first holding that is so. -/
import Derived.Test.YtmdfpifcghmpfaaDoorQ1
namespace Go.Proofs.YtmdfpifcghmpfaaDoor
open Go.Ab Go.RowKit

/-- The place of the first that is so, or -1. -/
def ixOf {α : Type} (p : α → Bool) : List α → Nat → Int
  | [], _ => -1
  | a :: l, j => if p a then (j : Int) else ixOf p l (j + 1)

theorem tks_getD {l : List Tk} {j : Nat} (h : j < l.length) : (tks l).getD (j : Int).toNat .nilP = (l[j]'h).d := by
  rw [Int.toNat_natCast, List.getD_eq_getElem?_getD, List.getElem?_map, List.getElem?_eq_getElem h]; rfl
theorem hds_getD {l : List Hd} {j : Nat} (h : j < l.length) : (hds l).getD (j : Int).toNat .nilP = (l[j]'h).d := by
  rw [Int.toNat_natCast, List.getD_eq_getElem?_getD, List.getElem?_map, List.getElem?_eq_getElem h]; rfl

theorem ixT_c {f : FuncId} {p : Tk → Bool} {x0 : D} {l : List Tk} (hl : l.length ≤ 100000) (hp : ∀ t ∈ l, CallR cx f [.d t.d, .ptr 0 []] [.var (.d x0)] fun r S => r = bo (p t) ∧ S = [.var (.d x0)]) :
    CallR cx 92 [.d (.sl 7 (tks l)), .fn f [0]] [.var (.d x0)] fun r S => r = i64 (ixOf p l 0) ∧ S = [.var (.d x0)] := by
  have hlen : (tks l).length = l.length := List.length_map _
  refine callR_of (R := R1) cx_ok Tryd.func92 (by kernel_rfl) rfl ?_
  conv => whnf
  refine .inl ⟨fun m L S => ∃ j : Nat, j ≤ l.length ∧ ixOf p (l.drop j) j = ixOf p l 0 ∧ m = l.length - j ∧
      L = [(0, .d (.sl 7 (tks l))), (1, .fn f [0]), (7, i64 (((tks l).length : Nat) : Int)), (8, i64 (j : Int))] ∧ S = [.var (.d x0)],
    ⟨_, _, ⟨0, Nat.zero_le _, rfl, rfl, rfl, rfl⟩, ⟨rfl, rfl, rfl, rfl, trivial⟩⟩, ?_⟩
  rintro _ _ _ ⟨j, hj, h1, rfl, rfl, rfl⟩
  conv => whnf
  refine brec (fun h4 => ?_) (fun h4 => ?_)
  · have h4 := of_decide_eq_true h4
    rw [hlen] at h4
    have hlt : j < l.length := by omega
    conv => whnf
    refine ⟨⟨by omega, by rw [hlen]; omega⟩, ?_⟩
    rw [tks_getD hlt]
    rw [List.drop_eq_getElem_cons hlt] at h1
    have hq := hp _ (List.getElem_mem hlt)
    generalize l[j]'hlt = a at *
    conv => whnf
    refine ⟨_, hq, ?_⟩
    rintro _ _ ⟨rfl, rfl⟩
    conv => whnf
    rw [ixOf] at h1
    refine brec (fun h5 => ?_) (fun h5 => ?_)
    · rw [if_pos h5] at h1
      conv => whnf
      rw [h1]
      exact ⟨rfl, rfl⟩
    · rw [if_neg (by rw [h5]; decide)] at h1
      have e3 : IntKind.i64.wrap ((j : Int) + 1) = ((j + 1 : Nat) : Int) := by rw [w64 (by omega)]; omega
      conv => whnf
      exact ⟨_, _, 1, (by omega : l.length - (j + 1) < l.length - j), ⟨j + 1, by omega, h1, rfl, rfl, rfl⟩, ⟨rfl, rfl, rfl, congrArg (fun z => some (i64 z)) e3, trivial⟩, rfl⟩
  · have h4 := of_decide_eq_false h4
    rw [hlen] at h4
    obtain rfl : j = l.length := by omega
    rw [List.drop_length, ixOf] at h1
    conv => whnf
    rw [← h1]
    exact ⟨rfl, rfl⟩


theorem ixH_c {f : FuncId} {p : Hd → Bool} {x0 x1 : D} {l : List Hd} (hl : l.length ≤ 100000) (hp : ∀ t ∈ l, CallR cx f [.d t.d, .ptr 0 [], .ptr 1 []] [.var (.d x0), .var (.d x1)] fun r S => r = bo (p t) ∧ S = [.var (.d x0), .var (.d x1)]) :
    CallR cx 132 [.d (.sl 4 (hds l)), .fn f [0, 1]] [.var (.d x0), .var (.d x1)] fun r S => r = i64 (ixOf p l 0) ∧ S = [.var (.d x0), .var (.d x1)] := by
  have hlen : (hds l).length = l.length := List.length_map _
  refine callR_of (R := R1) cx_ok Tryd.func132 (by kernel_rfl) rfl ?_
  conv => whnf
  refine .inl ⟨fun m L S => ∃ j : Nat, j ≤ l.length ∧ ixOf p (l.drop j) j = ixOf p l 0 ∧ m = l.length - j ∧
      L = [(0, .d (.sl 4 (hds l))), (1, .fn f [0, 1]), (7, i64 (((hds l).length : Nat) : Int)), (8, i64 (j : Int))] ∧ S = [.var (.d x0), .var (.d x1)],
    ⟨_, _, ⟨0, Nat.zero_le _, rfl, rfl, rfl, rfl⟩, ⟨rfl, rfl, rfl, rfl, trivial⟩⟩, ?_⟩
  rintro _ _ _ ⟨j, hj, h1, rfl, rfl, rfl⟩
  conv => whnf
  refine brec (fun h4 => ?_) (fun h4 => ?_)
  · have h4 := of_decide_eq_true h4
    rw [hlen] at h4
    have hlt : j < l.length := by omega
    conv => whnf
    refine ⟨⟨by omega, by rw [hlen]; omega⟩, ?_⟩
    rw [hds_getD hlt]
    rw [List.drop_eq_getElem_cons hlt] at h1
    have hq := hp _ (List.getElem_mem hlt)
    generalize l[j]'hlt = a at *
    conv => whnf
    refine ⟨_, hq, ?_⟩
    rintro _ _ ⟨rfl, rfl⟩
    conv => whnf
    rw [ixOf] at h1
    refine brec (fun h5 => ?_) (fun h5 => ?_)
    · rw [if_pos h5] at h1
      conv => whnf
      rw [h1]
      exact ⟨rfl, rfl⟩
    · rw [if_neg (by rw [h5]; decide)] at h1
      have e3 : IntKind.i64.wrap ((j : Int) + 1) = ((j + 1 : Nat) : Int) := by rw [w64 (by omega)]; omega
      conv => whnf
      exact ⟨_, _, 2, (by omega : l.length - (j + 1) < l.length - j), ⟨j + 1, by omega, h1, rfl, rfl, rfl⟩, ⟨rfl, rfl, rfl, congrArg (fun z => some (i64 z)) e3, trivial⟩, rfl⟩
  · have h4 := of_decide_eq_false h4
    rw [hlen] at h4
    obtain rfl : j = l.length := by omega
    rw [List.drop_length, ixOf] at h1
    conv => whnf
    rw [← h1]
    exact ⟨rfl, rfl⟩


theorem ixO_c {f : FuncId} {p : Hd → Bool} {x0 x1 : D} {l : List Hd} (hl : l.length ≤ 100000) (hp : ∀ t ∈ l, CallR cx f [.d t.d, .ptr 0 [], .ptr 1 []] [.var (.d x0), .var (.d x1)] fun r S => r = bo (p t) ∧ S = [.var (.d x0), .var (.d x1)]) :
    CallR cx 132 [.row 0, .fn f [1, 2]] [.own 129 4 (hds l), .var (.d x0), .var (.d x1)] fun r S => r = i64 (ixOf p l 0) ∧ S = [.own 129 4 (hds l), .var (.d x0), .var (.d x1)] := by
  have hlen : (hds l).length = l.length := List.length_map _
  refine callR_ofR (rw := true) (R := R1) cx_ok Tryd.func132 (by kernel_rfl) rfl ?_
  conv => whnf
  refine .inl ⟨fun m L S => ∃ j : Nat, j ≤ l.length ∧ ixOf p (l.drop j) j = ixOf p l 0 ∧ m = l.length - j ∧
      L = [(0, .row 0), (1, .fn f [1, 2]), (7, i64 (((hds l).length : Nat) : Int)), (8, i64 (j : Int))] ∧ S = [.own 129 4 (hds l), .var (.d x0), .var (.d x1)],
    ⟨_, _, ⟨0, Nat.zero_le _, rfl, rfl, rfl, rfl⟩, ⟨rfl, rfl, rfl, rfl, trivial⟩⟩, ?_⟩
  rintro _ _ _ ⟨j, hj, h1, rfl, rfl, rfl⟩
  conv => whnf
  refine brec (fun h4 => ?_) (fun h4 => ?_)
  · have h4 := of_decide_eq_true h4
    rw [hlen] at h4
    have hlt : j < l.length := by omega
    conv => whnf
    refine ⟨⟨by omega, by rw [hlen]; omega⟩, ?_⟩
    conv => whnf
    refine ⟨by rw [hlen]; omega, ?_⟩
    rw [hds_getD hlt]
    rw [List.drop_eq_getElem_cons hlt] at h1
    have hq := hp _ (List.getElem_mem hlt)
    generalize l[j]'hlt = a at *
    conv => whnf
    refine ⟨_, hq, ?_⟩
    rintro _ _ ⟨rfl, rfl⟩
    conv => whnf
    rw [ixOf] at h1
    refine brec (fun h5 => ?_) (fun h5 => ?_)
    · rw [if_pos h5] at h1
      conv => whnf
      rw [h1]
      exact ⟨rfl, rfl⟩
    · rw [if_neg (by rw [h5]; decide)] at h1
      have e3 : IntKind.i64.wrap ((j : Int) + 1) = ((j + 1 : Nat) : Int) := by rw [w64 (by omega)]; omega
      conv => whnf
      exact ⟨_, _, 3, (by omega : l.length - (j + 1) < l.length - j), ⟨j + 1, by omega, h1, rfl, rfl, rfl⟩, ⟨rfl, rfl, rfl, congrArg (fun z => some (i64 z)) e3, trivial⟩, rfl⟩
  · have h4 := of_decide_eq_false h4
    rw [hlen] at h4
    obtain rfl : j = l.length := by omega
    rw [List.drop_length, ixOf] at h1
    conv => whnf
    rw [← h1]
    exact ⟨rfl, rfl⟩

end Go.Proofs.YtmdfpifcghmpfaaDoor
