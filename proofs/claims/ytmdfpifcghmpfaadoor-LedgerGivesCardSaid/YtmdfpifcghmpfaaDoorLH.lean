/- Ledgers: where an account more has its place. -/
import Derived.Test.YtmdfpifcghmpfaaDoorLG
namespace Go.Proofs.YtmdfpifcghmpfaaDoor
open Go.Ab Go.RowKit

theorem open1_c {a : Ac} {who : ByteArray} (h1 : a.name.size ≤ 200) (h2 : who.size ≤ 200) : CallR cx 109 [.d a.d, .ptr 0 []] [.var (st who)] fun r S => r = bo (decide (ordN a.name who > 0)) ∧ S = [.var (st who)] := by
  obtain ⟨nm, ky, nn, cn⟩ := a
  simp only at h1
  have oc := order_c (a := nm) (b := who) (by omega) (by omega)
  unfold ordN
  simp only
  generalize ordL (keysAt nm 0) (keysAt who 0) = O at *
  refine callR_of (R := R1) cx_ok Tryd.func109 (by kernel_rfl) rfl ?_
  conv => whnf
  refine ⟨_, oc, ?_⟩
  rintro _ _ ⟨rfl, rfl⟩
  conv => whnf
  exact ⟨rfl, rfl⟩

theorem indexFunc2_c {l : List Ac} {who : ByteArray} (hl : l.length ≤ 100000) (hn : ∀ a ∈ l, a.name.size ≤ 200) (hw : who.size ≤ 200) : CallR cx 108 [.d (.sl 35 (acs l)), .fn 109 [0]] [.var (st who)] fun r S =>
    r = i64 (idxOf (fun a => decide (ordN a.name who > 0)) l 0) ∧ S = [.var (st who)] := by
  have hlen : (acs l).length = l.length := List.length_map _
  refine callR_of (R := R1) cx_ok Tryd.func108 (by kernel_rfl) rfl ?_
  conv => whnf
  refine .inl ⟨fun m L S => ∃ j : Nat, j ≤ l.length ∧ idxOf (fun a => decide (ordN a.name who > 0)) (l.drop j) j = idxOf (fun a => decide (ordN a.name who > 0)) l 0 ∧ m = l.length - j ∧
      L = [(0, .d (.sl 35 (acs l))), (1, .fn 109 [0]), (7, i64 (((acs l).length : Nat) : Int)), (8, i64 (j : Int))] ∧ S = [.var (st who)],
    ⟨_, _, ⟨0, Nat.zero_le _, rfl, rfl, rfl, rfl⟩, ⟨rfl, rfl, rfl, rfl, trivial⟩⟩, ?_⟩
  rintro _ _ _ ⟨j, hj, h1, rfl, rfl, rfl⟩
  conv => whnf
  refine brec (fun h4 => ?_) (fun h4 => ?_)
  · have h4 := of_decide_eq_true h4
    rw [hlen] at h4
    have hlt : j < l.length := by omega
    conv => whnf
    refine ⟨⟨by omega, by rw [hlen]; omega⟩, ?_⟩
    rw [acs_getD hlt]
    rw [List.drop_eq_getElem_cons hlt] at h1
    have hs := hn _ (List.getElem_mem hlt)
    generalize l[j]'hlt = a at *
    conv => whnf
    refine ⟨_, open1_c hs hw, ?_⟩
    rintro _ _ ⟨rfl, rfl⟩
    conv => whnf
    rw [idxOf] at h1
    refine brec (fun h5 => ?_) (fun h5 => ?_)
    · rw [if_pos h5] at h1
      conv => whnf
      rw [h1]
      exact ⟨rfl, rfl⟩
    · rw [if_neg (by rw [h5]; decide)] at h1
      have e3 : IntKind.i64.wrap ((j : Int) + 1) = ((j + 1 : Nat) : Int) := by rw [w64 (by omega)]; omega
      conv => whnf
      exact ⟨_, _, 1, (by omega : l.length - (j + 1) < l.length - j), ⟨j + 1, by omega, h1, rfl, rfl, rfl⟩, ⟨rfl, rfl, rfl, congrArg (fun z => some (i64 z)) e3, trivial⟩, rfl⟩
  · have h4 := of_decide_eq_false h4
    rw [hlen] at h4
    obtain rfl : j = l.length := by omega
    rw [List.drop_length, idxOf] at h1
    conv => whnf
    rw [← h1]
    exact ⟨rfl, rfl⟩

end Go.Proofs.YtmdfpifcghmpfaaDoor
