/- Purses: the sum of what is held of a token. -/
import Derived.Test.YtmdfpifcghmpfaaDoorQN
set_option linter.unusedVariables false
namespace Go.Proofs.YtmdfpifcghmpfaaDoor
open Go.Ab Go.RowKit

def amtsL (o : Int) (n : ByteArray) : List Hd → List Int
  | [] => []
  | h :: l => if same2 h.org h.token o n then h.amount :: amtsL o n l else amtsL o n l
theorem amts_len {o : Int} {n : ByteArray} : ∀ (l : List Hd), (amtsL o n l).length ≤ l.length
  | [] => Nat.le_refl _
  | h :: l => by
    rw [amtsL]
    have := amts_len (o := o) (n := n) l
    split
    · rw [List.length_cons, List.length_cons]; omega
    · rw [List.length_cons]; omega
theorem amts_U {o : Int} {n : ByteArray} : ∀ {l : List Hd}, (∀ h ∈ l, h.ok) → ∀ x ∈ amtsL o n l, U x
  | [], _, x, hx => by cases hx
  | h :: l, hl, x, hx => by
    rw [amtsL] at hx
    split at hx
    · rcases List.mem_cons.1 hx with rfl | hx
      · exact (hl h (by simp)).1
      · exact amts_U (fun y hy => hl y (by simp [hy])) x hx
    · exact amts_U (fun y hy => hl y (by simp [hy])) x hx

theorem sideW (a b c d : Int) : ∃ T : Ty, T.fitE cx.tt 40 = true ∧ Nat.blt T.depth 9999 = true ∧ T.is (wd a b) ∧ T.is (wd c d) :=
  ⟨.st [.int .u64, .int .u64], by kernel_rfl, by kernel_rfl, ⟨_, rfl, _, _, rfl, ⟨_, rfl⟩, _, _, rfl, ⟨_, rfl⟩, rfl⟩, ⟨_, rfl, _, _, rfl, ⟨_, rfl⟩, _, _, rfl, ⟨_, rfl⟩, rfl⟩⟩

theorem supply_c {p : Pu} {o : Int} {n : ByteArray} (hp : p.ok) (h200 : p.holds.length ≤ 200) : CallR cx 39 [.d p.d, .d (.int .u32 o), st n] [] fun r S => r = .d (wv (amtsL o n p.holds).sum) ∧ S = [] := by
  have hlA := amts_len (o := o) (n := n) p.holds
  have sm := sum_c (ns := amtsL o n p.holds) (amts_U hp.h) (by omega)
  obtain ⟨ts, hs⟩ := p
  simp only at sm h200 hlA ⊢
  have hlh' : (hds hs).length = hs.length := List.length_map _
  obtain ⟨x0, x1, hrs⟩ : ∃ x0 x1 : Int, wv (amtsL o n hs).sum = wd x0 x1 := ⟨_, _, rfl⟩
  rw [hrs] at sm ⊢
  refine callR_of (R := R1) cx_ok Tryd.func39 (by kernel_rfl) rfl ?_
  conv => whnf
  refine .inr ⟨22, 1, ?_⟩
  conv => whnf
  refine .inr ⟨fun m L S => ∃ (j : Nat) (out : List Int), (out ++ amtsL o n (hs.drop j) = amtsL o n hs ∧ out.length ≤ j ∧ j ≤ hs.length) ∧ m = hs.length - j ∧
      L = [(1, .d (.int .u32 o)), (2, st n), (6, .ptr 1 []), (7, .row 2), (11, .d (.sl 4 (hds hs))), (12, i64 (((hds hs).length : Nat) : Int)), (13, i64 (j : Int))] ∧
      S = [.var (.d (Pu.d ⟨ts, hs⟩)), .var (.d (wd 0 0)), .row 22 1 (out.map ui)],
    ⟨_, _, ⟨0, [], ⟨rfl, Nat.le_refl _, Nat.zero_le _⟩, rfl, rfl, rfl⟩, ⟨rfl, rfl, rfl, rfl, rfl, rfl, rfl, trivial⟩⟩, ?_⟩
  rintro _ _ _ ⟨j, out, ⟨h1, h2, hj⟩, rfl, rfl, rfl⟩
  have hlo : (out.map ui).length = out.length := List.length_map _
  conv => whnf
  refine brec (fun h4 => ?_) (fun h4 => ?_)
  · have h4 := of_decide_eq_true h4
    rw [hlh'] at h4
    have hlt : j < hs.length := by omega
    conv => whnf
    refine ⟨⟨by omega, by rw [hlh']; omega⟩, ?_⟩
    rw [hds_getD hlt]
    rw [List.drop_eq_getElem_cons hlt, amtsL] at h1
    have oc := keyHeld_c (h := hs[j]'hlt)
    generalize hs[j]'hlt = a at *
    have e3 : IntKind.i64.wrap ((j : Int) + 1) = ((j + 1 : Nat) : Int) := by rw [w64 (by omega)]; omega
    obtain ⟨ao, an, aw, am⟩ := a
    simp only at h1 oc
    have ea : out.map ui ++ [ui am] = (out ++ [am]).map ui := by rw [List.map_append]; rfl
    conv => whnf
    refine ⟨_, oc, ?_⟩
    rintro _ _ ⟨rfl, rfl⟩
    conv => whnf
    refine ⟨sideK, ?_⟩
    rw [show deq (ky ao an) (D.agg (([D.int .u32 0, D.str ByteArray.empty].set 0 (D.int .u32 o)).set 1 (D.str n))) = same2 ao an o n from deq_ky]
    cases hq : same2 ao an o n with
    | true =>
      rw [hq, if_pos rfl] at h1
      conv => whnf
      refine ⟨⟨Nat.succ_pos _, by show ((out.map ui).length + 1) * (8 + 1) ≤ _; omega⟩, ?_⟩
      conv => whnf
      refine ⟨hs.length - (j + 1), [(1, .d (.int .u32 o)), (2, st n), (6, .ptr 1 []), (7, .row 4), (11, .d (.sl 4 (hds hs))), (12, i64 (((hds hs).length : Nat) : Int)), (13, i64 ((j + 1 : Nat) : Int))], [0, 1, 4], by omega, ⟨rfl, rfl, rfl, rfl, rfl, rfl, congrArg (fun z => some (i64 z)) e3, trivial⟩, ?_⟩
      conv => whnf
      refine ⟨j + 1, out ++ [am], ⟨by rw [List.append_assoc]; exact h1, by rw [List.length_append]; show _ + 1 ≤ _; omega, by omega⟩, rfl, rfl, ?_⟩
      exact congrArg (fun z => [Blk.var (.d (Pu.d ⟨ts, hs⟩)), .var (.d (wd 0 0)), .row 22 1 z]) ea
    | false =>
      rw [hq, if_neg (by decide)] at h1
      conv => whnf
      refine ⟨hs.length - (j + 1), [(1, .d (.int .u32 o)), (2, st n), (6, .ptr 1 []), (7, .row 2), (11, .d (.sl 4 (hds hs))), (12, i64 (((hds hs).length : Nat) : Int)), (13, i64 ((j + 1 : Nat) : Int))], [0, 1, 2], by omega, ⟨rfl, rfl, rfl, rfl, rfl, rfl, congrArg (fun z => some (i64 z)) e3, trivial⟩, ?_⟩
      conv => whnf
      exact ⟨j + 1, out, ⟨h1, by omega, by omega⟩, rfl, rfl, rfl⟩
  · have h4 := of_decide_eq_false h4
    rw [hlh'] at h4
    obtain rfl : j = hs.length := by omega
    rw [List.drop_length] at h1
    have h1 : out = amtsL o n hs := by simpa [amtsL] using h1
    rw [← h1] at sm
    conv => whnf
    refine ⟨_, sm, ?_⟩
    rintro _ _ ⟨rfl, rfl⟩
    conv => whnf
    exact ⟨rfl, rfl⟩
end Go.Proofs.YtmdfpifcghmpfaaDoor
