/- Purses: small ones; the same ones; the chapter's example. -/
import Derived.Test.YtmdfpifcghmpfaaDoorQ9
import Derived.Test.YtmdfpifcghmpfaaDoorM5
set_option linter.unusedVariables false
namespace Go.Proofs.YtmdfpifcghmpfaaDoor
open Go.Ab Go.RowKit

def pfewP (p : Pu) : Prop := p.toks.length ≤ 60 ∧ p.holds.length ≤ 100 ∧ (∀ t ∈ p.toks, t.name.size ≤ 200) ∧ ∀ h ∈ p.holds, h.token.size ≤ 200 ∧ h.owner.size ≤ 200

theorem pfew_c {p : Pu} : CallR cx 29 [.d p.d] [] fun r S => ∃ b, r = bo b ∧ (b = true → pfewP p) ∧ S = [] := by
  obtain ⟨ts, hs⟩ := p
  unfold pfewP
  simp only
  have hlt' : (tks ts).length = ts.length := List.length_map _
  have hlh' : (hds hs).length = hs.length := List.length_map _
  refine callR_of (R := R1) cx_ok Tryd.func29 (by kernel_rfl) rfl ?_
  conv => whnf
  by_cases k1 : ((tks ts).length : Int) > 60
  · refine brT (decide_eq_true k1) ?_
    conv => whnf
    exact ⟨false, rfl, by simp, rfl⟩
  refine brF (decide_eq_false k1) ?_
  conv => whnf
  by_cases k2 : ((hds hs).length : Int) > 100
  · refine brT (decide_eq_true k2) ?_
    conv => whnf
    exact ⟨false, rfl, by simp, rfl⟩
  refine brF (decide_eq_false k2) ?_
  conv => whnf
  rw [hlt'] at k1
  rw [hlh'] at k2
  refine .inl ⟨fun m L S => ∃ (j : Nat), (∀ t ∈ ts.take j, t.name.size ≤ 200) ∧ j ≤ ts.length ∧ m = ts.length - j ∧
      L = [(1, .ptr 0 []), (18, .d (.sl 7 (tks ts))), (19, i64 (((tks ts).length : Nat) : Int)), (20, i64 (j : Int))] ∧ S = [.var (.d (Pu.d ⟨ts, hs⟩))],
    ⟨_, _, ⟨0, by simp, Nat.zero_le _, rfl, rfl, rfl⟩, ⟨rfl, rfl, rfl, rfl, trivial⟩⟩, ?_⟩
  rintro _ _ _ ⟨j, h1, hj, rfl, rfl, rfl⟩
  conv => whnf
  refine brec (fun h4 => ?_) (fun h4 => ?_)
  · have h4 := of_decide_eq_true h4
    rw [hlt'] at h4
    have hlt : j < ts.length := by omega
    conv => whnf
    refine ⟨⟨by omega, by rw [hlt']; omega⟩, ?_⟩
    rw [tks_getD hlt]
    have ht : ts.take (j + 1) = ts.take j ++ [ts[j]'hlt] := by rw [List.take_add_one, List.getElem?_eq_getElem hlt]; rfl
    generalize ts[j]'hlt = a at *
    have e3 : IntKind.i64.wrap ((j : Int) + 1) = ((j + 1 : Nat) : Int) := by rw [w64 (by omega)]; omega
    obtain ⟨to, nm, ta, tb, tc, td, te⟩ := a
    conv => whnf
    by_cases c : (nm.size : Int) > 200
    · refine brT (decide_eq_true c) ?_
      conv => whnf
      exact ⟨false, rfl, by simp, rfl⟩
    · refine brF (decide_eq_false c) ?_
      conv => whnf
      refine ⟨_, _, 1, (by omega : ts.length - (j + 1) < ts.length - j), ⟨j + 1, ?_, by omega, rfl, rfl, rfl⟩, ⟨rfl, rfl, rfl, congrArg (fun z => some (i64 z)) e3, trivial⟩, rfl⟩
      rw [ht]
      intro x hx
      rcases List.mem_append.1 hx with hx | hx
      · exact h1 x hx
      · obtain rfl := List.mem_singleton.1 hx
        show nm.size ≤ 200
        omega
  · have h4 := of_decide_eq_false h4
    rw [hlt'] at h4
    obtain rfl : j = ts.length := by omega
    rw [List.take_length] at h1
    conv => whnf
    refine .inl ⟨fun m L S => ∃ (j : Nat), (∀ h ∈ hs.take j, h.token.size ≤ 200 ∧ h.owner.size ≤ 200) ∧ j ≤ hs.length ∧ m = hs.length - j ∧
        L = [(30, .d (.sl 4 (hds hs))), (31, i64 (((hds hs).length : Nat) : Int)), (32, i64 (j : Int))] ∧ S = [.var (.d (Pu.d ⟨ts, hs⟩))],
      ⟨_, _, ⟨0, by simp, Nat.zero_le _, rfl, rfl, rfl⟩, ⟨rfl, rfl, rfl, trivial⟩⟩, ?_⟩
    rintro _ _ _ ⟨j, h2, hj, rfl, rfl, rfl⟩
    conv => whnf
    refine brec (fun h5 => ?_) (fun h5 => ?_)
    · have h5 := of_decide_eq_true h5
      rw [hlh'] at h5
      have hlt : j < hs.length := by omega
      conv => whnf
      refine ⟨⟨by omega, by rw [hlh']; omega⟩, ?_⟩
      rw [hds_getD hlt]
      have ht : hs.take (j + 1) = hs.take j ++ [hs[j]'hlt] := by rw [List.take_add_one, List.getElem?_eq_getElem hlt]; rfl
      generalize hs[j]'hlt = a at *
      have e3 : IntKind.i64.wrap ((j : Int) + 1) = ((j + 1 : Nat) : Int) := by rw [w64 (by omega)]; omega
      obtain ⟨to, nm, ow, am⟩ := a
      conv => whnf
      by_cases c : (nm.size : Int) > 200
      · refine brT (decide_eq_true c) ?_
        conv => whnf
        exact ⟨false, rfl, by simp, rfl⟩
      refine brF (decide_eq_false c) ?_
      conv => whnf
      by_cases c2 : (ow.size : Int) > 200
      · refine brT (decide_eq_true c2) ?_
        conv => whnf
        exact ⟨false, rfl, by simp, rfl⟩
      · refine brF (decide_eq_false c2) ?_
        conv => whnf
        refine ⟨_, _, 1, (by omega : hs.length - (j + 1) < hs.length - j), ⟨j + 1, ?_, by omega, rfl, rfl, rfl⟩, ⟨rfl, rfl, congrArg (fun z => some (i64 z)) e3, trivial⟩, rfl⟩
        rw [ht]
        intro x hx
        rcases List.mem_append.1 hx with hx | hx
        · exact h2 x hx
        · obtain rfl := List.mem_singleton.1 hx
          show nm.size ≤ 200 ∧ ow.size ≤ 200
          omega
    · have h5 := of_decide_eq_false h5
      rw [hlh'] at h5
      obtain rfl : j = hs.length := by omega
      rw [List.take_length] at h2
      conv => whnf
      exact ⟨true, rfl, fun _ => ⟨by omega, by omega, h1, h2⟩, rfl⟩

theorem sideT {t : Tk} : ∃ T : Ty, T.fitE cx.tt 78 = true ∧ Nat.blt T.depth 9999 = true ∧ T.is t.d ∧ T.is t.d :=
  have q : (Ty.st [.int .u32, .str, .int .u64, .int .u64, .int .u64, .int .u64, .int .u64]).is t.d := ⟨_, rfl, _, _, rfl, ⟨_, rfl⟩, _, _, rfl, ⟨_, rfl⟩, _, _, rfl, ⟨_, rfl⟩, _, _, rfl, ⟨_, rfl⟩, _, _, rfl, ⟨_, rfl⟩, _, _, rfl, ⟨_, rfl⟩, _, _, rfl, ⟨_, rfl⟩, rfl⟩
  ⟨.st [.int .u32, .str, .int .u64, .int .u64, .int .u64, .int .u64, .int .u64], by kernel_rfl, by kernel_rfl, q, q⟩
theorem sideH {t : Hd} : ∃ T : Ty, T.fitE cx.tt 129 = true ∧ Nat.blt T.depth 9999 = true ∧ T.is t.d ∧ T.is t.d :=
  have q : (Ty.st [.int .u32, .str, .str, .int .u64]).is t.d := ⟨_, rfl, _, _, rfl, ⟨_, rfl⟩, _, _, rfl, ⟨_, rfl⟩, _, _, rfl, ⟨_, rfl⟩, _, _, rfl, ⟨_, rfl⟩, rfl⟩
  ⟨.st [.int .u32, .str, .str, .int .u64], by kernel_rfl, by kernel_rfl, q, q⟩

theorem psame_c {p : Pu} (hp : p.ok) : CallR cx 35 [.d p.d, .d p.d] [] fun r S => r = bo true ∧ S = [] := by
  have hT := hp.nt
  have hH := hp.nh
  obtain ⟨ts, hs⟩ := p
  simp only at hT hH
  have hlt' : (tks ts).length = ts.length := List.length_map _
  have hlh' : (hds hs).length = hs.length := List.length_map _
  refine callR_of (R := R1) cx_ok Tryd.func35 (by kernel_rfl) rfl ?_
  conv => whnf
  refine brF (bne_self_eq_false _) ?_
  conv => whnf
  refine brF (bne_self_eq_false _) ?_
  conv => whnf
  refine .inl ⟨fun m L S => ∃ (j : Nat), j ≤ ts.length ∧ m = ts.length - j ∧
      L = [(2, .ptr 0 []), (3, .ptr 1 []), (25, i64 (((tks ts).length : Nat) : Int)), (26, i64 (j : Int))] ∧ S = [.var (.d (Pu.d ⟨ts, hs⟩)), .var (.d (Pu.d ⟨ts, hs⟩))],
    ⟨_, _, ⟨0, Nat.zero_le _, rfl, rfl, rfl⟩, ⟨rfl, rfl, rfl, rfl, trivial⟩⟩, ?_⟩
  rintro _ _ _ ⟨j, hj, rfl, rfl, rfl⟩
  conv => whnf
  refine brec (fun h4 => ?_) (fun h4 => ?_)
  · have h4 := of_decide_eq_true h4
    rw [hlt'] at h4
    have hlt : j < ts.length := by omega
    have hgd := tks_getD hlt
    generalize ts[j]'hlt = a at *
    have e3 : IntKind.i64.wrap ((j : Int) + 1) = ((j + 1 : Nat) : Int) := by rw [w64 (by omega)]; omega
    conv => whnf
    refine ⟨by kernel_rfl, ?_⟩
    conv => whnf
    refine ⟨⟨by omega, by rw [hlt']; omega⟩, ?_⟩
    rw [hgd]
    conv => whnf
    refine ⟨⟨by omega, by rw [hlt']; omega⟩, ?_⟩
    rw [hgd]
    conv => whnf
    refine ⟨sideT, ?_⟩
    rw [deq_self]
    conv => whnf
    refine ⟨by kernel_rfl, ?_⟩
    conv => whnf
    exact ⟨_, _, 2, (by omega : ts.length - (j + 1) < ts.length - j), ⟨j + 1, by omega, rfl, rfl, rfl⟩, ⟨rfl, rfl, rfl, congrArg (fun z => some (i64 z)) e3, trivial⟩, rfl⟩
  · conv => whnf
    refine .inl ⟨fun m L S => ∃ (j : Nat), j ≤ hs.length ∧ m = hs.length - j ∧
        L = [(2, .ptr 0 []), (3, .ptr 1 []), (43, i64 (((hds hs).length : Nat) : Int)), (44, i64 (j : Int))] ∧ S = [.var (.d (Pu.d ⟨ts, hs⟩)), .var (.d (Pu.d ⟨ts, hs⟩))],
      ⟨_, _, ⟨0, Nat.zero_le _, rfl, rfl, rfl⟩, ⟨rfl, rfl, rfl, rfl, trivial⟩⟩, ?_⟩
    rintro _ _ _ ⟨j, hj, rfl, rfl, rfl⟩
    conv => whnf
    refine brec (fun h4 => ?_) (fun h4 => ?_)
    · have h4 := of_decide_eq_true h4
      rw [hlh'] at h4
      have hlt : j < hs.length := by omega
      have hgd := hds_getD hlt
      generalize hs[j]'hlt = a at *
      have e3 : IntKind.i64.wrap ((j : Int) + 1) = ((j + 1 : Nat) : Int) := by rw [w64 (by omega)]; omega
      conv => whnf
      refine ⟨by kernel_rfl, ?_⟩
      conv => whnf
      refine ⟨⟨by omega, by rw [hlh']; omega⟩, ?_⟩
      rw [hgd]
      conv => whnf
      refine ⟨⟨by omega, by rw [hlh']; omega⟩, ?_⟩
      rw [hgd]
      conv => whnf
      refine ⟨sideH, ?_⟩
      rw [deq_self]
      conv => whnf
      refine ⟨by kernel_rfl, ?_⟩
      conv => whnf
      exact ⟨_, _, 2, (by omega : hs.length - (j + 1) < hs.length - j), ⟨j + 1, by omega, rfl, rfl, rfl⟩, ⟨rfl, rfl, rfl, congrArg (fun z => some (i64 z)) e3, trivial⟩, rfl⟩
    · conv => whnf
      exact ⟨rfl, rfl⟩

def pu0 : Pu := ⟨[], []⟩
def nmB : ByteArray := ⟨#[98]⟩
theorem rightB' : rightT nmB = true := by decide +kernel
def pu1 : Pu := ⟨[⟨1, nmA, 1, 0, 0, 0, 0⟩], []⟩
def pu2 : Pu := ⟨[⟨1, nmA, 1, 0, 0, 1, 0⟩], [⟨1, nmA, nmB, 1⟩]⟩
theorem pawake_c : CallR cx 28 [] [] fun r S => r = bo true ∧ S = [] := by
  have f0 : pu0.fine 2 := ⟨by simp [pu0], by simp [pu0], by decide, by decide⟩
  have f1 : pu1.fine 2 := ⟨fun t ht => by
    obtain rfl := List.mem_singleton.1 ht
    exact ⟨by unfold U; decide, by unfold U; decide, by unfold U; decide, by unfold U; decide, by unfold U; decide, by decide⟩, by simp [pu1], by decide, by decide⟩
  have f2 : pu2.fine 2 := ⟨fun t ht => by
    obtain rfl := List.mem_singleton.1 ht
    exact ⟨by unfold U; decide, by unfold U; decide, by unfold U; decide, by unfold U; decide, by unfold U; decide, by decide⟩, fun h hh => by
    obtain rfl := List.mem_singleton.1 hh
    exact ⟨by unfold U; decide, by decide, by decide⟩, by decide, by decide⟩
  have ec := enlist_c (p := pu0) (o := 1) (n := nmA) (k := 1) (f0.ok (by decide)) (by decide)
  have e1 : enlistP pu0 1 nmA 1 = (pu1, 0) := by
    unfold enlistP
    rw [if_neg (by rw [rightA]; decide)]
    rfl
  rw [e1] at ec
  have m2 := mint_cc (p := pu1) (N := 2) (o := 1) (n := nmA) (w := nmB) (k := 2) f1 (by decide) (by decide) (by decide) (by unfold U; decide)
  have m1 := mint_cc (p := pu1) (N := 2) (o := 1) (n := nmA) (w := nmB) (k := 1) f1 (by decide) (by decide) (by decide) (by unfold U; decide)
  have hl : lookP (tkP 1 nmA) pu1.toks = some ⟨1, nmA, 1, 0, 0, 0, 0⟩ := rfl
  have hg : grantP pu1 1 nmA nmB 1 = (⟨pu1.toks, [⟨1, nmA, nmB, 1⟩]⟩, 0) := by
    unfold grantP
    rw [hl]
    simp only
    rw [if_neg (by rw [rightB']; decide)]
    rfl
  have e2 : mintP pu1 1 nmA nmB 2 = (pu1, 12) := by
    unfold mintP
    rw [hl]
    simp only
    rw [if_pos (by decide), if_pos (by decide), if_pos (by decide)]
  have e3 : mintP pu1 1 nmA nmB 1 = (pu2, 0) := by
    unfold mintP
    rw [hl]
    simp only
    rw [if_pos (by decide), if_pos (by decide), if_neg (by decide), hg, if_neg (by decide)]
    rfl
  rw [e2] at m2
  rw [e3] at m1
  have hc := heldv_c (p := pu2) (o := 1) (n := nmA) (w := nmB) (f2.ok (by decide))
  have e4 : heldV pu2 1 nmA nmB = 1 := rfl
  rw [e4] at hc
  refine callR_of (R := R1) cx_ok Tryd.func28 (by kernel_rfl) rfl ?_
  conv => whnf
  refine ⟨_, ec, ?_⟩
  rintro _ _ ⟨rfl, rfl⟩
  conv => whnf
  refine ⟨_, m2, ?_⟩
  rintro _ _ ⟨rfl, rfl⟩
  conv => whnf
  refine ⟨_, m1, ?_⟩
  rintro _ _ ⟨rfl, rfl⟩
  conv => whnf
  refine ⟨_, hc, ?_⟩
  rintro _ _ ⟨rfl, rfl⟩
  conv => whnf
  exact ⟨rfl, rfl⟩
end Go.Proofs.YtmdfpifcghmpfaaDoor
