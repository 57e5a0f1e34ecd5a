/- Routers: the law RouterHandles. -/
import Derived.Test.YtmdfpifcghmpfaaGreatDoorS5
set_option linter.unusedVariables false
namespace Go.Proofs.YtmdfpifcghmpfaaGreatDoor
open Go.Ab Go.RowKit

theorem sideF {k o n k' o' n' : Int} {a b a' b' : ByteArray} : ∃ T : Ty, T.fitE cx.tt 38 = true ∧ Nat.blt T.depth 9999 = true ∧ T.is (.agg [.int .i64 k, .int .u32 o, .str a, .str b, .int .u64 n]) ∧ T.is (.agg [.int .i64 k', .int .u32 o', .str a', .str b', .int .u64 n']) :=
  ⟨.st [.int .i64, .int .u32, .str, .str, .int .u64], by kernel_rfl, by kernel_rfl, ⟨_, rfl, _, _, rfl, ⟨_, rfl⟩, _, _, rfl, ⟨_, rfl⟩, _, _, rfl, ⟨_, rfl⟩, _, _, rfl, ⟨_, rfl⟩, _, _, rfl, ⟨_, rfl⟩, rfl⟩, ⟨_, rfl, _, _, rfl, ⟨_, rfl⟩, _, _, rfl, ⟨_, rfl⟩, _, _, rfl, ⟨_, rfl⟩, _, _, rfl, ⟨_, rfl⟩, _, _, rfl, ⟨_, rfl⟩, rfl⟩⟩

theorem rhl_few {T H : List D} {here q frm lt : Int} {remote s r b : ByteArray}
    (aw : CallR cx 4 [] [] fun r S => r = bo true ∧ S = [])
    (fc : CallR cx 5 [.d (.agg [.sl 7 T, .sl 4 H])] [] fun r S => r = bo false ∧ S = []) :
    CallR cx 3 [.d (.agg [.sl 7 T, .sl 4 H]), .d (.int .u32 here), st remote, .d (ltD frm q lt s r b)] [] fun r S => r = bo true ∧ S = [] := by
  refine callR_of (R := R1) cx_ok Tryz.func3 (by kernel_rfl) rfl ?_
  conv => whnf
  refine ⟨_, aw, ?_⟩
  rintro _ _ ⟨rfl, rfl⟩
  conv => whnf
  refine ⟨_, fc, ?_⟩
  rintro _ _ ⟨rfl, rfl⟩
  conv => whnf
  exact ⟨rfl, rfl⟩

theorem rhl_light {T H : List D} {here q frm lt : Int} {remote s r b : ByteArray}
    (aw : CallR cx 4 [] [] fun r S => r = bo true ∧ S = [])
    (fc : CallR cx 5 [.d (.agg [.sl 7 T, .sl 4 H])] [] fun r S => ∃ b, r = bo b ∧ S = [])
    (lc : CallR cx 6 [.d (.sl 1 ([remote, s, r, b].map D.str))] [] fun r S => r = bo false ∧ S = []) :
    CallR cx 3 [.d (.agg [.sl 7 T, .sl 4 H]), .d (.int .u32 here), st remote, .d (ltD frm q lt s r b)] [] fun r S => r = bo true ∧ S = [] := by
  refine callR_of (R := R1) cx_ok Tryz.func3 (by kernel_rfl) rfl ?_
  conv => whnf
  refine ⟨_, aw, ?_⟩
  rintro _ _ ⟨rfl, rfl⟩
  conv => whnf
  refine ⟨_, fc, ?_⟩
  rintro _ _ ⟨b, rfl, rfl⟩
  cases b with
  | false =>
    conv => whnf
    exact ⟨rfl, rfl⟩
  | true =>
  conv => whnf
  refine ⟨_, lc, ?_⟩
  rintro _ _ ⟨rfl, rfl⟩
  conv => whnf
  exact ⟨rfl, rfl⟩

theorem rhl_all {T H T2 H2 : List D} {here q frm lt g k o n : Int} {fa fb : ByteArray} {remote s r b : ByteArray} {Y : D} (hY : Y = .nilI ∨ g = 0)
    (aw : CallR cx 4 [] [] fun r S => r = bo true ∧ S = [])
    (fc : CallR cx 5 [.d (.agg [.sl 7 T, .sl 4 H])] [] fun r S => ∃ b, r = bo b ∧ S = [])
    (lc : CallR cx 6 [.d (.sl 1 ([remote, s, r, b].map D.str))] [] fun r S => ∃ b, r = bo b ∧ S = [])
    (tw : CallR cx 7 [.d (.agg [.sl 7 T, .sl 4 H])] [] fun r S => r = .d (.agg [.sl 7 T, .sl 4 H]) ∧ S = [])
    (ha : CallR cx 8 [.d (.agg [.sl 7 T, .sl 4 H]), .d (.int .u32 here), st remote, .d (ltD frm q lt s r b)] [] fun r S => r = .tup [.d (.agg [.sl 7 T2, .sl 4 H2]), .d Y, i64 g] ∧ S = [])
    (rh : CallR cx 9 [.d (.agg [.sl 7 T, .sl 4 H]), .d (.int .u32 here), st remote, .d (ltD frm q lt s r b)] [] fun x S => x = .tup [.d (.agg [.sl 7 T2, .sl 4 H2]), .d (.agg [.int .i64 k, .int .u32 o, .str fa, .str fb, .int .u64 n]), i64 g] ∧ S = [])
    (s1 : CallR cx 10 [.d (.agg [.sl 7 T2, .sl 4 H2]), .d (.agg [.sl 7 T2, .sl 4 H2])] [] fun r S => r = bo true ∧ S = [])
    (oc : CallR cx 11 [.d Y] [] fun r S => r = .d (.agg [.int .i64 k, .int .u32 o, .str fa, .str fb, .int .u64 n]) ∧ S = [])
    (s2 : CallR cx 10 [.d (.agg [.sl 7 T, .sl 4 H]), .d (.agg [.sl 7 T, .sl 4 H])] [] fun r S => r = bo true ∧ S = []) :
    CallR cx 3 [.d (.agg [.sl 7 T, .sl 4 H]), .d (.int .u32 here), st remote, .d (ltD frm q lt s r b)] [] fun r S => r = bo true ∧ S = [] := by
  refine callR_of (R := R1) cx_ok Tryz.func3 (by kernel_rfl) rfl ?_
  conv => whnf
  refine ⟨_, aw, ?_⟩
  rintro _ _ ⟨rfl, rfl⟩
  conv => whnf
  refine ⟨_, fc, ?_⟩
  rintro _ _ ⟨b, rfl, rfl⟩
  cases b with
  | false =>
    conv => whnf
    exact ⟨rfl, rfl⟩
  | true =>
  conv => whnf
  refine ⟨_, lc, ?_⟩
  rintro _ _ ⟨b, rfl, rfl⟩
  cases b with
  | false =>
    conv => whnf
    exact ⟨rfl, rfl⟩
  | true =>
  conv => whnf
  refine ⟨_, tw, ?_⟩
  rintro _ _ ⟨rfl, rfl⟩
  conv => whnf
  refine ⟨_, ha, ?_⟩
  rintro _ _ ⟨rfl, rfl⟩
  conv => whnf
  refine ⟨_, rh, ?_⟩
  rintro _ _ ⟨rfl, rfl⟩
  conv => whnf
  refine ⟨by kernel_rfl, ?_⟩
  conv => whnf
  refine ⟨_, s1, ?_⟩
  conv => whnf
  refine brT (beq_self_eq_true g) ?_
  conv => whnf
  refine ⟨_, oc, ?_⟩
  conv => whnf
  refine ⟨sideF, ?_⟩
  conv => whnf
  refine brT (deq_self _) ?_
  conv => whnf
  refine ⟨_, s2, ?_⟩
  conv => whnf
  by_cases hg : g = 0
  · refine brT (beq_iff_eq.2 hg) ?_
    conv => whnf
    refine ⟨by kernel_rfl, ?_⟩
    conv => whnf
    refine ⟨?_, rfl⟩
    rfl
  · refine brF (beq_eq_false_iff_ne.2 hg) ?_
    obtain rfl := hY.resolve_right hg
    conv => whnf
    refine ⟨by kernel_rfl, ?_⟩
    conv => whnf
    refine ⟨?_, rfl⟩
    rfl

theorem detP_fine {p : Pu} {N : Nat} {here frm o k : Int} {n : ByteArray} (hp : p.fine N) (hn : n.size ≤ 1000) (hk : U k) : (detP p here frm o n k).1.fine (N + 1) := by
  unfold detP
  split
  · exact hp.mono (by omega)
  split
  · exact enlistP_fine hp hn hk
  · rename_i t h
    obtain ⟨a1, a2, a3, a4, a5, a6⟩ := hp.t t (lookP_mem h).1
    exact set_fine hp ⟨hk, a2, a3, a4, a5, a6⟩ (hp.mono (by omega))

theorem rhandles_c {p : Pu} (hf : p.fits) {here lf q lt : Int} {remote s r b : ByteArray} :
    CallR cx 3 [.d p.d, .d (.int .u32 here), st remote, .d (ltD lf q lt s r b)] [] fun r S => r = bo true ∧ S = [] := by
  have aw := awake18_c
  have fc0 := pfew_c (p := p)
  have lc0 := rlight_c (l := [remote, s, r, b]) (Nat.le_of_ble_eq_true rfl)
  by_cases hF : pfewP p
  case neg =>
    exact rhl_few aw (fc0.mono fun r S ⟨x, h1, h2, h3⟩ => ⟨by cases x with | false => exact h1 | true => exact absurd (h2 rfl) hF, h3⟩)
  have fc := fc0.mono fun r S ⟨x, h1, h2, h3⟩ => (⟨x, h1, h3⟩ : ∃ b, r = bo b ∧ S = [])
  by_cases hG : ∀ s' ∈ [remote, s, r, b], s'.size ≤ 1000
  case neg =>
    exact rhl_light aw fc (lc0.mono fun r S ⟨x, h1, h2, h3⟩ => ⟨by cases x with | false => exact h1 | true => exact absurd (h2 rfl) hG, h3⟩)
  have lc := lc0.mono fun r S ⟨x, h1, h2, h3⟩ => (⟨x, h1, h3⟩ : ∃ b, r = bo b ∧ S = [])
  have hfi := fine_of hf hF
  have hpo := hfi.ok (by omega)
  have zb := hG b (by simp)
  have ha := hand_c (here := here) (f := lf) (q := q) (t := lt) (remote := remote) (s := s) (r := r) hfi (by omega) zb
  have rh := rhand_c (here := here) (f := lf) (q := q) (t := lt) (remote := remote) (s := s) (r := r) hfi (by omega) zb
  have hok := handP_ok (p := p) (here := here) (frm := lf) (remote := remote) (s := s) (r := r) (b := b)
  have her := handP_err (p := p) (here := here) (frm := lf) (remote := remote) (s := s) (r := r) (b := b)
  have fi := readP_fit (b := b) (by omega)
  have br := fun h => bytes_read (s := b) h
  have K : (handP p here lf remote s r b).1.fine 101 ∧ ((handP p here lf remote s r b).2.1.d = .nilI ∨ (handP p here lf remote s r b).2.2 = 0) := by
    by_cases hg : (handP p here lf remote s r b).2.2 ≠ 0
    · refine ⟨by rw [her hg]; exact hfi.mono (by omega), .inl ?_⟩
      unfold handP at *
      split
      · rfl
      rename_i c; rw [if_neg c] at hg
      split
      · rfl
      rename_i c2; rw [if_neg c2] at hg
      split
      · rfl
      rename_i c3; rw [if_neg c3] at hg
      exact absurd rfl hg
    have hg : (handP p here lf remote s r b).2.2 = 0 := by omega
    obtain ⟨q1, q2, q3, q4⟩ := hok hg
    refine ⟨?_, .inr hg⟩
    rw [q3]
    obtain ⟨b1, b2⟩ := br q1
    generalize (readP b).1 = pl at *
    cases pl with
    | tr oo nn ww kk =>
      have sz := tr_size (o := oo) (k := kk) (n := nn) (w := ww)
      rw [b2] at sz
      exact transP_fine hfi (by omega) (by omega) (by omega) fi.2.1
    | sy a d => exact hfi.mono (by omega)
    | de oo nn kk =>
      have sz := de_size (o := oo) (k := kk) (n := nn)
      rw [b2] at sz
      exact detP_fine hfi (by omega) fi.2.1
    | no => cases b1
    | nu => cases b1
  have s1 := psame_c (K.1.ok (by omega))
  have oc := rd_of_c (p := (handP p here lf remote s r b).2.1)
  exact rhl_all K.2 aw fc lc (ptwin_c hpo) ha rh s1 oc (psame_c hpo)

theorem routerHandles_c (ys : List D) (hy : Ty.hass [tyPu, .int .u32, .str, tyLt] ys) : CallR cx 3 (ys.map AV.d) [] fun r S => r = .d (.bool true) ∧ S = [] := by
  obtain ⟨_, _, rfl, hl, _, _, rfl, ⟨here, rfl, _⟩, _, _, rfl, ⟨remote, rfl, _⟩, _, _, rfl, ⟨_, rfl, _, _, rfl, ⟨lf, rfl, _⟩, _, _, rfl, ⟨q, rfl, _⟩, _, _, rfl, ⟨lt, rfl, _⟩, _, _, rfl, ⟨s, rfl, _⟩, _, _, rfl, ⟨r, rfl, _⟩, _, _, rfl, ⟨b, rfl, _⟩, rfl⟩, rfl⟩ := hy
  obtain ⟨p, rfl, hf⟩ := pu_of hl
  exact rhandles_c hf
end Go.Proofs.YtmdfpifcghmpfaaGreatDoor
