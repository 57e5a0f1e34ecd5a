/- Purses: somebody holds so much from now on. -/
import Derived.Test.YtmdfpifcghmpfaaDoorQ4
namespace Go.Proofs.YtmdfpifcghmpfaaDoor
open Go.Ab Go.RowKit

def putH (l : List Hd) (o : Int) (n w : ByteArray) (k : Int) : List Hd := match lookP (hdP o n w) l with
  | some h => if k = 0 then delP (hdP o n w) l else putP (hdP o n w) l { h with amount := k }
  | none => if k > 0 then insP (hbP o n w) l ⟨o, n, w, k⟩ else l

theorem put_app {T H M : List D} {o k : Int} {n w : ByteArray} (hk0 : k > 0) (c1 : CallR cx 130 [.d (.sl 4 H)] [] fun r S => r = .row 0 ∧ S = [.own 129 4 H]) (hc : CallR cx 102 [.d (.agg [.sl 7 T, .sl 4 H]), .d (ky o n), st w] [] fun r S => r = i64 (-1) ∧ S = []) (io : CallR cx 132 [.row 0, .fn 133 [1, 2]] [.own 129 4 H, .var (.d (ky o n)), .var (st w)] fun r S => r = i64 (-1) ∧ S = [.own 129 4 H, .var (.d (ky o n)), .var (st w)]) (ins : CallR cx 134 [.row 0, i64 ((H.length : Nat) : Int), .d (.sl 4 [.agg [.int .u32 o, .str n, .str w, .int .u64 k]])] [.own 129 4 H] fun r S => r = .row 1 ∧ S = [.dead, .own 129 4 M]) :
    CallR cx 96 [.d (.agg [.sl 7 T, .sl 4 H]), .d (ky o n), st w, u64 k] [] fun r S => r = .d (.agg [.sl 7 T, .sl 4 M]) ∧ S = [] := by
  refine callR_of (R := R1) cx_ok Tryd.func96 (by kernel_rfl) rfl ?_
  conv => whnf
  refine ⟨_, c1, ?_⟩
  rintro _ _ ⟨rfl, rfl⟩
  conv => whnf
  refine ⟨_, hc, ?_⟩
  rintro _ _ ⟨rfl, rfl⟩
  conv => whnf
  refine brT (decide_eq_true hk0) ?_
  conv => whnf
  refine ⟨_, io, ?_⟩
  rintro _ _ ⟨rfl, rfl⟩
  conv => whnf
  refine ⟨_, ins, ?_⟩
  rintro _ _ ⟨rfl, rfl⟩
  conv => whnf
  exact ⟨rfl, rfl⟩

theorem put_ins {T H M : List D} {o k : Int} {n w : ByteArray} {J : Int} (hJ : 0 ≤ J) (hk0 : k > 0) (c1 : CallR cx 130 [.d (.sl 4 H)] [] fun r S => r = .row 0 ∧ S = [.own 129 4 H]) (hc : CallR cx 102 [.d (.agg [.sl 7 T, .sl 4 H]), .d (ky o n), st w] [] fun r S => r = i64 (-1) ∧ S = []) (io : CallR cx 132 [.row 0, .fn 133 [1, 2]] [.own 129 4 H, .var (.d (ky o n)), .var (st w)] fun r S => r = i64 J ∧ S = [.own 129 4 H, .var (.d (ky o n)), .var (st w)]) (ins : CallR cx 134 [.row 0, i64 J, .d (.sl 4 [.agg [.int .u32 o, .str n, .str w, .int .u64 k]])] [.own 129 4 H] fun r S => r = .row 1 ∧ S = [.dead, .own 129 4 M]) :
    CallR cx 96 [.d (.agg [.sl 7 T, .sl 4 H]), .d (ky o n), st w, u64 k] [] fun r S => r = .d (.agg [.sl 7 T, .sl 4 M]) ∧ S = [] := by
  refine callR_of (R := R1) cx_ok Tryd.func96 (by kernel_rfl) rfl ?_
  conv => whnf
  refine ⟨_, c1, ?_⟩
  rintro _ _ ⟨rfl, rfl⟩
  conv => whnf
  refine ⟨_, hc, ?_⟩
  rintro _ _ ⟨rfl, rfl⟩
  conv => whnf
  refine brT (decide_eq_true hk0) ?_
  conv => whnf
  refine ⟨_, io, ?_⟩
  rintro _ _ ⟨rfl, rfl⟩
  conv => whnf
  refine brF (decide_eq_false (by omega)) ?_
  conv => whnf
  refine ⟨_, ins, ?_⟩
  rintro _ _ ⟨rfl, rfl⟩
  conv => whnf
  exact ⟨rfl, rfl⟩

theorem put_no {T H : List D} {o k : Int} {n w : ByteArray} (hk0 : ¬ k > 0) (c1 : CallR cx 130 [.d (.sl 4 H)] [] fun r S => r = .row 0 ∧ S = [.own 129 4 H]) (hc : CallR cx 102 [.d (.agg [.sl 7 T, .sl 4 H]), .d (ky o n), st w] [] fun r S => r = i64 (-1) ∧ S = []) :
    CallR cx 96 [.d (.agg [.sl 7 T, .sl 4 H]), .d (ky o n), st w, u64 k] [] fun r S => r = .d (.agg [.sl 7 T, .sl 4 H]) ∧ S = [] := by
  refine callR_of (R := R1) cx_ok Tryd.func96 (by kernel_rfl) rfl ?_
  conv => whnf
  refine ⟨_, c1, ?_⟩
  rintro _ _ ⟨rfl, rfl⟩
  conv => whnf
  refine ⟨_, hc, ?_⟩
  rintro _ _ ⟨rfl, rfl⟩
  conv => whnf
  refine brF (decide_eq_false hk0) ?_
  conv => whnf
  exact ⟨rfl, rfl⟩

theorem put_del {T H M : List D} {o k : Int} {n w : ByteArray} {J : Int} (hJ : 0 ≤ J) (hk0 : k = 0) (c1 : CallR cx 130 [.d (.sl 4 H)] [] fun r S => r = .row 0 ∧ S = [.own 129 4 H]) (hc : CallR cx 102 [.d (.agg [.sl 7 T, .sl 4 H]), .d (ky o n), st w] [] fun r S => r = i64 J ∧ S = []) (dl : CallR cx 131 [.row 0, i64 J, i64 (IntKind.i64.wrap (J + 1))] [.own 129 4 H] fun r S => r = .row 1 ∧ S = [.dead, .own 129 4 M]) :
    CallR cx 96 [.d (.agg [.sl 7 T, .sl 4 H]), .d (ky o n), st w, u64 k] [] fun r S => r = .d (.agg [.sl 7 T, .sl 4 M]) ∧ S = [] := by
  refine callR_of (R := R1) cx_ok Tryd.func96 (by kernel_rfl) rfl ?_
  conv => whnf
  refine ⟨_, c1, ?_⟩
  rintro _ _ ⟨rfl, rfl⟩
  conv => whnf
  refine ⟨_, hc, ?_⟩
  rintro _ _ ⟨rfl, rfl⟩
  conv => whnf
  subst hk0
  refine brT (decide_eq_true (by omega)) ?_
  conv => whnf
  refine ⟨_, dl, ?_⟩
  rintro _ _ ⟨rfl, rfl⟩
  conv => whnf
  exact ⟨rfl, rfl⟩

theorem put_set {T H : List D} {o k : Int} {n w : ByteArray} {J ao ak : Int} {an aw : ByteArray} (hJ : 0 ≤ J) (hJH : J < H.length) (hk0 : ¬ k = 0) (hgd : H.getD J.toNat .nilP = .agg [.int .u32 ao, .str an, .str aw, .int .u64 ak]) (c1 : CallR cx 130 [.d (.sl 4 H)] [] fun r S => r = .row 0 ∧ S = [.own 129 4 H]) (hc : CallR cx 102 [.d (.agg [.sl 7 T, .sl 4 H]), .d (ky o n), st w] [] fun r S => r = i64 J ∧ S = []) :
    CallR cx 96 [.d (.agg [.sl 7 T, .sl 4 H]), .d (ky o n), st w, u64 k] [] fun r S => r = .d (.agg [.sl 7 T, .sl 4 (H.set J.toNat (.agg [.int .u32 ao, .str an, .str aw, .int .u64 k]))]) ∧ S = [] := by
  refine callR_of (R := R1) cx_ok Tryd.func96 (by kernel_rfl) rfl ?_
  conv => whnf
  refine ⟨_, c1, ?_⟩
  rintro _ _ ⟨rfl, rfl⟩
  conv => whnf
  refine ⟨_, hc, ?_⟩
  rintro _ _ ⟨rfl, rfl⟩
  conv => whnf
  refine brT (decide_eq_true (by omega)) ?_
  conv => whnf
  refine brF (decide_eq_false hk0) ?_
  conv => whnf
  refine brT (decide_eq_true (by omega)) ?_
  conv => whnf
  refine ⟨⟨by omega, by omega⟩, ?_⟩
  conv => whnf
  refine ⟨by omega, ?_⟩
  rw [hgd]
  conv => whnf
  exact ⟨rfl, rfl⟩

theorem put_c {p : Pu} {o : Int} {n w : ByteArray} {k : Int} (hp : p.ok) (hn : n.size ≤ 1000) (hw : w.size ≤ 1000) (hk : U k) : CallR cx 96 [.d p.d, .d (ky o n), st w, u64 k] [] fun r S =>
    r = .d (Pu.d ⟨p.toks, putH p.holds o n w k⟩) ∧ S = [] := by
  have c1 := cloneH_c (l := p.holds) hp.nh
  have hc := holding_c (o := o) (n := n) (w := w) hp
  have hix := ix_look (hdP o n w) p.holds 0
  have hax := ix_ins (hbP o n w) ⟨o, n, w, k⟩ p.holds 0
  have io := ixO_c (f := 133) (p := hbP o n w) (x0 := ky o n) (x1 := .str w) hp.nh (fun h hh => put1_c (hp.h h hh) hn hw)
  have hll := hp.nh
  obtain ⟨ts, hs⟩ := p
  simp only at c1 hc hix hax io hll
  have hlen : (hds hs).length = hs.length := List.length_map _
  have ins : ∀ i, i ≤ hs.length → _ := fun i hi => insertH_c (l := hs) (b := ⟨o, n, w, k⟩) (i := i) hi hll
  have hk' := hk
  unfold U at hk'
  unfold putH
  simp only
  rcases hix with ⟨h1, h2⟩ | ⟨j, hj, h1, h2, h3, h4, h5⟩
  · rw [h1] at hc
    rw [h2]
    simp only
    by_cases hk0 : k > 0
    · rw [if_pos hk0]
      rcases hax with ⟨g1, g2⟩ | ⟨j, hj, g1, g2⟩
      · rw [g1] at io
        rw [g2]
        have ins0 := ins hs.length (Nat.le_refl _)
        rw [List.take_length, List.drop_length, ← hlen] at ins0
        exact put_app hk0 c1 hc io ins0
      · rw [Nat.zero_add] at g1
        rw [g1] at io
        rw [g2]
        exact put_ins (J := (j : Int)) (by omega) hk0 c1 hc io (ins j (by omega))
    · rw [if_neg hk0]
      exact put_no hk0 c1 hc
  · rw [h1, Nat.zero_add] at hc
    rw [h2]
    simp only
    have e3 : IntKind.i64.wrap ((j : Int) + 1) = ((j + 1 : Nat) : Int) := by rw [w64 (by omega)]; omega
    by_cases hk0 : k = 0
    · rw [if_pos hk0]
      have dl := deleteH_c (l := hs) hj
      rw [h5, ← e3] at dl
      exact put_del (J := (j : Int)) (by omega) hk0 c1 hc dl
    · rw [if_neg hk0, ← h4]
      have hgd := hds_getD hj
      have hsd : hds (hs.set j { (hs[j]'hj) with amount := k }) = (hds hs).set (j : Int).toNat (Hd.d { (hs[j]'hj) with amount := k }) := by simp [hds, List.map_set]
      unfold Pu.d
      simp only
      rw [hsd]
      exact put_set (J := (j : Int)) (by omega) (by rw [hlen]; omega) hk0 hgd c1 hc
end Go.Proofs.YtmdfpifcghmpfaaDoor
