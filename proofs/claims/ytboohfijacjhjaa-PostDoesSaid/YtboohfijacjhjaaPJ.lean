/- Posts: the law PostDoes. -/
import Derived.Test.YtboohfijacjhjaaPI
set_option linter.unusedVariables false
namespace Go.Proofs.Ytboohfijacjhjaa
open Go.Ab Go.RowKit

theorem its_itm (l : List It) : Itm (its l) := its_at

theorem rsend_l {l : List It} {h : Nat} {c : Cl} (hc : c.fit) : CallR cx 12 [.d (.sl 2 (its l)), u32' (h : Int), .d c.fd.d] [] fun r S => r = .tup [.d (.sl 2 (its (sendP l h c).1)), i64 (sendP l h c).2] ∧ S = [] := by
  have fb := fbytes_c hc
  unfold sendP
  by_cases he : c.cE = 0
  · rw [if_pos he]
    rw [he] at fb
    by_cases hf : 256 ≤ l.length
    · rw [if_pos hf]
      exact rsnd_full (by rw [its_len]; exact hf) fb
    · rw [if_neg hf]
      have e : its (l ++ [⟨h, c.cS⟩]) = its l ++ [.agg [.int .u32 (h : Int), .str c.cS]] := by unfold its; rw [List.map_append]; rfl
      simp only
      rw [e]
      exact rsnd_ok (by rw [its_len]; exact hf) fb
  · rw [if_neg he]
    exact rsnd_no he fb

theorem its_take (l : List It) (n : Nat) : (its l).take n = its (l.take n) := (List.map_take ..).symm
theorem its_drop (l : List It) (n : Nat) : (its l).drop n = its (l.drop n) := (List.map_drop ..).symm
theorem its_app (l m : List It) : its l ++ its m = its (l ++ m) := (List.map_append ..).symm

theorem rtake_l {l : List It} {i : Int} (hl : l.length ≤ 100000) : CallR cx 15 [.d (.sl 2 (its l)), i64 i] [] fun r S => r = .tup [.d (.sl 2 (its (takeP l i).1)), .d (takeP l i).2.1.d, bo (takeP l i).2.2] ∧ S = [] := by
  have h := rtake_c (H := its l) (i := i) (by rw [its_len]; exact hl) (its_itm l)
  unfold takeP
  by_cases hb : inB l i
  · rw [if_pos hb]
    obtain ⟨h0, h1⟩ := hb
    obtain ⟨n, rfl⟩ : ∃ n : Nat, i = n := ⟨i.toNat, by omega⟩
    have hn : n < l.length := by omega
    rw [Int.toNat_natCast]
    rw [Pl.keepF_in D.nilP (Nat.le_refl _) (by rw [its_len]; exact hn), Pl.lastF_in D.nilP (by rw [its_len]; exact hn), List.take_length, its_take, its_drop, its_app, its_getD hn, its_len, decide_eq_true ⟨h0, h1⟩] at h
    exact h
  · rw [if_neg hb]
    have hb' : ¬ (0 ≤ i ∧ i < ((its l).length : Int)) := by rw [its_len]; exact hb
    rw [Pl.keepF_out D.nilP (Nat.le_refl _) hb', Pl.lastF_out D.nilP hb', List.take_length, decide_eq_false hb'] at h
    exact h

theorem rtwice_l {l : List It} {i : Int} : CallR cx 18 [.d (.sl 2 (its l)), i64 i] [] fun r S => r = .tup [.d (.sl 2 (its (twiceP l i).1)), i64 (twiceP l i).2] ∧ S = [] := by
  unfold twiceP
  by_cases hb : inB l i
  · rw [if_pos hb]
    have hb' : 0 ≤ i ∧ i < ((its l).length : Int) := by rw [its_len]; exact hb
    by_cases hf : 256 ≤ l.length
    · rw [if_pos hf]
      exact rtwice_full hb' (by rw [its_len]; exact hf)
    · rw [if_neg hf]
      have h := rtwice_ok hb' (by rw [its_len]; exact hf) (its_itm l)
      obtain ⟨h0, h1⟩ := hb
      obtain ⟨n, rfl⟩ : ∃ n : Nat, i = n := ⟨i.toNat, by omega⟩
      have hn : n < l.length := by omega
      rw [Int.toNat_natCast]
      have e : its (l.take (n + 1)) ++ (l.getD n it0).d :: its (l.drop (n + 1)) = its (l.take (n + 1) ++ l.getD n it0 :: l.drop (n + 1)) := by
        unfold its
        rw [List.map_append, List.map_cons]
      rw [Pl.dupF_in D.nilP (Nat.le_refl _) (by rw [its_len]; exact hn), List.take_length, its_take, its_drop, its_getD hn, e] at h
      exact h
  · rw [if_neg hb]
    exact rtwice_no (by rw [its_len]; exact hb)

def swapP (l : List It) (i k : Int) : List It × Bool := if inB l i ∧ inB l k then ((l.set i.toNat (l.getD k.toNat it0)).set k.toNat (l.getD i.toNat it0), true) else (l, false)

theorem swap_c {l : List It} {i k : Int} (hl : l.length ≤ 100000) : CallR cx 19 [.d (pod l), i64 i, i64 k] [] fun r S => r = .tup [.d (pod (swapP l i k).1), bo (swapP l i k).2] ∧ S = [] := by
  unfold swapP
  by_cases hb : inB l i ∧ inB l k
  · rw [if_pos hb]
    have hi : 0 ≤ i ∧ i < ((its l).length : Int) := by rw [its_len]; exact hb.1
    have hk : 0 ≤ k ∧ k < ((its l).length : Int) := by rw [its_len]; exact hb.2
    rw [its_len] at hi hk
    have h := swp_ok (H := its l) (by rw [its_len]; exact hi) (by rw [its_len]; exact hk) (cloneP_c hl) (its_getD (l := l) (i := i.toNat) (by omega)) (its_getD (l := l) (i := k.toNat) (by omega))
    have e : its ((l.set i.toNat (l.getD k.toNat it0)).set k.toNat (l.getD i.toNat it0)) = ((its l).set i.toNat (l.getD k.toNat it0).d).set k.toNat (l.getD i.toNat it0).d := by
      unfold its
      rw [List.map_set, List.map_set]
    simp only
    unfold pod
    rw [e]
    exact h
  · rw [if_neg hb]
    exact swp_no (by rw [its_len]; exact hb)

theorem rswap_l {l : List It} {i k : Int} (hl : l.length ≤ 100000) : CallR cx 20 [.d (.sl 2 (its l)), i64 i, i64 k] [] fun r S => r = .tup [.d (.sl 2 (its (swapP l i k).1)), bo (swapP l i k).2] ∧ S = [] := by
  unfold swapP
  by_cases hb : inB l i ∧ inB l k
  · rw [if_pos hb]
    have hi : 0 ≤ i ∧ i < ((its l).length : Int) := by rw [its_len]; exact hb.1
    have hk : 0 ≤ k ∧ k < ((its l).length : Int) := by rw [its_len]; exact hb.2
    have h := rswap_ok hi hk (by rw [its_len]; exact hl) (its_itm l)
    rw [its_len] at hi hk
    have hi2 : i.toNat < l.length := by omega
    have hk2 : k.toNat < l.length := by omega
    have e : Pl.mapF (swF (its l) i k) (its l).length = its ((l.set i.toNat (l.getD k.toNat it0)).set k.toNat (l.getD i.toNat it0)) := by
      have e1 : (swF (its l) i k) = fun j => if j = i.toNat then (its l).getD k.toNat D.nilP else if j = k.toNat then (its l).getD i.toNat D.nilP else (its l).getD j D.nilP := by
        funext j
        unfold swF
        have a1 : ((j : Int) = i) = (j = i.toNat) := propext (by omega)
        have a2 : ((j : Int) = k) = (j = k.toNat) := propext (by omega)
        simp only [a1, a2]
      rw [e1, Pl.swap_eq D.nilP (by rw [its_len]; exact hi2) (by rw [its_len]; exact hk2), its_getD hi2, its_getD hk2]
      unfold its
      rw [List.map_set, List.map_set]
    rw [e] at h
    exact h
  · rw [if_neg hb]
    exact rswap_no (by rw [its_len]; exact hb)

theorem isame_l {l : List It} {t : Int} (hl : l.length ≤ 100000) : CallR cx 22 [.d (.sl 1 (forF (its l) t (its l).length)), .d (.sl 1 (forF (its l) t (its l).length))] [] fun r S => r = bo true ∧ S = [] := by
  have := forF_len (H := its l) (t := t) (n := (its l).length)
  rw [its_len] at this
  refine isame_c (by rw [its_len]; omega) fun j hj => ?_
  rw [List.getD_eq_getElem?_getD, List.getElem?_eq_getElem hj]
  exact forF_int _ (List.getElem_mem hj)

theorem send_len {l : List It} {h : Nat} {c : Cl} : (sendP l h c).1.length ≤ l.length + 1 := by
  unfold sendP
  split
  · split
    · simp
    · simp
  · simp
theorem take_len {l : List It} {i : Int} : (takeP l i).1.length ≤ l.length := by
  unfold takeP
  split
  · simp only [List.length_append, List.length_take, List.length_drop]; omega
  · simp
theorem twice_len {l : List It} {i : Int} : (twiceP l i).1.length ≤ l.length + 1 := by
  unfold twiceP
  split
  · split
    · simp
    · simp only [List.length_append, List.length_cons, List.length_take, List.length_drop]; omega
  · simp
theorem swap_len {l : List It} {i k : Int} : (swapP l i k).1.length ≤ l.length := by
  unfold swapP
  split
  · simp
  · simp

abbrev TO (H : List D) : Prop := CallR cx 9 [.d (po H)] [] fun r S => r = .d (.sl 2 H) ∧ S = []
abbrev SAME (H : List D) : Prop := CallR cx 21 [.d (.sl 2 H), .d (.sl 2 H)] [] fun r S => r = bo true ∧ S = []

theorem pdo_no1 {H : List D} {h a w : Int} {x : An}
    (fw : CallR cx 7 [.d (po H)] [] fun r S => r = bo false ∧ S = []) :
    CallR cx 3 [.d (po H), u32' h, .d x.d, i64 a, i64 w] [] fun r S => r = bo true ∧ S = [] := by
  refine callR_of (R := R1) cx_ok Try.func3 (by kernel_rfl) rfl ?_
  conv => whnf
  refine ⟨_, pawake_c, ?_⟩
  rintro _ _ ⟨rfl, rfl⟩
  conv => whnf
  refine ⟨_, fw, ?_⟩
  rintro _ _ ⟨rfl, rfl⟩
  conv => whnf
  exact ⟨rfl, rfl⟩

theorem pdo_no2 {H : List D} {h a w : Int} {x : An}
    (fw : CallR cx 7 [.d (po H)] [] fun r S => ∃ b, r = bo b ∧ S = [])
    (lx : CallR cx 8 [.d x.d] [] fun r S => r = bo false ∧ S = []) :
    CallR cx 3 [.d (po H), u32' h, .d x.d, i64 a, i64 w] [] fun r S => r = bo true ∧ S = [] := by
  refine callR_of (R := R1) cx_ok Try.func3 (by kernel_rfl) rfl ?_
  conv => whnf
  refine ⟨_, pawake_c, ?_⟩
  rintro _ _ ⟨rfl, rfl⟩
  conv => whnf
  refine ⟨_, fw, ?_⟩
  rintro _ _ ⟨f, rfl, rfl⟩
  cases f with
  | false =>
    conv => whnf
    exact ⟨rfl, rfl⟩
  | true =>
  conv => whnf
  refine ⟨_, lx, ?_⟩
  rintro _ _ ⟨rfl, rfl⟩
  conv => whnf
  exact ⟨rfl, rfl⟩

theorem pdo_yes {H A T W Z : List D} {h a w e1 e2 ti : Int} {bi : ByteArray} {q1 q2 : Bool} {x : An} {X F FO : D}
    (fw : CallR cx 7 [.d (po H)] [] fun r S => ∃ b, r = bo b ∧ S = [])
    (lx : CallR cx 8 [.d x.d] [] fun r S => ∃ b, r = bo b ∧ S = [])
    (tx : CallR cx 10 [.d x.d] [] fun r S => r = .d X ∧ S = [])
    (of : CallR cx 13 [.d X] [] fun r S => r = .d F ∧ S = [])
    (c1 : CallR cx 11 [.d (po H), u32' h, .d X] [] fun r S => r = .tup [.d (po A), i64 e1] ∧ S = [])
    (d1 : CallR cx 12 [.d (.sl 2 H), u32' h, .d F] [] fun r S => r = .tup [.d (.sl 2 A), i64 e1] ∧ S = [])
    (c2 : CallR cx 14 [.d (po H), i64 a] [] fun r S => r = .tup [.d (po T), .d (.agg [.int .u32 ti, .str bi]), bo q1] ∧ S = [])
    (d2 : CallR cx 15 [.d (.sl 2 H), i64 a] [] fun r S => r = .tup [.d (.sl 2 T), .d (.agg [.int .u32 ti, .str bi]), bo q1] ∧ S = [])
    (c3 : CallR cx 16 [.d (po H), i64 a] [] fun r S => r = .tup [.d (po T), bo q1] ∧ S = [])
    (c4 : CallR cx 17 [.d (po H), i64 a] [] fun r S => r = .tup [.d (po W), i64 e2] ∧ S = [])
    (d4 : CallR cx 18 [.d (.sl 2 H), i64 a] [] fun r S => r = .tup [.d (.sl 2 W), i64 e2] ∧ S = [])
    (c5 : CallR cx 19 [.d (po H), i64 a, i64 w] [] fun r S => r = .tup [.d (po Z), bo q2] ∧ S = [])
    (d5 : CallR cx 20 [.d (.sl 2 H), i64 a, i64 w] [] fun r S => r = .tup [.d (.sl 2 Z), bo q2] ∧ S = [])
    (c6 : CallR cx 23 [.d (po H), u32' h] [] fun r S => r = .d FO ∧ S = [])
    (d6 : CallR cx 24 [.d (.sl 2 H), u32' h] [] fun r S => r = .d FO ∧ S = [])
    (sf : CallR cx 22 [.d FO, .d FO] [] fun r S => r = bo true ∧ S = [])
    (tH : TO H) (tA : TO A) (tT : TO T) (tW : TO W) (tZ : TO Z) (sH : SAME H) (sA : SAME A) (sT : SAME T) (sW : SAME W) (sZ : SAME Z) :
    CallR cx 3 [.d (po H), u32' h, .d x.d, i64 a, i64 w] [] fun r S => r = bo true ∧ S = [] := by
  obtain ⟨kind, A', B', C, org, n, k, ⟨i1, p1, o1, t1⟩, ⟨h2, d2', d3, ⟨i2, p2, o2, t2⟩⟩, ⟨h3, d4', d5', ⟨i3, p3, o3, t3⟩⟩, ⟨h4', d6', w4, ⟨i4, p4, o4, t4⟩⟩, leaf, ix, br, ⟨l1, l2, l3, l4, l5, l6⟩⟩ := x
  have hd : deq (D.agg [.int .u32 ti, .str bi]) (.agg [.int .u32 ti, .str bi]) = true := (deq_iff (P := True) ⟨fun _ => trivial, fun _ => rfl⟩).trans rfl
  refine callR_of (R := R1) cx_ok Try.func3 (by kernel_rfl) rfl ?_
  conv => whnf
  refine ⟨_, pawake_c, ?_⟩
  rintro _ _ ⟨rfl, rfl⟩
  conv => whnf
  refine ⟨_, fw, ?_⟩
  rintro _ _ ⟨b, rfl, rfl⟩
  cases b with
  | false =>
    conv => whnf
    exact ⟨rfl, rfl⟩
  | true =>
  conv => whnf
  refine ⟨_, lx, ?_⟩
  rintro _ _ ⟨b, rfl, rfl⟩
  cases b with
  | false =>
    conv => whnf
    exact ⟨rfl, rfl⟩
  | true =>
  conv => whnf
  refine ⟨_, tH, ?_⟩
  rintro _ _ ⟨rfl, rfl⟩
  conv => whnf
  refine ⟨_, tx, ?_⟩
  rintro _ _ ⟨rfl, rfl⟩
  conv => whnf
  refine ⟨_, c1, ?_⟩
  rintro _ _ ⟨rfl, rfl⟩
  conv => whnf
  refine ⟨_, of, ?_⟩
  rintro _ _ ⟨rfl, rfl⟩
  conv => whnf
  refine ⟨_, d1, ?_⟩
  rintro _ _ ⟨rfl, rfl⟩
  conv => whnf
  refine ⟨_, c2, ?_⟩
  rintro _ _ ⟨rfl, rfl⟩
  conv => whnf
  refine ⟨_, d2, ?_⟩
  rintro _ _ ⟨rfl, rfl⟩
  conv => whnf
  refine ⟨_, c3, ?_⟩
  rintro _ _ ⟨rfl, rfl⟩
  conv => whnf
  refine ⟨_, c4, ?_⟩
  rintro _ _ ⟨rfl, rfl⟩
  conv => whnf
  refine ⟨_, d4, ?_⟩
  rintro _ _ ⟨rfl, rfl⟩
  conv => whnf
  refine ⟨_, c5, ?_⟩
  rintro _ _ ⟨rfl, rfl⟩
  conv => whnf
  refine ⟨_, d5, ?_⟩
  rintro _ _ ⟨rfl, rfl⟩
  conv => whnf
  refine ⟨_, tA, ?_⟩
  rintro _ _ ⟨rfl, rfl⟩
  conv => whnf
  refine ⟨_, sA, ?_⟩
  rintro _ _ ⟨rfl, rfl⟩
  conv => whnf
  refine brT (beq_self_eq_true _) ?_
  conv => whnf
  refine ⟨_, tT, ?_⟩
  rintro _ _ ⟨rfl, rfl⟩
  conv => whnf
  refine ⟨_, sT, ?_⟩
  rintro _ _ ⟨rfl, rfl⟩
  conv => whnf
  refine ⟨sideIt, ?_⟩
  rw [hd]
  conv => whnf
  refine brT (beq_self_eq_true _) ?_
  conv => whnf
  refine ⟨_, tT, ?_⟩
  rintro _ _ ⟨rfl, rfl⟩
  conv => whnf
  refine ⟨_, sT, ?_⟩
  rintro _ _ ⟨rfl, rfl⟩
  conv => whnf
  refine brT (beq_self_eq_true _) ?_
  conv => whnf
  refine ⟨_, tW, ?_⟩
  rintro _ _ ⟨rfl, rfl⟩
  conv => whnf
  refine ⟨_, sW, ?_⟩
  rintro _ _ ⟨rfl, rfl⟩
  conv => whnf
  refine brT (beq_self_eq_true _) ?_
  conv => whnf
  refine ⟨_, tZ, ?_⟩
  rintro _ _ ⟨rfl, rfl⟩
  conv => whnf
  refine ⟨_, sZ, ?_⟩
  rintro _ _ ⟨rfl, rfl⟩
  conv => whnf
  refine brT (beq_self_eq_true _) ?_
  conv => whnf
  refine ⟨_, c6, ?_⟩
  rintro _ _ ⟨rfl, rfl⟩
  conv => whnf
  refine ⟨_, d6, ?_⟩
  rintro _ _ ⟨rfl, rfl⟩
  conv => whnf
  refine ⟨_, sf, ?_⟩
  rintro _ _ ⟨rfl, rfl⟩
  conv => whnf
  refine ⟨_, tH, ?_⟩
  rintro _ _ ⟨rfl, rfl⟩
  conv => whnf
  refine ⟨_, sH, ?_⟩
  rintro _ _ ⟨rfl, rfl⟩
  conv => whnf
  exact ⟨rfl, rfl⟩

theorem postDoes_c (ys : List D) (hy : Ty.hass [tyPo, .int .u32, tyAn, .int .i64, .int .i64] ys) : CallR cx 3 (ys.map AV.d) [] fun r S => r = .d (.bool true) ∧ S = [] := by
  obtain ⟨_, _, rfl, hp, _, _, rfl, ⟨h, rfl, wh⟩, _, _, rfl, ha, _, _, rfl, ⟨a, rfl, wa⟩, _, _, rfl, ⟨w, rfl, ww⟩, rfl⟩ := hy
  obtain ⟨l, rfl, _⟩ := po_of hp
  obtain ⟨h, rfl, hh⟩ := wf_u32 wh
  obtain ⟨x, rfl, hx⟩ := an_of ha
  have lx0 := clight_c (x := x)
  have fw0 := few_c (l := l)
  have lx := lx0.mono fun r S ⟨b, h1, h2, h3⟩ => (⟨b, h1, h3⟩ : ∃ b, r = bo b ∧ S = [])
  have fw := fw0.mono fun r S ⟨b, h1, h2, h3⟩ => (⟨b, h1, h3⟩ : ∃ b, r = bo b ∧ S = [])
  by_cases hl : l.length ≤ 260
  case neg => exact pdo_no1 (fw0.mono fun r S ⟨b, h1, h2, h3⟩ => ⟨by cases b with | false => exact h1 | true => exact absurd (h2 rfl) hl, h3⟩)
  by_cases hlx : x.light
  case neg => exact pdo_no2 fw (lx0.mono fun r S ⟨b, h1, h2, h3⟩ => ⟨by cases b with | false => exact h1 | true => exact absurd (h2 rfl) hlx, h3⟩)
  have fx := An.fit hx hlx
  have n1 := send_len (l := l) (h := h) (c := x.cl)
  have n2 := take_len (l := l) (i := a)
  have n3 := twice_len (l := l) (i := a)
  have n4 := swap_len (l := l) (i := a) (k := w)
  exact pdo_yes fw lx cto_c cof_c (send_c (by omega) fx) (rsend_l fx) (take_c (by omega)) (rtake_l (by omega)) (lose_c (by omega)) (twice_c (by omega)) rtwice_l (swap_c (by omega)) (rswap_l (by omega))
    (pfor_c (by rw [its_len]; omega) (its_itm l)) (rfor_c (by rw [its_len]; omega) (its_itm l)) (isame_l (by omega)) (to_c (by omega)) (to_c (by omega)) (to_c (by omega)) (to_c (by omega)) (to_c (by omega)) (plsame_c (by omega)) (plsame_c (by omega)) (plsame_c (by omega)) (plsame_c (by omega)) (plsame_c (by omega))
end Go.Proofs.Ytboohfijacjhjaa
