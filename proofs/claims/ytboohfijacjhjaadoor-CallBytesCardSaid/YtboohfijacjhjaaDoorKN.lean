/- Calls: the law CallBytes. -/
import Derived.Test.YtboohfijacjhjaaDoorKM
set_option linter.unusedVariables false
namespace Go.Proofs.YtboohfijacjhjaaDoor
open Go.Ab Go.RowKit

theorem cby_no {x : An} {s : ByteArray} {n : Int} (lx : CallR cx 20 [.d x.d] [] fun r S => r = bo false ∧ S = []) :
    CallR cx 7 [.d x.d, st s, i64 n] [] fun r S => r = bo true ∧ S = [] := by
  refine callR_of (R := R1) cx_ok Tryd.func7 (by kernel_rfl) rfl ?_
  conv => whnf
  refine ⟨_, cawake_c, ?_⟩
  rintro _ _ ⟨rfl, rfl⟩
  conv => whnf
  refine ⟨_, lx, ?_⟩
  rintro _ _ ⟨rfl, rfl⟩
  conv => whnf
  refine ⟨_, cawake_c, ?_⟩
  rintro _ _ ⟨rfl, rfl⟩
  conv => whnf
  exact ⟨rfl, rfl⟩

theorem cby_yes {x : An} {s B W : ByteArray} {n E E3 w : Int} {X X3 : D} {F F3 : Fd} {t : Nat} (hF : F.tag = t)
    (lx : CallR cx 20 [.d x.d] [] fun r S => ∃ b, r = bo b ∧ S = [])
    (tx : CallR cx 21 [.d x.d] [] fun r S => r = .d X ∧ S = [])
    (ox : CallR cx 22 [.d X] [] fun r S => r = .d F.d ∧ S = [])
    (cb : CallR cx 32 [.d X] [] fun r S => r = .tup [st B, i64 E] ∧ S = [])
    (fb : CallR cx 33 [.d F.d] [] fun r S => r = .tup [st B, i64 E] ∧ S = [])
    (rd : s.size ≤ 20000 → CallR cx 34 [st s] [] fun r S => r = .tup [.d X3, i64 E3] ∧ S = [])
    (fr : s.size ≤ 20000 → CallR cx 35 [st s] [] fun r S => r = .tup [.d F3.d, i64 E3] ∧ S = [])
    (tg : CallR cx 36 [.d X] [] fun r S => r = i64 (t : Int) ∧ S = [])
    (wt : CallR cx 37 [.d X] [] fun r S => r = u64 w ∧ S = [])
    (wr : CallR cx 38 [i64 (t : Int)] [] fun r S => r = u64 w ∧ S = [])
    (wd : CallR cx 39 [i64 n] [] fun r S => r = st W ∧ S = [])
    (we : CallR cx 40 [i64 n] [] fun r S => r = st W ∧ S = [])
    (o3 : CallR cx 22 [.d X3] [] fun r S => r = .d F3.d ∧ S = [])
    (sm : CallR cx 24 [.d F3.d, .d F3.d] [] fun r S => r = bo true ∧ S = [])
    (h3 : (E3 = 0 ∧ ∃ T y, X3 = .iface T y) ∨ (E3 ≠ 0 ∧ X3 = .nilI)) :
    CallR cx 7 [.d x.d, st s, i64 n] [] fun r S => r = bo true ∧ S = [] := by
  obtain ⟨ft, fA, fB, fC, fo, fn, fk, fs, fu, fv, fp, fl, fi, fbr, fle⟩ := F
  simp only at hF
  subst hF
  refine callR_of (R := R1) cx_ok Tryd.func7 (by kernel_rfl) rfl ?_
  conv => whnf
  refine ⟨_, cawake_c, ?_⟩
  rintro _ _ ⟨rfl, rfl⟩
  conv => whnf
  refine ⟨_, lx, ?_⟩
  rintro _ _ ⟨b, rfl, rfl⟩
  cases b with
  | false =>
    conv => whnf
    refine ⟨_, cawake_c, ?_⟩
    rintro _ _ ⟨rfl, rfl⟩
    conv => whnf
    exact ⟨rfl, rfl⟩
  | true =>
  conv => whnf
  refine brec (fun hs => ?_) (fun hs => ?_)
  · conv => whnf
    refine ⟨_, cawake_c, ?_⟩
    rintro _ _ ⟨rfl, rfl⟩
    conv => whnf
    exact ⟨rfl, rfl⟩
  have hs := of_decide_eq_false hs
  have rd := rd (by omega)
  have fr := fr (by omega)
  conv => whnf
  refine ⟨_, tx, ?_⟩
  rintro _ _ ⟨rfl, rfl⟩
  conv => whnf
  refine ⟨_, ox, ?_⟩
  rintro _ _ ⟨rfl, rfl⟩
  conv => whnf
  refine ⟨_, cb, ?_⟩
  rintro _ _ ⟨rfl, rfl⟩
  conv => whnf
  refine ⟨_, fb, ?_⟩
  rintro _ _ ⟨rfl, rfl⟩
  conv => whnf
  refine ⟨_, rd, ?_⟩
  rintro _ _ ⟨rfl, rfl⟩
  conv => whnf
  refine ⟨_, fr, ?_⟩
  rintro _ _ ⟨rfl, rfl⟩
  conv => whnf
  refine ⟨by kernel_rfl, ?_⟩
  conv => whnf
  refine ⟨_, cawake_c, ?_⟩
  conv => whnf
  refine ⟨_, tg, ?_⟩
  conv => whnf
  refine brT (beq_self_eq_true _) ?_
  conv => whnf
  refine ⟨_, wt, ?_⟩
  conv => whnf
  refine ⟨_, wr, ?_⟩
  conv => whnf
  refine brT (beq_self_eq_true _) ?_
  conv => whnf
  refine ⟨_, wd, ?_⟩
  conv => whnf
  refine ⟨_, we, ?_⟩
  conv => whnf
  refine brT (decide_eq_true rfl) ?_
  conv => whnf
  refine brT (decide_eq_true rfl) ?_
  conv => whnf
  refine brT (beq_self_eq_true _) ?_
  conv => whnf
  rcases h3 with ⟨h3, T, y, rfl⟩ | ⟨h3, rfl⟩
  · subst h3
    refine ⟨_, o3, ?_⟩
    conv => whnf
    refine ⟨_, sm, ?_⟩
    conv => whnf
    refine ⟨by kernel_rfl, ?_⟩
    conv => whnf
    exact ⟨rfl, rfl⟩
  · refine ⟨_, o3, ?_⟩
    conv => whnf
    refine ⟨_, sm, ?_⟩
    conv => whnf
    refine brT (beq_self_eq_true _) ?_
    conv => whnf
    refine ⟨by kernel_rfl, ?_⟩
    conv => whnf
    refine ⟨?_, rfl⟩
    have e : (E3 == 0) = false := beq_eq_false_iff_ne.2 h3
    show AV.d (.bool _) = _
    rw [e]
    rfl

theorem callBytes_c (ys : List D) (hy : Ty.hass [tyAn, .str, .int .i64] ys) : CallR cx 7 (ys.map AV.d) [] fun r S => r = .d (.bool true) ∧ S = [] := by
  obtain ⟨_, _, rfl, ha, _, _, rfl, ⟨s, rfl, _⟩, _, _, rfl, ⟨n, rfl, wn⟩, rfl⟩ := hy
  obtain ⟨x, rfl, hx⟩ := an_of ha
  have hn := wf_i64 wn
  have lx0 := clight_c (x := x)
  have lx := lx0.mono fun r S ⟨b, h1, h2, h3⟩ => (⟨b, h1, h3⟩ : ∃ b, r = bo b ∧ S = [])
  by_cases hlx : x.light
  case neg => exact cby_no (lx0.mono fun r S ⟨b, h1, h2, h3⟩ => ⟨by cases b with | false => exact h1 | true => exact absurd (h2 rfl) hlx, h3⟩)
  have fx := An.fit hx hlx
  have ff := fd_fit (readC_fit s)
  have sm := fsame_c ff ff
  rw [decide_eq_true rfl] at sm
  have h12 : x.cl.tag ≤ 12 := by cases x.cl <;> (unfold Cl.tag; simp only; decide)
  refine cby_yes (fd_tag x.cl) lx cto_c cof_c (cbytes_c fx) (fbytes_c fx) (fun h => cread_c (by omega)) (fun h => fread_c (by omega)) ctag_c cweight_c (rweight_c h12) (cword_c hn) (rword_c hn) cof_c sm ?_
  by_cases h : (readC s).2 = 0
  · refine .inl ⟨h, ?_⟩
    obtain ⟨_, g, _⟩ := readC_ok h
    generalize (readC s).1 = c at g
    cases c <;> first | exact ⟨_, _, rfl⟩ | exact g.elim
  · refine .inr ⟨h, ?_⟩
    rw [readC_no s h]
    rfl
end Go.Proofs.YtboohfijacjhjaaDoor
