/- Calls: the law CallBack (its walk). -/
import Derived.Test.YtboohfijacjhjaaDoorKI
set_option linter.unusedVariables false
namespace Go.Proofs.YtboohfijacjhjaaDoor
open Go.Ab Go.RowKit

theorem shr32 {n : Int} (h : -9223372036854775808 ≤ n ∧ n < 9223372036854775808) (g : n / 4294967296 = 0) : okI n := by unfold okI; omega

theorem shr0 {n : Int} (h : (n.fdiv ((2 : Int) ^ min (Int.toNat 32) IntKind.i64.bits) == 0) = true) : n / 4294967296 = 0 := by
  have e : ((2 : Int) ^ min (Int.toNat 32) IntKind.i64.bits) = 4294967296 := by decide
  rw [e, Int.fdiv_eq_ediv_of_nonneg _ (by decide)] at h
  exact eq_of_beq h

theorem cbk_no {x : An} {s : ByteArray} (lx : CallR cx 20 [.d x.d] [] fun r S => r = bo false ∧ S = []) :
    CallR cx 8 [.d x.d, st s] [] fun r S => r = bo true ∧ S = [] := by
  refine callR_of (R := R1) cx_ok Tryd.func8 (by kernel_rfl) rfl ?_
  conv => whnf
  refine ⟨_, cawake_c, ?_⟩
  rintro _ _ ⟨rfl, rfl⟩
  conv => whnf
  refine ⟨_, lx, ?_⟩
  rintro _ _ ⟨rfl, rfl⟩
  conv => whnf
  refine ⟨_, cawake_c, ?_⟩
  rintro _ _ ⟨rfl, rfl⟩
  conv => whnf
  exact ⟨rfl, rfl⟩

theorem cbk_yes {x : An} {s B T : ByteArray} {E E2 E3 E4 : Int} {X X2 X3 : D} {q : Bool}
    (lx : CallR cx 20 [.d x.d] [] fun r S => ∃ b, r = bo b ∧ S = [])
    (tx : CallR cx 21 [.d x.d] [] fun r S => r = .d X ∧ S = [])
    (cb : CallR cx 32 [.d X] [] fun r S => r = .tup [st B, i64 E] ∧ S = [])
    (rd : CallR cx 34 [st B] [] fun r S => r = .tup [.d X2, i64 E2] ∧ S = [])
    (sm : CallR cx 23 [.d X, .d X2] [] fun r S => r = bo q ∧ S = [])
    (rd2 : s.size ≤ 20000 → CallR cx 34 [st s] [] fun r S => r = .tup [.d X3, i64 E3] ∧ S = [])
    (cb2 : CallR cx 32 [.d X3] [] fun r S => r = .tup [st T, i64 E4] ∧ S = [])
    (hq : E = 0 → x.sig.ix / 4294967296 = 0 → x.u.sig.ix / 4294967296 = 0 → x.v.sig.ix / 4294967296 = 0 → x.stop.sig.ix / 4294967296 = 0 → x.stop.wat / 4294967296 = 0 → E2 = 0 → q = true)
    (hk : E3 = 0 → E4 = 0 ∧ T = s) :
    CallR cx 8 [.d x.d, st s] [] fun r S => r = bo true ∧ S = [] := by
  obtain ⟨kind, A, B', C, org, n, k, ⟨i1, p1, o1, t1⟩, ⟨h2, d2, d3, ⟨i2, p2, o2, t2⟩⟩, ⟨h3, d4, d5, ⟨i3, p3, o3, t3⟩⟩, ⟨h4, d6, w4, ⟨i4, p4, o4, t4⟩⟩, leaf, ix, br, ⟨l1, l2, l3, l4, l5, l6⟩⟩ := x
  simp only at hq
  refine callR_of (R := R1) cx_ok Tryd.func8 (by kernel_rfl) rfl ?_
  conv => whnf
  refine ⟨_, cawake_c, ?_⟩
  rintro _ _ ⟨rfl, rfl⟩
  conv => whnf
  refine ⟨_, lx, ?_⟩
  rintro _ _ ⟨b, rfl, rfl⟩
  cases b with
  | false =>
    conv => whnf
    refine ⟨_, cawake_c, ?_⟩
    rintro _ _ ⟨rfl, rfl⟩
    conv => whnf
    exact ⟨rfl, rfl⟩
  | true =>
  conv => whnf
  refine brec (fun hs => ?_) (fun hs => ?_)
  · conv => whnf
    refine ⟨_, cawake_c, ?_⟩
    rintro _ _ ⟨rfl, rfl⟩
    conv => whnf
    exact ⟨rfl, rfl⟩
  have hs := of_decide_eq_false hs
  have rd2 := rd2 (by omega)
  conv => whnf
  refine ⟨_, tx, ?_⟩
  rintro _ _ ⟨rfl, rfl⟩
  conv => whnf
  refine ⟨_, cb, ?_⟩
  rintro _ _ ⟨rfl, rfl⟩
  conv => whnf
  refine brec (fun g0 => ?_) (fun g0 => ?_)
  have g0 : E = 0 := by simpa using g0
  conv => whnf
  refine ⟨by decide, ?_⟩
  conv => whnf
  refine brec (fun g1 => ?_) (fun g1 => ?_)
  have g1 := shr0 g1
  conv => whnf
  refine ⟨by decide, ?_⟩
  conv => whnf
  refine brec (fun g2 => ?_) (fun g2 => ?_)
  have g2 := shr0 g2
  conv => whnf
  refine ⟨by decide, ?_⟩
  conv => whnf
  refine brec (fun g3 => ?_) (fun g3 => ?_)
  have g3 := shr0 g3
  conv => whnf
  refine ⟨by decide, ?_⟩
  conv => whnf
  refine brec (fun g4 => ?_) (fun g4 => ?_)
  have g4 := shr0 g4
  conv => whnf
  refine ⟨by decide, ?_⟩
  conv => whnf
  refine brec (fun g5 => ?_) (fun g5 => ?_)
  have g5 := shr0 g5
  conv => whnf
  refine ⟨_, rd, ?_⟩
  rintro _ _ ⟨rfl, rfl⟩
  conv => whnf
  refine brec (fun g6 => ?_) (fun g6 => ?_)
  have g6 : E2 = 0 := by simpa using g6
  have hq := hq g0 g1 g2 g3 g4 g5 g6
  subst hq
  conv => whnf
  refine ⟨_, sm, ?_⟩
  rintro _ _ ⟨rfl, rfl⟩
  all_goals
    conv => whnf
    refine ⟨_, rd2, ?_⟩
    rintro _ _ ⟨rfl, rfl⟩
    conv => whnf
    refine ⟨_, cb2, ?_⟩
    rintro _ _ ⟨rfl, rfl⟩
    conv => whnf
    refine ⟨_, cawake_c, ?_⟩
    rintro _ _ ⟨rfl, rfl⟩
    conv => whnf
    refine brecL (fun k1 => ?_) (fun k1 => ?_)
    · conv => whnf
      exact ⟨rfl, rfl⟩
    · have k1 : E3 = 0 := by simpa using k1
      obtain ⟨k2, k3⟩ := hk k1
      subst k2
      subst k3
      conv => whnf
      exact ⟨congrArg bo (decide_eq_true rfl), rfl⟩

theorem callBack_c (ys : List D) (hy : Ty.hass [tyAn, .str] ys) : CallR cx 8 (ys.map AV.d) [] fun r S => r = .d (.bool true) ∧ S = [] := by
  obtain ⟨_, _, rfl, ha, _, _, rfl, ⟨s, rfl, _⟩, rfl⟩ := hy
  obtain ⟨x, rfl, hx⟩ := an_of ha
  have lx0 := clight_c (x := x)
  have lx := lx0.mono fun r S ⟨b, h1, h2, h3⟩ => (⟨b, h1, h3⟩ : ∃ b, r = bo b ∧ S = [])
  by_cases hlx : x.light
  case neg => exact cbk_no (lx0.mono fun r S ⟨b, h1, h2, h3⟩ => ⟨by cases b with | false => exact h1 | true => exact absurd (h2 rfl) hlx, h3⟩)
  have fx := An.fit hx hlx
  refine cbk_yes (q := decide (0 < x.cl.tag) && decide (x.cl = (readC x.cl.cS).1)) lx cto_c (cbytes_c fx) (cread_c (Cl.cS_size fx)) (csame_c fx (readC_fit _)) (fun h => cread_c (by omega)) (cbytes_c (readC_fit s)) ?_ back_bytes
  intro e a1 a2 a3 a4 a5 e2
  exact back_same fx (small_of (shr32 hx.sig a1) (shr32 hx.u.2.2.2.1 a2) (shr32 hx.v.2.2.2.1 a3) (shr32 hx.s.2.2.2.1 a4) (shr32 hx.s.2.2.1 a5)) e e2
end Go.Proofs.YtboohfijacjhjaaDoor
