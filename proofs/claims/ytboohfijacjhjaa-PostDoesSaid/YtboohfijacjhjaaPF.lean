/- Posts: the law PostBack. -/
import Derived.Test.YtboohfijacjhjaaPE
set_option linter.unusedVariables false
namespace Go.Proofs.Ytboohfijacjhjaa
open Go.Ab Go.RowKit

theorem pbk_no1 {H : List D} {h : Int} {x : An}
    (fw : CallR cx 7 [.d (po H)] [] fun r S => r = bo false ∧ S = []) :
    CallR cx 5 [.d (po H), u32' h, .d x.d] [] fun r S => r = bo true ∧ S = [] := by
  refine callR_of (R := R1) cx_ok Try.func5 (by kernel_rfl) rfl ?_
  conv => whnf
  refine ⟨_, pawake_c, ?_⟩
  rintro _ _ ⟨rfl, rfl⟩
  conv => whnf
  refine ⟨_, fw, ?_⟩
  rintro _ _ ⟨rfl, rfl⟩
  conv => whnf
  exact ⟨rfl, rfl⟩

theorem pbk_no2 {H : List D} {h : Int} {x : An}
    (fw : CallR cx 7 [.d (po H)] [] fun r S => ∃ b, r = bo b ∧ S = [])
    (lx : CallR cx 8 [.d x.d] [] fun r S => r = bo false ∧ S = []) :
    CallR cx 5 [.d (po H), u32' h, .d x.d] [] fun r S => r = bo true ∧ S = [] := by
  refine callR_of (R := R1) cx_ok Try.func5 (by kernel_rfl) rfl ?_
  conv => whnf
  refine ⟨_, pawake_c, ?_⟩
  rintro _ _ ⟨rfl, rfl⟩
  conv => whnf
  refine ⟨_, fw, ?_⟩
  rintro _ _ ⟨f, rfl, rfl⟩
  cases f with
  | false =>
    conv => whnf
    exact ⟨rfl, rfl⟩
  | true =>
  conv => whnf
  refine ⟨_, lx, ?_⟩
  rintro _ _ ⟨rfl, rfl⟩
  conv => whnf
  exact ⟨rfl, rfl⟩

theorem pbk_er {H : List D} {h e : Int} {x : An} {X : D} (he : e ≠ 0)
    (fw : CallR cx 7 [.d (po H)] [] fun r S => ∃ b, r = bo b ∧ S = [])
    (lx : CallR cx 8 [.d x.d] [] fun r S => ∃ b, r = bo b ∧ S = [])
    (tx : CallR cx 10 [.d x.d] [] fun r S => r = .d X ∧ S = [])
    (sn : CallR cx 11 [.d (po H), u32' h, .d X] [] fun r S => r = .tup [.d (po H), i64 e] ∧ S = [])
    (to : CallR cx 9 [.d (po H)] [] fun r S => r = .d (.sl 2 H) ∧ S = [])
    (sm : CallR cx 21 [.d (.sl 2 H), .d (.sl 2 H)] [] fun r S => r = bo true ∧ S = []) :
    CallR cx 5 [.d (po H), u32' h, .d x.d] [] fun r S => r = bo true ∧ S = [] := by
  refine callR_of (R := R1) cx_ok Try.func5 (by kernel_rfl) rfl ?_
  conv => whnf
  refine ⟨_, pawake_c, ?_⟩
  rintro _ _ ⟨rfl, rfl⟩
  conv => whnf
  refine ⟨_, fw, ?_⟩
  rintro _ _ ⟨b, rfl, rfl⟩
  cases b with
  | false =>
    conv => whnf
    exact ⟨rfl, rfl⟩
  | true =>
  conv => whnf
  refine ⟨_, lx, ?_⟩
  rintro _ _ ⟨b, rfl, rfl⟩
  cases b with
  | false =>
    conv => whnf
    exact ⟨rfl, rfl⟩
  | true =>
  conv => whnf
  refine ⟨_, tx, ?_⟩
  rintro _ _ ⟨rfl, rfl⟩
  conv => whnf
  refine ⟨_, sn, ?_⟩
  rintro _ _ ⟨rfl, rfl⟩
  conv => whnf
  refine brT (bne_iff_ne.2 he) ?_
  conv => whnf
  refine ⟨by kernel_rfl, ?_⟩
  conv => whnf
  refine ⟨_, to, ?_⟩
  conv => whnf
  refine ⟨_, to, ?_⟩
  conv => whnf
  refine ⟨_, sm, ?_⟩
  conv => whnf
  refine ⟨by kernel_rfl, ?_⟩
  conv => whnf
  exact ⟨rfl, rfl⟩

theorem sideJ {t u : Int} {a b : ByteArray} : ∃ T : Ty, T.fitE cx.tt 55 = true ∧ Nat.blt T.depth 9999 = true ∧ T.is (.agg [.int .u32 t, .str a]) ∧ T.is (.agg [.int .u32 u, .str b]) :=
  ⟨.st [.int .u32, .str], by kernel_rfl, by kernel_rfl, ⟨_, rfl, _, _, rfl, ⟨_, rfl⟩, _, _, rfl, ⟨_, rfl⟩, rfl⟩, ⟨_, rfl, _, _, rfl, ⟨_, rfl⟩, _, _, rfl, ⟨_, rfl⟩, rfl⟩⟩

theorem pbk_yes {H M Q : List D} {h E2 e4 : Int} {B : ByteArray} {x : An} {X X2 : D} {q : Bool} (hM : M.length = H.length + 1)
    (fw : CallR cx 7 [.d (po H)] [] fun r S => ∃ b, r = bo b ∧ S = [])
    (lx : CallR cx 8 [.d x.d] [] fun r S => ∃ b, r = bo b ∧ S = [])
    (tx : CallR cx 10 [.d x.d] [] fun r S => r = .d X ∧ S = [])
    (sn : CallR cx 11 [.d (po H), u32' h, .d X] [] fun r S => r = .tup [.d (po M), i64 0] ∧ S = [])
    (tk : CallR cx 14 [.d (po M), i64 (H.length : Int)] [] fun r S => r = .tup [.d (po H), .d (.agg [.int .u32 h, .str B]), bo true] ∧ S = [])
    (op : CallR cx 25 [.d (.agg [.int .u32 h, .str B])] [] fun r S => r = .tup [.d X2, i64 E2] ∧ S = [])
    (tw : CallR cx 17 [.d (po M), i64 (H.length : Int)] [] fun r S => r = .tup [.d (po Q), i64 e4] ∧ S = [])
    (sm : CallR cx 28 [.d X, .d X2] [] fun r S => r = bo q ∧ S = [])
    (to : CallR cx 9 [.d (po H)] [] fun r S => r = .d (.sl 2 H) ∧ S = [])
    (ls : CallR cx 21 [.d (.sl 2 H), .d (.sl 2 H)] [] fun r S => r = bo true ∧ S = [])
    (hq : x.sig.ix / 4294967296 = 0 → x.u.sig.ix / 4294967296 = 0 → x.v.sig.ix / 4294967296 = 0 → x.stop.sig.ix / 4294967296 = 0 → x.stop.wat / 4294967296 = 0 → E2 = 0 → q = true)
    (hl : H.length ≤ 260)
    (h4 : (e4 = 0 ∧ Q.length = H.length + 2 ∧ Q.getD H.length .nilP = .agg [.int .u32 h, .str B] ∧ Q.getD (H.length + 1) .nilP = .agg [.int .u32 h, .str B]) ∨ (e4 = 6 ∧ 255 ≤ H.length)) :
    CallR cx 5 [.d (po H), u32' h, .d x.d] [] fun r S => r = bo true ∧ S = [] := by
  obtain ⟨kind, A, B', C, org, n, k, ⟨i1, p1, o1, t1⟩, ⟨h2, d2, d3, ⟨i2, p2, o2, t2⟩⟩, ⟨h3, d4, d5, ⟨i3, p3, o3, t3⟩⟩, ⟨h4', d6, w4, ⟨i4, p4, o4, t4⟩⟩, leaf, ix, br, ⟨l1, l2, l3, l4, l5, l6⟩⟩ := x
  simp only at hq
  have hd : deq (D.agg [.int .u32 h, .str B]) (.agg [.int .u32 h, .str B]) = true := (deq_iff (P := True) ⟨fun _ => trivial, fun _ => rfl⟩).trans rfl
  have eA : IntKind.i64.wrap ((H.length : Int) + 1) = ((H.length + 1 : Nat) : Int) := by rw [w64 (by omega)]; omega
  have eM : IntKind.i64.wrap ((M.length : Int) - 1) = (H.length : Int) := by rw [w64 (by omega)]; omega
  refine callR_of (R := R1) cx_ok Try.func5 (by kernel_rfl) rfl ?_
  conv => whnf
  refine ⟨_, pawake_c, ?_⟩
  rintro _ _ ⟨rfl, rfl⟩
  conv => whnf
  refine ⟨_, fw, ?_⟩
  rintro _ _ ⟨b, rfl, rfl⟩
  cases b with
  | false =>
    conv => whnf
    exact ⟨rfl, rfl⟩
  | true =>
  conv => whnf
  refine ⟨_, lx, ?_⟩
  rintro _ _ ⟨b, rfl, rfl⟩
  cases b with
  | false =>
    conv => whnf
    exact ⟨rfl, rfl⟩
  | true =>
  conv => whnf
  refine ⟨_, tx, ?_⟩
  rintro _ _ ⟨rfl, rfl⟩
  conv => whnf
  refine ⟨_, sn, ?_⟩
  rintro _ _ ⟨rfl, rfl⟩
  conv => whnf
  rw [eM]
  refine ⟨_, tk, ?_⟩
  rintro _ _ ⟨rfl, rfl⟩
  conv => whnf
  refine ⟨_, op, ?_⟩
  rintro _ _ ⟨rfl, rfl⟩
  conv => whnf
  refine ⟨_, tw, ?_⟩
  rintro _ _ ⟨rfl, rfl⟩
  conv => whnf
  refine brec (fun g0 => ?_) (fun g0 => ?_)
  have g0 : E2 = 0 := by simpa using g0
  conv => whnf
  refine ⟨by decide, ?_⟩
  conv => whnf
  refine brec (fun g1 => ?_) (fun g1 => ?_)
  have g1 := shr0 g1
  conv => whnf
  refine ⟨by decide, ?_⟩
  conv => whnf
  refine brec (fun g2 => ?_) (fun g2 => ?_)
  have g2 := shr0 g2
  conv => whnf
  refine ⟨by decide, ?_⟩
  conv => whnf
  refine brec (fun g3 => ?_) (fun g3 => ?_)
  have g3 := shr0 g3
  conv => whnf
  refine ⟨by decide, ?_⟩
  conv => whnf
  refine brec (fun g4 => ?_) (fun g4 => ?_)
  have g4 := shr0 g4
  conv => whnf
  refine ⟨by decide, ?_⟩
  conv => whnf
  refine brec (fun g5 => ?_) (fun g5 => ?_)
  have g5 := shr0 g5
  conv => whnf
  have hq := hq g1 g2 g3 g4 g5 g0
  subst hq
  refine ⟨_, sm, ?_⟩
  rintro _ _ ⟨rfl, rfl⟩
  all_goals
    conv => whnf
    refine ⟨by kernel_rfl, ?_⟩
    conv => whnf
    refine brT (beq_self_eq_true _) ?_
    conv => whnf
    refine ⟨_, to, ?_⟩
    conv => whnf
    refine ⟨_, to, ?_⟩
    conv => whnf
    refine ⟨_, ls, ?_⟩
    conv => whnf
    rcases h4 with ⟨h4, hQ, g1, g2⟩ | ⟨h4, hQ⟩
    · subst h4
      conv => whnf
      refine brT (beq_iff_eq.2 (by rw [w64 (by omega)]; omega)) ?_
      conv => whnf
      refine ⟨⟨by omega, by omega⟩, ?_⟩
      rw [Int.toNat_natCast, g1]
      conv => whnf
      rw [eA]
      refine ⟨⟨by omega, by omega⟩, ?_⟩
      rw [Int.toNat_natCast, g2]
      conv => whnf
      refine ⟨sideJ, ?_⟩
      rw [hd]
      conv => whnf
      refine ⟨by kernel_rfl, ?_⟩
      conv => whnf
      exact ⟨rfl, rfl⟩
    · subst h4
      conv => whnf
      refine ⟨by kernel_rfl, ?_⟩
      conv => whnf
      exact ⟨congrArg bo (decide_eq_true (show (H.length : Int) ≥ 255 by omega)), rfl⟩
end Go.Proofs.Ytboohfijacjhjaa
