/- CallBinds: the walk (printed by gen/cbinds.py). -/
import Derived.Test.YtboohfijacjhjaaDoorLB
import Derived.Test.YtboohfijacjhjaaDoorK9w
set_option linter.unusedVariables false
namespace Go.Proofs.YtboohfijacjhjaaDoor
open Go.Ab Go.RowKit

theorem dD_self (x : D) : deq x x = true := by simp [deq]
theorem dD_ne {a b : ByteArray} (h : a ≠ b) : deq (dgD a) (dgD b) = false := by
  have : dgD a ≠ dgD b := fun e => h (dgD_inj.1 e)
  simp [deq, this]

theorem cbi_x {x y : An} {a b : Nat} (lx : CallR cx 20 [.d x.d] [] fun r S => r = bo false ∧ S = []) : CallR cx 10 [.d x.d, .d y.d, u32 (a : Int), u32 (b : Int)] [] fun r S => r = bo true ∧ S = [] := by
  refine callR_of (R := R1) cx_ok Tryd.func10 (by kernel_rfl) rfl ?_
  conv => whnf
  refine ⟨_, cawake_c, ?_⟩
  rintro _ _ ⟨rfl, rfl⟩
  conv => whnf
  refine ⟨_, lx, ?_⟩
  rintro _ _ ⟨rfl, rfl⟩
  conv => whnf
  refine ⟨_, cawake_c, ?_⟩
  rintro _ _ ⟨rfl, rfl⟩
  conv => whnf
  exact ⟨rfl, rfl⟩

theorem cbi_y {x y : An} {a b : Nat} (lx : CallR cx 20 [.d x.d] [] fun r S => ∃ b, r = bo b ∧ S = []) (ly : CallR cx 20 [.d y.d] [] fun r S => r = bo false ∧ S = []) : CallR cx 10 [.d x.d, .d y.d, u32 (a : Int), u32 (b : Int)] [] fun r S => r = bo true ∧ S = [] := by
  refine callR_of (R := R1) cx_ok Tryd.func10 (by kernel_rfl) rfl ?_
  conv => whnf
  refine ⟨_, cawake_c, ?_⟩
  rintro _ _ ⟨rfl, rfl⟩
  conv => whnf
  refine ⟨_, lx, ?_⟩
  rintro _ _ ⟨b1, rfl, rfl⟩
  cases b1 with
  | false =>
    conv => whnf
    refine ⟨_, cawake_c, ?_⟩
    rintro _ _ ⟨rfl, rfl⟩
    conv => whnf
    exact ⟨rfl, rfl⟩
  | true =>
  conv => whnf
  refine ⟨_, ly, ?_⟩
  rintro _ _ ⟨rfl, rfl⟩
  conv => whnf
  refine ⟨_, cawake_c, ?_⟩
  rintro _ _ ⟨rfl, rfl⟩
  conv => whnf
  exact ⟨rfl, rfl⟩

theorem cbi_u {x y : An} {a b : Nat} {X Y : D} {w1 w2 : ByteArray} {k1 k2 : Int} {g1 g2 : Sg} {p1 p2 : Bool} (hp : p1 = false ∨ p2 = false)
    (lx : CallR cx 20 [.d x.d] [] fun r S => ∃ b, r = bo b ∧ S = [])
    (ly : CallR cx 20 [.d y.d] [] fun r S => ∃ b, r = bo b ∧ S = [])
    (tx : CallR cx 21 [.d x.d] [] fun r S => r = .d X ∧ S = [])
    (ty : CallR cx 21 [.d y.d] [] fun r S => r = .d Y ∧ S = [])
    (sX : CallR cx 42 [.d X] [] fun r S => r = .tup [st w1, u64 k1, .d g1.d, bo p1] ∧ S = [])
    (sY : CallR cx 42 [.d Y] [] fun r S => r = .tup [st w2, u64 k2, .d g2.d, bo p2] ∧ S = [])
    : CallR cx 10 [.d x.d, .d y.d, u32 (a : Int), u32 (b : Int)] [] fun r S => r = bo true ∧ S = [] := by
  obtain ⟨gi, u1, u2, u3⟩ := g1
  obtain ⟨hi, v1, v2, v3⟩ := g2
  refine callR_of (R := R1) cx_ok Tryd.func10 (by kernel_rfl) rfl ?_
  conv => whnf
  refine ⟨_, cawake_c, ?_⟩
  rintro _ _ ⟨rfl, rfl⟩
  conv => whnf
  refine ⟨_, lx, ?_⟩
  rintro _ _ ⟨b1, rfl, rfl⟩
  cases b1 with
  | false =>
    conv => whnf
    refine ⟨_, cawake_c, ?_⟩
    rintro _ _ ⟨rfl, rfl⟩
    conv => whnf
    exact ⟨rfl, rfl⟩
  | true =>
  conv => whnf
  refine ⟨_, ly, ?_⟩
  rintro _ _ ⟨b2, rfl, rfl⟩
  cases b2 with
  | false =>
    conv => whnf
    refine ⟨_, cawake_c, ?_⟩
    rintro _ _ ⟨rfl, rfl⟩
    conv => whnf
    exact ⟨rfl, rfl⟩
  | true =>
  conv => whnf
  refine ⟨by kernel_rfl, ?_⟩
  conv => whnf
  refine ⟨_, tx, ?_⟩
  conv => whnf
  refine ⟨_, ty, ?_⟩
  conv => whnf
  refine ⟨by kernel_rfl, ?_⟩
  conv => whnf
  refine ⟨_, sX, ?_⟩
  rintro _ _ ⟨rfl, rfl⟩
  conv => whnf
  refine ⟨_, sY, ?_⟩
  rintro _ _ ⟨rfl, rfl⟩
  rcases hp with rfl | rfl
  · conv => whnf
    refine ⟨_, cawake_c, ?_⟩
    rintro _ _ ⟨rfl, rfl⟩
    conv => whnf
    exact ⟨rfl, rfl⟩
  · cases p1 with
    | false =>
      conv => whnf
      refine ⟨_, cawake_c, ?_⟩
      rintro _ _ ⟨rfl, rfl⟩
      conv => whnf
      exact ⟨rfl, rfl⟩
    | true =>
      conv => whnf
      refine ⟨_, cawake_c, ?_⟩
      rintro _ _ ⟨rfl, rfl⟩
      conv => whnf
      exact ⟨rfl, rfl⟩

theorem cbi_same {x y : An} {a b : Nat} {X Y X0 Y0 : D} {w1 w2 : ByteArray} {k1 k2 : Int} {g1 g2 : Sg} {p1 p2 sb : Bool} {F G : Fd} {Q1 Q2 I1 I2 : ByteArray} (hp1 : p1 = true) (hp2 : p2 = true) (z1 : Q1.size = 32) (z2 : Q2.size = 32) (hab : a = b) (hs : sb = true) (hQ : Q1 = Q2)
    (lx : CallR cx 20 [.d x.d] [] fun r S => ∃ b, r = bo b ∧ S = [])
    (ly : CallR cx 20 [.d y.d] [] fun r S => ∃ b, r = bo b ∧ S = [])
    (tx : CallR cx 21 [.d x.d] [] fun r S => r = .d X ∧ S = [])
    (ty : CallR cx 21 [.d y.d] [] fun r S => r = .d Y ∧ S = [])
    (sX : CallR cx 42 [.d X] [] fun r S => r = .tup [st w1, u64 k1, .d g1.d, bo p1] ∧ S = [])
    (sY : CallR cx 42 [.d Y] [] fun r S => r = .tup [st w2, u64 k2, .d g2.d, bo p2] ∧ S = [])
    (oX : CallR cx 22 [.d X] [] fun r S => r = .d F.d ∧ S = [])
    (oY : CallR cx 22 [.d Y] [] fun r S => r = .d G.d ∧ S = [])
    (dX : CallR cx 45 [.d .nilP, u32 (a : Int), .d X] [] fun r S => r = .d (dgD Q1) ∧ S = [])
    (dY : CallR cx 45 [.d .nilP, u32 (b : Int), .d Y] [] fun r S => r = .d (dgD Q2) ∧ S = [])
    (wX : CallR cx 43 [.d X, .d sg0.d] [] fun r S => r = .d X0 ∧ S = [])
    (wY : CallR cx 43 [.d Y, .d sg0.d] [] fun r S => r = .d Y0 ∧ S = [])
    (sm : CallR cx 23 [.d X0, .d Y0] [] fun r S => r = bo sb ∧ S = [])
    (qX : CallR cx 46 [.d F.d, .ptr 0 [], u32 (a : Int)] (logS [] [] []) fun r S => ∃ J : D, r = .d (dgD (Q1)) ∧ S = [.var (.agg [.row 20, .row 2]), .sealed (.sl 1 []), .mapb [Q1] (.agg [.row 17]), .var (.d J), .var (.d (dgD (Q1))), .var (.d (dgD (Q1))), .var (.d (dgD (Q1))), .var (.d (dgD (Q1))), .dead, .dead, .dead, .dead, .dead, .dead, .dead, .sealed (.sl 1 []), .dead, .row 9 1 [.str (I1)], .dead, .dead, .row 9 1 [.str (I1)]])
    (qY : CallR cx 46 [.d G.d, .ptr 0 [], u32 (b : Int)] (logS1 (I1) (Q1)) fun r S => ∃ J : D, r = .d (dgD (Q1)) ∧ S = logS1 (I1) (Q1))
    : CallR cx 10 [.d x.d, .d y.d, u32 (a : Int), u32 (b : Int)] [] fun r S => r = bo true ∧ S = [] := by
  subst hab hs hQ hp1 hp2
  obtain ⟨gi, u1, u2, u3⟩ := g1
  obtain ⟨hi, v1, v2, v3⟩ := g2
  refine callR_of (R := R1) cx_ok Tryd.func10 (by kernel_rfl) rfl ?_
  conv => whnf
  refine ⟨_, cawake_c, ?_⟩
  rintro _ _ ⟨rfl, rfl⟩
  conv => whnf
  refine ⟨_, lx, ?_⟩
  rintro _ _ ⟨b1, rfl, rfl⟩
  cases b1 with
  | false =>
    conv => whnf
    refine ⟨_, cawake_c, ?_⟩
    rintro _ _ ⟨rfl, rfl⟩
    conv => whnf
    exact ⟨rfl, rfl⟩
  | true =>
  conv => whnf
  refine ⟨_, ly, ?_⟩
  rintro _ _ ⟨b2, rfl, rfl⟩
  cases b2 with
  | false =>
    conv => whnf
    refine ⟨_, cawake_c, ?_⟩
    rintro _ _ ⟨rfl, rfl⟩
    conv => whnf
    exact ⟨rfl, rfl⟩
  | true =>
  conv => whnf
  refine ⟨by kernel_rfl, ?_⟩
  conv => whnf
  refine ⟨_, tx, ?_⟩
  conv => whnf
  refine ⟨_, ty, ?_⟩
  conv => whnf
  refine ⟨by kernel_rfl, ?_⟩
  conv => whnf
  refine ⟨_, sX, ?_⟩
  rintro _ _ ⟨rfl, rfl⟩
  conv => whnf
  refine ⟨_, sY, ?_⟩
  rintro _ _ ⟨rfl, rfl⟩
  conv => whnf
  refine ⟨_, lognew_c, ?_⟩
  rintro _ _ ⟨rfl, rfl⟩
  conv => whnf
  refine ⟨_, oX, ?_⟩
  rintro _ _ ⟨rfl, rfl⟩
  conv => whnf
  refine ⟨_, qX, ?_⟩
  rintro _ _ ⟨J1, rfl, rfl⟩
  conv => whnf
  refine ⟨_, oY, ?_⟩
  rintro _ _ ⟨rfl, rfl⟩
  conv => whnf
  refine ⟨_, qY, ?_⟩
  rintro _ _ ⟨J2, rfl, rfl⟩
  conv => whnf
  refine brT (beq_self_eq_true _) ?_
  conv => whnf
  refine ⟨_, wX, ?_⟩
  rintro _ _ ⟨rfl, rfl⟩
  conv => whnf
  refine ⟨_, wY, ?_⟩
  rintro _ _ ⟨rfl, rfl⟩
  conv => whnf
  refine ⟨_, sm, ?_⟩
  rintro _ _ ⟨rfl, rfl⟩
  conv => whnf
  refine ⟨_, cawake_c, ?_⟩
  rintro _ _ ⟨rfl, rfl⟩
  conv => whnf
  refine ⟨_, dX, ?_⟩
  rintro _ _ ⟨rfl, rfl⟩
  conv => whnf
  refine ⟨_, dY, ?_⟩
  rintro _ _ ⟨rfl, rfl⟩
  conv => whnf
  refine ⟨sideD z1 z1, ?_⟩
  conv => whnf
  exact ⟨congrArg bo (dD_self _), rfl⟩

theorem cbi_apart {x y : An} {a b : Nat} {X Y X0 Y0 : D} {w1 w2 : ByteArray} {k1 k2 : Int} {g1 g2 : Sg} {p1 p2 sb : Bool} {F G : Fd} {Q1 Q2 I1 I2 : ByteArray} (hp1 : p1 = true) (hp2 : p2 = true) (z1 : Q1.size = 32) (z2 : Q2.size = 32) (hs : a = b → sb = false) (hQ : Q1 ≠ Q2)
    (lx : CallR cx 20 [.d x.d] [] fun r S => ∃ b, r = bo b ∧ S = [])
    (ly : CallR cx 20 [.d y.d] [] fun r S => ∃ b, r = bo b ∧ S = [])
    (tx : CallR cx 21 [.d x.d] [] fun r S => r = .d X ∧ S = [])
    (ty : CallR cx 21 [.d y.d] [] fun r S => r = .d Y ∧ S = [])
    (sX : CallR cx 42 [.d X] [] fun r S => r = .tup [st w1, u64 k1, .d g1.d, bo p1] ∧ S = [])
    (sY : CallR cx 42 [.d Y] [] fun r S => r = .tup [st w2, u64 k2, .d g2.d, bo p2] ∧ S = [])
    (oX : CallR cx 22 [.d X] [] fun r S => r = .d F.d ∧ S = [])
    (oY : CallR cx 22 [.d Y] [] fun r S => r = .d G.d ∧ S = [])
    (dX : CallR cx 45 [.d .nilP, u32 (a : Int), .d X] [] fun r S => r = .d (dgD Q1) ∧ S = [])
    (dY : CallR cx 45 [.d .nilP, u32 (b : Int), .d Y] [] fun r S => r = .d (dgD Q2) ∧ S = [])
    (wX : CallR cx 43 [.d X, .d sg0.d] [] fun r S => r = .d X0 ∧ S = [])
    (wY : CallR cx 43 [.d Y, .d sg0.d] [] fun r S => r = .d Y0 ∧ S = [])
    (sm : CallR cx 23 [.d X0, .d Y0] [] fun r S => r = bo sb ∧ S = [])
    (qX : CallR cx 46 [.d F.d, .ptr 0 [], u32 (a : Int)] (logS [] [] []) fun r S => ∃ J : D, r = .d (dgD (Q1)) ∧ S = [.var (.agg [.row 20, .row 2]), .sealed (.sl 1 []), .mapb [Q1] (.agg [.row 17]), .var (.d J), .var (.d (dgD (Q1))), .var (.d (dgD (Q1))), .var (.d (dgD (Q1))), .var (.d (dgD (Q1))), .dead, .dead, .dead, .dead, .dead, .dead, .dead, .sealed (.sl 1 []), .dead, .row 9 1 [.str (I1)], .dead, .dead, .row 9 1 [.str (I1)]])
    (qY : CallR cx 46 [.d G.d, .ptr 0 [], u32 (b : Int)] (logS1 I1 Q1) fun r S => ∃ J : D, r = .d (dgD (Q2)) ∧ S = [.var (.agg [.row 21, .row 2]), .sealed (.sl 1 [.str I1]), .mapb [Q1, Q2] (.agg [.row 3, .row 18]), .row 9 1 [.str I1], .var (.d J), .var (.d (dgD (Q2))), .var (.d (dgD (Q2))), .var (.d (dgD (Q2))), .var (.d (dgD (Q2))), .dead, .dead, .dead, .dead, .dead, .dead, .dead, .sealed (.sl 1 []), .dead, .row 9 1 [.str (I2)], .dead, .dead, .row 9 1 [.str I1, .str (I2)]])
    : CallR cx 10 [.d x.d, .d y.d, u32 (a : Int), u32 (b : Int)] [] fun r S => r = bo true ∧ S = [] := by
  subst hp1 hp2
  obtain ⟨gi, u1, u2, u3⟩ := g1
  obtain ⟨hi, v1, v2, v3⟩ := g2
  refine callR_of (R := R1) cx_ok Tryd.func10 (by kernel_rfl) rfl ?_
  conv => whnf
  refine ⟨_, cawake_c, ?_⟩
  rintro _ _ ⟨rfl, rfl⟩
  conv => whnf
  refine ⟨_, lx, ?_⟩
  rintro _ _ ⟨b1, rfl, rfl⟩
  cases b1 with
  | false =>
    conv => whnf
    refine ⟨_, cawake_c, ?_⟩
    rintro _ _ ⟨rfl, rfl⟩
    conv => whnf
    exact ⟨rfl, rfl⟩
  | true =>
  conv => whnf
  refine ⟨_, ly, ?_⟩
  rintro _ _ ⟨b2, rfl, rfl⟩
  cases b2 with
  | false =>
    conv => whnf
    refine ⟨_, cawake_c, ?_⟩
    rintro _ _ ⟨rfl, rfl⟩
    conv => whnf
    exact ⟨rfl, rfl⟩
  | true =>
  conv => whnf
  refine ⟨by kernel_rfl, ?_⟩
  conv => whnf
  refine ⟨_, tx, ?_⟩
  conv => whnf
  refine ⟨_, ty, ?_⟩
  conv => whnf
  refine ⟨by kernel_rfl, ?_⟩
  conv => whnf
  refine ⟨_, sX, ?_⟩
  rintro _ _ ⟨rfl, rfl⟩
  conv => whnf
  refine ⟨_, sY, ?_⟩
  rintro _ _ ⟨rfl, rfl⟩
  conv => whnf
  refine ⟨_, lognew_c, ?_⟩
  rintro _ _ ⟨rfl, rfl⟩
  conv => whnf
  refine ⟨_, oX, ?_⟩
  rintro _ _ ⟨rfl, rfl⟩
  conv => whnf
  refine ⟨_, qX, ?_⟩
  rintro _ _ ⟨J1, rfl, rfl⟩
  conv => whnf
  refine ⟨_, oY, ?_⟩
  rintro _ _ ⟨rfl, rfl⟩
  conv => whnf
  refine ⟨_, qY, ?_⟩
  rintro _ _ ⟨J2, rfl, rfl⟩
  conv => whnf
  by_cases hab : a = b
  · have hs' := hs hab
    subst hab hs'
    refine brT (beq_self_eq_true _) ?_
    conv => whnf
    refine ⟨_, wX, ?_⟩
    rintro _ _ ⟨rfl, rfl⟩
    conv => whnf
    refine ⟨_, wY, ?_⟩
    rintro _ _ ⟨rfl, rfl⟩
    conv => whnf
    refine ⟨_, sm, ?_⟩
    rintro _ _ ⟨rfl, rfl⟩
    conv => whnf
    refine ⟨_, cawake_c, ?_⟩
    rintro _ _ ⟨rfl, rfl⟩
    conv => whnf
    refine ⟨_, dX, ?_⟩
    rintro _ _ ⟨rfl, rfl⟩
    conv => whnf
    refine ⟨_, dY, ?_⟩
    rintro _ _ ⟨rfl, rfl⟩
    conv => whnf
    refine ⟨sideD z1 z2, ?_⟩
    conv => whnf
    refine brT (by rw [dD_ne hQ]; rfl) ?_
    conv => whnf
    exact ⟨rfl, rfl⟩
  · refine brF (beq_eq_false_iff_ne.2 (by omega)) ?_
    conv => whnf
    refine ⟨_, cawake_c, ?_⟩
    rintro _ _ ⟨rfl, rfl⟩
    conv => whnf
    refine ⟨_, dX, ?_⟩
    rintro _ _ ⟨rfl, rfl⟩
    conv => whnf
    refine ⟨_, dY, ?_⟩
    rintro _ _ ⟨rfl, rfl⟩
    conv => whnf
    refine ⟨sideD z1 z2, ?_⟩
    conv => whnf
    refine brT (by rw [dD_ne hQ]; rfl) ?_
    conv => whnf
    exact ⟨rfl, rfl⟩

theorem cbi_clash {x y : An} {a b : Nat} {X Y X0 Y0 : D} {w1 w2 : ByteArray} {k1 k2 : Int} {g1 g2 : Sg} {p1 p2 sb : Bool} {F G : Fd} {Q1 Q2 I1 I2 : ByteArray} (hp1 : p1 = true) (hp2 : p2 = true) (z1 : Q1.size = 32) (z2 : Q2.size = 32) (hs : a = b → sb = false) (hQ : Q1 = Q2)
    (lx : CallR cx 20 [.d x.d] [] fun r S => ∃ b, r = bo b ∧ S = [])
    (ly : CallR cx 20 [.d y.d] [] fun r S => ∃ b, r = bo b ∧ S = [])
    (tx : CallR cx 21 [.d x.d] [] fun r S => r = .d X ∧ S = [])
    (ty : CallR cx 21 [.d y.d] [] fun r S => r = .d Y ∧ S = [])
    (sX : CallR cx 42 [.d X] [] fun r S => r = .tup [st w1, u64 k1, .d g1.d, bo p1] ∧ S = [])
    (sY : CallR cx 42 [.d Y] [] fun r S => r = .tup [st w2, u64 k2, .d g2.d, bo p2] ∧ S = [])
    (oX : CallR cx 22 [.d X] [] fun r S => r = .d F.d ∧ S = [])
    (oY : CallR cx 22 [.d Y] [] fun r S => r = .d G.d ∧ S = [])
    (dX : CallR cx 45 [.d .nilP, u32 (a : Int), .d X] [] fun r S => r = .d (dgD Q1) ∧ S = [])
    (dY : CallR cx 45 [.d .nilP, u32 (b : Int), .d Y] [] fun r S => r = .d (dgD Q2) ∧ S = [])
    (wX : CallR cx 43 [.d X, .d sg0.d] [] fun r S => r = .d X0 ∧ S = [])
    (wY : CallR cx 43 [.d Y, .d sg0.d] [] fun r S => r = .d Y0 ∧ S = [])
    (sm : CallR cx 23 [.d X0, .d Y0] [] fun r S => r = bo sb ∧ S = [])
    (qX : CallR cx 46 [.d F.d, .ptr 0 [], u32 (a : Int)] (logS [] [] []) fun r S => ∃ J : D, r = .d (dgD (Q1)) ∧ S = [.var (.agg [.row 20, .row 2]), .sealed (.sl 1 []), .mapb [Q1] (.agg [.row 17]), .var (.d J), .var (.d (dgD (Q1))), .var (.d (dgD (Q1))), .var (.d (dgD (Q1))), .var (.d (dgD (Q1))), .dead, .dead, .dead, .dead, .dead, .dead, .dead, .sealed (.sl 1 []), .dead, .row 9 1 [.str (I1)], .dead, .dead, .row 9 1 [.str (I1)]])
    (qY : CallR cx 46 [.d G.d, .ptr 0 [], u32 (b : Int)] (logS1 I1 (Q2)) fun r S => ∃ J : D, r = .d (dgD (Q2)) ∧ S = [.var (.agg [.row 21, .row 2]), .sealed (.sl 1 [.str I1]), .mapb [Q2] (.agg [.row 18]), .sealed (.sl 1 [.str I1]), .var (.d J), .var (.d (dgD (Q2))), .var (.d (dgD (Q2))), .var (.d (dgD (Q2))), .var (.d (dgD (Q2))), .dead, .dead, .dead, .dead, .dead, .dead, .dead, .dead, .dead, .row 9 1 [.str I1, .str (I2)], .dead, .dead, .row 9 1 [.str I1, .str (I2)]])
    : CallR cx 10 [.d x.d, .d y.d, u32 (a : Int), u32 (b : Int)] [] fun r S => r = bo true ∧ S = [] := by
  subst hp1 hp2
  subst hQ
  obtain ⟨gi, u1, u2, u3⟩ := g1
  obtain ⟨hi, v1, v2, v3⟩ := g2
  refine callR_of (R := R1) cx_ok Tryd.func10 (by kernel_rfl) rfl ?_
  conv => whnf
  refine ⟨_, cawake_c, ?_⟩
  rintro _ _ ⟨rfl, rfl⟩
  conv => whnf
  refine ⟨_, lx, ?_⟩
  rintro _ _ ⟨b1, rfl, rfl⟩
  cases b1 with
  | false =>
    conv => whnf
    refine ⟨_, cawake_c, ?_⟩
    rintro _ _ ⟨rfl, rfl⟩
    conv => whnf
    exact ⟨rfl, rfl⟩
  | true =>
  conv => whnf
  refine ⟨_, ly, ?_⟩
  rintro _ _ ⟨b2, rfl, rfl⟩
  cases b2 with
  | false =>
    conv => whnf
    refine ⟨_, cawake_c, ?_⟩
    rintro _ _ ⟨rfl, rfl⟩
    conv => whnf
    exact ⟨rfl, rfl⟩
  | true =>
  conv => whnf
  refine ⟨by kernel_rfl, ?_⟩
  conv => whnf
  refine ⟨_, tx, ?_⟩
  conv => whnf
  refine ⟨_, ty, ?_⟩
  conv => whnf
  refine ⟨by kernel_rfl, ?_⟩
  conv => whnf
  refine ⟨_, sX, ?_⟩
  rintro _ _ ⟨rfl, rfl⟩
  conv => whnf
  refine ⟨_, sY, ?_⟩
  rintro _ _ ⟨rfl, rfl⟩
  conv => whnf
  refine ⟨_, lognew_c, ?_⟩
  rintro _ _ ⟨rfl, rfl⟩
  conv => whnf
  refine ⟨_, oX, ?_⟩
  rintro _ _ ⟨rfl, rfl⟩
  conv => whnf
  refine ⟨_, qX, ?_⟩
  rintro _ _ ⟨J1, rfl, rfl⟩
  conv => whnf
  refine ⟨_, oY, ?_⟩
  rintro _ _ ⟨rfl, rfl⟩
  conv => whnf
  refine ⟨_, qY, ?_⟩
  rintro _ _ ⟨J2, rfl, rfl⟩
  conv => whnf
  by_cases hab : a = b
  · have hs' := hs hab
    subst hab hs'
    refine brT (beq_self_eq_true _) ?_
    conv => whnf
    refine ⟨_, wX, ?_⟩
    rintro _ _ ⟨rfl, rfl⟩
    conv => whnf
    refine ⟨_, wY, ?_⟩
    rintro _ _ ⟨rfl, rfl⟩
    conv => whnf
    refine ⟨_, sm, ?_⟩
    rintro _ _ ⟨rfl, rfl⟩
    conv => whnf
    refine ⟨_, cawake_c, ?_⟩
    rintro _ _ ⟨rfl, rfl⟩
    conv => whnf
    refine ⟨_, dX, ?_⟩
    rintro _ _ ⟨rfl, rfl⟩
    conv => whnf
    refine ⟨_, dY, ?_⟩
    rintro _ _ ⟨rfl, rfl⟩
    conv => whnf
    refine ⟨sideD z1 z1, ?_⟩
    conv => whnf
    refine brF (by rw [dD_self]; rfl) ?_
    conv => whnf
    refine ⟨_, logclash1_c, ?_⟩
    rintro _ _ ⟨rfl, rfl⟩
    conv => whnf
    exact ⟨rfl, rfl⟩
  · refine brF (beq_eq_false_iff_ne.2 (by omega)) ?_
    conv => whnf
    refine ⟨_, cawake_c, ?_⟩
    rintro _ _ ⟨rfl, rfl⟩
    conv => whnf
    refine ⟨_, dX, ?_⟩
    rintro _ _ ⟨rfl, rfl⟩
    conv => whnf
    refine ⟨_, dY, ?_⟩
    rintro _ _ ⟨rfl, rfl⟩
    conv => whnf
    refine ⟨sideD z1 z1, ?_⟩
    conv => whnf
    refine brF (by rw [dD_self]; rfl) ?_
    conv => whnf
    refine ⟨_, logclash1_c, ?_⟩
    rintro _ _ ⟨rfl, rfl⟩
    conv => whnf
    exact ⟨rfl, rfl⟩
end Go.Proofs.YtboohfijacjhjaaDoor
