/- What 'Div64' computes: the walk. -/
import Derived.Test.YtmmgdbcppmabaaaDiv3
namespace Go.Proofs.Ytmmgdbcppmabaaa
open Go.Ab

theorem qr_start {u yh : Int} (h0 : 2147483648 ≤ yh) (h1 : yh < 4294967296) (u0 : 0 ≤ u) (u1 : u < 18446744073709551616) :
    IntKind.u64.wrap (u.tdiv yh) = u / yh ∧ IntKind.u64.wrap (u - IntKind.u64.wrap (IntKind.u64.wrap (u.tdiv yh) * yh)) = u % yh := by
  have e := Int.mul_ediv_add_emod u yh
  rw [Int.mul_comm] at e
  have r0 := Int.emod_nonneg u (b := yh) (by omega)
  have r1 := Int.emod_lt_of_pos u (b := yh) (by omega)
  have q0 : 0 ≤ u / yh := Int.ediv_nonneg u0 (by omega)
  have q1 : u / yh ≤ u := Int.ediv_le_self _ u0
  have a : IntKind.u64.wrap (u.tdiv yh) = u / yh := by
    rw [Int.tdiv_eq_ediv_of_nonneg u0]; exact wrapU ⟨q0, by omega⟩
  rw [a]
  refine ⟨rfl, ?_⟩
  rw [wrapU (n := u / yh * yh) ⟨Int.mul_nonneg q0 (by omega), by omega⟩, wrapU ⟨by omega, by omega⟩]
  omega

theorem div_close {u w Y s y N : Nat} {yh yl w1 w0 q1 x1 q2 x2 : Int} (eY : yh * 4294967296 + yl = Y) (ew : w1 * 4294967296 + w0 = w)
    (F0 : 0 ≤ q1) (F1 : (u : Int) * 4294967296 + w1 = q1 * (yh * 4294967296 + yl) + x1) (F4 : q1 < 4294967296)
    (G0 : 0 ≤ q2) (G1 : x1 * 4294967296 + w0 = q2 * (yh * 4294967296 + yl) + x2) (G2 : 0 ≤ x2) (G3 : x2 < yh * 4294967296 + yl) (G4 : q2 < 4294967296)
    (dend : ∀ (q1 q0 r : Nat), u * 18446744073709551616 + w = (q1 * 4294967296 + q0) * Y + r → r < Y → q1 * 4294967296 + q0 = N / y ∧ r / 2 ^ s = N % y)
    (shs : ∀ (a : Nat), (a : Int).fdiv (2 ^ min (IntKind.u64.wrap (s : Int)).toNat IntKind.u64.bits) = ((a / 2 ^ s : Nat) : Int)) (hY : Y < 18446744073709551616 := by omega) {T : List Blk} :
    AV.tup [u64 (IntKind.u64.wrap (IntKind.u64.wrap (q1 * 4294967296) + q2)), u64 ((IntKind.u64.wrap (IntKind.u64.wrap (IntKind.u64.wrap (x1 * 4294967296) + w0) - IntKind.u64.wrap (q2 * Y))).fdiv (2 ^ min (IntKind.u64.wrap (s : Int)).toNat IntKind.u64.bits))] =
      .tup [u64 ((N / y : Nat) : Int), u64 ((N % y : Nat) : Int)] ∧ T = T := by
  rw [eY] at F1 G1 G3
  obtain ⟨a, rfl⟩ := Int.eq_ofNat_of_zero_le F0
  obtain ⟨b, rfl⟩ := Int.eq_ofNat_of_zero_le G0
  obtain ⟨c, rfl⟩ := Int.eq_ofNat_of_zero_le G2
  have e : u * 18446744073709551616 + w = (a * 4294967296 + b) * Y + c := by
    rw [Nat.add_mul, Nat.mul_right_comm]
    have m1 : ((a * Y : Nat) : Int) = (a : Int) * Y := Int.natCast_mul a Y
    have m2 : ((b * Y : Nat) : Int) = (b : Int) * Y := Int.natCast_mul b Y
    rw [← m1] at F1
    rw [← m2] at G1
    omega
  obtain ⟨E1, E2⟩ := dend a b c e (by omega)
  have e5 : IntKind.u64.wrap (IntKind.u64.wrap ((a : Int) * 4294967296) + b) = ((N / y : Nat) : Int) := by
    rw [← E1]; simp only [wrap64]; omega
  have e6 : IntKind.u64.wrap (IntKind.u64.wrap (IntKind.u64.wrap (x1 * 4294967296) + w0) - IntKind.u64.wrap ((b : Int) * Y)) = (c : Int) := by
    rw [wrap_rest]; omega
  rw [e5, e6, shs c, E2]
  exact ⟨rfl, rfl⟩

set_option maxHeartbeats 4000000 in
theorem div_c {hi lo y : Nat} (h0 : 0 < hi) (hh : hi < y) (hy : y < 18446744073709551616) (hl : lo < 18446744073709551616) :
    CallR cx 24 [u64 hi, u64 lo, u64 y] [] fun r S => r = .tup [u64 (((hi * 18446744073709551616 + lo) / y : Nat) : Int), u64 (((hi * 18446744073709551616 + lo) % y : Nat) : Int)] ∧ S = [] := by
  obtain ⟨s, hs⟩ : ∃ s, s = 64 - bl y := ⟨_, rfl⟩
  obtain ⟨s64, Y1, Y2, L1, U1, N1⟩ := div_norm (by omega) hh hy hl hs
  have lead := lead_c hy
  rw [← hs] at lead
  have XO := or_sum (a := hi) L1
  have w64 : lo * 2 ^ s % 18446744073709551616 < 18446744073709551616 := Nat.mod_lt _ (by decide)
  have lv := Nat.div_le_self lo (2 ^ (64 - s))
  have rh := shl_n (a := hi) s64
  have rl := shr_m (a := lo) s64
  generalize hi * 2 ^ s = x at *
  generalize lo / 2 ^ (64 - s) = v at *
  have r2 := shl_n (a := y) s64
  rw [Nat.mod_eq_of_lt Y2] at r2
  rw [Nat.mod_eq_of_lt (by omega)] at rh
  have rw' := shl_n (a := lo) s64
  have dend := fun q1 q0 r => div_end (N := hi * 18446744073709551616 + lo) (y := y) (s := s) (q1 := q1) (q0 := q0) (r := r) (by omega)
  rw [← N1] at dend
  have ro : ∀ a b : Int, a = (x : Nat) → b = (v : Nat) → IntKind.u64.wrap ((BitVec.ofInt IntKind.u64.bits a ||| BitVec.ofInt IntKind.u64.bits b).toNat : Int) = ((x + v : Nat) : Int) := by
    rintro _ _ rfl rfl
    rw [or_n (by omega) (by omega), XO]
  have ro := ro _ _ rh rl
  have shs := fun a => shr_n (a := a) s64
  generalize y * 2 ^ s = Y at *
  generalize lo * 2 ^ s % 18446744073709551616 = w at *
  generalize x + v = u at *
  have r9 : ∀ a : Int, a = (Y : Nat) → _ := fun a e => (congrArg (fun z : Int => z.fdiv (2 ^ min (32 : Int).toNat IntKind.u64.bits)) e).trans (shr32 Y)
  have r10 : ∀ a : Int, a = (Y : Nat) → _ := fun a e => (congrArg (fun z : Int => IntKind.u64.wrap ((BitVec.ofInt IntKind.u64.bits z &&& BitVec.ofInt IntKind.u64.bits 4294967295).toNat : Int)) e).trans (andMask Y Y2)
  have r13 : ∀ a : Int, a = (w : Nat) → _ := fun a e => (congrArg (fun z : Int => z.fdiv (2 ^ min (32 : Int).toNat IntKind.u64.bits)) e).trans (shr32 w)
  have r14 : ∀ a : Int, a = (w : Nat) → _ := fun a e => (congrArg (fun z : Int => IntKind.u64.wrap ((BitVec.ofInt IntKind.u64.bits z &&& BitVec.ofInt IntKind.u64.bits 4294967295).toNat : Int)) e).trans (andMask w w64)
  have r9 := r9 _ r2
  have r10 := r10 _ r2
  have r13 := r13 _ rw'
  have r14 := r14 _ rw'
  have key : ∀ a b : Int, a = (u : Nat) → b = ((Y / 4294967296 : Nat) : Int) → IntKind.u64.wrap (a.tdiv b) = (u : Int) / ((Y / 4294967296 : Nat) : Int) ∧ IntKind.u64.wrap (a - IntKind.u64.wrap (IntKind.u64.wrap (a.tdiv b) * b)) = (u : Int) % ((Y / 4294967296 : Nat) : Int) := by
    rintro _ _ rfl rfl
    exact qr_start (by omega) (by omega) (by omega) (by omega)
  obtain ⟨q15, q16⟩ := key _ _ ro r9
  have hd1 : Kd ((Y / 4294967296 : Nat) : Int) ((Y % 4294967296 : Nat) : Int) u ((w / 4294967296 : Nat) : Int) := ⟨by omega, by omega, by omega, by omega, by omega, by omega, by omega, by omega⟩
  have eY : ((Y / 4294967296 : Nat) : Int) * 4294967296 + ((Y % 4294967296 : Nat) : Int) = Y := by omega
  have ew : ((w / 4294967296 : Nat) : Int) * 4294967296 + ((w % 4294967296 : Nat) : Int) = w := by omega
  have d0b : 0 ≤ ((w % 4294967296 : Nat) : Int) ∧ ((w % 4294967296 : Nat) : Int) < 4294967296 := by omega
  have yh0 : ((Y / 4294967296 : Nat) : Int) ≠ 0 := by omega
  have yh0' : ∀ a : Int, a = ((Y / 4294967296 : Nat) : Int) → a ≠ 0 := fun a e => by rw [e]; exact yh0
  have yh0' := yh0' _ r9
  refine callR_of (R := R1) cx_ok Try.func24 (by kernel_rfl) rfl ?_
  conv => whnf
  refine brec (fun h => absurd (eq_of_beq h) (by omega)) (fun _ => ?_)
  conv => whnf
  refine brec (fun h => absurd (of_decide_eq_true h) (by omega)) (fun _ => ?_)
  conv => whnf
  refine brec (fun h => absurd (eq_of_beq h) (by omega)) (fun _ => ?_)
  conv => whnf
  refine ⟨_, lead, ?_⟩
  rintro _ _ ⟨rfl, rfl⟩
  conv => whnf
  iterate 6 (refine ⟨by first | decide | exact wrap_nonneg _, ?_⟩; conv => whnf)
  refine ⟨yh0', ?_⟩
  conv => whnf
  generalize hyh : ((Y / 4294967296 : Nat) : Int) = yh at *
  generalize hyl : ((Y % 4294967296 : Nat) : Int) = yl at *
  generalize hw1 : ((w / 4294967296 : Nat) : Int) = w1 at *
  generalize hw0 : ((w % 4294967296 : Nat) : Int) = w0 at *
  refine ⟨fun n l S => ∃ q r, Kn yh yl u w1 q r ∧ r < 4294967296 ∧ n = q.toNat ∧ l = [(2, u64 Y), (8, u64 (IntKind.u64.wrap (s : Int))), (9, u64 yh), (10, u64 yl), (11, u64 u), (13, u64 w1), (14, u64 w0), (15, u64 q), (16, u64 r)] ∧ S = [],
    ⟨_, _, ⟨_, _, hd1.start.1, hd1.start.2, rfl, rfl, rfl⟩, ⟨congrArg (fun z => some (u64 z)) r2, rfl, congrArg (fun z => some (u64 z)) r9, congrArg (fun z => some (u64 z)) r10, congrArg (fun z => some (u64 z)) ro, congrArg (fun z => some (u64 z)) r13, congrArg (fun z => some (u64 z)) r14, congrArg (fun z => some (u64 z)) q15, congrArg (fun z => some (u64 z)) q16, trivial⟩⟩, ?_⟩
  rintro _ _ _ ⟨q, r, k, hr, rfl, rfl, rfl⟩
  conv => whnf
  refine brec (fun h => ?_) (fun h => ?_)
  rotate_left
  conv => whnf
  have hq := of_decide_eq_false h
  have P := k.prod hd1 (by omega)
  have e3 : IntKind.u64.wrap (q * yl) = q * yl := wrapU P
  have e4 : IntKind.u64.wrap (IntKind.u64.wrap (4294967296 * r) + w1) = 4294967296 * r + w1 := by
    have := k.r0; have := hd1.d0; have := hd1.d1
    simp only [wrap64]; omega
  refine brec (fun h2 => ?_) (fun h2 => ?_)
  have h2 := of_decide_eq_true h2
  rw [e3, e4] at h2
  obtain ⟨g1, g2⟩ := k.great hd1 (.inr h2)
  clear h h2 hq P e3 e4
  rotate_left
  have h2 := of_decide_eq_false h2
  rw [e3, e4] at h2
  obtain ⟨F1, F2, F3⟩ := k.right hd1 (by omega)
  have F0 := k.q0
  generalize 4294967296 * r + w1 - q * yl = x1 at F1 F2 F3
  clear h h2 hq P e3 e4 k hr
  obtain ⟨q1, rfl⟩ : ∃ z, z = q := ⟨_, rfl⟩
  conv => whnf
  rotate_left
  obtain ⟨g1, g2⟩ := k.great hd1 (.inl (of_decide_eq_true h))
  clear h
  conv => whnf
  have k' := k.next hd1 g1 g2 hd1.h0
  have e1 : IntKind.u64.wrap (q - 1) = q - 1 := wrapU ⟨by omega, by have := k.qb; omega⟩
  have e2 : IntKind.u64.wrap (r + yh) = r + yh := wrapU ⟨by have := k.r0; have := hd1.h0; omega, by have := hd1.h1; omega⟩
  refine brec (fun c => ?_) (fun c => ?_)
  rotate_left
  have c := of_decide_eq_false c
  rw [e2] at c
  exact ⟨_, _, 0, (by omega : (q - 1).toNat < q.toNat), ⟨q - 1, r + yh, k', by omega, rfl, rfl, rfl⟩, ⟨rfl, rfl, rfl, rfl, rfl, rfl, rfl, congrArg (fun z => some (u64 z)) e1, congrArg (fun z => some (u64 z)) e2, trivial⟩, rfl⟩
  rotate_right
  have c := of_decide_eq_true c
  rw [e2] at c
  obtain ⟨F1, F2, F3⟩ := k'.right hd1 (k'.broken hd1 (by have := k.qb; omega) c)
  have F0 := k'.q0
  conv => whnf
  rw [e1]
  generalize 4294967296 * (r + yh) + w1 - (q - 1) * yl = x1 at F1 F2 F3
  clear c e2 e1 k' g1 g2 k hr
  generalize q - 1 = q1 at *
  rotate_left
  conv => whnf
  have k' := k.next hd1 g1 g2 hd1.h0
  have e1 : IntKind.u64.wrap (q - 1) = q - 1 := wrapU ⟨by omega, by have := k.qb; omega⟩
  have e2 : IntKind.u64.wrap (r + yh) = r + yh := wrapU ⟨by have := k.r0; have := hd1.h0; omega, by have := hd1.h1; omega⟩
  refine brec (fun c => ?_) (fun c => ?_)
  rotate_left
  have c := of_decide_eq_false c
  rw [e2] at c
  exact ⟨_, _, 0, (by omega : (q - 1).toNat < q.toNat), ⟨q - 1, r + yh, k', by omega, rfl, rfl, rfl⟩, ⟨rfl, rfl, rfl, rfl, rfl, rfl, rfl, congrArg (fun z => some (u64 z)) e1, congrArg (fun z => some (u64 z)) e2, trivial⟩, rfl⟩
  rotate_right
  have c := of_decide_eq_true c
  rw [e2] at c
  obtain ⟨F1, F2, F3⟩ := k'.right hd1 (k'.broken hd1 (by have := k.qb; omega) c)
  have F0 := k'.q0
  conv => whnf
  rw [e1]
  generalize 4294967296 * (r + yh) + w1 - (q - 1) * yl = x1 at F1 F2 F3
  clear c e2 e1 k' g1 g2 k hr
  generalize q - 1 = q1 at *
  all_goals
    refine ⟨yh0, ?_⟩
    conv => whnf
    have F4 := Kn.small hd1 F1 F2
    have eYq : q1 * (yh * 4294967296 + yl) = q1 * Y := by rw [eY]
    have r17 : IntKind.u64.wrap (IntKind.u64.wrap (IntKind.u64.wrap ((u : Int) * 4294967296) + w1) - IntKind.u64.wrap (q1 * Y)) = x1 := by rw [wrap_rest]; omega
    have key2 : ∀ a : Int, a = x1 → IntKind.u64.wrap (a.tdiv yh) = x1 / yh ∧ IntKind.u64.wrap (a - IntKind.u64.wrap (IntKind.u64.wrap (a.tdiv yh) * yh)) = x1 % yh := by
      rintro _ rfl
      exact qr_start hd1.h0 hd1.h1 (by omega) (by omega)
    obtain ⟨q18, q19⟩ := key2 _ r17
    have hd2 : Kd yh yl x1 w0 := ⟨hd1.h0, hd1.h1, hd1.l0, hd1.l1, F2, F3, d0b.1, d0b.2⟩
    refine ⟨fun n l S => ∃ q r, Kn yh yl x1 w0 q r ∧ r < 4294967296 ∧ n = q.toNat ∧ l = [(2, u64 Y), (8, u64 (IntKind.u64.wrap (s : Int))), (9, u64 yh), (10, u64 yl), (14, u64 w0), (15, u64 q1), (17, u64 x1), (18, u64 q), (16, u64 r)] ∧ S = [],
      ⟨_, _, ⟨_, _, hd2.start.1, hd2.start.2, rfl, rfl, rfl⟩, ⟨rfl, rfl, rfl, rfl, rfl, rfl, congrArg (fun z => some (u64 z)) r17, congrArg (fun z => some (u64 z)) q18, congrArg (fun z => some (u64 z)) q19, trivial⟩⟩, ?_⟩
    rintro _ _ _ ⟨q, r, k, hr, rfl, rfl, rfl⟩
    conv => whnf
    refine brec (fun h => ?_) (fun h => ?_)
    rotate_left
    conv => whnf
    have hq := of_decide_eq_false h
    have P := k.prod hd2 (by omega)
    have e3 : IntKind.u64.wrap (q * yl) = q * yl := wrapU P
    have e4 : IntKind.u64.wrap (IntKind.u64.wrap (4294967296 * r) + w0) = 4294967296 * r + w0 := by
      have := k.r0; have := hd2.d0; have := hd2.d1
      simp only [wrap64]; omega
    refine brec (fun h2 => ?_) (fun h2 => ?_)
    have h2 := of_decide_eq_true h2
    rw [e3, e4] at h2
    obtain ⟨g1, g2⟩ := k.great hd2 (.inr h2)
    clear h h2 hq P e3 e4
    rotate_left
    have h2 := of_decide_eq_false h2
    rw [e3, e4] at h2
    obtain ⟨G1, G2, G3⟩ := k.right hd2 (by omega)
    have G0 := k.q0
    generalize 4294967296 * r + w0 - q * yl = x2 at G1 G2 G3
    clear h h2 hq P e3 e4 k hr
    obtain ⟨q2, rfl⟩ : ∃ z, z = q := ⟨_, rfl⟩
    conv => whnf
    rotate_left
    obtain ⟨g1, g2⟩ := k.great hd2 (.inl (of_decide_eq_true h))
    clear h
    conv => whnf
    have k' := k.next hd2 g1 g2 hd1.h0
    have e1 : IntKind.u64.wrap (q - 1) = q - 1 := wrapU ⟨by omega, by have := k.qb; omega⟩
    have e2 : IntKind.u64.wrap (r + yh) = r + yh := wrapU ⟨by have := k.r0; have := hd1.h0; omega, by have := hd1.h1; omega⟩
    refine brec (fun c => ?_) (fun c => ?_)
    rotate_left
    have c := of_decide_eq_false c
    rw [e2] at c
    exact ⟨_, _, 0, (by omega : (q - 1).toNat < q.toNat), ⟨q - 1, r + yh, k', by omega, rfl, rfl, rfl⟩, ⟨rfl, rfl, rfl, rfl, rfl, rfl, rfl, congrArg (fun z => some (u64 z)) e1, congrArg (fun z => some (u64 z)) e2, trivial⟩, rfl⟩
    rotate_right
    have c := of_decide_eq_true c
    rw [e2] at c
    obtain ⟨G1, G2, G3⟩ := k'.right hd2 (k'.broken hd2 (by have := k.qb; omega) c)
    have G0 := k'.q0
    conv => whnf
    rw [e1]
    generalize 4294967296 * (r + yh) + w0 - (q - 1) * yl = x2 at G1 G2 G3
    clear c e2 e1 k' g1 g2 k hr
    generalize q - 1 = q2 at *
    rotate_left
    conv => whnf
    have k' := k.next hd2 g1 g2 hd1.h0
    have e1 : IntKind.u64.wrap (q - 1) = q - 1 := wrapU ⟨by omega, by have := k.qb; omega⟩
    have e2 : IntKind.u64.wrap (r + yh) = r + yh := wrapU ⟨by have := k.r0; have := hd1.h0; omega, by have := hd1.h1; omega⟩
    refine brec (fun c => ?_) (fun c => ?_)
    rotate_left
    have c := of_decide_eq_false c
    rw [e2] at c
    exact ⟨_, _, 0, (by omega : (q - 1).toNat < q.toNat), ⟨q - 1, r + yh, k', by omega, rfl, rfl, rfl⟩, ⟨rfl, rfl, rfl, rfl, rfl, rfl, rfl, congrArg (fun z => some (u64 z)) e1, congrArg (fun z => some (u64 z)) e2, trivial⟩, rfl⟩
    rotate_right
    have c := of_decide_eq_true c
    rw [e2] at c
    obtain ⟨G1, G2, G3⟩ := k'.right hd2 (k'.broken hd2 (by have := k.qb; omega) c)
    have G0 := k'.q0
    conv => whnf
    rw [e1]
    generalize 4294967296 * (r + yh) + w0 - (q - 1) * yl = x2 at G1 G2 G3
    clear c e2 e1 k' g1 g2 k hr
    generalize q - 1 = q2 at *
    all_goals
      refine ⟨wrap_nonneg _, ?_⟩
      conv => whnf
      exact div_close eY ew F0 F1 F4 G0 G1 G2 G3 (Kn.small hd2 G1 G2) dend shs
end Go.Proofs.Ytmmgdbcppmabaaa
