/- Wide numbers as the document's four digits: what 'Of', 'Plus', 'Less' compute. -/
import Derived.Test.YtmdfpifcghmpfaaDoorA2
namespace Go.Proofs.YtmdfpifcghmpfaaDoor
open Go.Ab

abbrev ui (n : Int) : D := .int .u64 n
abbrev a4 (a b c d : Int) : D := .arr 4 1 [ui a, ui b, ui c, ui d]

/-- A number's digits of base 2^32, the lowest first. -/
def w4 (v : Int) : D := a4 (v % 4294967296) (v / 4294967296 % 4294967296) (v / 18446744073709551616 % 4294967296) (v / 79228162514264337593543950336)

abbrev B128 : Int := 340282366920938463463374607431768211456
def W (v : Int) : Prop := 0 ≤ v ∧ v < 340282366920938463463374607431768211456
def Dg (a : Int) : Prop := 0 ≤ a ∧ a < 4294967296

theorem w4_of {a b c d : Int} (ha : Dg a) (hb : Dg b) (hc : Dg c) : w4 (a + 4294967296 * b + 18446744073709551616 * c + 79228162514264337593543950336 * d) = a4 a b c d := by
  obtain ⟨a1, a2⟩ := ha
  obtain ⟨b1, b2⟩ := hb
  obtain ⟨c1, c2⟩ := hc
  unfold w4
  have e1 : (a + 4294967296 * b + 18446744073709551616 * c + 79228162514264337593543950336 * d) % 4294967296 = a := by omega
  have e2 : (a + 4294967296 * b + 18446744073709551616 * c + 79228162514264337593543950336 * d) / 4294967296 % 4294967296 = b := by omega
  have e3 : (a + 4294967296 * b + 18446744073709551616 * c + 79228162514264337593543950336 * d) / 18446744073709551616 % 4294967296 = c := by omega
  have e4 : (a + 4294967296 * b + 18446744073709551616 * c + 79228162514264337593543950336 * d) / 79228162514264337593543950336 = d := by omega
  rw [e1, e2, e3, e4]

theorem w4_digits {v : Int} (h : W v) : ∃ a b c d, Dg a ∧ Dg b ∧ Dg c ∧ Dg d ∧ v = a + 4294967296 * b + 18446744073709551616 * c + 79228162514264337593543950336 * d := by
  obtain ⟨h1, h2⟩ := h
  refine ⟨v % 4294967296, v / 4294967296 % 4294967296, v / 18446744073709551616 % 4294967296, v / 79228162514264337593543950336, ?_, ?_, ?_, ?_, ?_⟩ <;> first | (unfold Dg; omega) | omega

theorem of_c {h l : Int} (h1 : U h) (h2 : U l) : CallR cx 25 [u64 h, u64 l] [] fun r S => r = .d (w4 (h * 18446744073709551616 + l)) ∧ S = [] := by
  obtain ⟨h1, h1'⟩ := h1
  obtain ⟨h2, h2'⟩ := h2
  refine callR_of (R := R1) cx_ok Tryd.func25 (by kernel_rfl) rfl ?_
  conv => whnf
  refine ⟨by decide, ?_⟩
  conv => whnf
  refine ⟨by decide, ?_⟩
  conv => whnf
  refine ⟨by decide, ?_⟩
  conv => whnf
  refine ⟨by decide, ?_⟩
  conv => whnf
  refine ⟨?_, rfl⟩
  have e1 : IntKind.u64.wrap (l.tdiv 4294967296) = l / 4294967296 := by rw [Int.tdiv_eq_ediv_of_nonneg h2, wrap64]; omega
  have e2 : IntKind.u64.wrap (h.tdiv 4294967296) = h / 4294967296 := by rw [Int.tdiv_eq_ediv_of_nonneg h1, wrap64]; omega
  have e3 : l.tmod 4294967296 = l % 4294967296 := Int.tmod_eq_emod_of_nonneg h2
  have e4 : h.tmod 4294967296 = h % 4294967296 := Int.tmod_eq_emod_of_nonneg h1
  have e : w4 (h * 18446744073709551616 + l) = a4 (l.tmod 4294967296) (IntKind.u64.wrap (l.tdiv 4294967296)) (h.tmod 4294967296) (IntKind.u64.wrap (h.tdiv 4294967296)) := by
    rw [e1, e2, e3, e4, ← w4_of (by unfold Dg; omega) (by unfold Dg; omega) (by unfold Dg; omega)]
    congr 1
    omega
  rw [e]
  rfl

theorem plus_step {a b k : Int} (ha : Dg a) (hb : Dg b) (hk : 0 ≤ k ∧ k ≤ 1) : ∃ d q, Dg d ∧ (0 ≤ q ∧ q ≤ 1) ∧ a + b + k = d + 4294967296 * q ∧
    (IntKind.u64.wrap (IntKind.u64.wrap (a + b) + k)).tmod 4294967296 = d ∧ IntKind.u64.wrap ((IntKind.u64.wrap (IntKind.u64.wrap (a + b) + k)).tdiv 4294967296) = q := by
  obtain ⟨a1, a2⟩ := ha
  obtain ⟨b1, b2⟩ := hb
  have e : IntKind.u64.wrap (IntKind.u64.wrap (a + b) + k) = a + b + k := by simp only [wrap64]; omega
  refine ⟨(a + b + k) % 4294967296, (a + b + k) / 4294967296, by unfold Dg; omega, by omega, by omega, ?_, ?_⟩
  · rw [e, Int.tmod_eq_emod_of_nonneg (by omega)]
  · rw [e, Int.tdiv_eq_ediv_of_nonneg (by omega), wrap64]; omega

theorem plus_raw {a0 a1 a2 a3 b0 b1 b2 b3 : Int} (ha0 : Dg a0) (ha1 : Dg a1) (ha2 : Dg a2) (ha3 : Dg a3) (hb0 : Dg b0) (hb1 : Dg b1) (hb2 : Dg b2) (hb3 : Dg b3) :
    ∃ d0 d1 d2 d3 q, Dg d0 ∧ Dg d1 ∧ Dg d2 ∧ Dg d3 ∧ (0 ≤ q ∧ q ≤ 1) ∧
      a0 + 4294967296 * a1 + 18446744073709551616 * a2 + 79228162514264337593543950336 * a3 + (b0 + 4294967296 * b1 + 18446744073709551616 * b2 + 79228162514264337593543950336 * b3) =
        d0 + 4294967296 * d1 + 18446744073709551616 * d2 + 79228162514264337593543950336 * d3 + 340282366920938463463374607431768211456 * q ∧
      CallR cx 116 [.d (a4 a0 a1 a2 a3), .d (a4 b0 b1 b2 b3)] [] fun r S => r = .tup [.d (a4 d0 d1 d2 d3), u64 q] ∧ S = [] := by
  obtain ⟨d0, q0, g0, p0, s0, t0, r0⟩ := plus_step ha0 hb0 (k := 0) (by decide)
  obtain ⟨d1, q1, g1, p1, s1, t1, r1⟩ := plus_step ha1 hb1 p0
  obtain ⟨d2, q2, g2, p2, s2, t2, r2⟩ := plus_step ha2 hb2 p1
  obtain ⟨d3, q3, g3, p3, s3, t3, r3⟩ := plus_step ha3 hb3 p2
  refine ⟨d0, d1, d2, d3, q3, g0, g1, g2, g3, p3, by omega, ?_⟩
  refine callR_of (R := R1) cx_ok Tryd.func116 (by kernel_rfl) rfl ?_
  conv => whnf
  let st : Nat → List D × Int := fun i => match i with
    | 0 => ([ui 0, ui 0, ui 0, ui 0], 0)
    | 1 => ([ui d0, ui 0, ui 0, ui 0], q0)
    | 2 => ([ui d0, ui d1, ui 0, ui 0], q1)
    | 3 => ([ui d0, ui d1, ui d2, ui 0], q2)
    | _ => ([ui d0, ui d1, ui d2, ui d3], q3)
  refine .inl ⟨fun n l S => ∃ i, i ≤ 4 ∧ n = 4 - i ∧ l = [(2, .ptr 0 []), (3, .ptr 1 []), (4, .ptr 2 []), (5, u64 0), (6, .ptr 3 []), (7, u64 (st i).2), (8, i64 i)] ∧
    S = [.var (.d (a4 a0 a1 a2 a3)), .var (.d (a4 b0 b1 b2 b3)), .var (.d (a4 0 0 0 0)), .var (.d (.arr 4 1 (st i).1))], ⟨4, _, ⟨0, by decide, rfl, rfl, rfl⟩, ⟨rfl, rfl, rfl, rfl, rfl, rfl, rfl, trivial⟩⟩, ?_⟩
  rintro _ _ _ ⟨i, hi, rfl, rfl, rfl⟩
  rcases i with _ | _ | _ | _ | _ | i
  rotate_left 4
  · conv => whnf
    exact ⟨rfl, rfl⟩
  · omega
  all_goals
    conv => whnf
    refine ⟨by kernel_rfl, ?_⟩
    conv => whnf
    refine ⟨by decide, ?_⟩
    conv => whnf
    refine ⟨by decide, ?_⟩
    conv => whnf
    refine ⟨by kernel_rfl, ?_⟩
    conv => whnf
    refine ⟨by decide, ?_⟩
    conv => whnf
    refine ⟨by decide, ?_⟩
    conv => whnf
    refine ⟨by decide, ?_⟩
    conv => whnf
  · exact ⟨3, _, 4, by decide, ⟨1, by decide, rfl, rfl, congrArg (fun z => [Blk.var (.d (a4 a0 a1 a2 a3)), .var (.d (a4 b0 b1 b2 b3)), .var (.d (a4 0 0 0 0)), .var (.d (.arr 4 1 [ui z, ui 0, ui 0, ui 0]))]) t0⟩, ⟨rfl, rfl, rfl, rfl, rfl, congrArg (fun z => some (u64 z)) r0, rfl, trivial⟩, rfl⟩
  · exact ⟨2, _, 4, by decide, ⟨2, by decide, rfl, rfl, congrArg (fun z => [Blk.var (.d (a4 a0 a1 a2 a3)), .var (.d (a4 b0 b1 b2 b3)), .var (.d (a4 0 0 0 0)), .var (.d (.arr 4 1 [ui d0, ui z, ui 0, ui 0]))]) t1⟩, ⟨rfl, rfl, rfl, rfl, rfl, congrArg (fun z => some (u64 z)) r1, rfl, trivial⟩, rfl⟩
  · exact ⟨1, _, 4, by decide, ⟨3, by decide, rfl, rfl, congrArg (fun z => [Blk.var (.d (a4 a0 a1 a2 a3)), .var (.d (a4 b0 b1 b2 b3)), .var (.d (a4 0 0 0 0)), .var (.d (.arr 4 1 [ui d0, ui d1, ui z, ui 0]))]) t2⟩, ⟨rfl, rfl, rfl, rfl, rfl, congrArg (fun z => some (u64 z)) r2, rfl, trivial⟩, rfl⟩
  · exact ⟨0, _, 4, by decide, ⟨4, by decide, rfl, rfl, congrArg (fun z => [Blk.var (.d (a4 a0 a1 a2 a3)), .var (.d (a4 b0 b1 b2 b3)), .var (.d (a4 0 0 0 0)), .var (.d (.arr 4 1 [ui d0, ui d1, ui d2, ui z]))]) t3⟩, ⟨rfl, rfl, rfl, rfl, rfl, congrArg (fun z => some (u64 z)) r3, rfl, trivial⟩, rfl⟩
end Go.Proofs.YtmdfpifcghmpfaaDoor
