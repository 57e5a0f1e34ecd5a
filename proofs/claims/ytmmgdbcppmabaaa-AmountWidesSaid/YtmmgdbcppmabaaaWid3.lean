/- Wide numbers as the document's digits: sums and 'Less'; sums of all of a list. -/
import Derived.Test.YtmmgdbcppmabaaaWid2
namespace Go.Proofs.Ytmmgdbcppmabaaa
open Go.Ab

theorem plus_c {v x : Int} (hv : W v) (hx : W x) : CallR cx 18 [.d (w4 v), .d (w4 x)] [] fun r S =>
    r = .tup [.d (w4 ((v + x) % 340282366920938463463374607431768211456)), u64 ((v + x) / 340282366920938463463374607431768211456)] ∧ S = [] := by
  obtain ⟨a0, a1, a2, a3, ha0, ha1, ha2, ha3, rfl⟩ := w4_digits hv
  obtain ⟨b0, b1, b2, b3, hb0, hb1, hb2, hb3, rfl⟩ := w4_digits hx
  rw [w4_of ha0 ha1 ha2, w4_of hb0 hb1 hb2]
  obtain ⟨d0, d1, d2, d3, q, hd0, hd1, hd2, hd3, hq, he, hc⟩ := plus_raw ha0 ha1 ha2 ha3 hb0 hb1 hb2 hb3
  rw [he]
  have b : 0 ≤ d0 + 4294967296 * d1 + 18446744073709551616 * d2 + 79228162514264337593543950336 * d3 ∧ d0 + 4294967296 * d1 + 18446744073709551616 * d2 + 79228162514264337593543950336 * d3 < 340282366920938463463374607431768211456 := by
    obtain ⟨x1, x2⟩ := hd0; obtain ⟨x3, x4⟩ := hd1; obtain ⟨x5, x6⟩ := hd2; obtain ⟨x7, x8⟩ := hd3
    omega
  rw [← w4_of hd0 hd1 hd2] at hc
  generalize d0 + 4294967296 * d1 + 18446744073709551616 * d2 + 79228162514264337593543950336 * d3 = z at *
  have e1 : (z + 340282366920938463463374607431768211456 * q) % 340282366920938463463374607431768211456 = z := by omega
  have e2 : (z + 340282366920938463463374607431768211456 * q) / 340282366920938463463374607431768211456 = q := by omega
  rw [e1, e2]
  exact hc

theorem rless_end {a0 a1 a2 a3 b0 b1 b2 b3 : Int} (ha0 : Dg a0) (ha1 : Dg a1) (ha2 : Dg a2) (hb0 : Dg b0) (hb1 : Dg b1) (hb2 : Dg b2)
    {v x : Int} (hv : v = a0 + 4294967296 * a1 + 18446744073709551616 * a2 + 79228162514264337593543950336 * a3) (hx : x = b0 + 4294967296 * b1 + 18446744073709551616 * b2 + 79228162514264337593543950336 * b3) :
    (a3 ≠ b3 → decide (a3 < b3) = decide (v < x)) ∧ (a3 = b3 → a2 ≠ b2 → decide (a2 < b2) = decide (v < x)) ∧ (a3 = b3 → a2 = b2 → a1 ≠ b1 → decide (a1 < b1) = decide (v < x)) ∧
      (a3 = b3 → a2 = b2 → a1 = b1 → decide (a0 < b0) = decide (v < x)) := by
  obtain ⟨x1, x2⟩ := ha0; obtain ⟨x3, x4⟩ := ha1; obtain ⟨x5, x6⟩ := ha2
  obtain ⟨y1, y2⟩ := hb0; obtain ⟨y3, y4⟩ := hb1; obtain ⟨y5, y6⟩ := hb2
  have k : ∀ {p q : Prop} [Decidable p] [Decidable q], (p ↔ q) → decide p = decide q := fun h => by simp [h]
  refine ⟨fun h => k ?_, fun h1 h2 => k ?_, fun h1 h2 h3 => k ?_, fun h1 h2 h3 => k ?_⟩ <;> constructor <;> intro <;> omega

theorem rless_c {v x : Int} (hv : W v) (hx : W x) : CallR cx 20 [.d (w4 v), .d (w4 x)] [] fun r S => r = bo (decide (v < x)) ∧ S = [] := by
  obtain ⟨a0, a1, a2, a3, ha0, ha1, ha2, ha3, hva⟩ := w4_digits hv
  obtain ⟨b0, b1, b2, b3, hb0, hb1, hb2, hb3, hxb⟩ := w4_digits hx
  obtain ⟨r3, r2, r1, r0⟩ := rless_end ha0 ha1 ha2 hb0 hb1 hb2 hva hxb
  have ev : w4 v = a4 a0 a1 a2 a3 := by rw [hva]; exact w4_of ha0 ha1 ha2
  have ex : w4 x = a4 b0 b1 b2 b3 := by rw [hxb]; exact w4_of hb0 hb1 hb2
  rw [ev, ex]
  clear hva hxb ev ex hv hx
  generalize decide (v < x) = R at *
  refine callR_of (R := R1) cx_ok Try.func20 (by kernel_rfl) rfl ?_
  conv => whnf
  refine ⟨fun n l S => ∃ k : Nat, k ≤ 4 ∧ n = k ∧ l = [(2, .ptr 0 []), (3, .ptr 1 []), (4, bo false), (5, i64 ((k : Int) - 1))] ∧ S = [.var (.d (a4 a0 a1 a2 a3)), .var (.d (a4 b0 b1 b2 b3))] ∧
    (k ≤ 3 → a3 = b3) ∧ (k ≤ 2 → a2 = b2) ∧ (k ≤ 1 → a1 = b1) ∧ (k ≤ 0 → a0 = b0), ⟨4, _, ⟨4, by decide, rfl, rfl, rfl, by omega, by omega, by omega, by omega⟩, ⟨rfl, rfl, rfl, rfl, trivial⟩⟩, ?_⟩
  rintro k _ _ ⟨_, hk, rfl, rfl, rfl, e3, e2, e1, e0⟩
  match k, hk, e3, e2, e1, e0 with
  | 0, _, e3, e2, e1, e0 =>
    conv => whnf
    have := r0 (e3 (by decide)) (e2 (by decide)) (e1 (by decide))
    rw [e0 (by decide)] at this
    refine ⟨?_, rfl⟩
    rw [← this]
    simp [pack]
  | 1, _, e3, e2, e1, _ =>
    conv => whnf
    refine ⟨by kernel_rfl, ?_⟩
    conv => whnf
    refine ⟨by decide, ?_⟩
    conv => whnf
    refine ⟨by decide, ?_⟩
    conv => whnf
    refine ⟨by kernel_rfl, ?_⟩
    conv => whnf
    refine brec (fun h => ?_) (fun h => ?_)
    · have := r0 (e3 (by decide)) (e2 (by decide)) (e1 (by decide))
      rw [← this]
      conv => whnf
      refine ⟨by kernel_rfl, ?_⟩
      conv => whnf
      refine ⟨by decide, ?_⟩
      conv => whnf
      refine ⟨by decide, ?_⟩
      conv => whnf
      refine ⟨by kernel_rfl, ?_⟩
      conv => whnf
      exact ⟨rfl, rfl⟩
    · conv => whnf
      exact ⟨0, _, 2, by decide, ⟨0, by decide, rfl, rfl, rfl, fun _ => e3 (by decide), fun _ => e2 (by decide), fun _ => e1 (by decide), fun _ => by simpa using h⟩, ⟨rfl, rfl, rfl, rfl, trivial⟩, rfl⟩
  | 2, _, e3, e2, _, _ =>
    conv => whnf
    refine ⟨by kernel_rfl, ?_⟩
    conv => whnf
    refine ⟨by decide, ?_⟩
    conv => whnf
    refine ⟨by decide, ?_⟩
    conv => whnf
    refine ⟨by kernel_rfl, ?_⟩
    conv => whnf
    refine brec (fun h => ?_) (fun h => ?_)
    · have := r1 (e3 (by decide)) (e2 (by decide)) (by simpa using h)
      rw [← this]
      conv => whnf
      refine ⟨by kernel_rfl, ?_⟩
      conv => whnf
      refine ⟨by decide, ?_⟩
      conv => whnf
      refine ⟨by decide, ?_⟩
      conv => whnf
      refine ⟨by kernel_rfl, ?_⟩
      conv => whnf
      exact ⟨rfl, rfl⟩
    · conv => whnf
      exact ⟨1, _, 2, by decide, ⟨1, by decide, rfl, rfl, rfl, fun _ => e3 (by decide), fun _ => e2 (by decide), fun _ => by simpa using h, by omega⟩, ⟨rfl, rfl, rfl, rfl, trivial⟩, rfl⟩
  | 3, _, e3, _, _, _ =>
    conv => whnf
    refine ⟨by kernel_rfl, ?_⟩
    conv => whnf
    refine ⟨by decide, ?_⟩
    conv => whnf
    refine ⟨by decide, ?_⟩
    conv => whnf
    refine ⟨by kernel_rfl, ?_⟩
    conv => whnf
    refine brec (fun h => ?_) (fun h => ?_)
    · have := r2 (e3 (by decide)) (by simpa using h)
      rw [← this]
      conv => whnf
      refine ⟨by kernel_rfl, ?_⟩
      conv => whnf
      refine ⟨by decide, ?_⟩
      conv => whnf
      refine ⟨by decide, ?_⟩
      conv => whnf
      refine ⟨by kernel_rfl, ?_⟩
      conv => whnf
      exact ⟨rfl, rfl⟩
    · conv => whnf
      exact ⟨2, _, 2, by decide, ⟨2, by decide, rfl, rfl, rfl, fun _ => e3 (by decide), fun _ => by simpa using h, by omega, by omega⟩, ⟨rfl, rfl, rfl, rfl, trivial⟩, rfl⟩
  | 4, _, _, _, _, _ =>
    conv => whnf
    refine ⟨by kernel_rfl, ?_⟩
    conv => whnf
    refine ⟨by decide, ?_⟩
    conv => whnf
    refine ⟨by decide, ?_⟩
    conv => whnf
    refine ⟨by kernel_rfl, ?_⟩
    conv => whnf
    refine brec (fun h => ?_) (fun h => ?_)
    · have := r3 (by simpa using h)
      rw [← this]
      conv => whnf
      refine ⟨by kernel_rfl, ?_⟩
      conv => whnf
      refine ⟨by decide, ?_⟩
      conv => whnf
      refine ⟨by decide, ?_⟩
      conv => whnf
      refine ⟨by kernel_rfl, ?_⟩
      conv => whnf
      exact ⟨rfl, rfl⟩
    · conv => whnf
      exact ⟨3, _, 2, by decide, ⟨3, by decide, rfl, rfl, rfl, fun _ => by simpa using h, by omega, by omega, by omega⟩, ⟨rfl, rfl, rfl, rfl, trivial⟩, rfl⟩
  | k + 5, hk, _, _, _, _ => omega
end Go.Proofs.Ytmmgdbcppmabaaa
