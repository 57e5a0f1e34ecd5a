/- Wide numbers as the document's digits: sums and 'Less'; sums of all of a list. -/
import Derived.Test.YtmdfpifcghmpfaaDoorA3
namespace Go.Proofs.YtmdfpifcghmpfaaDoor
open Go.Ab

theorem plus_c {v x : Int} (hv : W v) (hx : W x) : CallR cx 116 [.d (w4 v), .d (w4 x)] [] fun r S =>
    r = .tup [.d (w4 ((v + x) % 340282366920938463463374607431768211456)), u64 ((v + x) / 340282366920938463463374607431768211456)] ∧ S = [] := by
  obtain ⟨a0, a1, a2, a3, ha0, ha1, ha2, ha3, rfl⟩ := w4_digits hv
  obtain ⟨b0, b1, b2, b3, hb0, hb1, hb2, hb3, rfl⟩ := w4_digits hx
  rw [w4_of ha0 ha1 ha2, w4_of hb0 hb1 hb2]
  obtain ⟨d0, d1, d2, d3, q, hd0, hd1, hd2, hd3, hq, he, hc⟩ := plus_raw ha0 ha1 ha2 ha3 hb0 hb1 hb2 hb3
  rw [he]
  have b : 0 ≤ d0 + 4294967296 * d1 + 18446744073709551616 * d2 + 79228162514264337593543950336 * d3 ∧ d0 + 4294967296 * d1 + 18446744073709551616 * d2 + 79228162514264337593543950336 * d3 < 340282366920938463463374607431768211456 := by
    obtain ⟨x1, x2⟩ := hd0; obtain ⟨x3, x4⟩ := hd1; obtain ⟨x5, x6⟩ := hd2; obtain ⟨x7, x8⟩ := hd3
    omega
  rw [← w4_of hd0 hd1 hd2] at hc
  generalize d0 + 4294967296 * d1 + 18446744073709551616 * d2 + 79228162514264337593543950336 * d3 = z at *
  have e1 : (z + 340282366920938463463374607431768211456 * q) % 340282366920938463463374607431768211456 = z := by omega
  have e2 : (z + 340282366920938463463374607431768211456 * q) / 340282366920938463463374607431768211456 = q := by omega
  rw [e1, e2]
  exact hc
end Go.Proofs.YtmdfpifcghmpfaaDoor
