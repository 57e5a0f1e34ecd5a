/- sha-256's end by the program; sums. -/
import Derived.Test.YtboohfijacjhjaaDoorS6
set_option linter.unusedVariables false
namespace Go.Proofs.YtboohfijacjhjaaDoor
open Go.Ab

theorem pend_sha {h : H8} {r : ByteArray} {c : Nat} (hc : c < 18446744073709551616) (hr : r.size ≤ 100000) :
    CallR cx 138 [.d (stD h r c)] [] fun v S => v = .d (dgD (endP h r c)) ∧ S = [] := by
  have e8 : IntKind.u64.wrap (8 * ((c : Nat) : Int)) = ((8 * c % 18446744073709551616 : Nat) : Int) := by rw [IntKind.wrap_u64]; omega
  have hpl : (padL r.size c).length ≤ 100 := by
    unfold padL zeros
    rw [List.length_cons, List.length_append, List.length_replicate, upto_len]; omega
  have pa := padd_c (h := h) (r := r) (t := ofL8 (padL r.size c)) (c := c) (by rw [ofL8_size]; omega)
  unfold endP
  generalize (afterP h (r ++ ofL8 (padL r.size c))).2 = rest at pa
  generalize (afterP h (r ++ ofL8 (padL r.size c))).1 = Q at *
  generalize (c + (ofL8 (padL r.size c)).size) % 18446744073709551616 = c2 at pa
  unfold padL at pa hpl
  generalize 8 * c % 18446744073709551616 = N at *
  have eZ : IntKind.i64.wrap (119 - ((r.size : Nat) : Int).tmod 64) = ((119 - r.size % 64 : Nat) : Int) := by
    rw [Int.tmod_eq_emod_of_nonneg (by omega), w64 (by omega)]; omega
  have eZ2 : ((119 - r.size % 64 : Nat) : Int).tmod 64 = (((119 - r.size % 64) % 64 : Nat) : Int) := by
    rw [Int.tmod_eq_emod_of_nonneg (by omega)]; omega
  obtain ⟨Z, hZ⟩ : ∃ Z, Z = (119 - r.size % 64) % 64 := ⟨_, rfl⟩
  rw [← hZ] at pa hpl eZ2
  have rp := repeat_c (k := Z) (by omega)
  obtain ⟨a0, b0, c0, d0, e0, f0, g0, k0⟩ := h
  refine callR_of (R := R1) cx_ok Tryd.func138 (by kernel_rfl) rfl ?_
  conv => whnf
  rw [e8]
  refine ⟨by decide, ?_⟩
  conv => whnf
  rw [eZ]
  refine ⟨by decide, ?_⟩
  conv => whnf
  rw [eZ2]
  refine .inl ⟨fun p L S => ∃ i : Nat, i ≤ 8 ∧ p = 8 - i ∧ L = [(1, .ptr 0 []), (2, .ptr 1 []), (3, u64 ((N : Nat) : Int)), (4, i64 ((Z : Nat) : Int)), (5, .ptr 2 []), (20, i64 (i : Int))] ∧
      S = [.var (.d (stD ⟨a0, b0, c0, d0, e0, f0, g0, k0⟩ r c)), .var (.d (.arr 32 1 (List.replicate 32 (.int .u8 0)))), .var (.d (.arr 8 1 (arrB 8 (upto (beB N) i))))],
    ⟨_, _, ⟨0, Nat.zero_le _, rfl, rfl, rfl⟩, ⟨rfl, rfl, rfl, rfl, rfl, rfl, trivial⟩⟩, ?_⟩
  rintro p _ _ ⟨i, hi, rfl, rfl, rfl⟩
  have hul := upto_len (beB N) i
  conv => whnf
  refine brec (fun q => ?_) (fun q => ?_)
  · have q := of_decide_eq_true q
    have hlt : i < 8 := by omega
    have e3 : IntKind.i64.wrap ((i : Int) + 1) = ((i + 1 : Nat) : Int) := by rw [w64 (by omega)]; omega
    have e4 : IntKind.i64.wrap (56 - IntKind.i64.wrap (8 * (i : Int))) = ((56 - 8 * i : Nat) : Int) := by
      rw [w64 (n := 8 * (i : Int)) (by omega), w64 (by omega)]; omega
    have hN : (arrB 8 (upto (beB N) i)).getD i .nilP = .int .u8 0 := by
      have := arrB_new (n := 8) (l := upto (beB N) i) (by rw [hul]; exact hlt)
      rw [hul] at this; exact this
    have e5 : arrB 8 (upto (beB N) (i + 1)) = (arrB 8 (upto (beB N) i)).set i (.int .u8 ((beB N i).toNat : Int)) := by
      rw [upto, ← arrB_set (by rw [hul]; exact hlt), hul]
    conv => whnf
    rw [e4]
    refine ⟨by omega, ?_⟩
    conv => whnf
    rw [beV N i hlt]
    refine ⟨⟨by omega, by omega⟩, ?_⟩
    conv => whnf
    rw [Int.toNat_natCast, tiu8, setP_int (a := 0) hN]
    conv => whnf
    refine ⟨_, _, 3, (by omega : 8 - (i + 1) < 8 - i), ⟨i + 1, by omega, rfl, rfl, ?_⟩, ⟨rfl, rfl, rfl, rfl, rfl, congrArg (fun z => some (i64 z)) e3, trivial⟩, rfl⟩
    rw [e5]
    rfl
  have q := of_decide_eq_false q
  obtain rfl : i = 8 := by omega
  have e8b : arrB 8 (upto (beB N) 8) = D.bytes (ofL8 (upto (beB N) 8)) := arrB_full hul
  rw [e8b]
  conv => whnf
  refine ⟨by kernel_rfl, ?_⟩
  conv => whnf
  refine ⟨_, rp, ?_⟩
  conv => whnf
  refine ⟨by rw [ofL8_size, zeros, List.length_replicate]; show 1 + Z ≤ _; omega, ?_⟩
  conv => whnf
  refine ⟨by decide, ?_⟩
  conv => whnf
  refine ⟨ofL8 (upto (beB N) 8), ⟨?_, ?_⟩, ?_⟩
  · rw [List.take_of_length_le (by rw [List.length_drop, bytes_length, ofL8_size, upto_len]; decide)]
    rfl
  · rw [ofL8_size, upto_len]; rfl
  conv => whnf
  refine ⟨by rw [ByteArray.size_append, ofL8_size, ofL8_size, zeros, List.length_replicate, upto_len]; show 1 + Z + 8 ≤ _; omega, ?_⟩
  conv => whnf
  have ep : ((⟨#[128]⟩ : ByteArray) ++ ofL8 (zeros Z)) ++ ofL8 (upto (beB N) 8) = ofL8 (128 :: (zeros Z ++ upto (beB N) 8)) := by
    apply ByteArray.ext
    apply Array.toList_inj.1
    simp [ofL8]
  rw [ep]
  refine ⟨_, pa, ?_⟩
  obtain ⟨a1, b1, c1, d1, e1, f1, g1, k1⟩ := Q
  conv => whnf
  refine ⟨by kernel_rfl, ?_⟩
  conv => whnf
  refine .inl ⟨fun p L S => ∃ j : Nat, j ≤ 8 ∧ p = 8 - j ∧ L = [(2, .ptr 1 []), (7, .ptr 3 []), (41, .d (H8.mk a1 b1 c1 d1 e1 f1 g1 k1).D), (42, i64 (j : Int))] ∧
      S = [.var (.d (stD ⟨a1, b1, c1, d1, e1, f1, g1, k1⟩ rest c2)), .var (.d (.arr 32 1 (List.replicate 32 (.int .u8 0)))), .var (.d (.arr 8 1 (D.bytes (ofL8 (upto (beB N) 8))))), .var (.d (.arr 32 1 (arrB 32 (upto (dgBs ⟨a1, b1, c1, d1, e1, f1, g1, k1⟩) (4 * j)))))],
    ⟨_, _, ⟨0, Nat.zero_le _, rfl, rfl, rfl⟩, ⟨rfl, rfl, rfl, rfl, trivial⟩⟩, ?_⟩
  rintro p _ _ ⟨j, hj, rfl, rfl, rfl⟩
  conv => whnf
  refine brec (fun q => ?_) (fun q => ?_)
  · have q := of_decide_eq_true q
    have hlt : j < 8 := by omega
    have e3 : IntKind.i64.wrap ((j : Int) + 1) = ((j + 1 : Nat) : Int) := by rw [w64 (by omega)]; omega
    have gl := H8.l_get (s := ⟨a1, b1, c1, d1, e1, f1, g1, k1⟩) hlt
    conv => whnf
    refine ⟨⟨by omega, by omega⟩, ?_⟩
    conv => whnf
    rw [Int.toNat_natCast, gl]
    refine ⟨rfl, ?_⟩
    conv => whnf
    refine .inl ⟨fun p L S => ∃ k : Nat, k ≤ 4 ∧ p = 4 - k ∧ L = [(2, .ptr 1 []), (7, .ptr 3 []), (8, i64 (j : Int)), (9, w32 (H8.w ⟨a1, b1, c1, d1, e1, f1, g1, k1⟩ j)), (41, .d (H8.mk a1 b1 c1 d1 e1 f1 g1 k1).D), (42, i64 (j : Int)), (46, i64 (k : Int))] ∧
        S = [.var (.d (stD ⟨a1, b1, c1, d1, e1, f1, g1, k1⟩ rest c2)), .var (.d (.arr 32 1 (List.replicate 32 (.int .u8 0)))), .var (.d (.arr 8 1 (D.bytes (ofL8 (upto (beB N) 8))))), .var (.d (.arr 32 1 (arrB 32 (upto (dgBs ⟨a1, b1, c1, d1, e1, f1, g1, k1⟩) (4 * j + k)))))],
      ⟨_, _, ⟨0, Nat.zero_le _, rfl, rfl, rfl⟩, ⟨rfl, rfl, rfl, rfl, rfl, rfl, rfl, trivial⟩⟩, ?_⟩
    rintro p _ _ ⟨k, hk, rfl, rfl, rfl⟩
    have hul := upto_len (dgBs ⟨a1, b1, c1, d1, e1, f1, g1, k1⟩) (4 * j + k)
    conv => whnf
    refine brec (fun q => ?_) (fun q => ?_)
    · have q := of_decide_eq_true q
      have hlk : k < 4 := by omega
      have e3 : IntKind.i64.wrap ((k : Int) + 1) = ((k + 1 : Nat) : Int) := by rw [w64 (by omega)]; omega
      have e4 : IntKind.i64.wrap (IntKind.i64.wrap (4 * (j : Int)) + (k : Int)) = ((4 * j + k : Nat) : Int) := by
        rw [w64 (n := 4 * (j : Int)) (by omega), w64 (by omega)]; omega
      have e24 : IntKind.i64.wrap (24 - IntKind.i64.wrap (8 * (k : Int))) = ((24 - 8 * k : Nat) : Int) := by
        rw [w64 (n := 8 * (k : Int)) (by omega), w64 (by omega)]; omega
      have gv := dgV ⟨a1, b1, c1, d1, e1, f1, g1, k1⟩ (4 * j + k)
      rw [show (4 * j + k) / 4 = j by omega, show (4 * j + k) % 4 = k by omega] at gv
      have hN : (arrB 32 (upto (dgBs ⟨a1, b1, c1, d1, e1, f1, g1, k1⟩) (4 * j + k))).getD (4 * j + k) .nilP = .int .u8 0 := by
        have := arrB_new (n := 32) (l := upto (dgBs ⟨a1, b1, c1, d1, e1, f1, g1, k1⟩) (4 * j + k)) (by rw [hul]; omega)
        rw [hul] at this; exact this
      have e5 : arrB 32 (upto (dgBs ⟨a1, b1, c1, d1, e1, f1, g1, k1⟩) (4 * j + (k + 1))) = (arrB 32 (upto (dgBs ⟨a1, b1, c1, d1, e1, f1, g1, k1⟩) (4 * j + k))).set (4 * j + k) (.int .u8 ((dgBs ⟨a1, b1, c1, d1, e1, f1, g1, k1⟩ (4 * j + k)).toNat : Int)) := by
        rw [← Nat.add_assoc, upto, ← arrB_set (by rw [hul]; omega), hul]
      conv => whnf
      rw [e24]
      refine ⟨by omega, ?_⟩
      conv => whnf
      rw [gv, e4]
      refine ⟨⟨by omega, by omega⟩, ?_⟩
      conv => whnf
      rw [Int.toNat_natCast, tiu8, setP_int (a := 0) hN]
      conv => whnf
      refine ⟨_, _, 4, (by omega : 4 - (k + 1) < 4 - k), ⟨k + 1, by omega, rfl, rfl, ?_⟩, ⟨rfl, rfl, rfl, rfl, rfl, rfl, congrArg (fun z => some (i64 z)) e3, trivial⟩, rfl⟩
      rw [e5]
      rfl
    · have q := of_decide_eq_false q
      obtain rfl : k = 4 := by omega
      conv => whnf
      refine ⟨_, _, 4, (by omega : 8 - (j + 1) < 8 - j), ⟨j + 1, by omega, rfl, rfl, ?_⟩, ⟨rfl, rfl, rfl, congrArg (fun z => some (i64 z)) e3, trivial⟩, rfl⟩
      rw [show 4 * (j + 1) = 4 * j + 4 by omega]
      rfl
  · have q := of_decide_eq_false q
    obtain rfl : j = 8 := by omega
    have ed : dgD (digP ⟨a1, b1, c1, d1, e1, f1, g1, k1⟩) = .arr 32 1 (arrB 32 (upto (dgBs ⟨a1, b1, c1, d1, e1, f1, g1, k1⟩) 32)) := by
      rw [arrB_full (upto_len _ _)]; rfl
    rw [ed]
    conv => whnf
    exact ⟨rfl, rfl⟩
end Go.Proofs.YtboohfijacjhjaaDoor
