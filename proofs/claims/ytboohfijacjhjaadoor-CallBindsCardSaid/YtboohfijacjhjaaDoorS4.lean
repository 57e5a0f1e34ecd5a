/- sha-256 over texts: whole blocks. -/
import Derived.Test.YtboohfijacjhjaaDoorS3
set_option linter.unusedVariables false
namespace Go.Proofs.YtboohfijacjhjaaDoor
open Go.Ab

def afterN : Nat → H8 → ByteArray → H8 × ByteArray
  | 0, h, s => (h, s)
  | n + 1, h, s => if 64 ≤ s.size then afterN n (blockP h (s.extract 0 64)) (s.extract 64 s.size) else (h, s)
def afterP (h : H8) (s : ByteArray) : H8 × ByteArray := afterN s.size h s

theorem afterN_step {n : Nat} {h : H8} {s : ByteArray} (hn : s.size ≤ n) (h64 : 64 ≤ s.size) : ∃ m, (s.extract 64 s.size).size ≤ m ∧ afterN n h s = afterN m (blockP h (s.extract 0 64)) (s.extract 64 s.size) := by
  cases n with
  | zero => omega
  | succ m => exact ⟨m, by rw [ByteArray.size_extract]; omega, by rw [afterN, if_pos h64]⟩
theorem afterN_end {n : Nat} {h : H8} {s : ByteArray} (h64 : ¬ 64 ≤ s.size) : afterN n h s = (h, s) := by
  cases n with
  | zero => rfl
  | succ m => rw [afterN, if_neg h64]

abbrev stD (h : H8) (r : ByteArray) (c : Nat) : D := .agg [h.D, .str r, .int .u64 (c : Int)]

theorem padd_c {h : H8} {r t : ByteArray} {c : Nat} (hsz : r.size + t.size ≤ 1000000) :
    CallR cx 137 [.d (stD h r c), st t] [] fun v S => v = .d (stD (afterP h (r ++ t)).1 (afterP h (r ++ t)).2 ((c + t.size) % 18446744073709551616)) ∧ S = [] := by
  have ec : IntKind.u64.wrap ((c : Int) + IntKind.u64.wrap (t.size : Int)) = (((c + t.size) % 18446744073709551616 : Nat) : Int) := by
    simp only [IntKind.wrap_u64]; omega
  have hrt : (r ++ t).size ≤ 1000000 := by rw [ByteArray.size_append]; exact hsz
  obtain ⟨a0, b0, c0, d0, e0, f0, g0, k0⟩ := h
  refine callR_of (R := R1) cx_ok Tryd.func137 (by kernel_rfl) rfl ?_
  conv => whnf
  refine ⟨by omega, ?_⟩
  conv => whnf
  rw [ec]
  generalize (c + t.size) % 18446744073709551616 = cc
  refine .inl ⟨fun p L S => ∃ (n : Nat) (q : H8) (s : ByteArray), s.size ≤ n ∧ s.size ≤ 1000000 ∧ p = s.size ∧ afterN n q s = afterP ⟨a0, b0, c0, d0, e0, f0, g0, k0⟩ (r ++ t) ∧
      L = [(2, .ptr 0 []), (4, .ptr 1 []), (5, st s)] ∧ S = [.var (.d (stD q r cc)), .var (.d (stD ⟨0, 0, 0, 0, 0, 0, 0, 0⟩ .empty 0))],
    ⟨_, _, ⟨(r ++ t).size, _, r ++ t, Nat.le_refl _, hrt, rfl, rfl, rfl, rfl⟩, ⟨rfl, rfl, rfl, trivial⟩⟩, ?_⟩
  rintro p _ _ ⟨n, ⟨a, b, c, d, e, f, g, k⟩, s, hn, hs, rfl, hA, rfl, rfl⟩
  conv => whnf
  refine brec (fun q => ?_) (fun q => ?_)
  · have q := of_decide_eq_true q
    have h64 : 64 ≤ s.size := by omega
    conv => whnf
    refine ⟨by kernel_rfl, ?_⟩
    conv => whnf
    refine ⟨⟨by omega, by omega, by omega⟩, ?_⟩
    conv => whnf
    have hx0 : (s.extract 0 64).size = 64 := by rw [ByteArray.size_extract]; omega
    have hx1 : (s.extract 64 s.size).size = s.size - 64 := by rw [ByteArray.size_extract]; omega
    obtain ⟨m, hm1, hm2⟩ := afterN_step (h := ⟨a, b, c, d, e, f, g, k⟩) hn h64
    have bl := pblock_c (h := ⟨a, b, c, d, e, f, g, k⟩) hx0
    generalize blockP ⟨a, b, c, d, e, f, g, k⟩ (s.extract 0 64) = B at *
    obtain ⟨a', b', c', d', e', f', g', k'⟩ := B
    refine ⟨_, bl, ?_⟩
    conv => whnf
    refine ⟨by kernel_rfl, ?_⟩
    conv => whnf
    refine ⟨⟨by omega, by omega, by omega⟩, ?_⟩
    conv => whnf
    exact ⟨_, _, 2, (by omega : (s.extract 64 s.size).size < s.size), ⟨m, ⟨a', b', c', d', e', f', g', k'⟩, s.extract 64 s.size, hm1, by omega, rfl, hm2.symm.trans hA, rfl, rfl⟩, ⟨rfl, rfl, rfl, trivial⟩, rfl⟩
  · have q := of_decide_eq_false q
    have h64 : ¬ 64 ≤ s.size := by omega
    rw [afterN_end h64] at hA
    rw [← hA]
    conv => whnf
    exact ⟨rfl, rfl⟩

theorem bytes_ext (s : ByteArray) (a b : Nat) : D.bytes (s.extract a b) = ((D.bytes s).drop a).take (b - a) := by
  unfold D.bytes
  rw [ByteArray.data_extract, Array.toList_extract, List.extract_eq_take_drop, List.map_take, List.map_drop]

theorem rafter_c {h : H8} {s0 : ByteArray} (hsz : s0.size ≤ 1000000) :
    CallR cx 139 [.d h.D, .d (.sl 1 (D.bytes s0))] [] fun v S => v = .tup [.d (afterP h s0).1.D, .d (.sl 1 (D.bytes (afterP h s0).2))] ∧ S = [] := by
  obtain ⟨a0, b0, c0, d0, e0, f0, g0, k0⟩ := h
  refine callR_of (R := R1) cx_ok Tryd.func139 (by kernel_rfl) rfl ?_
  conv => whnf
  refine .inl ?_
  conv => whnf
  refine .inl ⟨fun p L S => ∃ (n : Nat) (q : H8) (s : ByteArray), s.size ≤ n ∧ s.size ≤ 1000000 ∧ p = s.size ∧ afterN n q s = afterP ⟨a0, b0, c0, d0, e0, f0, g0, k0⟩ s0 ∧
      L = [(1, .d (.sl 1 (D.bytes s))), (2, .ptr 0 []), (4, .ptr 1 [])] ∧ S = [.var (.d q.D), .var (.d (H8.mk 0 0 0 0 0 0 0 0).D)],
    ⟨_, _, ⟨s0.size, _, s0, Nat.le_refl _, hsz, rfl, rfl, rfl, rfl⟩, ⟨rfl, rfl, rfl, trivial⟩⟩, ?_⟩
  rintro p _ _ ⟨n, ⟨a, b, c, d, e, f, g, k⟩, s, hn, hs, rfl, hA, rfl, rfl⟩
  have hbl := bytes_length s
  conv => whnf
  refine brec (fun q => ?_) (fun q => ?_)
  · have q := of_decide_eq_true q
    have h64 : 64 ≤ s.size := by omega
    conv => whnf
    refine ⟨by kernel_rfl, ?_⟩
    conv => whnf
    refine ⟨⟨by omega, by omega, by omega⟩, ?_⟩
    conv => whnf
    have hx0 : (s.extract 0 64).size = 64 := by rw [ByteArray.size_extract]; omega
    have hx1 : (s.extract 64 s.size).size = s.size - 64 := by rw [ByteArray.size_extract]; omega
    obtain ⟨m, hm1, hm2⟩ := afterN_step (h := ⟨a, b, c, d, e, f, g, k⟩) hn h64
    have bl := rblock_c (h := ⟨a, b, c, d, e, f, g, k⟩) hx0
    rw [bytes_ext] at bl
    generalize blockP ⟨a, b, c, d, e, f, g, k⟩ (s.extract 0 64) = B at *
    obtain ⟨a', b', c', d', e', f', g', k'⟩ := B
    refine ⟨_, bl, ?_⟩
    conv => whnf
    refine ⟨by kernel_rfl, ?_⟩
    conv => whnf
    refine ⟨⟨by omega, by omega, by omega⟩, ?_⟩
    conv => whnf
    refine ⟨_, _, 2, (by omega : (s.extract 64 s.size).size < s.size), ⟨m, ⟨a', b', c', d', e', f', g', k'⟩, s.extract 64 s.size, hm1, by omega, rfl, hm2.symm.trans hA, rfl, rfl⟩, ⟨?_, rfl, rfl, trivial⟩, rfl⟩
    rw [bytes_ext]
    exact congrArg (fun z => some (AV.d (.sl 1 z))) (by rw [hbl, show ((s.size : Int) - 64).toNat = s.size - 64 by omega]; rfl)
  · have q := of_decide_eq_false q
    have h64 : ¬ 64 ≤ s.size := by omega
    rw [afterN_end h64] at hA
    rw [← hA]
    conv => whnf
    exact ⟨rfl, rfl⟩
end Go.Proofs.YtboohfijacjhjaaDoor
