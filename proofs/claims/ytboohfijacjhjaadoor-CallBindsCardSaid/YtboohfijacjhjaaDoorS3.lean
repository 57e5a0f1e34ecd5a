/- sha-256's block by the document. -/
import Derived.Test.YtboohfijacjhjaaDoorS2
set_option linter.unusedVariables false
namespace Go.Proofs.YtboohfijacjhjaaDoor
open Go.Ab

theorem w_mul (x : W32) (c : Nat) : IntKind.u32.wrap (wi x * (c : Int)) = wi (x * BitVec.ofNat 32 c) := by
  unfold wi
  rw [IntKind.wrap_u32, BitVec.toNat_mul, BitVec.toNat_ofNat, ← Int.natCast_mul]
  have : BitVec.toNat x * c % 4294967296 = BitVec.toNat x * (c % 4294967296) % 4294967296 := by rw [Nat.mul_mod_mod]
  show ((BitVec.toNat x * c : Nat) : Int) % 4294967296 = ((BitVec.toNat x * (c % 4294967296) % 4294967296 : Nat) : Int)
  rw [← this]
  omega
theorem word_sum (a b c d : Nat) : BitVec.ofNat 32 a * BitVec.ofNat 32 16777216 + BitVec.ofNat 32 b * BitVec.ofNat 32 65536 + BitVec.ofNat 32 c * BitVec.ofNat 32 256 + BitVec.ofNat 32 d = BitVec.ofNat 32 (a * 16777216 + b * 65536 + c * 256 + d) := by
  rw [BitVec.ofNat_add, BitVec.ofNat_add, BitVec.ofNat_add, BitVec.ofNat_mul, BitVec.ofNat_mul, BitVec.ofNat_mul]
theorem bytes_get {s : ByteArray} {k : Nat} (h : k < s.size) : (D.bytes s).getD k .nilP = .int .u8 ((bt s k : Nat) : Int) := by
  have hl : s.data.toList.length = s.size := Array.length_toList
  unfold D.bytes bt
  rw [List.getD_eq_getElem?_getD, List.getElem?_map, List.getElem?_eq_getElem (by omega), List.getD_eq_getElem?_getD, List.getElem?_eq_getElem (by omega)]
  rfl
theorem tiu8 : ({ k := TK.int IntKind.u8, size := 1, bytes := 1, zero := some (D.int IntKind.u8 0), eq := true, cmp := true } : TI).size = 1 := rfl

theorem rcons_c : CallR cx 154 [] [] fun r S => r = .d (.arr 64 1 (coL.map fun z => .int .u32 z)) ∧ S = [] := by
  refine callR_of (R := R1) cx_ok Tryd.func154 (by kernel_rfl) rfl ?_
  conv => whnf
  exact ⟨by kernel_rfl, rfl⟩

theorem rblock_c {h : H8} {s : ByteArray} (hs : s.size = 64) : CallR cx 147 [.d h.D, .d (.sl 1 (D.bytes s))] [] fun r S => r = .d (blockP h s).D ∧ S = [] := by
  have hbl : (D.bytes s).length = 64 := by rw [bytes_length]; exact hs
  unfold blockP
  obtain ⟨a0, b0, c0, d0, e0, f0, g0, k0⟩ := h
  refine callR_of (R := R1) cx_ok Tryd.func147 (by kernel_rfl) rfl ?_
  conv => whnf
  refine brF (by rw [hbl]; rfl) ?_
  conv => whnf
  refine ⟨_, rcons_c, ?_⟩
  rintro _ _ ⟨rfl, rfl⟩
  conv => whnf
  refine .inl ⟨fun p L S => ∃ (j : Nat), j ≤ 16 ∧ p = 16 - j ∧
      L = [(1, .d (.sl 1 (D.bytes s))), (2, .ptr 0 []), (4, .ptr 1 []), (5, .ptr 2 []), (6, .ptr 3 []), (7, i64 (j : Int))] ∧ S = [.var (.d (H8.mk a0 b0 c0 d0 e0 f0 g0 k0).D), .var (.d (.arr 8 1 (List.replicate 8 (.int .u32 0)))), .var (.d (.arr 64 1 (coL.map fun z => .int .u32 z))), .var (.d (.arr 64 1 (arrW 64 (sched (wordB s) j))))],
    ⟨_, _, ⟨0, Nat.zero_le _, rfl, rfl, rfl⟩, ⟨rfl, rfl, rfl, rfl, rfl, rfl, trivial⟩⟩, ?_⟩
  rintro p _ _ ⟨j, hj, rfl, rfl, rfl⟩
  conv => whnf
  refine brec (fun q => ?_) (fun q => ?_)
  · have q := of_decide_eq_true q
    have hlt : j < 16 := by omega
    have e3 : IntKind.i64.wrap ((j : Int) + 1) = ((j + 1 : Nat) : Int) := by rw [w64 (by omega)]; omega
    have e4 : IntKind.i64.wrap (4 * (j : Int)) = ((4 * j : Nat) : Int) := by rw [w64 (by omega)]; omega
    have e41 : IntKind.i64.wrap (((4 * j : Nat) : Int) + 1) = ((4 * j + 1 : Nat) : Int) := by rw [w64 (by omega)]; omega
    have e42 : IntKind.i64.wrap (((4 * j : Nat) : Int) + 2) = ((4 * j + 2 : Nat) : Int) := by rw [w64 (by omega)]; omega
    have e43 : IntKind.i64.wrap (((4 * j : Nat) : Int) + 3) = ((4 * j + 3 : Nat) : Int) := by rw [w64 (by omega)]; omega
    have hlen := sched_len (wordB s) j
    generalize hl : sched (wordB s) j = l at hlen
    conv => whnf
    refine ⟨by kernel_rfl, ?_⟩
    conv => whnf
    rw [e4]
    refine ⟨⟨by omega, by omega⟩, ?_⟩
    conv => whnf
    rw [Int.toNat_natCast, bytes_get (by omega)]
    conv => whnf
    rw [e4, e41]
    refine ⟨⟨by omega, by omega⟩, ?_⟩
    conv => whnf
    rw [Int.toNat_natCast, bytes_get (by omega)]
    conv => whnf
    rw [e4, e42]
    refine ⟨⟨by omega, by omega⟩, ?_⟩
    conv => whnf
    rw [Int.toNat_natCast, bytes_get (by omega)]
    conv => whnf
    rw [e4, e43]
    refine ⟨⟨by omega, by omega⟩, ?_⟩
    conv => whnf
    rw [Int.toNat_natCast, bytes_get (by omega)]
    conv => whnf
    refine ⟨⟨by omega, by omega⟩, ?_⟩
    conv => whnf
    rw [Int.toNat_natCast, tiu, setP_int (a := 0) (by rw [← hlen]; exact arrW_new (by omega))]
    conv => whnf
    refine ⟨by kernel_rfl, ?_⟩
    conv => whnf
    refine ⟨_, _, 4, (by omega : 16 - (j + 1) < 16 - j), ⟨j + 1, by omega, rfl, rfl, ?_⟩, ⟨rfl, rfl, rfl, rfl, rfl, congrArg (fun z => some (i64 z)) e3, trivial⟩, rfl⟩
    rw [sched, hl, ← arrW_set (by omega), hlen]
    refine congrArg (fun z => [Blk.var (.d (H8.mk a0 b0 c0 d0 e0 f0 g0 k0).D), .var (.d (.arr 8 1 (List.replicate 8 (.int .u32 0)))), .var (.d (.arr 64 1 (coL.map fun z => .int .u32 z))), Blk.var (.d (.arr 64 1 ((arrW 64 l).set j (.int .u32 z))))]) ?_
    rw [w_of (bt_lt s (4 * j)), w_of (bt_lt s (4 * j + 1)), w_of (bt_lt s (4 * j + 2)), w_of (bt_lt s (4 * j + 3))]
    have m1 := w_mul (BitVec.ofNat 32 (bt s (4 * j))) 16777216
    have m2 := w_mul (BitVec.ofNat 32 (bt s (4 * j + 1))) 65536
    have m3 := w_mul (BitVec.ofNat 32 (bt s (4 * j + 2))) 256
    rw [show ((16777216 : Nat) : Int) = 16777216 from rfl] at m1
    rw [show ((65536 : Nat) : Int) = 65536 from rfl] at m2
    rw [show ((256 : Nat) : Int) = 256 from rfl] at m3
    rw [m1, m2, m3, w_add, w_add, w_add, word_sum]
    unfold nextW
    rw [if_pos (by omega)]
    rfl
  · have q := of_decide_eq_false q
    obtain rfl : j = 16 := by omega
    conv => whnf
    refine .inl ⟨fun p L S => ∃ (j : Nat), 16 ≤ j ∧ j ≤ 64 ∧ p = 64 - j ∧
        L = [(2, .ptr 0 []), (4, .ptr 1 []), (5, .ptr 2 []), (6, .ptr 3 []), (8, i64 (j : Int))] ∧ S = [.var (.d (H8.mk a0 b0 c0 d0 e0 f0 g0 k0).D), .var (.d (.arr 8 1 (List.replicate 8 (.int .u32 0)))), .var (.d (.arr 64 1 (coL.map fun z => .int .u32 z))), .var (.d (.arr 64 1 (arrW 64 (sched (wordB s) j))))],
      ⟨_, _, ⟨16, Nat.le_refl _, by omega, rfl, rfl, rfl⟩, ⟨rfl, rfl, rfl, rfl, rfl, trivial⟩⟩, ?_⟩
    rintro p _ _ ⟨j, hj0, hj, rfl, rfl, rfl⟩
    conv => whnf
    refine brec (fun q => ?_) (fun q => ?_)
    · have q := of_decide_eq_true q
      have hlt : j < 64 := by omega
      have e3 : IntKind.i64.wrap ((j : Int) + 1) = ((j + 1 : Nat) : Int) := by rw [w64 (by omega)]; omega
      have hlen := sched_len (wordB s) j
      generalize hl : sched (wordB s) j = l at hlen
      have e15 : IntKind.i64.wrap ((j : Int) - 15) = ((j - 15 : Nat) : Int) := by rw [w64 (by omega)]; omega
      have e02 : IntKind.i64.wrap ((j : Int) - 2) = ((j - 2 : Nat) : Int) := by rw [w64 (by omega)]; omega
      have e16 : IntKind.i64.wrap ((j : Int) - 16) = ((j - 16 : Nat) : Int) := by rw [w64 (by omega)]; omega
      have e07 : IntKind.i64.wrap ((j : Int) - 7) = ((j - 7 : Nat) : Int) := by rw [w64 (by omega)]; omega
      have hn : nextW (wordB s) l j = l.getD (j - 16) 0 + sgA (l.getD (j - 15) 0) + l.getD (j - 7) 0 + sgB (l.getD (j - 2) 0) := by unfold nextW; rw [if_neg (by omega)]
      have g15 := arrW_get (n := 64) (l := l) (i := j - 15) (by omega)
      have g02 := arrW_get (n := 64) (l := l) (i := j - 2) (by omega)
      have g16 := arrW_get (n := 64) (l := l) (i := j - 16) (by omega)
      have g07 := arrW_get (n := 64) (l := l) (i := j - 7) (by omega)
      unfold sgA sgB at hn
      generalize l.getD (j - 15) 0 = x15 at *
      generalize l.getD (j - 2) 0 = x02 at *
      generalize l.getD (j - 16) 0 = x16 at *
      generalize l.getD (j - 7) 0 = x07 at *
      conv => whnf
      refine ⟨by kernel_rfl, ?_⟩
      conv => whnf
      rw [e15]
      refine ⟨⟨by omega, by omega⟩, ?_⟩
      conv => whnf
      rw [Int.toNat_natCast, g15]
      conv => whnf
      refine ⟨_, turn_c (x := x15) (k := 7) (by decide), ?_⟩
      conv => whnf
      rw [e15]
      refine ⟨⟨by omega, by omega⟩, ?_⟩
      conv => whnf
      rw [Int.toNat_natCast, g15]
      conv => whnf
      refine ⟨_, turn_c (x := x15) (k := 18) (by decide), ?_⟩
      conv => whnf
      rw [e15]
      refine ⟨⟨by omega, by omega⟩, ?_⟩
      conv => whnf
      rw [Int.toNat_natCast, g15]
      conv => whnf
      refine ⟨by decide, ?_⟩
      conv => whnf
      refine ⟨by kernel_rfl, ?_⟩
      conv => whnf
      refine ⟨by kernel_rfl, ?_⟩
      conv => whnf
      rw [e02]
      refine ⟨⟨by omega, by omega⟩, ?_⟩
      conv => whnf
      rw [Int.toNat_natCast, g02]
      conv => whnf
      refine ⟨_, turn_c (x := x02) (k := 17) (by decide), ?_⟩
      conv => whnf
      rw [e02]
      refine ⟨⟨by omega, by omega⟩, ?_⟩
      conv => whnf
      rw [Int.toNat_natCast, g02]
      conv => whnf
      refine ⟨_, turn_c (x := x02) (k := 19) (by decide), ?_⟩
      conv => whnf
      rw [e02]
      refine ⟨⟨by omega, by omega⟩, ?_⟩
      conv => whnf
      rw [Int.toNat_natCast, g02]
      conv => whnf
      refine ⟨by decide, ?_⟩
      conv => whnf
      refine ⟨by kernel_rfl, ?_⟩
      conv => whnf
      refine ⟨by kernel_rfl, ?_⟩
      conv => whnf
      rw [e16]
      refine ⟨⟨by omega, by omega⟩, ?_⟩
      conv => whnf
      rw [Int.toNat_natCast, g16]
      conv => whnf
      rw [e07]
      refine ⟨⟨by omega, by omega⟩, ?_⟩
      conv => whnf
      rw [Int.toNat_natCast, g07]
      conv => whnf
      refine ⟨⟨by omega, by omega⟩, ?_⟩
      conv => whnf
      rw [Int.toNat_natCast, tiu, setP_int (a := 0) (by rw [← hlen]; exact arrW_new (by omega))]
      conv => whnf
      refine ⟨by kernel_rfl, ?_⟩
      conv => whnf
      refine ⟨_, _, 4, (by omega : 64 - (j + 1) < 64 - j), ⟨j + 1, by omega, by omega, rfl, rfl, ?_⟩, ⟨rfl, rfl, rfl, rfl, congrArg (fun z => some (i64 z)) e3, trivial⟩, rfl⟩
      rw [sched, hl, ← arrW_set (by omega), hlen, hn]
      refine congrArg (fun z => [Blk.var (.d (H8.mk a0 b0 c0 d0 e0 f0 g0 k0).D), .var (.d (.arr 8 1 (List.replicate 8 (.int .u32 0)))), .var (.d (.arr 64 1 (coL.map fun z => .int .u32 z))), Blk.var (.d (.arr 64 1 ((arrW 64 l).set j (.int .u32 z))))]) ?_
      rw [w_xor, w_shrI _ (m := 3) (k := 3) rfl (by decide), w_xor, w_xor, w_shrI _ (m := 10) (k := 10) rfl (by decide), w_xor, w_add, w_add, w_add]
    · have q := of_decide_eq_false q
      obtain rfl : j = 64 := by omega
      have wl := sched_len (wordB s) 64
      generalize sched (wordB s) 64 = W at *
      conv => whnf
      refine ⟨by kernel_rfl, ?_⟩
      conv => whnf
      refine ⟨by decide, ?_⟩
      conv => whnf
      refine ⟨by decide, ?_⟩
      conv => whnf
      refine ⟨by decide, ?_⟩
      conv => whnf
      refine ⟨by decide, ?_⟩
      conv => whnf
      refine ⟨by decide, ?_⟩
      conv => whnf
      refine ⟨by decide, ?_⟩
      conv => whnf
      refine ⟨by decide, ?_⟩
      conv => whnf
      refine ⟨by decide, ?_⟩
      conv => whnf
      refine ⟨by kernel_rfl, ?_⟩
      conv => whnf
      refine .inl ⟨fun p L S => ∃ (j : Nat) (r : H8), j ≤ 64 ∧ p = 64 - j ∧ r = rounds coW (fun i => W.getD i 0) j ⟨a0, b0, c0, d0, e0, f0, g0, k0⟩ ∧
          L = [(2, .ptr 0 []), (4, .ptr 1 []), (5, .ptr 2 []), (6, .ptr 3 []), (11, w32 r.a), (12, w32 r.b), (13, w32 r.c), (14, w32 r.d), (15, w32 r.e), (16, w32 r.f), (17, w32 r.g), (18, w32 r.h), (19, i64 (j : Int))] ∧ S = [.var (.d (H8.mk a0 b0 c0 d0 e0 f0 g0 k0).D), .var (.d (.arr 8 1 (List.replicate 8 (.int .u32 0)))), .var (.d (.arr 64 1 (coL.map fun z => .int .u32 z))), .var (.d (.arr 64 1 (arrW 64 W)))],
        ⟨_, _, ⟨0, _, Nat.zero_le _, rfl, rfl, rfl, rfl⟩, ⟨rfl, rfl, rfl, rfl, rfl, rfl, rfl, rfl, rfl, rfl, rfl, rfl, rfl, trivial⟩⟩, ?_⟩
      rintro p _ _ ⟨j, r, hj, rfl, hr, rfl, rfl⟩
      conv => whnf
      refine brec (fun q => ?_) (fun q => ?_)
      · have q := of_decide_eq_true q
        have hlt : j < 64 := by omega
        have e3 : IntKind.i64.wrap ((j : Int) + 1) = ((j + 1 : Nat) : Int) := by rw [w64 (by omega)]; omega
        have gw := arrW_get (n := 64) (l := W) (i := j) (by omega)
        have gc := co_get hlt
        have hr1 : rounds coW (fun i => W.getD i 0) (j + 1) ⟨a0, b0, c0, d0, e0, f0, g0, k0⟩ = rnd r (coW j) (W.getD j 0) := by rw [hr]; rfl
        generalize W.getD j 0 = w at *
        generalize coW j = kk at *
        obtain ⟨a, b, c, d, e, f, g, k⟩ := r
        simp only [rnd, BitVec.add_assoc (rndT _ _ _)] at hr1
        conv => whnf
        refine ⟨by kernel_rfl, ?_⟩
        conv => whnf
        refine ⟨_, turn_c (x := e) (k := 6) (by decide), ?_⟩
        conv => whnf
        refine ⟨_, turn_c (x := e) (k := 11) (by decide), ?_⟩
        conv => whnf
        refine ⟨_, turn_c (x := e) (k := 25) (by decide), ?_⟩
        conv => whnf
        refine ⟨⟨by omega, by omega⟩, ?_⟩
        conv => whnf
        rw [Int.toNat_natCast, gc]
        conv => whnf
        refine ⟨⟨by omega, by omega⟩, ?_⟩
        conv => whnf
        rw [Int.toNat_natCast, gw]
        conv => whnf
        refine ⟨by kernel_rfl, ?_⟩
        conv => whnf
        refine ⟨_, turn_c (x := a) (k := 2) (by decide), ?_⟩
        rintro _ _ ⟨rfl, rfl⟩
        conv => whnf
        refine ⟨_, turn_c (x := a) (k := 13) (by decide), ?_⟩
        rintro _ _ ⟨rfl, rfl⟩
        conv => whnf
        refine ⟨_, turn_c (x := a) (k := 22) (by decide), ?_⟩
        rintro _ _ ⟨rfl, rfl⟩
        conv => whnf
        simp only [w_xor, w_and, w_xorF, w_add]
        refine ⟨_, _, 4, (by omega : 64 - (j + 1) < 64 - j), ⟨j + 1, _, by omega, rfl, hr1.symm, rfl, rfl⟩, ⟨rfl, rfl, rfl, rfl, rfl, rfl, rfl, rfl, rfl, rfl, rfl, rfl, congrArg (fun z => some (i64 z)) e3, trivial⟩, rfl⟩
      · have q := of_decide_eq_false q
        obtain rfl : j = 64 := by omega
        rw [← hr]
        clear hr
        obtain ⟨a, b, c, d, e, f, g, k⟩ := r
        conv => whnf
        refine ⟨by decide, ?_⟩
        conv => whnf
        refine ⟨by decide, ?_⟩
        conv => whnf
        refine ⟨by decide, ?_⟩
        conv => whnf
        refine ⟨by decide, ?_⟩
        conv => whnf
        refine ⟨by decide, ?_⟩
        conv => whnf
        refine ⟨by decide, ?_⟩
        conv => whnf
        refine ⟨by decide, ?_⟩
        conv => whnf
        refine ⟨by decide, ?_⟩
        conv => whnf
        simp only [w_add, BitVec.add_comm a0 a, BitVec.add_comm b0 b, BitVec.add_comm c0 c, BitVec.add_comm d0 d, BitVec.add_comm e0 e, BitVec.add_comm f0 f, BitVec.add_comm g0 g, BitVec.add_comm k0 k]
        exact ⟨rfl, rfl⟩
end Go.Proofs.YtboohfijacjhjaaDoor
