/- sha-256's end, in plain Lean; the document's. -/
import Derived.Test.YtboohfijacjhjaaDoorS4
import Derived.Test.YtboohfijacjhjaaDoorAbW
set_option linter.unusedVariables false
namespace Go.Proofs.YtboohfijacjhjaaDoor
open Go.Ab

def H8.w (s : H8) : Nat → W32
  | 0 => s.a
  | 1 => s.b
  | 2 => s.c
  | 3 => s.d
  | 4 => s.e
  | 5 => s.f
  | 6 => s.g
  | _ => s.h
theorem H8.l_get {s : H8} {i : Nat} (h : i < 8) : s.l.getD i .nilP = wD (s.w i) := by
  have h8 : i = 0 ∨ i = 1 ∨ i = 2 ∨ i = 3 ∨ i = 4 ∨ i = 5 ∨ i = 6 ∨ i = 7 := by omega
  rcases h8 with rfl | rfl | rfl | rfl | rfl | rfl | rfl | rfl <;> rfl

/-- Bytes, and nothing behind them. -/
def arrB (n : Nat) (l : List UInt8) : List D := (l.map fun b => D.int .u8 (b.toNat : Int)) ++ List.replicate (n - l.length) (.int .u8 0)
theorem arrB_set {n : Nat} {l : List UInt8} {x : UInt8} (h : l.length < n) : (arrB n l).set l.length (.int .u8 (x.toNat : Int)) = arrB n (l ++ [x]) := by
  unfold arrB
  rw [List.set_append_right _ _ (by rw [List.length_map]; exact Nat.le_refl _), List.length_map, Nat.sub_self, List.map_append, List.length_append, List.append_assoc]
  congr 1
  rw [show n - l.length = (n - (l.length + 1)) + 1 by omega, List.replicate_succ]
  rfl
theorem arrB_new {n : Nat} {l : List UInt8} (h : l.length < n) : (arrB n l).getD l.length .nilP = .int .u8 0 := by
  unfold arrB
  rw [List.getD_eq_getElem?_getD, List.getElem?_append_right (by rw [List.length_map]; exact Nat.le_refl _), List.length_map, Nat.sub_self, List.getElem?_replicate, if_pos (by omega)]
  rfl
theorem arrB_full {n : Nat} {l : List UInt8} (h : l.length = n) : arrB n l = D.bytes ⟨l.toArray⟩ := by
  unfold arrB D.bytes
  rw [h, Nat.sub_self]
  simp

/-- The first values of a function. -/
def upto (f : Nat → UInt8) : Nat → List UInt8
  | 0 => []
  | n + 1 => upto f n ++ [f n]
theorem upto_len (f : Nat → UInt8) : ∀ n, (upto f n).length = n
  | 0 => rfl
  | n + 1 => by rw [upto, List.length_append, upto_len f n]; rfl

def beB (n i : Nat) : UInt8 := UInt8.ofNat (n / 2 ^ (56 - 8 * i))
def dgBs (h : H8) (i : Nat) : UInt8 := UInt8.ofNat ((h.w (i / 4)).toNat / 2 ^ (24 - 8 * (i % 4)))
def ofL8 (l : List UInt8) : ByteArray := ⟨l.toArray⟩
def digP (h : H8) : ByteArray := ofL8 (upto (dgBs h) 32)
def zeros (k : Nat) : List UInt8 := List.replicate k 0
def padL (r : Nat) (c : Nat) : List UInt8 := 128 :: (zeros ((119 - r % 64) % 64) ++ upto (beB (8 * c % 18446744073709551616)) 8)
def endP (h : H8) (r : ByteArray) (c : Nat) : ByteArray := digP (afterP h (r ++ ofL8 (padL r.size c))).1

theorem digP_size (h : H8) : (digP h).size = 32 := by
  show (upto (dgBs h) 32).toArray.size = 32
  rw [List.size_toArray, upto_len]

theorem fdiv_pow (n k : Nat) : ((n : Nat) : Int).fdiv ((2 : Int) ^ k) = ((n / 2 ^ k : Nat) : Int) := by
  rw [pow2, Int.fdiv_eq_ediv_of_nonneg _ (Int.natCast_nonneg _), Int.natCast_ediv]
theorem u8w_of (n : Nat) : IntKind.u8.wrap (n : Int) = ((UInt8.ofNat n).toNat : Int) := by
  rw [IntKind.wrap_u8, UInt8.toNat_ofNat']; omega
theorem beV (n i : Nat) (hi : i < 8) : IntKind.u8.wrap (((n : Nat) : Int).fdiv ((2 : Int) ^ min (((56 - 8 * i : Nat) : Int)).toNat IntKind.u64.bits)) = ((beB n i).toNat : Int) := by
  rw [Int.toNat_natCast, Nat.min_eq_left (show 56 - 8 * i ≤ IntKind.u64.bits by show _ ≤ 64; omega), fdiv_pow]
  exact u8w_of _
theorem dgV (h : H8) (i : Nat) : IntKind.u8.wrap ((wi (h.w (i / 4))).fdiv ((2 : Int) ^ min (((24 - 8 * (i % 4) : Nat) : Int)).toNat IntKind.u32.bits)) = ((dgBs h i).toNat : Int) := by
  unfold wi
  rw [Int.toNat_natCast, Nat.min_eq_left (show 24 - 8 * (i % 4) ≤ IntKind.u32.bits by show _ ≤ 32; omega), fdiv_pow]
  exact u8w_of _

abbrev tU8 : List UInt8 → List D := fun l => l.map fun b => D.int .u8 (b.toNat : Int)
theorem ofL8_size (l : List UInt8) : (ofL8 l).size = l.length := by simp [ofL8, ByteArray.size]
theorem bytes_ofL8 (l : List UInt8) : D.bytes (ofL8 l) = tU8 l := by simp [D.bytes, ofL8]
theorem bytes_app (a b : ByteArray) : D.bytes (a ++ b) = D.bytes a ++ D.bytes b := by simp [D.bytes]

theorem rend_sha {h : H8} {r : ByteArray} {c : Nat} (hc : c < 18446744073709551616) (hr : r.size ≤ 100000) :
    CallR cx 141 [.d h.D, .d (.sl 1 (D.bytes r)), u64 ((c : Nat) : Int)] [] fun v S => v = .d (dgD (endP h r c)) ∧ S = [] := by
  have e8 : IntKind.u64.wrap (8 * ((c : Nat) : Int)) = ((8 * c % 18446744073709551616 : Nat) : Int) := by rw [IntKind.wrap_u64]; omega
  have hpl : (padL r.size c).length ≤ 100 := by
    unfold padL zeros
    rw [List.length_cons, List.length_append, List.length_replicate, upto_len]; omega
  have ra := rafter_c (h := h) (s0 := r ++ ofL8 (padL r.size c)) (by
    rw [ByteArray.size_append]
    rw [ofL8_size]
    omega)
  have hbl := bytes_length r
  rw [bytes_app, bytes_ofL8] at ra
  unfold endP
  generalize (afterP h (r ++ ofL8 (padL r.size c))).2 = rest at ra
  generalize (afterP h (r ++ ofL8 (padL r.size c))).1 = Q at *
  unfold padL at ra
  generalize 8 * c % 18446744073709551616 = N at *
  obtain ⟨Z, hZ⟩ : ∃ Z, Z = (119 - r.size % 64) % 64 := ⟨_, rfl⟩
  rw [← hZ] at ra
  generalize hB : D.bytes r = B0 at *
  obtain ⟨a0, b0, c0, d0, e0, f0, g0, k0⟩ := h
  refine callR_of (R := R2) cx_ok Tryd.func141 (by kernel_rfl) rfl ?_
  conv => whnf
  refine .inr ⟨5, 1, ?_⟩
  conv => whnf
  by_cases hz : B0 = []
  · subst hz
    refine .inr ⟨rfl, ?_⟩
    conv => whnf
    refine .inl ⟨⟨Nat.succ_pos _, by show (0 + 1) * (1 + 1) ≤ _; omega⟩, ?_⟩
    conv => whnf
    refine .inr ⟨fun p L S => ∃ z : Nat, z ≤ Z ∧ p = Z - z ∧ L = [(2, u64 ((c : Nat) : Int)), (3, .ptr 0 []), (6, .ptr 1 []), (7, .row 3)] ∧ S = [.var (.d (H8.mk a0 b0 c0 d0 e0 f0 g0 k0).D), .var (.d (.arr 32 1 (List.replicate 32 (.int .u8 0)))), .sealed (.sl 1 []), .row 5 1 ([] ++ tU8 (128 :: zeros z))],
      ⟨_, _, ⟨0, Nat.zero_le _, rfl, rfl, rfl⟩, ⟨rfl, rfl, rfl, rfl, trivial⟩⟩, ?_⟩
    rintro p _ _ ⟨z, hzZ, rfl, rfl, rfl⟩
    have hxl : ([] ++ tU8 (128 :: zeros z)).length = r.size + 1 + z := by
      rw [List.length_append, hbl, List.length_map, List.length_cons, zeros, List.length_replicate]; omega
    conv => whnf
    rw [hxl]
    refine ⟨by decide, ?_⟩
    conv => whnf
    refine brec (fun q => ?_) (fun q => ?_)
    · have q : ¬ ((r.size + 1 + z : Nat) : Int).tmod 64 = 56 := bne_iff_ne.1 q
      rw [Int.tmod_eq_emod_of_nonneg (by omega)] at q
      have hlt : z < Z := by omega
      conv => whnf
      refine .inl ⟨⟨Nat.succ_pos _, by rw [hxl]; show (r.size + 1 + z + 1) * (1 + 1) ≤ _; omega⟩, ?_⟩
      conv => whnf
      refine ⟨Z - (z + 1), [(2, u64 ((c : Nat) : Int)), (3, .ptr 0 []), (6, .ptr 1 []), (7, .row 4)], [0, 1, 2, 4], by omega, ⟨rfl, rfl, rfl, rfl, trivial⟩, ?_⟩
      conv => whnf
      refine ⟨z + 1, by omega, rfl, rfl, ?_⟩
      have e : [] ++ tU8 (128 :: zeros z) ++ [.int .u8 0] = [] ++ tU8 (128 :: zeros (z + 1)) := by
        rw [List.append_assoc]
        congr 1
        show tU8 (128 :: zeros z) ++ tU8 [0] = _
        rw [← List.map_append, zeros, zeros, List.replicate_succ']
        rfl
      rw [← e]
      rfl
    · have q : ((r.size + 1 + z : Nat) : Int).tmod 64 = 56 := by simpa using q
      rw [Int.tmod_eq_emod_of_nonneg (by omega)] at q
      obtain rfl : z = Z := by omega
      conv => whnf
      rw [e8]
      refine .inr ⟨fun p L S => ∃ i : Nat, i ≤ 8 ∧ p = 8 - i ∧ L = [(3, .ptr 0 []), (6, .ptr 1 []), (7, .row 3), (8, u64 ((N : Nat) : Int)), (9, i64 (i : Int))] ∧ S = [.var (.d (H8.mk a0 b0 c0 d0 e0 f0 g0 k0).D), .var (.d (.arr 32 1 (List.replicate 32 (.int .u8 0)))), .sealed (.sl 1 []), .row 5 1 ([] ++ tU8 (128 :: (zeros z ++ upto (beB N) i)))],
        ⟨_, _, ⟨0, Nat.zero_le _, rfl, rfl, by rw [upto, List.append_nil]⟩, ⟨rfl, rfl, rfl, rfl, rfl, trivial⟩⟩, ?_⟩
      rintro p _ _ ⟨i, hi, rfl, rfl, rfl⟩
      have hxl2 : ([] ++ tU8 (128 :: (zeros z ++ upto (beB N) i))).length = r.size + 1 + z + i := by
        rw [List.length_append, hbl, List.length_map, List.length_cons, List.length_append, zeros, List.length_replicate, upto_len]; omega
      conv => whnf
      refine brec (fun q => ?_) (fun q => ?_)
      · have q := of_decide_eq_true q
        have hlt : i < 8 := by omega
        have e3 : IntKind.i64.wrap ((i : Int) + 1) = ((i + 1 : Nat) : Int) := by rw [w64 (by omega)]; omega
        have e4 : IntKind.u64.wrap (IntKind.i64.wrap (56 - IntKind.i64.wrap (8 * (i : Int)))) = ((56 - 8 * i : Nat) : Int) := by
          rw [w64 (n := 8 * (i : Int)) (by omega), w64 (by omega), IntKind.wrap_u64]; omega
        conv => whnf
        rw [e4]
        refine ⟨by omega, ?_⟩
        conv => whnf
        rw [beV N i hlt]
        refine .inl ⟨⟨Nat.succ_pos _, by rw [hxl2]; show (r.size + 1 + z + i + 1) * (1 + 1) ≤ _; omega⟩, ?_⟩
        conv => whnf
        rw [e3]
        refine ⟨8 - (i + 1), [(3, .ptr 0 []), (6, .ptr 1 []), (7, .row 4), (8, u64 ((N : Nat) : Int)), (9, i64 ((i + 1 : Nat) : Int))], [0, 1, 2, 4], by omega, ⟨rfl, rfl, rfl, rfl, rfl, trivial⟩, ?_⟩
        conv => whnf
        refine ⟨i + 1, by omega, rfl, rfl, ?_⟩
        have e : [] ++ tU8 (128 :: (zeros z ++ upto (beB N) i)) ++ [.int .u8 ((beB N i).toNat : Int)] = [] ++ tU8 (128 :: (zeros z ++ upto (beB N) (i + 1))) := by
          rw [List.append_assoc, upto]
          congr 1
          show tU8 (128 :: (zeros z ++ upto (beB N) i)) ++ tU8 [beB N i] = _
          rw [← List.map_append, ← List.append_assoc]
          rfl
        rw [← e]
        rfl
      · have q := of_decide_eq_false q
        obtain rfl : i = 8 := by omega
        conv => whnf
        refine ⟨_, ra, ?_⟩
        rintro _ _ ⟨rfl, rfl⟩
        obtain ⟨a1, b1, c1, d1, e1, f1, g1, k1⟩ := Q
        conv => whnf
        refine .inl ⟨fun p L S => ∃ i : Nat, i ≤ 32 ∧ p = 32 - i ∧ L = [(3, .ptr 0 []), (6, .ptr 1 []), (10, .ptr 4 []), (11, i64 (i : Int))] ∧ S = [.var (.d (H8.mk a1 b1 c1 d1 e1 f1 g1 k1).D), .var (.d (.arr 32 1 (List.replicate 32 (.int .u8 0)))), .sealed (.sl 1 []), .row 5 1 ([] ++ tU8 (128 :: (zeros z ++ upto (beB N) 8))), .var (.d (.arr 32 1 (arrB 32 (upto (dgBs ⟨a1, b1, c1, d1, e1, f1, g1, k1⟩) i))))],
          ⟨_, _, ⟨0, Nat.zero_le _, rfl, rfl, rfl⟩, ⟨rfl, rfl, rfl, rfl, trivial⟩⟩, ?_⟩
        rintro p _ _ ⟨i, hi, rfl, rfl, rfl⟩
        have hul := upto_len (dgBs ⟨a1, b1, c1, d1, e1, f1, g1, k1⟩) i
        conv => whnf
        refine brec (fun q => ?_) (fun q => ?_)
        · have q := of_decide_eq_true q
          have hlt : i < 32 := by omega
          have e3 : IntKind.i64.wrap ((i : Int) + 1) = ((i + 1 : Nat) : Int) := by rw [w64 (by omega)]; omega
          have eq4 : IntKind.i64.wrap (((i : Nat) : Int).tdiv 4) = ((i / 4 : Nat) : Int) := by rw [Int.tdiv_eq_ediv_of_nonneg (by omega), w64 (by omega)]; omega
          have er4 : IntKind.u64.wrap (IntKind.i64.wrap (24 - IntKind.i64.wrap (8 * ((i : Nat) : Int).tmod 4))) = ((24 - 8 * (i % 4) : Nat) : Int) := by
            rw [Int.tmod_eq_emod_of_nonneg (by omega), w64 (n := 8 * ((i : Int) % 4)) (by omega), w64 (by omega), IntKind.wrap_u64]; omega
          have gl := H8.l_get (s := ⟨a1, b1, c1, d1, e1, f1, g1, k1⟩) (i := i / 4) (by omega)
          have gv := dgV ⟨a1, b1, c1, d1, e1, f1, g1, k1⟩ i
          have hN : (arrB 32 (upto (dgBs ⟨a1, b1, c1, d1, e1, f1, g1, k1⟩) i)).getD i .nilP = .int .u8 0 := by
            have := arrB_new (n := 32) (l := upto (dgBs ⟨a1, b1, c1, d1, e1, f1, g1, k1⟩) i) (by rw [hul]; exact hlt)
            rw [hul] at this; exact this
          have e5 : arrB 32 (upto (dgBs ⟨a1, b1, c1, d1, e1, f1, g1, k1⟩) (i + 1)) = (arrB 32 (upto (dgBs ⟨a1, b1, c1, d1, e1, f1, g1, k1⟩) i)).set i (.int .u8 ((dgBs ⟨a1, b1, c1, d1, e1, f1, g1, k1⟩ i).toNat : Int)) := by
            rw [upto, ← arrB_set (by rw [hul]; exact hlt), hul]
          conv => whnf
          refine ⟨by decide, ?_⟩
          conv => whnf
          rw [eq4]
          refine ⟨⟨by omega, by omega⟩, ?_⟩
          conv => whnf
          rw [Int.toNat_natCast, gl]
          conv => whnf
          refine ⟨by decide, ?_⟩
          conv => whnf
          rw [er4]
          refine ⟨by omega, ?_⟩
          conv => whnf
          rw [gv]
          refine ⟨⟨by omega, by omega⟩, ?_⟩
          conv => whnf
          rw [Int.toNat_natCast, tiu8, setP_int (a := 0) hN]
          conv => whnf
          refine ⟨_, _, 5, (by omega : 32 - (i + 1) < 32 - i), ⟨i + 1, by omega, rfl, rfl, ?_⟩, ⟨rfl, rfl, rfl, congrArg (fun z => some (i64 z)) e3, trivial⟩, rfl⟩
          rw [e5]
          rfl
        · have q := of_decide_eq_false q
          obtain rfl : i = 32 := by omega
          have ed : dgD (digP ⟨a1, b1, c1, d1, e1, f1, g1, k1⟩) = .arr 32 1 (arrB 32 (upto (dgBs ⟨a1, b1, c1, d1, e1, f1, g1, k1⟩) 32)) := by
            rw [arrB_full (upto_len _ _)]; rfl
          rw [ed]
          conv => whnf
          exact ⟨rfl, rfl⟩
  · have hz2 : 0 < B0.length := List.length_pos_iff.2 hz
    refine .inl ⟨⟨hz2, by show (0 + B0.length) * (1 + 1) ≤ _; omega⟩, ?_⟩
    conv => whnf
    refine .inl ⟨⟨Nat.succ_pos _, by show (([] ++ B0).length + 1) * (1 + 1) ≤ _; rw [List.nil_append]; omega⟩, ?_⟩
    conv => whnf
    refine .inr ⟨fun p L S => ∃ z : Nat, z ≤ Z ∧ p = Z - z ∧ L = [(2, u64 ((c : Nat) : Int)), (3, .ptr 0 []), (6, .ptr 1 []), (7, .row 4)] ∧ S = [.var (.d (H8.mk a0 b0 c0 d0 e0 f0 g0 k0).D), .var (.d (.arr 32 1 (List.replicate 32 (.int .u8 0)))), .sealed (.sl 1 []), .sealed (.sl 1 ([] ++ B0)), .row 5 1 (B0 ++ tU8 (128 :: zeros z))],
      ⟨_, _, ⟨0, Nat.zero_le _, rfl, rfl, rfl⟩, ⟨rfl, rfl, rfl, rfl, trivial⟩⟩, ?_⟩
    rintro p _ _ ⟨z, hzZ, rfl, rfl, rfl⟩
    have hxl : (B0 ++ tU8 (128 :: zeros z)).length = r.size + 1 + z := by
      rw [List.length_append, hbl, List.length_map, List.length_cons, zeros, List.length_replicate]; omega
    conv => whnf
    rw [hxl]
    refine ⟨by decide, ?_⟩
    conv => whnf
    refine brec (fun q => ?_) (fun q => ?_)
    · have q : ¬ ((r.size + 1 + z : Nat) : Int).tmod 64 = 56 := bne_iff_ne.1 q
      rw [Int.tmod_eq_emod_of_nonneg (by omega)] at q
      have hlt : z < Z := by omega
      conv => whnf
      refine .inl ⟨⟨Nat.succ_pos _, by rw [hxl]; show (r.size + 1 + z + 1) * (1 + 1) ≤ _; omega⟩, ?_⟩
      conv => whnf
      refine ⟨Z - (z + 1), [(2, u64 ((c : Nat) : Int)), (3, .ptr 0 []), (6, .ptr 1 []), (7, .row 5)], [0, 1, 2, 3, 5], by omega, ⟨rfl, rfl, rfl, rfl, trivial⟩, ?_⟩
      conv => whnf
      refine ⟨z + 1, by omega, rfl, rfl, ?_⟩
      have e : B0 ++ tU8 (128 :: zeros z) ++ [.int .u8 0] = B0 ++ tU8 (128 :: zeros (z + 1)) := by
        rw [List.append_assoc]
        congr 1
        show tU8 (128 :: zeros z) ++ tU8 [0] = _
        rw [← List.map_append, zeros, zeros, List.replicate_succ']
        rfl
      rw [← e]
      rfl
    · have q : ((r.size + 1 + z : Nat) : Int).tmod 64 = 56 := by simpa using q
      rw [Int.tmod_eq_emod_of_nonneg (by omega)] at q
      obtain rfl : z = Z := by omega
      conv => whnf
      rw [e8]
      refine .inr ⟨fun p L S => ∃ i : Nat, i ≤ 8 ∧ p = 8 - i ∧ L = [(3, .ptr 0 []), (6, .ptr 1 []), (7, .row 4), (8, u64 ((N : Nat) : Int)), (9, i64 (i : Int))] ∧ S = [.var (.d (H8.mk a0 b0 c0 d0 e0 f0 g0 k0).D), .var (.d (.arr 32 1 (List.replicate 32 (.int .u8 0)))), .sealed (.sl 1 []), .sealed (.sl 1 ([] ++ B0)), .row 5 1 (B0 ++ tU8 (128 :: (zeros z ++ upto (beB N) i)))],
        ⟨_, _, ⟨0, Nat.zero_le _, rfl, rfl, by rw [upto, List.append_nil]⟩, ⟨rfl, rfl, rfl, rfl, rfl, trivial⟩⟩, ?_⟩
      rintro p _ _ ⟨i, hi, rfl, rfl, rfl⟩
      have hxl2 : (B0 ++ tU8 (128 :: (zeros z ++ upto (beB N) i))).length = r.size + 1 + z + i := by
        rw [List.length_append, hbl, List.length_map, List.length_cons, List.length_append, zeros, List.length_replicate, upto_len]; omega
      conv => whnf
      refine brec (fun q => ?_) (fun q => ?_)
      · have q := of_decide_eq_true q
        have hlt : i < 8 := by omega
        have e3 : IntKind.i64.wrap ((i : Int) + 1) = ((i + 1 : Nat) : Int) := by rw [w64 (by omega)]; omega
        have e4 : IntKind.u64.wrap (IntKind.i64.wrap (56 - IntKind.i64.wrap (8 * (i : Int)))) = ((56 - 8 * i : Nat) : Int) := by
          rw [w64 (n := 8 * (i : Int)) (by omega), w64 (by omega), IntKind.wrap_u64]; omega
        conv => whnf
        rw [e4]
        refine ⟨by omega, ?_⟩
        conv => whnf
        rw [beV N i hlt]
        refine .inl ⟨⟨Nat.succ_pos _, by rw [hxl2]; show (r.size + 1 + z + i + 1) * (1 + 1) ≤ _; omega⟩, ?_⟩
        conv => whnf
        rw [e3]
        refine ⟨8 - (i + 1), [(3, .ptr 0 []), (6, .ptr 1 []), (7, .row 5), (8, u64 ((N : Nat) : Int)), (9, i64 ((i + 1 : Nat) : Int))], [0, 1, 2, 3, 5], by omega, ⟨rfl, rfl, rfl, rfl, rfl, trivial⟩, ?_⟩
        conv => whnf
        refine ⟨i + 1, by omega, rfl, rfl, ?_⟩
        have e : B0 ++ tU8 (128 :: (zeros z ++ upto (beB N) i)) ++ [.int .u8 ((beB N i).toNat : Int)] = B0 ++ tU8 (128 :: (zeros z ++ upto (beB N) (i + 1))) := by
          rw [List.append_assoc, upto]
          congr 1
          show tU8 (128 :: (zeros z ++ upto (beB N) i)) ++ tU8 [beB N i] = _
          rw [← List.map_append, ← List.append_assoc]
          rfl
        rw [← e]
        rfl
      · have q := of_decide_eq_false q
        obtain rfl : i = 8 := by omega
        conv => whnf
        refine ⟨_, ra, ?_⟩
        rintro _ _ ⟨rfl, rfl⟩
        obtain ⟨a1, b1, c1, d1, e1, f1, g1, k1⟩ := Q
        conv => whnf
        refine .inl ⟨fun p L S => ∃ i : Nat, i ≤ 32 ∧ p = 32 - i ∧ L = [(3, .ptr 0 []), (6, .ptr 1 []), (10, .ptr 5 []), (11, i64 (i : Int))] ∧ S = [.var (.d (H8.mk a1 b1 c1 d1 e1 f1 g1 k1).D), .var (.d (.arr 32 1 (List.replicate 32 (.int .u8 0)))), .sealed (.sl 1 []), .sealed (.sl 1 ([] ++ B0)), .row 5 1 (B0 ++ tU8 (128 :: (zeros z ++ upto (beB N) 8))), .var (.d (.arr 32 1 (arrB 32 (upto (dgBs ⟨a1, b1, c1, d1, e1, f1, g1, k1⟩) i))))],
          ⟨_, _, ⟨0, Nat.zero_le _, rfl, rfl, rfl⟩, ⟨rfl, rfl, rfl, rfl, trivial⟩⟩, ?_⟩
        rintro p _ _ ⟨i, hi, rfl, rfl, rfl⟩
        have hul := upto_len (dgBs ⟨a1, b1, c1, d1, e1, f1, g1, k1⟩) i
        conv => whnf
        refine brec (fun q => ?_) (fun q => ?_)
        · have q := of_decide_eq_true q
          have hlt : i < 32 := by omega
          have e3 : IntKind.i64.wrap ((i : Int) + 1) = ((i + 1 : Nat) : Int) := by rw [w64 (by omega)]; omega
          have eq4 : IntKind.i64.wrap (((i : Nat) : Int).tdiv 4) = ((i / 4 : Nat) : Int) := by rw [Int.tdiv_eq_ediv_of_nonneg (by omega), w64 (by omega)]; omega
          have er4 : IntKind.u64.wrap (IntKind.i64.wrap (24 - IntKind.i64.wrap (8 * ((i : Nat) : Int).tmod 4))) = ((24 - 8 * (i % 4) : Nat) : Int) := by
            rw [Int.tmod_eq_emod_of_nonneg (by omega), w64 (n := 8 * ((i : Int) % 4)) (by omega), w64 (by omega), IntKind.wrap_u64]; omega
          have gl := H8.l_get (s := ⟨a1, b1, c1, d1, e1, f1, g1, k1⟩) (i := i / 4) (by omega)
          have gv := dgV ⟨a1, b1, c1, d1, e1, f1, g1, k1⟩ i
          have hN : (arrB 32 (upto (dgBs ⟨a1, b1, c1, d1, e1, f1, g1, k1⟩) i)).getD i .nilP = .int .u8 0 := by
            have := arrB_new (n := 32) (l := upto (dgBs ⟨a1, b1, c1, d1, e1, f1, g1, k1⟩) i) (by rw [hul]; exact hlt)
            rw [hul] at this; exact this
          have e5 : arrB 32 (upto (dgBs ⟨a1, b1, c1, d1, e1, f1, g1, k1⟩) (i + 1)) = (arrB 32 (upto (dgBs ⟨a1, b1, c1, d1, e1, f1, g1, k1⟩) i)).set i (.int .u8 ((dgBs ⟨a1, b1, c1, d1, e1, f1, g1, k1⟩ i).toNat : Int)) := by
            rw [upto, ← arrB_set (by rw [hul]; exact hlt), hul]
          conv => whnf
          refine ⟨by decide, ?_⟩
          conv => whnf
          rw [eq4]
          refine ⟨⟨by omega, by omega⟩, ?_⟩
          conv => whnf
          rw [Int.toNat_natCast, gl]
          conv => whnf
          refine ⟨by decide, ?_⟩
          conv => whnf
          rw [er4]
          refine ⟨by omega, ?_⟩
          conv => whnf
          rw [gv]
          refine ⟨⟨by omega, by omega⟩, ?_⟩
          conv => whnf
          rw [Int.toNat_natCast, tiu8, setP_int (a := 0) hN]
          conv => whnf
          refine ⟨_, _, 6, (by omega : 32 - (i + 1) < 32 - i), ⟨i + 1, by omega, rfl, rfl, ?_⟩, ⟨rfl, rfl, rfl, congrArg (fun z => some (i64 z)) e3, trivial⟩, rfl⟩
          rw [e5]
          rfl
        · have q := of_decide_eq_false q
          obtain rfl : i = 32 := by omega
          have ed : dgD (digP ⟨a1, b1, c1, d1, e1, f1, g1, k1⟩) = .arr 32 1 (arrB 32 (upto (dgBs ⟨a1, b1, c1, d1, e1, f1, g1, k1⟩) 32)) := by
            rw [arrB_full (upto_len _ _)]; rfl
          rw [ed]
          conv => whnf
          exact ⟨rfl, rfl⟩
end Go.Proofs.YtboohfijacjhjaaDoor
