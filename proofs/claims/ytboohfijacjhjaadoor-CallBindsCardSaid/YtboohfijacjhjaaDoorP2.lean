/- What one statement needs of the texts, by slice.py. -/
import Derived.Test.YtboohfijacjhjaaDoorP1

/- Readers of bytes: what they do. Payloads: what they are, their bytes. Payloads: read; what is written is read as it was. -/
set_option linter.unusedVariables false
namespace Go.Proofs.YtboohfijacjhjaaDoor
open Go.Ab Go.RowKit

/-- A reader: what is left, what is wrong. -/
abbrev rd (s : ByteArray) (e : Int) : D := .agg [.str s, .int .i64 e]

def tkS (s : ByteArray) (e n : Int) : ByteArray := if e = 0 ∧ n ≤ s.size then s.extract 0 n.toNat else .empty

def tkR (s : ByteArray) (e n : Int) : ByteArray := if e = 0 ∧ n ≤ s.size then s.extract n.toNat s.size else s

def rd_tkE (s : ByteArray) (e n : Int) : Int := if e = 0 then (if n ≤ s.size then 0 else 3) else e

theorem rd_take_c {s : ByteArray} {e n : Int} (hn : 0 ≤ n) : CallR cx 121 [.ptr 0 [], i64 n] [.var (.d (rd s e))] fun r S =>
    r = st (tkS s e n) ∧ S = [.var (.d (rd (tkR s e n) (rd_tkE s e n)))] := by
  refine callR_of (R := R1) cx_ok Tryd.func121 (by kernel_rfl) rfl ?_
  conv => whnf
  refine brec (fun h => ?_) (fun h => ?_)
  · have h : ¬ e = 0 := by simpa using h
    have e1 : tkS s e n = .empty := if_neg fun g => h g.1
    have e2 : tkR s e n = s := if_neg fun g => h g.1
    have e3 : rd_tkE s e n = e := if_neg h
    rw [e1, e2, e3]
    conv => whnf
    exact ⟨rfl, rfl⟩
  · have h : e = 0 := by simpa using h
    subst h
    conv => whnf
    refine brec (fun g => ?_) (fun g => ?_)
    · have g := of_decide_eq_true g
      have e1 : tkS s 0 n = .empty := if_neg fun k => by omega
      have e2 : tkR s 0 n = s := if_neg fun k => by omega
      have e3 : rd_tkE s 0 n = 3 := by unfold rd_tkE; rw [if_pos rfl, if_neg (by omega)]
      rw [e1, e2, e3]
      conv => whnf
      exact ⟨rfl, rfl⟩
    · have g := of_decide_eq_false g
      have g : n ≤ s.size := by omega
      have e1 : tkS s 0 n = s.extract 0 n.toNat := if_pos ⟨rfl, g⟩
      have e2 : tkR s 0 n = s.extract n.toNat s.size := if_pos ⟨rfl, g⟩
      have e3 : rd_tkE s 0 n = 0 := by unfold rd_tkE; rw [if_pos rfl, if_pos g]
      rw [e1, e2, e3]
      conv => whnf
      refine ⟨⟨by decide, hn, g⟩, ?_⟩
      conv => whnf
      refine ⟨⟨hn, g, Int.le_refl _⟩, ?_⟩
      conv => whnf
      exact ⟨rfl, rfl⟩

theorem fail_c {s : ByteArray} {e f : Int} : CallR cx 93 [.ptr 0 [], i64 f] [.var (.d (rd s e))] fun r S =>
    r = .tup [] ∧ S = [.var (.d (rd s (if e = 0 then f else e)))] := by
  refine callR_of (R := R1) cx_ok Tryd.func93 (by kernel_rfl) rfl ?_
  conv => whnf
  refine brec (fun h => ?_) (fun h => ?_)
  · have h : e = 0 := by simpa using h
    rw [if_pos h]
    conv => whnf
    exact ⟨rfl, rfl⟩
  · have h : ¬ e = 0 := by simpa using h
    rw [if_neg h]
    conv => whnf
    exact ⟨rfl, rfl⟩

theorem end_c {s : ByteArray} {e : Int} : CallR cx 66 [.ptr 0 []] [.var (.d (rd s e))] fun r S =>
    r = i64 (if e = 0 then (if s = .empty then 0 else 4) else e) ∧ S = [.var (.d (rd s e))] := by
  refine callR_of (R := R1) cx_ok Tryd.func66 (by kernel_rfl) rfl ?_
  conv => whnf
  refine brec (fun h => ?_) (fun h => ?_)
  · have h : e = 0 := by simpa using h
    subst h
    rw [if_pos rfl]
    conv => whnf
    refine brec (fun g => ?_) (fun g => ?_)
    · have g : ¬ s = .empty := by
        intro e; subst e; simp at g; exact g rfl
      rw [if_neg g]
      conv => whnf
      exact ⟨rfl, rfl⟩
    · have g : s = .empty := (by simpa using g : s = ⟨#[]⟩)
      rw [if_pos g]
      conv => whnf
      exact ⟨rfl, rfl⟩
  · have h : ¬ e = 0 := by simpa using h
    rw [if_neg h]
    conv => whnf
    exact ⟨rfl, rfl⟩

/-- Bytes as a number, the highest first. -/
def be (l : List UInt8) (a : Nat) : Nat := l.foldl (fun a b => (a * 256 + b.toNat) % 18446744073709551616) a

theorem be_lt (l : List UInt8) {a : Nat} (h : a < 18446744073709551616) : be l a < 18446744073709551616 := by
  induction l generalizing a with
  | nil => exact h
  | cons b l ih => exact ih (Nat.mod_lt _ (by decide))

theorem wrapN {n : Nat} (h : n < 18446744073709551616) : IntKind.u64.wrap (n : Int) = n := wrapU ⟨by omega, by omega⟩

theorem or_sum {a b s : Nat} (hb : b < 2 ^ s) : a * 2 ^ s ||| b = a * 2 ^ s + b := by
  rw [← Nat.shiftLeft_eq, ← Nat.shiftLeft_add_eq_or_of_lt hb]

theorem be_step {a : Nat} (b : UInt8) (ha : a < 18446744073709551616) :
    IntKind.u64.wrap ((BitVec.ofInt IntKind.u64.bits (IntKind.u64.wrap ((a : Int) * 2 ^ min (8 : Int).toNat IntKind.u64.bits)) ||| BitVec.ofInt IntKind.u64.bits (IntKind.u64.wrap (b.toNat : Int))).toNat : Int) =
      (((a * 256 + b.toNat) % 18446744073709551616 : Nat) : Int) := by
  have hb : b.toNat < 256 := b.toNat_lt
  have e1 : IntKind.u64.wrap ((a : Int) * 2 ^ min (8 : Int).toNat IntKind.u64.bits) = ((a % 72057594037927936 * 2 ^ 8 : Nat) : Int) := by
    rw [Go.Ab.wrap64]
    show (a : Int) * 2 ^ 8 % _ = _
    omega
  have e2 : IntKind.u64.wrap (b.toNat : Int) = (b.toNat : Int) := wrapN (by omega)
  rw [e1, e2]
  have e : (BitVec.ofInt IntKind.u64.bits ((a % 72057594037927936 * 2 ^ 8 : Nat) : Int) ||| BitVec.ofInt IntKind.u64.bits (b.toNat : Int)).toNat = a % 72057594037927936 * 2 ^ 8 + b.toNat := by
    show (BitVec.ofInt 64 ((a % 72057594037927936 * 2 ^ 8 : Nat) : Int) ||| BitVec.ofInt 64 (b.toNat : Int)).toNat = _
    rw [BitVec.toNat_or, BitVec.toNat_ofInt, BitVec.toNat_ofInt]
    have g1 : ((a % 72057594037927936 * 2 ^ 8 : Nat) : Int) % ((2 ^ 64 : Nat) : Int) = ((a % 72057594037927936 * 2 ^ 8 : Nat) : Int) := by omega
    have g2 : (b.toNat : Int) % ((2 ^ 64 : Nat) : Int) = (b.toNat : Int) := by omega
    rw [g1, g2, Int.toNat_natCast, Int.toNat_natCast]
    exact or_sum hb
  rw [e, wrapN (by omega)]
  omega

theorem bytes_getD {s : ByteArray} {j : Nat} (h : j < s.data.toList.length) : (D.bytes s).getD (j : Int).toNat .nilP = .int .u8 ((s.data.toList[j]'h).toNat : Int) := by
  rw [Int.toNat_natCast, List.getD_eq_getElem?_getD]
  unfold D.bytes
  rw [List.getElem?_map, List.getElem?_eq_getElem h]
  rfl

theorem number_c {s : ByteArray} {e n : Int} (hn : 0 ≤ n) (hm : s.size < 9223372036854775807) : CallR cx 107 [.ptr 0 [], i64 n] [.var (.d (rd s e))] fun r S =>
    r = u64 ((be (tkS s e n).data.toList 0 : Nat) : Int) ∧ S = [.var (.d (rd (tkR s e n) (rd_tkE s e n)))] := by
  have ht : (tkS s e n).size ≤ s.size := by
    unfold tkS
    split
    · rw [ByteArray.size_extract]; omega
    · exact Nat.zero_le _
  have tk := rd_take_c (s := s) (e := e) hn
  generalize tkS s e n = t at *
  generalize rd (tkR s e n) (rd_tkE s e n) = R at *
  refine callR_of (R := R1) cx_ok Tryd.func107 (by kernel_rfl) rfl ?_
  conv => whnf
  refine ⟨_, tk, ?_⟩
  rintro _ _ ⟨rfl, rfl⟩
  conv => whnf
  refine ⟨by unfold maxLen; omega, ?_⟩
  conv => whnf
  refine .inl ⟨fun k l S => ∃ j : Nat, j ≤ t.data.toList.length ∧ k = t.data.toList.length - j ∧
      l = [(5, u64 ((be (t.data.toList.take j) 0 : Nat) : Int)), (11, .d (.sl 1 (D.bytes t))), (12, i64 (((D.bytes t).length : Nat) : Int)), (13, i64 (j : Int))] ∧ S = [.var (.d R)],
    ⟨_, _, ⟨0, Nat.zero_le _, rfl, rfl, rfl⟩, ⟨rfl, rfl, rfl, rfl, trivial⟩⟩, ?_⟩
  rintro _ _ _ ⟨j, hj, rfl, rfl, rfl⟩
  have hlen : (D.bytes t).length = t.data.toList.length := by simp [D.bytes]
  have hts : t.data.toList.length = t.size := by rw [Array.length_toList]; rfl
  conv => whnf
  refine brec (fun h1 => ?_) (fun h1 => ?_)
  · have h1 := of_decide_eq_true h1
    rw [hlen] at h1
    have hlt : j < t.data.toList.length := by omega
    conv => whnf
    refine ⟨⟨by omega, by rw [hlen]; omega⟩, ?_⟩
    rw [bytes_getD hlt]
    conv => whnf
    refine ⟨by decide, ?_⟩
    conv => whnf
    have e1 := be_step (a := be (t.data.toList.take j) 0) (t.data.toList[j]'hlt) (be_lt _ (by decide))
    have e2 : (be (t.data.toList.take j) 0 * 256 + (t.data.toList[j]'hlt).toNat) % 18446744073709551616 = be (t.data.toList.take (j + 1)) 0 := by
      rw [List.take_add_one, List.getElem?_eq_getElem hlt]
      unfold be
      rw [List.foldl_append]
      rfl
    rw [e2] at e1
    have e3 : IntKind.i64.wrap ((j : Int) + 1) = ((j + 1 : Nat) : Int) := by rw [IntKind.wrap_i64]; omega
    exact ⟨_, _, 1, (by omega : t.data.toList.length - (j + 1) < t.data.toList.length - j), ⟨j + 1, hlt, rfl, rfl, rfl⟩,
      ⟨congrArg (fun z => some (u64 z)) e1, rfl, rfl, congrArg (fun z => some (i64 z)) e3, trivial⟩, rfl⟩
  · have h1 := of_decide_eq_false h1
    rw [hlen] at h1
    have : j = t.data.toList.length := by omega
    subst this
    conv => whnf
    rw [List.take_length]
    exact ⟨rfl, rfl⟩

theorem byte_c {s : ByteArray} {e : Int} (hm : s.size < 9223372036854775807) : CallR cx 65 [.ptr 0 []] [.var (.d (rd s e))] fun r S =>
    r = u8 (IntKind.u8.wrap ((be (tkS s e 1).data.toList 0 : Nat) : Int)) ∧ S = [.var (.d (rd (tkR s e 1) (rd_tkE s e 1)))] := by
  refine callR_of (R := R1) cx_ok Tryd.func65 (by kernel_rfl) rfl ?_
  conv => whnf
  refine ⟨_, number_c (by decide) hm, ?_⟩
  rintro _ _ ⟨rfl, rfl⟩
  conv => whnf
  exact ⟨rfl, rfl⟩

theorem over_c {s : ByteArray} : CallR cx 63 [st s] [] fun r S => r = .ptr 0 [] ∧ S = [.var (.d (rd s 0))] := by
  refine callR_of (R := R1) cx_ok Tryd.func63 (by kernel_rfl) rfl ?_
  conv => whnf
  exact ⟨rfl, rfl⟩
end Go.Proofs.YtboohfijacjhjaaDoor

set_option linter.unusedVariables false
namespace Go.Proofs.YtboohfijacjhjaaDoor
open Go.Ab Go.RowKit

/-- A number's bytes, the highest first. -/
def bigB (n k : Nat) : ByteArray := ⟨((List.range k).map fun i => UInt8.ofNat (n / 256 ^ (k - 1 - i))).toArray⟩

abbrev by8 (n e : Nat) : D := .int .u8 ((UInt8.ofNat (n / 256 ^ e)).toNat : Int)

theorem bigB_bytes (n k : Nat) : D.bytes (bigB n k) = (List.range k).map fun i => by8 n (k - 1 - i) := by
  unfold D.bytes bigB
  rw [List.toList_toArray, List.map_map]
  rfl

theorem bigB_size (n k : Nat) : (bigB n k).size = k := by
  show ((List.range k).map _).toArray.size = k
  rw [List.size_toArray, List.length_map, List.length_range]

theorem pow256 (e : Nat) : 256 ^ e = 2 ^ (8 * e) := by rw [Nat.pow_mul]

theorem by8_eq (n e : Nat) {z : Int} (h : z = ((n / 256 ^ e : Nat) : Int)) : D.int .u8 (IntKind.u8.wrap z) = by8 n e := by
  subst h
  have e1 : IntKind.u8.wrap ((n / 256 ^ e : Nat) : Int) = ((n / 256 ^ e : Nat) : Int) % 256 := by simp [IntKind.wrap, IntKind.bits, IntKind.signed]
  show D.int .u8 _ = D.int .u8 _
  rw [e1, UInt8.toNat_ofNat']
  congr 1

theorem shr_e (n e : Nat) (b : Int) (hb : b = ((8 * e : Nat) : Int)) (h8 : 8 * e ≤ 64) : (n : Int).fdiv (2 ^ min b.toNat IntKind.u64.bits) = ((n / 256 ^ e : Nat) : Int) := by
  subst hb
  have : min ((8 * e : Nat) : Int).toNat IntKind.u64.bits = 8 * e := by rw [Int.toNat_natCast]; exact Nat.min_eq_left h8
  rw [this, Int.fdiv_eq_ediv_of_nonneg _ (by exact Int.le_of_lt (Int.pow_pos (by decide))), pow256, Int.natCast_ediv, Int.natCast_pow]
  rfl

abbrev z8 : D := .int .u8 0

theorem big1_c {n : Nat} : CallR cx 105 [u64 n, i64 1] [] fun r S => r = st (bigB n 1) ∧ S = [] := by
  let f : Nat → List D := fun i => match i with
    | 0 => [z8, z8, z8, z8, z8, z8, z8, z8]
    | _ => [by8 n 0, z8, z8, z8, z8, z8, z8, z8]
  refine callR_of (R := R1) cx_ok Tryd.func105 (by kernel_rfl) rfl ?_
  conv => whnf
  refine .inl ⟨fun m l S => ∃ i : Nat, i ≤ 1 ∧ m = 1 - i ∧ l = [(0, u64 n), (1, i64 1), (5, .ptr 0 []), (7, i64 1), (8, i64 (i : Int))] ∧
    S = [.var (.d (.arr 8 1 (f i)))], ⟨1, _, ⟨0, by decide, rfl, rfl, rfl⟩, ⟨rfl, rfl, rfl, rfl, rfl, trivial⟩⟩, ?_⟩
  rintro _ _ _ ⟨i, hi, rfl, rfl, rfl⟩
  rcases i with _ | _ | i
  · conv => whnf
    refine ⟨by decide, ?_⟩
    conv => whnf
    refine ⟨by decide, ?_⟩
    conv => whnf
    exact ⟨0, _, 1, by decide, ⟨1, by decide, rfl, rfl, congrArg (fun z => [Blk.var (.d (.arr 8 1 [z, z8, z8, z8, z8, z8, z8, z8]))]) (by8_eq n 0 (shr_e n 0 _ (by rfl) (by decide)))⟩, ⟨rfl, rfl, rfl, rfl, rfl, trivial⟩, rfl⟩
  · conv => whnf
    refine ⟨by decide, ?_⟩
    conv => whnf
    refine ⟨bigB n 1, ⟨by rw [bigB_bytes]; rfl, by rw [bigB_size]; rfl⟩, ?_⟩
    conv => whnf
    exact ⟨rfl, rfl⟩
  · omega

theorem big4_c {n : Nat} : CallR cx 105 [u64 n, i64 4] [] fun r S => r = st (bigB n 4) ∧ S = [] := by
  let f : Nat → List D := fun i => match i with
    | 0 => [z8, z8, z8, z8, z8, z8, z8, z8]
    | 1 => [by8 n 3, z8, z8, z8, z8, z8, z8, z8]
    | 2 => [by8 n 3, by8 n 2, z8, z8, z8, z8, z8, z8]
    | 3 => [by8 n 3, by8 n 2, by8 n 1, z8, z8, z8, z8, z8]
    | _ => [by8 n 3, by8 n 2, by8 n 1, by8 n 0, z8, z8, z8, z8]
  refine callR_of (R := R1) cx_ok Tryd.func105 (by kernel_rfl) rfl ?_
  conv => whnf
  refine .inl ⟨fun m l S => ∃ i : Nat, i ≤ 4 ∧ m = 4 - i ∧ l = [(0, u64 n), (1, i64 4), (5, .ptr 0 []), (7, i64 4), (8, i64 (i : Int))] ∧
    S = [.var (.d (.arr 8 1 (f i)))], ⟨4, _, ⟨0, by decide, rfl, rfl, rfl⟩, ⟨rfl, rfl, rfl, rfl, rfl, trivial⟩⟩, ?_⟩
  rintro _ _ _ ⟨i, hi, rfl, rfl, rfl⟩
  rcases i with _ | _ | _ | _ | _ | i
  · conv => whnf
    refine ⟨by decide, ?_⟩
    conv => whnf
    refine ⟨by decide, ?_⟩
    conv => whnf
    exact ⟨3, _, 1, by decide, ⟨1, by decide, rfl, rfl, congrArg (fun z => [Blk.var (.d (.arr 8 1 [z, z8, z8, z8, z8, z8, z8, z8]))]) (by8_eq n 3 (shr_e n 3 _ (by rfl) (by decide)))⟩, ⟨rfl, rfl, rfl, rfl, rfl, trivial⟩, rfl⟩
  · conv => whnf
    refine ⟨by decide, ?_⟩
    conv => whnf
    refine ⟨by decide, ?_⟩
    conv => whnf
    exact ⟨2, _, 1, by decide, ⟨2, by decide, rfl, rfl, congrArg (fun z => [Blk.var (.d (.arr 8 1 [by8 n 3, z, z8, z8, z8, z8, z8, z8]))]) (by8_eq n 2 (shr_e n 2 _ (by rfl) (by decide)))⟩, ⟨rfl, rfl, rfl, rfl, rfl, trivial⟩, rfl⟩
  · conv => whnf
    refine ⟨by decide, ?_⟩
    conv => whnf
    refine ⟨by decide, ?_⟩
    conv => whnf
    exact ⟨1, _, 1, by decide, ⟨3, by decide, rfl, rfl, congrArg (fun z => [Blk.var (.d (.arr 8 1 [by8 n 3, by8 n 2, z, z8, z8, z8, z8, z8]))]) (by8_eq n 1 (shr_e n 1 _ (by rfl) (by decide)))⟩, ⟨rfl, rfl, rfl, rfl, rfl, trivial⟩, rfl⟩
  · conv => whnf
    refine ⟨by decide, ?_⟩
    conv => whnf
    refine ⟨by decide, ?_⟩
    conv => whnf
    exact ⟨0, _, 1, by decide, ⟨4, by decide, rfl, rfl, congrArg (fun z => [Blk.var (.d (.arr 8 1 [by8 n 3, by8 n 2, by8 n 1, z, z8, z8, z8, z8]))]) (by8_eq n 0 (shr_e n 0 _ (by rfl) (by decide)))⟩, ⟨rfl, rfl, rfl, rfl, rfl, trivial⟩, rfl⟩
  · conv => whnf
    refine ⟨by decide, ?_⟩
    conv => whnf
    refine ⟨bigB n 4, ⟨by rw [bigB_bytes]; rfl, by rw [bigB_size]; rfl⟩, ?_⟩
    conv => whnf
    exact ⟨rfl, rfl⟩
  · omega

theorem big8_c {n : Nat} : CallR cx 105 [u64 n, i64 8] [] fun r S => r = st (bigB n 8) ∧ S = [] := by
  let f : Nat → List D := fun i => match i with
    | 0 => [z8, z8, z8, z8, z8, z8, z8, z8]
    | 1 => [by8 n 7, z8, z8, z8, z8, z8, z8, z8]
    | 2 => [by8 n 7, by8 n 6, z8, z8, z8, z8, z8, z8]
    | 3 => [by8 n 7, by8 n 6, by8 n 5, z8, z8, z8, z8, z8]
    | 4 => [by8 n 7, by8 n 6, by8 n 5, by8 n 4, z8, z8, z8, z8]
    | 5 => [by8 n 7, by8 n 6, by8 n 5, by8 n 4, by8 n 3, z8, z8, z8]
    | 6 => [by8 n 7, by8 n 6, by8 n 5, by8 n 4, by8 n 3, by8 n 2, z8, z8]
    | 7 => [by8 n 7, by8 n 6, by8 n 5, by8 n 4, by8 n 3, by8 n 2, by8 n 1, z8]
    | _ => [by8 n 7, by8 n 6, by8 n 5, by8 n 4, by8 n 3, by8 n 2, by8 n 1, by8 n 0]
  refine callR_of (R := R1) cx_ok Tryd.func105 (by kernel_rfl) rfl ?_
  conv => whnf
  refine .inl ⟨fun m l S => ∃ i : Nat, i ≤ 8 ∧ m = 8 - i ∧ l = [(0, u64 n), (1, i64 8), (5, .ptr 0 []), (7, i64 8), (8, i64 (i : Int))] ∧
    S = [.var (.d (.arr 8 1 (f i)))], ⟨8, _, ⟨0, by decide, rfl, rfl, rfl⟩, ⟨rfl, rfl, rfl, rfl, rfl, trivial⟩⟩, ?_⟩
  rintro _ _ _ ⟨i, hi, rfl, rfl, rfl⟩
  rcases i with _ | _ | _ | _ | _ | _ | _ | _ | _ | i
  · conv => whnf
    refine ⟨by decide, ?_⟩
    conv => whnf
    refine ⟨by decide, ?_⟩
    conv => whnf
    exact ⟨7, _, 1, by decide, ⟨1, by decide, rfl, rfl, congrArg (fun z => [Blk.var (.d (.arr 8 1 [z, z8, z8, z8, z8, z8, z8, z8]))]) (by8_eq n 7 (shr_e n 7 _ (by rfl) (by decide)))⟩, ⟨rfl, rfl, rfl, rfl, rfl, trivial⟩, rfl⟩
  · conv => whnf
    refine ⟨by decide, ?_⟩
    conv => whnf
    refine ⟨by decide, ?_⟩
    conv => whnf
    exact ⟨6, _, 1, by decide, ⟨2, by decide, rfl, rfl, congrArg (fun z => [Blk.var (.d (.arr 8 1 [by8 n 7, z, z8, z8, z8, z8, z8, z8]))]) (by8_eq n 6 (shr_e n 6 _ (by rfl) (by decide)))⟩, ⟨rfl, rfl, rfl, rfl, rfl, trivial⟩, rfl⟩
  · conv => whnf
    refine ⟨by decide, ?_⟩
    conv => whnf
    refine ⟨by decide, ?_⟩
    conv => whnf
    exact ⟨5, _, 1, by decide, ⟨3, by decide, rfl, rfl, congrArg (fun z => [Blk.var (.d (.arr 8 1 [by8 n 7, by8 n 6, z, z8, z8, z8, z8, z8]))]) (by8_eq n 5 (shr_e n 5 _ (by rfl) (by decide)))⟩, ⟨rfl, rfl, rfl, rfl, rfl, trivial⟩, rfl⟩
  · conv => whnf
    refine ⟨by decide, ?_⟩
    conv => whnf
    refine ⟨by decide, ?_⟩
    conv => whnf
    exact ⟨4, _, 1, by decide, ⟨4, by decide, rfl, rfl, congrArg (fun z => [Blk.var (.d (.arr 8 1 [by8 n 7, by8 n 6, by8 n 5, z, z8, z8, z8, z8]))]) (by8_eq n 4 (shr_e n 4 _ (by rfl) (by decide)))⟩, ⟨rfl, rfl, rfl, rfl, rfl, trivial⟩, rfl⟩
  · conv => whnf
    refine ⟨by decide, ?_⟩
    conv => whnf
    refine ⟨by decide, ?_⟩
    conv => whnf
    exact ⟨3, _, 1, by decide, ⟨5, by decide, rfl, rfl, congrArg (fun z => [Blk.var (.d (.arr 8 1 [by8 n 7, by8 n 6, by8 n 5, by8 n 4, z, z8, z8, z8]))]) (by8_eq n 3 (shr_e n 3 _ (by rfl) (by decide)))⟩, ⟨rfl, rfl, rfl, rfl, rfl, trivial⟩, rfl⟩
  · conv => whnf
    refine ⟨by decide, ?_⟩
    conv => whnf
    refine ⟨by decide, ?_⟩
    conv => whnf
    exact ⟨2, _, 1, by decide, ⟨6, by decide, rfl, rfl, congrArg (fun z => [Blk.var (.d (.arr 8 1 [by8 n 7, by8 n 6, by8 n 5, by8 n 4, by8 n 3, z, z8, z8]))]) (by8_eq n 2 (shr_e n 2 _ (by rfl) (by decide)))⟩, ⟨rfl, rfl, rfl, rfl, rfl, trivial⟩, rfl⟩
  · conv => whnf
    refine ⟨by decide, ?_⟩
    conv => whnf
    refine ⟨by decide, ?_⟩
    conv => whnf
    exact ⟨1, _, 1, by decide, ⟨7, by decide, rfl, rfl, congrArg (fun z => [Blk.var (.d (.arr 8 1 [by8 n 7, by8 n 6, by8 n 5, by8 n 4, by8 n 3, by8 n 2, z, z8]))]) (by8_eq n 1 (shr_e n 1 _ (by rfl) (by decide)))⟩, ⟨rfl, rfl, rfl, rfl, rfl, trivial⟩, rfl⟩
  · conv => whnf
    refine ⟨by decide, ?_⟩
    conv => whnf
    refine ⟨by decide, ?_⟩
    conv => whnf
    exact ⟨0, _, 1, by decide, ⟨8, by decide, rfl, rfl, congrArg (fun z => [Blk.var (.d (.arr 8 1 [by8 n 7, by8 n 6, by8 n 5, by8 n 4, by8 n 3, by8 n 2, by8 n 1, z]))]) (by8_eq n 0 (shr_e n 0 _ (by rfl) (by decide)))⟩, ⟨rfl, rfl, rfl, rfl, rfl, trivial⟩, rfl⟩
  · conv => whnf
    refine ⟨by decide, ?_⟩
    conv => whnf
    refine ⟨bigB n 8, ⟨by rw [bigB_bytes]; rfl, by rw [bigB_size]; rfl⟩, ?_⟩
    conv => whnf
    exact ⟨rfl, rfl⟩
  · omega

theorem mod_e (n e : Nat) : ((n / 256 ^ e : Nat) : Int).tmod 256 = ((n / 256 ^ e % 256 : Nat) : Int) := rfl

theorem by8_mod (n e : Nat) {z : Int} (h : z = ((n / 256 ^ e : Nat) : Int)) : D.int .u8 (IntKind.u8.wrap (z.tmod 256)) = by8 n e := by
  subst h
  have e1 : IntKind.u8.wrap ((n / 256 ^ e % 256 : Nat) : Int) = ((n / 256 ^ e % 256 : Nat) : Int) % 256 := by simp [IntKind.wrap, IntKind.bits, IntKind.signed]
  show D.int .u8 _ = D.int .u8 _
  rw [mod_e, e1, UInt8.toNat_ofNat']
  congr 1
  omega

theorem quo_e (n e : Nat) {z : Int} (hn : n < 18446744073709551616) (h : z = ((n / 256 ^ e : Nat) : Int)) : IntKind.u64.wrap (z.tdiv 256) = ((n / 256 ^ (e + 1) : Nat) : Int) := by
  subst h
  have h1 : n / 256 ^ e ≤ n := Nat.div_le_self _ _
  have h2 : n / 256 ^ (e + 1) = n / 256 ^ e / 256 := by rw [Nat.pow_succ, Nat.div_div_eq_div_mul]
  have h3 : ((n / 256 ^ e : Nat) : Int).tdiv 256 = ((n / 256 ^ e / 256 : Nat) : Int) := rfl
  rw [h2, h3]
  exact wrapN (by omega)

theorem div_1 (n : Nat) : ((n : Nat) : Int) = ((n / 256 ^ 0 : Nat) : Int) := by rw [Nat.pow_zero, Nat.div_one]

abbrev u32 (n : Int) : AV := .d (.int .u32 n)

theorem wrap32 {n : Int} (h : 0 ≤ n ∧ n < 4294967296) : IntKind.u32.wrap n = n := by
  simp [IntKind.wrap, IntKind.bits, IntKind.signed]; omega

theorem wrap8 {n : Int} (h : 0 ≤ n ∧ n < 256) : IntKind.u8.wrap n = n := by
  simp [IntKind.wrap, IntKind.bits, IntKind.signed]; omega

/-- A text's length, and it. -/
def textB (s : ByteArray) : ByteArray := bigB s.size 4 ++ s

theorem textB_size (s : ByteArray) : (textB s).size = 4 + s.size := by unfold textB; rw [ByteArray.size_append, bigB_size]

theorem wbyte_c {n : Nat} (h : n < 256) : CallR cx 57 [u8 n] [] fun r S => r = st (bigB n 1) ∧ S = [] := by
  have w : CallR cx 105 [u64 (IntKind.u64.wrap (n : Int)), i64 1] [] fun r S => r = st (bigB n 1) ∧ S = [] := by rw [wrapN (by omega)]; exact big1_c
  refine callR_of (R := R1) cx_ok Tryd.func57 (by kernel_rfl) rfl ?_
  conv => whnf
  refine ⟨_, w, ?_⟩
  rintro _ _ ⟨rfl, rfl⟩
  conv => whnf
  exact ⟨rfl, rfl⟩

theorem wword_c {n : Nat} (h : n < 4294967296) : CallR cx 58 [u32 n] [] fun r S => r = st (bigB n 4) ∧ S = [] := by
  have w : CallR cx 105 [u64 (IntKind.u64.wrap (n : Int)), i64 4] [] fun r S => r = st (bigB n 4) ∧ S = [] := by rw [wrapN (by omega)]; exact big4_c
  refine callR_of (R := R1) cx_ok Tryd.func58 (by kernel_rfl) rfl ?_
  conv => whnf
  refine ⟨_, w, ?_⟩
  rintro _ _ ⟨rfl, rfl⟩
  conv => whnf
  exact ⟨rfl, rfl⟩

theorem wlong_c {n : Nat} : CallR cx 60 [u64 n] [] fun r S => r = st (bigB n 8) ∧ S = [] := by
  refine callR_of (R := R1) cx_ok Tryd.func60 (by kernel_rfl) rfl ?_
  conv => whnf
  refine ⟨_, big8_c, ?_⟩
  rintro _ _ ⟨rfl, rfl⟩
  conv => whnf
  exact ⟨rfl, rfl⟩

theorem wtext_c {s : ByteArray} (h : s.size < 4294967296) : CallR cx 59 [st s] [] fun r S => r = st (textB s) ∧ S = [] := by
  have w : CallR cx 58 [u32 (IntKind.u32.wrap (s.size : Int))] [] fun r S => r = st (bigB s.size 4) ∧ S = [] := by rw [wrap32 (by omega)]; exact wword_c h
  refine callR_of (R := R1) cx_ok Tryd.func59 (by kernel_rfl) rfl ?_
  conv => whnf
  refine ⟨_, w, ?_⟩
  rintro _ _ ⟨rfl, rfl⟩
  conv => whnf
  refine ⟨by rw [bigB_size]; omega, ?_⟩
  conv => whnf
  exact ⟨rfl, rfl⟩

end Go.Proofs.YtboohfijacjhjaaDoor

set_option linter.unusedVariables false
namespace Go.Proofs.YtboohfijacjhjaaDoor
open Go.Ab Go.RowKit

/-- A reader: what is left, what is wrong. -/
structure Rs where
  s : ByteArray
  e : Int

def Rs.d (r : Rs) : D := rd r.s r.e

def Rs.got (r : Rs) (n : Int) : ByteArray := tkS r.s r.e n

def Rs.take (r : Rs) (n : Int) : Rs := ⟨tkR r.s r.e n, rd_tkE r.s r.e n⟩

def Rs.num (r : Rs) (n : Int) : Nat := be (r.got n).data.toList 0

def Rs.fail (r : Rs) (f : Int) : Rs := ⟨r.s, if r.e = 0 then f else r.e⟩

def Rs.cnt (r : Rs) (m : Int) : Int := if (r.num 4 : Int) > m then 0 else r.num 4

def Rs.cntR (r : Rs) (m : Int) : Rs := if (r.num 4 : Int) > m then (r.take 4).fail 5 else r.take 4

def Rs.txt (r : Rs) (m : Int) : ByteArray := (r.cntR m).got (r.cnt m)

def Rs.txtR (r : Rs) (m : Int) : Rs := (r.cntR m).take (r.cnt m)

def Rs.out (r : Rs) : Int := if r.e = 0 then (if r.s = .empty then 0 else 4) else r.e

theorem tkR_size (s : ByteArray) (e n : Int) : (tkR s e n).size ≤ s.size := by
  unfold tkR; split
  · rw [ByteArray.size_extract]; omega
  · omega

theorem take_size (r : Rs) (n : Int) : (r.take n).s.size ≤ r.s.size := tkR_size ..

theorem fail_size (r : Rs) (f : Int) : (r.fail f).s.size = r.s.size := rfl

theorem cntR_size (r : Rs) (m : Int) : (r.cntR m).s.size ≤ r.s.size := by
  unfold Rs.cntR; split
  · rw [fail_size]; exact take_size ..
  · exact take_size ..

theorem txtR_size (r : Rs) (m : Int) : (r.txtR m).s.size ≤ r.s.size := Nat.le_trans (take_size ..) (cntR_size ..)

theorem got_size (r : Rs) (n : Int) : (r.got n).size ≤ r.s.size := by
  unfold Rs.got tkS; split
  · rw [ByteArray.size_extract]; omega
  · exact Nat.zero_le _

theorem got_le {r : Rs} {n : Int} (hn : 0 ≤ n) : ((r.got n).size : Int) ≤ n := by
  unfold Rs.got tkS; split
  · rw [ByteArray.size_extract]; omega
  · exact hn

theorem txt_size (r : Rs) (m : Int) : (r.txt m).size ≤ r.s.size := Nat.le_trans (got_size ..) (cntR_size ..)

theorem cnt_nonneg (r : Rs) (m : Int) : 0 ≤ r.cnt m := by unfold Rs.cnt; split <;> omega

theorem be_pow : ∀ (l : List UInt8) {a k : Nat}, a < 256 ^ k → be l a < 256 ^ (k + l.length)
  | [], _, _, h => h
  | b :: l, a, k, h => by
    have hb := b.toNat_lt
    have h1 : (a * 256 + b.toNat) % 18446744073709551616 < 256 ^ (k + 1) := by
      refine Nat.lt_of_le_of_lt (Nat.mod_le _ _) ?_
      rw [Nat.pow_succ]
      omega
    have := be_pow l h1
    rw [List.length_cons, show k + (l.length + 1) = k + 1 + l.length by omega]
    exact this

theorem num_lt {r : Rs} {n : Nat} : r.num n < 256 ^ n := by
  have h := be_pow (r.got n).data.toList (a := 0) (k := 0) (by decide)
  have g := got_le (r := r) (n := (n : Int)) (by omega)
  have e : (r.got n).data.toList.length = (r.got n).size := Array.length_toList
  rw [Nat.zero_add, e] at h
  exact Nat.lt_of_lt_of_le h (Nat.pow_le_pow_right (by decide) (by omega))

theorem num1_lt (r : Rs) : r.num 1 < 256 := num_lt (n := 1)

theorem num4_lt (r : Rs) : r.num 4 < 4294967296 := num_lt (n := 4)

theorem num8_lt (r : Rs) : r.num 8 < 18446744073709551616 := num_lt (n := 8)

theorem nfail_c {r : Rs} {f : Int} : CallR cx 93 [.ptr 0 [], i64 f] [.var (.d r.d)] fun v S => v = .tup [] ∧ S = [.var (.d (r.fail f).d)] := fail_c

theorem nend_c {r : Rs} : CallR cx 66 [.ptr 0 []] [.var (.d r.d)] fun v S => v = i64 r.out ∧ S = [.var (.d r.d)] := end_c

theorem ntake_c {r : Rs} {n : Int} (hn : 0 ≤ n) : CallR cx 121 [.ptr 0 [], i64 n] [.var (.d r.d)] fun v S => v = st (r.got n) ∧ S = [.var (.d (r.take n).d)] := rd_take_c hn

theorem nnum_c {r : Rs} {n : Int} (hn : 0 ≤ n) (hm : r.s.size < 9223372036854775807) : CallR cx 107 [.ptr 0 [], i64 n] [.var (.d r.d)] fun v S => v = u64 ((r.num n : Nat) : Int) ∧ S = [.var (.d (r.take n).d)] := number_c hn hm

theorem nbyte_c {r : Rs} (hm : r.s.size < 9223372036854775807) : CallR cx 65 [.ptr 0 []] [.var (.d r.d)] fun v S => v = u8 ((r.num 1 : Nat) : Int) ∧ S = [.var (.d (r.take 1).d)] := by
  have h := byte_c (s := r.s) (e := r.e) hm
  have := num1_lt r
  rw [show IntKind.u8.wrap ((be (tkS r.s r.e 1).data.toList 0 : Nat) : Int) = ((r.num 1 : Nat) : Int) from wrap8 ⟨by omega, by show ((r.num 1 : Nat) : Int) < 256; omega⟩] at h
  exact h

theorem nword_c {r : Rs} (hm : r.s.size < 9223372036854775807) : CallR cx 91 [.ptr 0 []] [.var (.d r.d)] fun v S => v = u32 ((r.num 4 : Nat) : Int) ∧ S = [.var (.d (r.take 4).d)] := by
  have nu := nnum_c (r := r) (n := 4) (by decide) hm
  have e := wrap32 (n := ((r.num 4 : Nat) : Int)) (by have := num4_lt r; omega)
  generalize ((r.num 4 : Nat) : Int) = m at *
  generalize (r.take 4).d = R at *
  generalize r.d = R0 at *
  refine callR_of (R := R1) cx_ok Tryd.func91 (by kernel_rfl) rfl ?_
  conv => whnf
  refine ⟨_, nu, ?_⟩
  rintro _ _ ⟨rfl, rfl⟩
  conv => whnf
  exact ⟨congrArg u32 e, rfl⟩

theorem nlong_c {r : Rs} (hm : r.s.size < 9223372036854775807) : CallR cx 106 [.ptr 0 []] [.var (.d r.d)] fun v S => v = u64 ((r.num 8 : Nat) : Int) ∧ S = [.var (.d (r.take 8).d)] := by
  have nu := nnum_c (r := r) (n := 8) (by decide) hm
  generalize ((r.num 8 : Nat) : Int) = m at *
  generalize (r.take 8).d = R at *
  generalize r.d = R0 at *
  refine callR_of (R := R1) cx_ok Tryd.func106 (by kernel_rfl) rfl ?_
  conv => whnf
  refine ⟨_, nu, ?_⟩
  rintro _ _ ⟨rfl, rfl⟩
  conv => whnf
  exact ⟨rfl, rfl⟩

theorem ncount_c {r : Rs} {m : Int} (h0 : 0 ≤ m) (hmm : m < 4611686018427387904) (hm : r.s.size < 9223372036854775807) :
    CallR cx 122 [.ptr 0 [], i64 m] [.var (.d r.d)] fun v S => v = i64 (r.cnt m) ∧ S = [.var (.d (r.cntR m).d)] := by
  have nu := nnum_c (r := r) (n := 4) (by decide) hm
  have fa := nfail_c (r := r.take 4) (f := 5)
  unfold Rs.cnt Rs.cntR
  have hlt := num4_lt r
  generalize hk : ((r.num 4 : Nat) : Int) = k at *
  generalize r.d = R0 at *
  have e1 : IntKind.u64.wrap (if (0 : Int) > m then 0 else m) = m := by rw [if_neg (by omega)]; exact wrapU ⟨h0, by omega⟩
  refine callR_of (R := R1) cx_ok Tryd.func122 (by kernel_rfl) rfl ?_
  conv => whnf
  refine ⟨_, nu, ?_⟩
  rintro _ _ ⟨rfl, rfl⟩
  conv => whnf
  refine brec (fun h => ?_) (fun h => ?_)
  · have h := of_decide_eq_true h
    rw [e1] at h
    rw [if_pos h, if_pos h]
    conv => whnf
    refine ⟨_, fa, ?_⟩
    rintro _ _ ⟨rfl, rfl⟩
    conv => whnf
    exact ⟨rfl, rfl⟩
  · have h := of_decide_eq_false h
    rw [e1] at h
    rw [if_neg h, if_neg h]
    conv => whnf
    exact ⟨congrArg i64 (w64 (by omega)), rfl⟩

theorem ntext_c {r : Rs} {m : Int} (h0 : 0 ≤ m) (hmm : m < 4611686018427387904) (hm : r.s.size < 9223372036854775807) :
    CallR cx 89 [.ptr 0 [], i64 m] [.var (.d r.d)] fun v S => v = st (r.txt m) ∧ S = [.var (.d (r.txtR m).d)] := by
  have nc := ncount_c (r := r) h0 hmm hm
  have nt := ntake_c (r := r.cntR m) (cnt_nonneg r m)
  unfold Rs.txt Rs.txtR
  generalize r.cnt m = k at *
  generalize r.cntR m = q at *
  refine callR_of (R := R1) cx_ok Tryd.func89 (by kernel_rfl) rfl ?_
  conv => whnf
  refine ⟨_, nc, ?_⟩
  rintro _ _ ⟨rfl, rfl⟩
  conv => whnf
  refine ⟨_, nt, ?_⟩
  rintro _ _ ⟨rfl, rfl⟩
  conv => whnf
  exact ⟨rfl, rfl⟩

theorem fail_bad (r : Rs) {f : Int} (hf : f ≠ 0) : (r.fail f).e ≠ 0 := by show (if r.e = 0 then f else r.e) ≠ 0; split <;> assumption

theorem over2_c {s : ByteArray} : CallR cx 63 [st s] [] fun r S => r = .ptr 0 [] ∧ S = [.var (.d (Rs.mk s 0).d)] := over_c

def bigL (n k : Nat) : List UInt8 := (List.range k).map fun i => UInt8.ofNat (n / 256 ^ (k - 1 - i))

theorem bigL_succ (n k : Nat) : bigL n (k + 1) = bigL (n / 256) k ++ [UInt8.ofNat n] := by
  unfold bigL
  rw [List.range_succ, List.map_append]
  congr 1
  · refine List.map_congr_left fun i hi => ?_
    have hi := List.mem_range.1 hi
    rw [Nat.div_div_eq_div_mul, ← Nat.pow_succ', show (k - 1 - i).succ = k + 1 - 1 - i by omega]
  · simp

theorem be_append (l : List UInt8) (b : UInt8) (a : Nat) : be (l ++ [b]) a = (be l a * 256 + b.toNat) % 18446744073709551616 := by
  unfold be; rw [List.foldl_append]; rfl

theorem pow_le8 {k : Nat} (h : k ≤ 8) : 256 ^ k ≤ 18446744073709551616 := Nat.pow_le_pow_right (n := 256) (by decide) h

theorem be_bigL : ∀ (k n : Nat), k ≤ 8 → be (bigL n k) 0 = n % 256 ^ k
  | 0, n, _ => by rw [Nat.pow_zero, Nat.mod_one]; rfl
  | k + 1, n, h => by
    rw [bigL_succ, be_append, be_bigL k _ (by omega), UInt8.toNat_ofNat']
    have h1 : n / 256 % 256 ^ k * 256 + n % 256 = n % 256 ^ (k + 1) := by
      rw [Nat.pow_succ, Nat.mul_comm (256 ^ k) 256, Nat.mod_mul]
      omega
    have h2 : n % 256 ^ (k + 1) < 256 ^ (k + 1) := Nat.mod_lt _ (Nat.pow_pos (by decide))
    have h3 := pow_le8 h
    rw [show (2 : Nat) ^ 8 = 256 from rfl, h1]
    exact Nat.mod_eq_of_lt (by omega)

theorem bigL_be : ∀ (k : Nat) (l : List UInt8), l.length = k → k ≤ 8 → bigL (be l 0) k = l
  | 0, l, hl, _ => by rw [List.eq_nil_of_length_eq_zero hl]; rfl
  | k + 1, l, hl, h => by
    have hne : l ≠ [] := by intro e; subst e; simp at hl
    have e := List.dropLast_concat_getLast hne
    have hd : l.dropLast.length = k := by rw [List.length_dropLast]; omega
    have hlt : be l.dropLast 0 < 256 ^ k := by have := be_pow l.dropLast (a := 0) (k := 0) (by decide); rw [Nat.zero_add, hd] at this; exact this
    have hp : 256 ^ k * 256 ≤ 18446744073709551616 := by rw [← Nat.pow_succ]; exact pow_le8 h
    have hb := (l.getLast hne).toNat_lt
    have e2 : be l 0 = be l.dropLast 0 * 256 + (l.getLast hne).toNat := by
      have q := be_append l.dropLast (l.getLast hne) 0
      rw [e] at q
      rw [q]
      exact Nat.mod_eq_of_lt (by omega)
    rw [bigL_succ, e2, show (be l.dropLast 0 * 256 + (l.getLast hne).toNat) / 256 = be l.dropLast 0 by omega, bigL_be k _ hd (by omega)]
    have e3 : UInt8.ofNat (be l.dropLast 0 * 256 + (l.getLast hne).toNat) = l.getLast hne := by
      apply UInt8.toNat_inj.1
      rw [UInt8.toNat_ofNat']
      omega
    rw [e3, e]

theorem bigB_list (n k : Nat) : (bigB n k).data.toList = bigL n k := by unfold bigB bigL; rw [List.toList_toArray]

theorem ba_ext {a b : ByteArray} (h : a.data.toList = b.data.toList) : a = b := by
  cases a; cases b; congr 1; exact Array.toList_inj.1 h

theorem be_bigB {n k : Nat} (hk : k ≤ 8) (hn : n < 256 ^ k) : be (bigB n k).data.toList 0 = n := by
  rw [bigB_list, be_bigL k n hk, Nat.mod_eq_of_lt hn]

theorem bigB_be {x : ByteArray} {k : Nat} (hx : x.size = k) (hk : k ≤ 8) : bigB (be x.data.toList 0) k = x := by
  apply ba_ext
  rw [bigB_list]
  exact bigL_be k _ (by rw [Array.length_toList]; exact hx) hk

-- Forward: a reader over what was written.

theorem rd_take_ok {r : Rs} {n : Int} (hn : 0 ≤ n) (h : (r.take n).e = 0) : r.e = 0 ∧ ((r.got n).size : Int) = n ∧ r.s = r.got n ++ (r.take n).s := by
  have h : rd_tkE r.s r.e n = 0 := h
  have e0 : r.e = 0 := by
    unfold rd_tkE at h
    split at h
    · assumption
    · exact h
  have hle : n ≤ r.s.size := by
    unfold rd_tkE at h
    rw [if_pos e0] at h
    split at h
    · assumption
    · cases h
  have e1 : r.got n = r.s.extract 0 n.toNat := if_pos ⟨e0, hle⟩
  have e2 : (r.take n).s = r.s.extract n.toNat r.s.size := if_pos ⟨e0, hle⟩
  refine ⟨e0, ?_, ?_⟩
  · rw [e1, ByteArray.size_extract]; omega
  · rw [e1, e2, ByteArray.extract_append_extract, Nat.min_eq_left (Nat.zero_le _), Nat.max_eq_right (by omega), ByteArray.extract_zero_size]

theorem num_ok {r : Rs} {k : Nat} (hk : k ≤ 8) (h : (r.take (k : Int)).e = 0) : r.e = 0 ∧ r.s = bigB (r.num (k : Int)) k ++ (r.take (k : Int)).s := by
  obtain ⟨h1, h2, h3⟩ := rd_take_ok (by omega) h
  refine ⟨h1, ?_⟩
  unfold Rs.num
  rw [bigB_be (by omega) hk]
  exact h3

theorem fail_no {r : Rs} {f : Int} (hf : f ≠ 0) : (r.fail f).e ≠ 0 := fail_bad r hf

theorem txt_ok {r : Rs} {m : Int} (h : (r.txtR m).e = 0) : r.e = 0 ∧ r.s = textB (r.txt m) ++ (r.txtR m).s := by
  unfold Rs.txtR at h
  obtain ⟨h1, h2, h3⟩ := rd_take_ok (cnt_nonneg r m) h
  by_cases hc : (r.num 4 : Int) > m
  · have e : r.cntR m = (r.take 4).fail 5 := if_pos hc
    rw [e] at h1
    exact absurd h1 (fail_no (by decide))
  have e : r.cntR m = r.take 4 := if_neg hc
  have e' : r.cnt m = r.num 4 := if_neg hc
  rw [e] at h1
  obtain ⟨g1, g2⟩ := num_ok (k := 4) (by decide) h1
  refine ⟨g1, ?_⟩
  have e3 : (r.txt m).size = r.num 4 := by
    have : ((r.txt m).size : Int) = r.cnt m := h2
    rw [e'] at this
    omega
  have h3 : (r.cntR m).s = r.txt m ++ (r.txtR m).s := h3
  rw [e] at h3
  unfold textB
  rw [e3, ByteArray.append_assoc, ← h3]
  exact g2

-- Sizes of right names and texts.

theorem out_ok {r : Rs} (h : r.out = 0) : r.e = 0 ∧ r.s = .empty := by
  unfold Rs.out at h
  split at h
  · split at h
    · exact ⟨by assumption, by assumption⟩
    · cases h
  · exact absurd h (by assumption)

end Go.Proofs.YtboohfijacjhjaaDoor

/- The document's bytes and readers. -/
set_option linter.unusedVariables false
namespace Go.Proofs.YtboohfijacjhjaaDoor
open Go.Ab Go.RowKit

theorem rbig1_c {n : Nat} (hn : n < 18446744073709551616) : CallR cx 61 [u64 n, i64 1] [] fun r S => r = st (bigB n 1) ∧ S = [] := by
  let f : Nat → List D := fun j => match j with
    | 0 => [z8, z8, z8, z8, z8, z8, z8, z8]
    | _ => [by8 n 0, z8, z8, z8, z8, z8, z8, z8]
  let g : Nat → Int := fun j => match j with
    | 0 => (n : Int)
    | j + 1 => ((n / 256 ^ (j + 1) : Nat) : Int)
  have hg : ∀ j, g j = ((n / 256 ^ j : Nat) : Int) := fun j => by
    cases j with
    | zero => exact div_1 n
    | succ j => rfl
  refine callR_of (R := R1) cx_ok Tryd.func61 (by kernel_rfl) rfl ?_
  conv => whnf
  refine .inl ⟨fun m l S => ∃ j : Nat, j ≤ 1 ∧ m = 1 - j ∧ l = [(0, u64 (g j)), (1, i64 1), (5, .ptr 0 []), (6, i64 (1 - 1 - (j : Int)))] ∧
    S = [.var (.d (.arr 8 1 (f j)))], ⟨1, _, ⟨0, by decide, rfl, rfl, rfl⟩, ⟨rfl, rfl, rfl, rfl, trivial⟩⟩, ?_⟩
  rintro _ _ _ ⟨j, hj, rfl, rfl, rfl⟩
  have hq := quo_e n j hn (hg j)
  have hm := by8_mod n j (hg j)
  rcases j with _ | _ | j
  · conv => whnf
    refine ⟨by decide, ?_⟩
    conv => whnf
    refine ⟨by decide, ?_⟩
    conv => whnf
    refine ⟨by decide, ?_⟩
    conv => whnf
    exact ⟨0, _, 1, by decide, ⟨1, by decide, rfl, rfl, congrArg (fun z => [Blk.var (.d (.arr 8 1 [z, z8, z8, z8, z8, z8, z8, z8]))]) hm⟩, ⟨congrArg (fun z => some (u64 z)) hq, rfl, rfl, rfl, trivial⟩, rfl⟩
  · conv => whnf
    refine ⟨by decide, ?_⟩
    conv => whnf
    refine ⟨bigB n 1, ⟨by rw [bigB_bytes]; rfl, by rw [bigB_size]; rfl⟩, ?_⟩
    conv => whnf
    exact ⟨rfl, rfl⟩
  · omega

theorem rbig4_c {n : Nat} (hn : n < 18446744073709551616) : CallR cx 61 [u64 n, i64 4] [] fun r S => r = st (bigB n 4) ∧ S = [] := by
  let f : Nat → List D := fun j => match j with
    | 0 => [z8, z8, z8, z8, z8, z8, z8, z8]
    | 1 => [z8, z8, z8, by8 n 0, z8, z8, z8, z8]
    | 2 => [z8, z8, by8 n 1, by8 n 0, z8, z8, z8, z8]
    | 3 => [z8, by8 n 2, by8 n 1, by8 n 0, z8, z8, z8, z8]
    | _ => [by8 n 3, by8 n 2, by8 n 1, by8 n 0, z8, z8, z8, z8]
  let g : Nat → Int := fun j => match j with
    | 0 => (n : Int)
    | j + 1 => ((n / 256 ^ (j + 1) : Nat) : Int)
  have hg : ∀ j, g j = ((n / 256 ^ j : Nat) : Int) := fun j => by
    cases j with
    | zero => exact div_1 n
    | succ j => rfl
  refine callR_of (R := R1) cx_ok Tryd.func61 (by kernel_rfl) rfl ?_
  conv => whnf
  refine .inl ⟨fun m l S => ∃ j : Nat, j ≤ 4 ∧ m = 4 - j ∧ l = [(0, u64 (g j)), (1, i64 4), (5, .ptr 0 []), (6, i64 (4 - 1 - (j : Int)))] ∧
    S = [.var (.d (.arr 8 1 (f j)))], ⟨4, _, ⟨0, by decide, rfl, rfl, rfl⟩, ⟨rfl, rfl, rfl, rfl, trivial⟩⟩, ?_⟩
  rintro _ _ _ ⟨j, hj, rfl, rfl, rfl⟩
  have hq := quo_e n j hn (hg j)
  have hm := by8_mod n j (hg j)
  rcases j with _ | _ | _ | _ | _ | j
  · conv => whnf
    refine ⟨by decide, ?_⟩
    conv => whnf
    refine ⟨by decide, ?_⟩
    conv => whnf
    refine ⟨by decide, ?_⟩
    conv => whnf
    exact ⟨3, _, 1, by decide, ⟨1, by decide, rfl, rfl, congrArg (fun z => [Blk.var (.d (.arr 8 1 [z8, z8, z8, z, z8, z8, z8, z8]))]) hm⟩, ⟨congrArg (fun z => some (u64 z)) hq, rfl, rfl, rfl, trivial⟩, rfl⟩
  · conv => whnf
    refine ⟨by decide, ?_⟩
    conv => whnf
    refine ⟨by decide, ?_⟩
    conv => whnf
    refine ⟨by decide, ?_⟩
    conv => whnf
    exact ⟨2, _, 1, by decide, ⟨2, by decide, rfl, rfl, congrArg (fun z => [Blk.var (.d (.arr 8 1 [z8, z8, z, by8 n 0, z8, z8, z8, z8]))]) hm⟩, ⟨congrArg (fun z => some (u64 z)) hq, rfl, rfl, rfl, trivial⟩, rfl⟩
  · conv => whnf
    refine ⟨by decide, ?_⟩
    conv => whnf
    refine ⟨by decide, ?_⟩
    conv => whnf
    refine ⟨by decide, ?_⟩
    conv => whnf
    exact ⟨1, _, 1, by decide, ⟨3, by decide, rfl, rfl, congrArg (fun z => [Blk.var (.d (.arr 8 1 [z8, z, by8 n 1, by8 n 0, z8, z8, z8, z8]))]) hm⟩, ⟨congrArg (fun z => some (u64 z)) hq, rfl, rfl, rfl, trivial⟩, rfl⟩
  · conv => whnf
    refine ⟨by decide, ?_⟩
    conv => whnf
    refine ⟨by decide, ?_⟩
    conv => whnf
    refine ⟨by decide, ?_⟩
    conv => whnf
    exact ⟨0, _, 1, by decide, ⟨4, by decide, rfl, rfl, congrArg (fun z => [Blk.var (.d (.arr 8 1 [z, by8 n 2, by8 n 1, by8 n 0, z8, z8, z8, z8]))]) hm⟩, ⟨congrArg (fun z => some (u64 z)) hq, rfl, rfl, rfl, trivial⟩, rfl⟩
  · conv => whnf
    refine ⟨by decide, ?_⟩
    conv => whnf
    refine ⟨bigB n 4, ⟨by rw [bigB_bytes]; rfl, by rw [bigB_size]; rfl⟩, ?_⟩
    conv => whnf
    exact ⟨rfl, rfl⟩
  · omega

theorem rbig8_c {n : Nat} (hn : n < 18446744073709551616) : CallR cx 61 [u64 n, i64 8] [] fun r S => r = st (bigB n 8) ∧ S = [] := by
  let f : Nat → List D := fun j => match j with
    | 0 => [z8, z8, z8, z8, z8, z8, z8, z8]
    | 1 => [z8, z8, z8, z8, z8, z8, z8, by8 n 0]
    | 2 => [z8, z8, z8, z8, z8, z8, by8 n 1, by8 n 0]
    | 3 => [z8, z8, z8, z8, z8, by8 n 2, by8 n 1, by8 n 0]
    | 4 => [z8, z8, z8, z8, by8 n 3, by8 n 2, by8 n 1, by8 n 0]
    | 5 => [z8, z8, z8, by8 n 4, by8 n 3, by8 n 2, by8 n 1, by8 n 0]
    | 6 => [z8, z8, by8 n 5, by8 n 4, by8 n 3, by8 n 2, by8 n 1, by8 n 0]
    | 7 => [z8, by8 n 6, by8 n 5, by8 n 4, by8 n 3, by8 n 2, by8 n 1, by8 n 0]
    | _ => [by8 n 7, by8 n 6, by8 n 5, by8 n 4, by8 n 3, by8 n 2, by8 n 1, by8 n 0]
  let g : Nat → Int := fun j => match j with
    | 0 => (n : Int)
    | j + 1 => ((n / 256 ^ (j + 1) : Nat) : Int)
  have hg : ∀ j, g j = ((n / 256 ^ j : Nat) : Int) := fun j => by
    cases j with
    | zero => exact div_1 n
    | succ j => rfl
  refine callR_of (R := R1) cx_ok Tryd.func61 (by kernel_rfl) rfl ?_
  conv => whnf
  refine .inl ⟨fun m l S => ∃ j : Nat, j ≤ 8 ∧ m = 8 - j ∧ l = [(0, u64 (g j)), (1, i64 8), (5, .ptr 0 []), (6, i64 (8 - 1 - (j : Int)))] ∧
    S = [.var (.d (.arr 8 1 (f j)))], ⟨8, _, ⟨0, by decide, rfl, rfl, rfl⟩, ⟨rfl, rfl, rfl, rfl, trivial⟩⟩, ?_⟩
  rintro _ _ _ ⟨j, hj, rfl, rfl, rfl⟩
  have hq := quo_e n j hn (hg j)
  have hm := by8_mod n j (hg j)
  rcases j with _ | _ | _ | _ | _ | _ | _ | _ | _ | j
  · conv => whnf
    refine ⟨by decide, ?_⟩
    conv => whnf
    refine ⟨by decide, ?_⟩
    conv => whnf
    refine ⟨by decide, ?_⟩
    conv => whnf
    exact ⟨7, _, 1, by decide, ⟨1, by decide, rfl, rfl, congrArg (fun z => [Blk.var (.d (.arr 8 1 [z8, z8, z8, z8, z8, z8, z8, z]))]) hm⟩, ⟨congrArg (fun z => some (u64 z)) hq, rfl, rfl, rfl, trivial⟩, rfl⟩
  · conv => whnf
    refine ⟨by decide, ?_⟩
    conv => whnf
    refine ⟨by decide, ?_⟩
    conv => whnf
    refine ⟨by decide, ?_⟩
    conv => whnf
    exact ⟨6, _, 1, by decide, ⟨2, by decide, rfl, rfl, congrArg (fun z => [Blk.var (.d (.arr 8 1 [z8, z8, z8, z8, z8, z8, z, by8 n 0]))]) hm⟩, ⟨congrArg (fun z => some (u64 z)) hq, rfl, rfl, rfl, trivial⟩, rfl⟩
  · conv => whnf
    refine ⟨by decide, ?_⟩
    conv => whnf
    refine ⟨by decide, ?_⟩
    conv => whnf
    refine ⟨by decide, ?_⟩
    conv => whnf
    exact ⟨5, _, 1, by decide, ⟨3, by decide, rfl, rfl, congrArg (fun z => [Blk.var (.d (.arr 8 1 [z8, z8, z8, z8, z8, z, by8 n 1, by8 n 0]))]) hm⟩, ⟨congrArg (fun z => some (u64 z)) hq, rfl, rfl, rfl, trivial⟩, rfl⟩
  · conv => whnf
    refine ⟨by decide, ?_⟩
    conv => whnf
    refine ⟨by decide, ?_⟩
    conv => whnf
    refine ⟨by decide, ?_⟩
    conv => whnf
    exact ⟨4, _, 1, by decide, ⟨4, by decide, rfl, rfl, congrArg (fun z => [Blk.var (.d (.arr 8 1 [z8, z8, z8, z8, z, by8 n 2, by8 n 1, by8 n 0]))]) hm⟩, ⟨congrArg (fun z => some (u64 z)) hq, rfl, rfl, rfl, trivial⟩, rfl⟩
  · conv => whnf
    refine ⟨by decide, ?_⟩
    conv => whnf
    refine ⟨by decide, ?_⟩
    conv => whnf
    refine ⟨by decide, ?_⟩
    conv => whnf
    exact ⟨3, _, 1, by decide, ⟨5, by decide, rfl, rfl, congrArg (fun z => [Blk.var (.d (.arr 8 1 [z8, z8, z8, z, by8 n 3, by8 n 2, by8 n 1, by8 n 0]))]) hm⟩, ⟨congrArg (fun z => some (u64 z)) hq, rfl, rfl, rfl, trivial⟩, rfl⟩
  · conv => whnf
    refine ⟨by decide, ?_⟩
    conv => whnf
    refine ⟨by decide, ?_⟩
    conv => whnf
    refine ⟨by decide, ?_⟩
    conv => whnf
    exact ⟨2, _, 1, by decide, ⟨6, by decide, rfl, rfl, congrArg (fun z => [Blk.var (.d (.arr 8 1 [z8, z8, z, by8 n 4, by8 n 3, by8 n 2, by8 n 1, by8 n 0]))]) hm⟩, ⟨congrArg (fun z => some (u64 z)) hq, rfl, rfl, rfl, trivial⟩, rfl⟩
  · conv => whnf
    refine ⟨by decide, ?_⟩
    conv => whnf
    refine ⟨by decide, ?_⟩
    conv => whnf
    refine ⟨by decide, ?_⟩
    conv => whnf
    exact ⟨1, _, 1, by decide, ⟨7, by decide, rfl, rfl, congrArg (fun z => [Blk.var (.d (.arr 8 1 [z8, z, by8 n 5, by8 n 4, by8 n 3, by8 n 2, by8 n 1, by8 n 0]))]) hm⟩, ⟨congrArg (fun z => some (u64 z)) hq, rfl, rfl, rfl, trivial⟩, rfl⟩
  · conv => whnf
    refine ⟨by decide, ?_⟩
    conv => whnf
    refine ⟨by decide, ?_⟩
    conv => whnf
    refine ⟨by decide, ?_⟩
    conv => whnf
    exact ⟨0, _, 1, by decide, ⟨8, by decide, rfl, rfl, congrArg (fun z => [Blk.var (.d (.arr 8 1 [z, by8 n 6, by8 n 5, by8 n 4, by8 n 3, by8 n 2, by8 n 1, by8 n 0]))]) hm⟩, ⟨congrArg (fun z => some (u64 z)) hq, rfl, rfl, rfl, trivial⟩, rfl⟩
  · conv => whnf
    refine ⟨by decide, ?_⟩
    conv => whnf
    refine ⟨bigB n 8, ⟨by rw [bigB_bytes]; rfl, by rw [bigB_size]; rfl⟩, ?_⟩
    conv => whnf
    exact ⟨rfl, rfl⟩
  · omega

theorem rtext_c {s : ByteArray} (h : s.size < 4294967296) : CallR cx 62 [st s] [] fun r S => r = st (textB s) ∧ S = [] := by
  have w : CallR cx 61 [u64 (IntKind.u64.wrap (s.size : Int)), i64 4] [] fun r S => r = st (bigB s.size 4) ∧ S = [] := by rw [wrapN (by omega)]; exact rbig4_c (by omega)
  refine callR_of (R := R1) cx_ok Tryd.func62 (by kernel_rfl) rfl ?_
  conv => whnf
  refine ⟨_, w, ?_⟩
  rintro _ _ ⟨rfl, rfl⟩
  conv => whnf
  refine ⟨by rw [bigB_size]; omega, ?_⟩
  conv => whnf
  exact ⟨rfl, rfl⟩

theorem rd_rtake_c {r : Rs} {n : Int} (hn : 0 ≤ n) : CallR cx 108 [.ptr 0 [], i64 n] [.var (.d r.d)] fun v S => v = st (r.got n) ∧ S = [.var (.d (r.take n).d)] := by
  obtain ⟨s, e⟩ := r
  show CallR cx 108 [.ptr 0 [], i64 n] [.var (.d (rd s e))] fun v S => v = st (tkS s e n) ∧ S = [.var (.d (rd (tkR s e n) (rd_tkE s e n)))]
  refine callR_of (R := R1) cx_ok Tryd.func108 (by kernel_rfl) rfl ?_
  conv => whnf
  by_cases h : e = 0
  · refine brT (beq_iff_eq.2 h) ?_
    subst h
    conv => whnf
    refine brec (fun g => ?_) (fun g => ?_)
    · have g := of_decide_eq_true g
      have e1 : tkS s 0 n = .empty := if_neg fun k => by omega
      have e2 : tkR s 0 n = s := if_neg fun k => by omega
      have e3 : rd_tkE s 0 n = 3 := by unfold rd_tkE; rw [if_pos rfl, if_neg (by omega)]
      rw [e1, e2, e3]
      conv => whnf
      exact ⟨rfl, rfl⟩
    · have g := of_decide_eq_false g
      have g : n ≤ s.size := by omega
      have e1 : tkS s 0 n = s.extract 0 n.toNat := if_pos ⟨rfl, g⟩
      have e2 : tkR s 0 n = s.extract n.toNat s.size := if_pos ⟨rfl, g⟩
      have e3 : rd_tkE s 0 n = 0 := by unfold rd_tkE; rw [if_pos rfl, if_pos g]
      rw [e1, e2, e3]
      conv => whnf
      refine ⟨⟨by decide, hn, g⟩, ?_⟩
      conv => whnf
      refine ⟨⟨hn, g, Int.le_refl _⟩, ?_⟩
      conv => whnf
      exact ⟨rfl, rfl⟩
  · have e1 : tkS s e n = .empty := if_neg fun g => h g.1
    have e2 : tkR s e n = s := if_neg fun g => h g.1
    have e3 : rd_tkE s e n = e := if_neg h
    rw [e1, e2, e3]
    refine brF (beq_eq_false_iff_ne.2 h) ?_
    conv => whnf
    refine brec (fun g => ?_) (fun g => absurd g ?_)
    · conv => whnf
      exact ⟨rfl, rfl⟩
    · simp [h]

theorem rfail_c {r : Rs} {f : Int} : CallR cx 68 [.ptr 0 [], i64 f] [.var (.d r.d)] fun v S => v = .tup [] ∧ S = [.var (.d (r.fail f).d)] := by
  obtain ⟨s, e⟩ := r
  show CallR cx 68 [.ptr 0 [], i64 f] [.var (.d (rd s e))] fun v S => v = .tup [] ∧ S = [.var (.d (rd s (if e = 0 then f else e)))]
  refine callR_of (R := R1) cx_ok Tryd.func68 (by kernel_rfl) rfl ?_
  conv => whnf
  refine brec (fun h => ?_) (fun h => ?_)
  · rw [if_pos (eq_of_beq h)]
    conv => whnf
    exact ⟨rfl, rfl⟩
  · rw [if_neg (ne_of_beq_false h)]
    conv => whnf
    exact ⟨rfl, rfl⟩

theorem rend_c {r : Rs} : CallR cx 70 [.ptr 0 []] [.var (.d r.d)] fun v S => v = i64 r.out ∧ S = [.var (.d r.d)] := by
  obtain ⟨s, e⟩ := r
  show CallR cx 70 [.ptr 0 []] [.var (.d (rd s e))] fun v S => v = i64 (if e = 0 then (if s = .empty then 0 else 4) else e) ∧ S = [.var (.d (rd s e))]
  refine callR_of (R := R1) cx_ok Tryd.func70 (by kernel_rfl) rfl ?_
  conv => whnf
  refine brec (fun h => ?_) (fun h => ?_)
  · have h := eq_of_beq h
    subst h
    rw [if_pos rfl]
    conv => whnf
    refine brec (fun g => ?_) (fun g => ?_)
    · have g := of_decide_eq_true g
      have e1 : ¬ s = .empty := fun e => by subst e; exact absurd g (by decide)
      rw [if_neg e1]
      conv => whnf
      exact ⟨rfl, rfl⟩
    · have g := of_decide_eq_false g
      have e1 : s = .empty := size0 (by omega)
      rw [if_pos e1]
      conv => whnf
      exact ⟨rfl, rfl⟩
  · rw [if_neg (ne_of_beq_false h)]
    have h' := ne_of_beq_false h
    conv => whnf
    exact ⟨rfl, rfl⟩

theorem be_step2 {a : Nat} {b : Nat} (hb : b < 256) : IntKind.u64.wrap (IntKind.u64.wrap ((a : Int) * 256) + IntKind.u64.wrap (b : Int)) = (((a * 256 + b) % 18446744073709551616 : Nat) : Int) := by
  rw [Ab.wrap64, Ab.wrap64, Ab.wrap64]; omega

theorem list_getD {t : ByteArray} {j : Nat} (h : j < t.data.toList.length) : byteAt t j = (((t.data.toList[j]'h).toNat : Nat) : Int) := by
  unfold byteAt; rw [List.getD_eq_getElem?_getD, List.getElem?_eq_getElem h]; rfl

theorem rnum_c {r : Rs} {n : Int} (hn : 0 ≤ n) (hm : r.s.size < 9223372036854775807) : CallR cx 67 [.ptr 0 [], i64 n] [.var (.d r.d)] fun v S => v = u64 ((r.num n : Nat) : Int) ∧ S = [.var (.d (r.take n).d)] := by
  have tk := rd_rtake_c (r := r) hn
  have ht := got_size r n
  unfold Rs.num
  generalize r.got n = t at *
  generalize (r.take n).d = R at *
  generalize r.d = R0 at *
  have hts : t.data.toList.length = t.size := Array.length_toList
  refine callR_of (R := R1) cx_ok Tryd.func67 (by kernel_rfl) rfl ?_
  conv => whnf
  refine ⟨_, tk, ?_⟩
  rintro _ _ ⟨rfl, rfl⟩
  conv => whnf
  refine .inl ⟨fun k l S => ∃ j : Nat, j ≤ t.size ∧ k = t.size - j ∧
      l = [(5, u64 ((be (t.data.toList.take j) 0 : Nat) : Int)), (6, st t), (7, i64 (j : Int))] ∧ S = [.var (.d R)],
    ⟨_, _, ⟨0, Nat.zero_le _, rfl, rfl, rfl⟩, ⟨rfl, rfl, rfl, trivial⟩⟩, ?_⟩
  rintro _ _ _ ⟨j, hj, rfl, rfl, rfl⟩
  conv => whnf
  refine brec (fun h1 => ?_) (fun h1 => ?_)
  · have h1 := of_decide_eq_true h1
    have hlt : j < t.data.toList.length := by omega
    conv => whnf
    refine ⟨⟨by omega, by show (j : Int) < (t.size : Int); omega⟩, ?_⟩
    rw [Int.toNat_natCast, list_getD hlt]
    conv => whnf
    have e1 := be_step2 (a := be (t.data.toList.take j) 0) (t.data.toList[j]'hlt).toNat_lt
    have e2 : (be (t.data.toList.take j) 0 * 256 + (t.data.toList[j]'hlt).toNat) % 18446744073709551616 = be (t.data.toList.take (j + 1)) 0 := by
      rw [List.take_add_one, List.getElem?_eq_getElem hlt]
      unfold be
      rw [List.foldl_append]
      rfl
    rw [e2] at e1
    have e3 : IntKind.i64.wrap ((j : Int) + 1) = ((j + 1 : Nat) : Int) := by rw [w64 (by omega)]; omega
    exact ⟨_, _, 1, (by omega : t.size - (j + 1) < t.size - j), ⟨j + 1, by omega, rfl, rfl, rfl⟩,
      ⟨congrArg (fun z => some (u64 z)) e1, rfl, congrArg (fun z => some (i64 z)) e3, trivial⟩, rfl⟩
  · have h1 := of_decide_eq_false h1
    have : j = t.size := by omega
    subst this
    conv => whnf
    rw [← hts, List.take_length]
    exact ⟨rfl, rfl⟩

theorem rmany_c {r : Rs} {m : Int} (h0 : 0 ≤ m) (hmm : m < 4611686018427387904) (hm : r.s.size < 9223372036854775807) :
    CallR cx 109 [.ptr 0 [], i64 m] [.var (.d r.d)] fun v S => v = i64 (r.cnt m) ∧ S = [.var (.d (r.cntR m).d)] := by
  have nu := rnum_c (r := r) (n := 4) (by decide) hm
  have fa := rfail_c (r := r.take 4) (f := 5)
  unfold Rs.cnt Rs.cntR
  have hlt := num4_lt r
  generalize hk : ((r.num 4 : Nat) : Int) = k at *
  generalize r.d = R0 at *
  have e1 : IntKind.u64.wrap m = m := wrapU ⟨h0, by omega⟩
  refine callR_of (R := R1) cx_ok Tryd.func109 (by kernel_rfl) rfl ?_
  conv => whnf
  refine ⟨_, nu, ?_⟩
  rintro _ _ ⟨rfl, rfl⟩
  conv => whnf
  refine brF (decide_eq_false (by omega)) ?_
  conv => whnf
  refine brT (decide_eq_true (by omega)) ?_
  conv => whnf
  refine brec (fun h => ?_) (fun h => ?_)
  · have h := of_decide_eq_true h
    rw [e1] at h
    rw [if_pos h, if_pos h]
    conv => whnf
    refine ⟨_, fa, ?_⟩
    rintro _ _ ⟨rfl, rfl⟩
    conv => whnf
    exact ⟨rfl, rfl⟩
  · have h := of_decide_eq_false h
    rw [e1] at h
    rw [if_neg h, if_neg h]
    conv => whnf
    exact ⟨congrArg i64 (w64 (by omega)), rfl⟩

theorem rtextR_c {r : Rs} {m : Int} (h0 : 0 ≤ m) (hmm : m < 4611686018427387904) (hm : r.s.size < 9223372036854775807) :
    CallR cx 69 [.ptr 0 [], i64 m] [.var (.d r.d)] fun v S => v = st (r.txt m) ∧ S = [.var (.d (r.txtR m).d)] := by
  have nc := rmany_c (r := r) h0 hmm hm
  have nt := rd_rtake_c (r := r.cntR m) (cnt_nonneg r m)
  unfold Rs.txt Rs.txtR
  generalize r.cnt m = k at *
  generalize r.cntR m = q at *
  refine callR_of (R := R1) cx_ok Tryd.func69 (by kernel_rfl) rfl ?_
  conv => whnf
  refine ⟨_, nc, ?_⟩
  rintro _ _ ⟨rfl, rfl⟩
  conv => whnf
  refine ⟨_, nt, ?_⟩
  rintro _ _ ⟨rfl, rfl⟩
  conv => whnf
  exact ⟨rfl, rfl⟩

theorem bad_got {r : Rs} (h : r.e ≠ 0) (n : Int) : r.got n = .empty := if_neg fun g => h g.1

theorem bad_take {r : Rs} (h : r.e ≠ 0) (n : Int) : r.take n = r := by
  have e1 : tkR r.s r.e n = r.s := if_neg fun g => h g.1
  have e2 : rd_tkE r.s r.e n = r.e := if_neg h
  unfold Rs.take
  rw [e1, e2]

theorem bad_num {r : Rs} (h : r.e ≠ 0) (n : Int) : r.num n = 0 := by unfold Rs.num; rw [bad_got h]; rfl

theorem bad_cnt {r : Rs} (h : r.e ≠ 0) {m : Int} (hm : 0 ≤ m) : r.cnt m = 0 := by unfold Rs.cnt; rw [bad_num h, if_neg (by omega)]; rfl

theorem bad_cntR {r : Rs} (h : r.e ≠ 0) {m : Int} (hm : 0 ≤ m) : r.cntR m = r := by unfold Rs.cntR; rw [bad_num h, if_neg (by omega), bad_take h]

theorem bad_txt {r : Rs} (h : r.e ≠ 0) {m : Int} (hm : 0 ≤ m) : r.txt m = .empty := by unfold Rs.txt; rw [bad_cntR h hm, bad_got h]

theorem bad_txtR {r : Rs} (h : r.e ≠ 0) {m : Int} (hm : 0 ≤ m) : r.txtR m = r := by unfold Rs.txtR; rw [bad_cntR h hm, bad_take h]

theorem brecL {b : Bool} {A A' : Prop} (ht : b = true → A) (hf : b = false → A') : @Bool.rec (fun _ => Prop) A' A b := brec ht hf
end Go.Proofs.YtboohfijacjhjaaDoor

/- Calls: what they are, their bytes, and what the bytes tell (plain). -/
set_option linter.unusedVariables false
namespace Go.Proofs.YtboohfijacjhjaaDoor
open Go.Ab Go.RowKit

/-- A signature. -/
structure Sg where
  ix : Int
  pa : List ByteArray
  ot : List ByteArray
  pt : List ByteArray
/-- An update. -/
structure Up where
  home : Nat
  old : ByteArray
  new : ByteArray
  sig : Sg
/-- A stop. -/
structure Sp where
  home : Nat
  key : ByteArray
  wat : Int
  sig : Sg
/-- A letter. -/
structure Le where
  frm : Nat
  non : Nat
  too : Nat
  snd : ByteArray
  rcv : ByteArray
  bod : ByteArray

def dgD (b : ByteArray) : D := .arr 32 1 (D.bytes b)
def dgs (l : List ByteArray) : List D := l.map dgD
def Sg.d (s : Sg) : D := .agg [.int .i64 s.ix, .sl 32 (dgs s.pa), .sl 32 (dgs s.ot), .sl 32 (dgs s.pt)]
def Up.d (u : Up) : D := .agg [.int .u32 u.home, dgD u.old, dgD u.new, u.sig.d]
def Sp.d (u : Sp) : D := .agg [.int .u32 u.home, dgD u.key, .int .i64 u.wat, u.sig.d]
def Le.d (l : Le) : D := .agg [.int .u32 l.frm, .int .u32 l.non, .int .u32 l.too, .str l.snd, .str l.rcv, .str l.bod]

/-- So many digests, of their size. -/
def dgF (l : List ByteArray) : Prop := l.length ≤ 100 ∧ ∀ b ∈ l, b.size = 32
def tx (s : ByteArray) : Prop := s.size ≤ 1000
def Sg.fit (s : Sg) : Prop := (-9223372036854775808 ≤ s.ix ∧ s.ix < 9223372036854775808) ∧ dgF s.pa ∧ dgF s.ot ∧ dgF s.pt
def Up.fit (u : Up) : Prop := u.home < 4294967296 ∧ u.old.size = 32 ∧ u.new.size = 32 ∧ u.sig.fit
def Sp.fit (u : Sp) : Prop := u.home < 4294967296 ∧ u.key.size = 32 ∧ (-9223372036854775808 ≤ u.wat ∧ u.wat < 9223372036854775808) ∧ u.sig.fit
def Le.fit (l : Le) : Prop := l.frm < 4294967296 ∧ l.non < 4294967296 ∧ l.too < 4294967296 ∧ tx l.snd ∧ tx l.rcv ∧ tx l.bod

def catB : List ByteArray → ByteArray
  | [] => .empty
  | b :: l => b ++ catB l
def dgsB (l : List ByteArray) : ByteArray := bigB l.length 4 ++ catB l
/-- What four bytes tell of a number. -/
def low4 (n : Int) : Nat := (n % 4294967296).toNat
def sigB (s : Sg) : ByteArray := bigB (low4 s.ix) 4 ++ dgsB s.pa ++ dgsB s.ot ++ dgsB s.pt
def upB (u : Up) : ByteArray := bigB u.home 4 ++ u.old ++ u.new ++ sigB u.sig
def spB (u : Sp) : ByteArray := bigB u.home 4 ++ u.key ++ bigB (low4 u.wat) 4 ++ sigB u.sig
def leB (l : Le) : ByteArray := bigB l.frm 4 ++ bigB l.non 4 ++ bigB l.too 4 ++ textB l.snd ++ textB l.rcv ++ textB l.bod

/-- A call, nothing, a text that is none. -/
inductive Cl where
  | pay (a b : ByteArray) (n k : Nat) (g : Sg)
  | send (a : ByteArray) (o : Nat) (t b : ByteArray) (n k : Nat) (g : Sg)
  | say (a b : ByteArray) (k : Nat) (g : Sg)
  | tell (a b : ByteArray) (k : Nat) (g : Sg)
  | submit (u : Up)
  | improp (u : Up) (c : ByteArray)
  | double (u v : Up) (c : ByteArray)
  | accept (u : Up)
  | doubled (u v : Up)
  | halt (s : Sp)
  | prove (l : ByteArray) (i : Nat) (br : List ByteArray)
  | process (l : Le)
  | no
  | word

def Cl.tag : Cl → Nat
  | .pay .. => 1 | .send .. => 2 | .say .. => 3 | .tell .. => 4 | .submit .. => 5 | .improp .. => 6 | .double .. => 7 | .accept .. => 8
  | .doubled .. => 9 | .halt .. => 10 | .prove .. => 11 | .process .. => 12 | .no => 0 | .word => 0

/-- What stands behind the tag. -/
def Cl.tail : Cl → ByteArray
  | .pay a b n k g => textB a ++ textB b ++ bigB n 8 ++ bigB k 8 ++ sigB g
  | .send a o t b n k g => textB a ++ bigB o 4 ++ textB t ++ textB b ++ bigB n 8 ++ bigB k 8 ++ sigB g
  | .say a b k g => textB a ++ textB b ++ bigB k 8 ++ sigB g
  | .tell a b k g => textB a ++ textB b ++ bigB k 8 ++ sigB g
  | .submit u => textB (upB u)
  | .improp u c => textB (upB u) ++ textB c
  | .double u v c => textB (upB u) ++ textB (upB v) ++ textB c
  | .accept u => textB (upB u)
  | .doubled u v => textB (upB u) ++ textB (upB v)
  | .halt s => textB (spB s)
  | .prove l i br => l ++ bigB i 4 ++ dgsB br
  | .process l => textB (leB l)
  | .no => .empty
  | .word => .empty

/-- What is told beside the bytes. -/
def Cl.idx : Cl → Int × Int
  | .pay _ _ _ _ g => (g.ix, 0)
  | .send _ _ _ _ _ _ g => (g.ix, 0)
  | .say _ _ _ g => (g.ix, 0)
  | .tell _ _ _ g => (g.ix, 0)
  | .submit u => (u.sig.ix, 0)
  | .improp u _ => (u.sig.ix, 0)
  | .double u v _ => (u.sig.ix, v.sig.ix)
  | .accept u => (u.sig.ix, 0)
  | .doubled u v => (u.sig.ix, v.sig.ix)
  | .halt s => (s.sig.ix, s.wat)
  | _ => (0, 0)

def Cl.fit : Cl → Prop
  | .pay a b n k g => tx a ∧ tx b ∧ n < 18446744073709551616 ∧ k < 18446744073709551616 ∧ g.fit
  | .send a o t b n k g => tx a ∧ o < 4294967296 ∧ tx t ∧ tx b ∧ n < 18446744073709551616 ∧ k < 18446744073709551616 ∧ g.fit
  | .say a b k g => tx a ∧ tx b ∧ k < 18446744073709551616 ∧ g.fit
  | .tell a b k g => tx a ∧ tx b ∧ k < 18446744073709551616 ∧ g.fit
  | .submit u => u.fit
  | .improp u c => u.fit ∧ tx c
  | .double u v c => u.fit ∧ v.fit ∧ tx c
  | .accept u => u.fit
  | .doubled u v => u.fit ∧ v.fit
  | .halt s => s.fit
  | .prove l i br => l.size = 32 ∧ i < 4294967296 ∧ dgF br
  | .process l => l.fit
  | .no => True
  | .word => True

theorem app_inj {a b x y : ByteArray} (h : a ++ x = b ++ y) (hs : a.size = b.size) : a = b ∧ x = y := by
  have e : a.data.toList ++ x.data.toList = b.data.toList ++ y.data.toList := by
    have := congrArg (fun z => z.data.toList) h
    simpa [ByteArray.data_append] using this
  have hl : a.data.toList.length = b.data.toList.length := by rw [Array.length_toList, Array.length_toList]; exact hs
  obtain ⟨e1, e2⟩ := List.append_inj e hl
  exact ⟨ba_ext e1, ba_ext e2⟩

theorem big_inj {n m k : Nat} {x y : ByteArray} (hk : k ≤ 8) (hn : n < 256 ^ k) (hm : m < 256 ^ k) (h : bigB n k ++ x = bigB m k ++ y) : n = m ∧ x = y := by
  obtain ⟨e1, e2⟩ := app_inj h (by rw [bigB_size, bigB_size])
  have e3 : be (bigB n k).data.toList 0 = be (bigB m k).data.toList 0 := by rw [e1]
  rw [be_bigB hk hn, be_bigB hk hm] at e3
  exact ⟨e3, e2⟩

theorem big8_inj {n m : Nat} {x y : ByteArray} (hn : n < 18446744073709551616) (hm : m < 18446744073709551616) (h : bigB n 8 ++ x = bigB m 8 ++ y) : n = m ∧ x = y := big_inj (k := 8) (by decide) hn hm h
theorem big4_inj {n m : Nat} {x y : ByteArray} (hn : n < 4294967296) (hm : m < 4294967296) (h : bigB n 4 ++ x = bigB m 4 ++ y) : n = m ∧ x = y := big_inj (k := 4) (by decide) hn hm h

theorem text_inj {a b x y : ByteArray} (ha : a.size < 4294967296) (hb : b.size < 4294967296) (h : textB a ++ x = textB b ++ y) : a = b ∧ x = y := by
  unfold textB at h
  rw [ByteArray.append_assoc, ByteArray.append_assoc] at h
  obtain ⟨e1, e2⟩ := big4_inj ha hb h
  exact app_inj e2 e1

theorem cat_inj : ∀ {l m : List ByteArray} {x y : ByteArray}, (∀ b ∈ l, b.size = 32) → (∀ b ∈ m, b.size = 32) → l.length = m.length → catB l ++ x = catB m ++ y → l = m ∧ x = y
  | [], [], x, y, _, _, _, h => by
    unfold catB at h
    exact ⟨rfl, by rwa [ByteArray.empty_append, ByteArray.empty_append] at h⟩
  | a :: l, b :: m, x, y, hl, hm, hs, h => by
    unfold catB at h
    rw [ByteArray.append_assoc, ByteArray.append_assoc] at h
    obtain ⟨e1, e2⟩ := app_inj h (by rw [hl a List.mem_cons_self, hm b List.mem_cons_self])
    obtain ⟨e3, e4⟩ := cat_inj (fun b hb => hl b (List.mem_cons_of_mem _ hb)) (fun b hb => hm b (List.mem_cons_of_mem _ hb)) (by simpa using hs) e2
    exact ⟨by rw [e1, e3], e4⟩

theorem dgs_inj {l m : List ByteArray} {x y : ByteArray} (hl : dgF l) (hm : dgF m) (h : dgsB l ++ x = dgsB m ++ y) : l = m ∧ x = y := by
  unfold dgsB at h
  rw [ByteArray.append_assoc, ByteArray.append_assoc] at h
  obtain ⟨h1, h2⟩ := hl
  obtain ⟨h3, h4⟩ := hm
  obtain ⟨e1, e2⟩ := big4_inj (by omega) (by omega) h
  exact cat_inj h2 h4 e1 e2

theorem low4_lt (n : Int) : low4 n < 4294967296 := by unfold low4; omega

theorem sig_inj {s t : Sg} {x y : ByteArray} (hs : s.fit) (ht : t.fit) (hi : low4 s.ix = low4 t.ix → s.ix = t.ix) (h : sigB s ++ x = sigB t ++ y) : s = t ∧ x = y := by
  obtain ⟨i, p, o, q⟩ := s
  obtain ⟨i', p', o', q'⟩ := t
  obtain ⟨_, h1, h2, h3⟩ := hs
  obtain ⟨_, h4, h5, h6⟩ := ht
  simp only at hi h1 h2 h3 h4 h5 h6
  unfold sigB at h
  simp only [ByteArray.append_assoc] at h
  obtain ⟨e0, k1⟩ := big4_inj (low4_lt _) (low4_lt _) h
  obtain rfl := hi e0
  obtain ⟨e1, k2⟩ := dgs_inj h1 h4 k1
  obtain ⟨e2, k3⟩ := dgs_inj h2 h5 k2
  obtain ⟨e3, k4⟩ := dgs_inj h3 h6 k3
  subst e1 e2 e3
  exact ⟨rfl, k4⟩

theorem up_inj {u v : Up} {x y : ByteArray} (hu : u.fit) (hv : v.fit) (hi : low4 u.sig.ix = low4 v.sig.ix → u.sig.ix = v.sig.ix) (h : upB u ++ x = upB v ++ y) : u = v ∧ x = y := by
  obtain ⟨a, b, c, s⟩ := u
  obtain ⟨a', b', c', s'⟩ := v
  obtain ⟨h1, h2, h3, h4⟩ := hu
  obtain ⟨h5, h6, h7, h8⟩ := hv
  simp only at hi h1 h2 h3 h4 h5 h6 h7 h8
  unfold upB at h
  simp only [ByteArray.append_assoc] at h
  obtain ⟨e1, k1⟩ := big4_inj h1 h5 h
  obtain ⟨e2, k1⟩ := app_inj k1 (by rw [h2, h6])
  obtain ⟨e3, k1⟩ := app_inj k1 (by rw [h3, h7])
  obtain ⟨e4, k2⟩ := sig_inj h4 h8 hi k1
  subst e1 e2 e3 e4
  exact ⟨rfl, k2⟩

theorem up_inj' {u v : Up} (hu : u.fit) (hv : v.fit) (hi : low4 u.sig.ix = low4 v.sig.ix → u.sig.ix = v.sig.ix) (h : upB u = upB v) : u = v :=
  (up_inj (x := .empty) (y := .empty) hu hv hi (by rw [h])).1

theorem sp_inj' {u v : Sp} (hu : u.fit) (hv : v.fit) (hi : low4 u.sig.ix = low4 v.sig.ix → u.sig.ix = v.sig.ix) (hw : low4 u.wat = low4 v.wat → u.wat = v.wat) (h : spB u = spB v) : u = v := by
  have h : spB u ++ .empty = spB v ++ .empty := by rw [h]
  obtain ⟨a, b, c, s⟩ := u
  obtain ⟨a', b', c', s'⟩ := v
  obtain ⟨h1, h2, h3, h4⟩ := hu
  obtain ⟨h5, h6, h7, h8⟩ := hv
  simp only at hi hw h1 h2 h3 h4 h5 h6 h7 h8
  unfold spB at h
  simp only [ByteArray.append_assoc] at h
  obtain ⟨e1, k1⟩ := big4_inj h1 h5 h
  obtain ⟨e2, k1⟩ := app_inj k1 (by rw [h2, h6])
  obtain ⟨e0, k2⟩ := big4_inj (low4_lt _) (low4_lt _) k1
  obtain rfl := hw e0
  obtain ⟨e4, k3⟩ := sig_inj h4 h8 hi k2
  subst e1 e2 e4
  rfl

theorem cat_size : ∀ {l : List ByteArray}, (∀ b ∈ l, b.size = 32) → (catB l).size = 32 * l.length
  | [], _ => rfl
  | a :: l, h => by
    unfold catB
    rw [ByteArray.size_append, h a List.mem_cons_self, cat_size fun b hb => h b (List.mem_cons_of_mem _ hb), List.length_cons]
    omega

theorem dgsB_size {l : List ByteArray} (h : dgF l) : (dgsB l).size ≤ 4 + 3200 := by
  unfold dgsB
  rw [ByteArray.size_append, bigB_size, cat_size h.2]
  have := h.1
  omega

theorem sigB_size {s : Sg} (h : s.fit) : (sigB s).size ≤ 10000 := by
  unfold sigB
  have h1 := dgsB_size h.2.1
  have h2 := dgsB_size h.2.2.1
  have h3 := dgsB_size h.2.2.2
  simp only [ByteArray.size_append, bigB_size]
  omega

theorem upB_size {u : Up} (h : u.fit) : (upB u).size ≤ 20000 := by
  unfold upB
  have h1 := sigB_size h.2.2.2
  have h2 := h.2.1
  have h3 := h.2.2.1
  simp only [ByteArray.size_append, bigB_size]
  omega

theorem spB_size {u : Sp} (h : u.fit) : (spB u).size ≤ 20000 := by
  unfold spB
  have h1 := sigB_size h.2.2.2
  have h2 := h.2.1
  simp only [ByteArray.size_append, bigB_size]
  omega

theorem leB_size {l : Le} (h : l.fit) : (leB l).size ≤ 20000 := by
  unfold leB
  obtain ⟨_, _, _, h1, h2, h3⟩ := h
  unfold tx at h1 h2 h3
  simp only [ByteArray.size_append, bigB_size, textB_size]
  omega

theorem app_e {a b : ByteArray} (h : a = b) : a ++ ByteArray.empty = b ++ ByteArray.empty := by rw [h]

/-- Of one tag, calls of one tail and one index are one (but a letter's). -/
theorem tail_inj {c d : Cl} (hc : c.fit) (hd : d.fit) (ht : c.tag = d.tag) (h0 : 0 < c.tag) (h12 : c.tag < 12) (h : c.tail = d.tail) (hi : (low4 c.idx.1 = low4 d.idx.1 → c.idx.1 = d.idx.1) ∧ (low4 c.idx.2 = low4 d.idx.2 → c.idx.2 = d.idx.2)) : c = d := by
  have hh := app_e h
  have tl : ∀ {s : ByteArray}, tx s → s.size < 4294967296 := fun {s} hs => Nat.lt_of_le_of_lt hs (by decide)
  have ul : ∀ {u : Up}, u.fit → (upB u).size < 4294967296 := fun {u} hs => Nat.lt_of_le_of_lt (upB_size hs) (by decide)
  cases c with
  | no => exact absurd h0 (Nat.lt_irrefl 0)
  | word => exact absurd h0 (Nat.lt_irrefl 0)
  | process l => exact absurd h12 (Nat.lt_irrefl 12)
  | pay a b n k g =>
    cases d <;> first | (simp [Cl.tag] at ht; done) | skip
    rename_i a' b' n' k' g'
    obtain ⟨c1, c2, c3, c4, c5⟩ := hc
    obtain ⟨d1, d2, d3, d4, d5⟩ := hd
    have gi : low4 g.ix = low4 g'.ix → g.ix = g'.ix := hi.1
    simp only [Cl.tail, ByteArray.append_assoc] at hh
    obtain ⟨rfl, k1⟩ := text_inj (tl c1) (tl d1) hh
    obtain ⟨rfl, k2⟩ := text_inj (tl c2) (tl d2) k1
    obtain ⟨rfl, k3⟩ := big8_inj c3 d3 k2
    obtain ⟨rfl, k4⟩ := big8_inj c4 d4 k3
    obtain ⟨rfl, k5⟩ := sig_inj c5 d5 gi k4
    rfl
  | send a o t b n k g =>
    cases d <;> first | (simp [Cl.tag] at ht; done) | skip
    rename_i a' o' t' b' n' k' g'
    obtain ⟨c1, c0, c6, c2, c3, c4, c5⟩ := hc
    obtain ⟨d1, d0, d6, d2, d3, d4, d5⟩ := hd
    have gi : low4 g.ix = low4 g'.ix → g.ix = g'.ix := hi.1
    simp only [Cl.tail, ByteArray.append_assoc] at hh
    obtain ⟨rfl, k1⟩ := text_inj (tl c1) (tl d1) hh
    obtain ⟨rfl, k2⟩ := big4_inj c0 d0 k1
    obtain ⟨rfl, k3⟩ := text_inj (tl c6) (tl d6) k2
    obtain ⟨rfl, k4⟩ := text_inj (tl c2) (tl d2) k3
    obtain ⟨rfl, k5⟩ := big8_inj c3 d3 k4
    obtain ⟨rfl, k6⟩ := big8_inj c4 d4 k5
    obtain ⟨rfl, k7⟩ := sig_inj c5 d5 gi k6
    rfl
  | say a b k g =>
    cases d <;> first | (simp [Cl.tag] at ht; done) | skip
    rename_i a' b' k' g'
    obtain ⟨c1, c2, c4, c5⟩ := hc
    obtain ⟨d1, d2, d4, d5⟩ := hd
    have gi : low4 g.ix = low4 g'.ix → g.ix = g'.ix := hi.1
    simp only [Cl.tail, ByteArray.append_assoc] at hh
    obtain ⟨rfl, k1⟩ := text_inj (tl c1) (tl d1) hh
    obtain ⟨rfl, k2⟩ := text_inj (tl c2) (tl d2) k1
    obtain ⟨rfl, k3⟩ := big8_inj c4 d4 k2
    obtain ⟨rfl, k4⟩ := sig_inj c5 d5 gi k3
    rfl
  | tell a b k g =>
    cases d <;> first | (simp [Cl.tag] at ht; done) | skip
    rename_i a' b' k' g'
    obtain ⟨c1, c2, c4, c5⟩ := hc
    obtain ⟨d1, d2, d4, d5⟩ := hd
    have gi : low4 g.ix = low4 g'.ix → g.ix = g'.ix := hi.1
    simp only [Cl.tail, ByteArray.append_assoc] at hh
    obtain ⟨rfl, k1⟩ := text_inj (tl c1) (tl d1) hh
    obtain ⟨rfl, k2⟩ := text_inj (tl c2) (tl d2) k1
    obtain ⟨rfl, k3⟩ := big8_inj c4 d4 k2
    obtain ⟨rfl, k4⟩ := sig_inj c5 d5 gi k3
    rfl
  | submit u =>
    cases d <;> first | (simp [Cl.tag] at ht; done) | skip
    rename_i u'
    have gi : low4 u.sig.ix = low4 u'.sig.ix → u.sig.ix = u'.sig.ix := hi.1
    simp only [Cl.tail, ByteArray.append_assoc] at hh
    obtain ⟨k1, _⟩ := text_inj (ul hc) (ul hd) hh
    rw [up_inj' hc hd gi k1]
  | improp u x =>
    cases d <;> first | (simp [Cl.tag] at ht; done) | skip
    rename_i u' x'
    have gi : low4 u.sig.ix = low4 u'.sig.ix → u.sig.ix = u'.sig.ix := hi.1
    simp only [Cl.tail, ByteArray.append_assoc] at hh
    obtain ⟨g, k1⟩ := text_inj (ul hc.1) (ul hd.1) hh
    obtain ⟨rfl, _⟩ := text_inj (tl hc.2) (tl hd.2) k1
    rw [up_inj' hc.1 hd.1 gi g]
  | double u v x =>
    cases d <;> first | (simp [Cl.tag] at ht; done) | skip
    rename_i u' v' x'
    have hi2 : low4 v.sig.ix = low4 v'.sig.ix → v.sig.ix = v'.sig.ix := hi.2
    have gi : low4 u.sig.ix = low4 u'.sig.ix → u.sig.ix = u'.sig.ix := hi.1
    simp only [Cl.tail, ByteArray.append_assoc] at hh
    obtain ⟨g, k1⟩ := text_inj (ul hc.1) (ul hd.1) hh
    obtain ⟨g2, k2⟩ := text_inj (ul hc.2.1) (ul hd.2.1) k1
    obtain ⟨rfl, _⟩ := text_inj (tl hc.2.2) (tl hd.2.2) k2
    rw [up_inj' hc.1 hd.1 gi g, up_inj' hc.2.1 hd.2.1 hi2 g2]
  | accept u =>
    cases d <;> first | (simp [Cl.tag] at ht; done) | skip
    rename_i u'
    have gi : low4 u.sig.ix = low4 u'.sig.ix → u.sig.ix = u'.sig.ix := hi.1
    simp only [Cl.tail, ByteArray.append_assoc] at hh
    obtain ⟨k1, _⟩ := text_inj (ul hc) (ul hd) hh
    rw [up_inj' hc hd gi k1]
  | doubled u v =>
    cases d <;> first | (simp [Cl.tag] at ht; done) | skip
    rename_i u' v'
    have hi2 : low4 v.sig.ix = low4 v'.sig.ix → v.sig.ix = v'.sig.ix := hi.2
    have gi : low4 u.sig.ix = low4 u'.sig.ix → u.sig.ix = u'.sig.ix := hi.1
    simp only [Cl.tail, ByteArray.append_assoc] at hh
    obtain ⟨g, k1⟩ := text_inj (ul hc.1) (ul hd.1) hh
    obtain ⟨g2, k2⟩ := text_inj (ul hc.2) (ul hd.2) k1
    rw [up_inj' hc.1 hd.1 gi g, up_inj' hc.2 hd.2 hi2 g2]
  | halt s =>
    cases d <;> first | (simp [Cl.tag] at ht; done) | skip
    rename_i s'
    have hi2 : low4 s.wat = low4 s'.wat → s.wat = s'.wat := hi.2
    have gi : low4 s.sig.ix = low4 s'.sig.ix → s.sig.ix = s'.sig.ix := hi.1
    simp only [Cl.tail, ByteArray.append_assoc] at hh
    obtain ⟨k1, _⟩ := text_inj (Nat.lt_of_le_of_lt (spB_size hc) (by decide)) (Nat.lt_of_le_of_lt (spB_size hd) (by decide)) hh
    rw [sp_inj' hc hd gi hi2 k1]
  | prove l i br =>
    cases d <;> first | (simp [Cl.tag] at ht; done) | skip
    rename_i l' i' br'
    simp only [Cl.tail, ByteArray.append_assoc] at hh
    obtain ⟨rfl, k0⟩ := app_inj hh (by rw [hc.1, hd.1])
    obtain ⟨rfl, k1⟩ := big4_inj hc.2.1 hd.2.1 k0
    obtain ⟨rfl, k2⟩ := dgs_inj hc.2.2 hd.2.2 k1
    rfl
end Go.Proofs.YtboohfijacjhjaaDoor

/- Calls: their fields, side by side; what a drawn value is (plain). -/
set_option linter.unusedVariables false
namespace Go.Proofs.YtboohfijacjhjaaDoor
open Go.Ab Go.RowKit

/-- A call's fields, whatever its tag. -/
structure Fd where
  tag : Nat
  A : ByteArray
  B : ByteArray
  C : ByteArray
  org : Nat
  n : Nat
  k : Nat
  sig : Sg
  u : Up
  v : Up
  stop : Sp
  leaf : ByteArray
  ix : Nat
  br : List ByteArray
  let' : Le

def z32 : ByteArray := ⟨Array.replicate 32 0⟩
def sg0 : Sg := ⟨0, [], [], []⟩
def up0 : Up := ⟨0, z32, z32, sg0⟩
def sp0 : Sp := ⟨0, z32, 0, sg0⟩
def le0 : Le := ⟨0, 0, 0, .empty, .empty, .empty⟩
def fd0 : Fd := ⟨0, .empty, .empty, .empty, 0, 0, 0, sg0, up0, up0, sp0, z32, 0, [], le0⟩
def Fd.d (f : Fd) : D := .agg [.int .i64 (f.tag : Int), .str f.A, .str f.B, .str f.C, .int .u32 f.org, .int .u64 f.n, .int .u64 f.k, f.sig.d, f.u.d, f.v.d, f.stop.d, dgD f.leaf, .int .u32 f.ix, .sl 32 (dgs f.br), f.let'.d]

def Cl.fd : Cl → Fd
  | .pay a b n k g => { fd0 with tag := 1, A := a, B := b, n := n, k := k, sig := g }
  | .send a o t b n k g => { fd0 with tag := 2, A := a, org := o, B := t, C := b, n := n, k := k, sig := g }
  | .say a b k g => { fd0 with tag := 3, A := a, B := b, k := k, sig := g }
  | .tell a b k g => { fd0 with tag := 4, A := a, B := b, k := k, sig := g }
  | .submit u => { fd0 with tag := 5, u := u }
  | .improp u c => { fd0 with tag := 6, u := u, C := c }
  | .double u v c => { fd0 with tag := 7, u := u, v := v, C := c }
  | .accept u => { fd0 with tag := 8, u := u }
  | .doubled u v => { fd0 with tag := 9, u := u, v := v }
  | .halt s => { fd0 with tag := 10, stop := s }
  | .prove l i br => { fd0 with tag := 11, leaf := l, ix := i, br := br }
  | .process l => { fd0 with tag := 12, let' := l }
  | .no => fd0
  | .word => fd0

theorem fd_tag (c : Cl) : c.fd.tag = c.tag := by cases c <;> rfl

theorem fd_inj {c d : Cl} (h0 : 0 < c.tag) (h : c.fd = d.fd) : c = d := by
  have ht : c.tag = d.tag := by rw [← fd_tag, ← fd_tag, h]
  cases c <;> first | (exact absurd h0 (Nat.lt_irrefl 0)) | skip
  all_goals
    cases d <;> first | (simp [Cl.tag] at ht; done) | skip
  all_goals
    simp only [Cl.fd, Fd.mk.injEq] at h
    simp_all

/-- A value that the law draws. -/
structure An where
  kind : Int
  A : ByteArray
  B : ByteArray
  C : ByteArray
  org : Nat
  n : Nat
  k : Nat
  sig : Sg
  u : Up
  v : Up
  stop : Sp
  leaf : ByteArray
  ix : Nat
  br : List ByteArray
  let' : Le
def An.d (f : An) : D := .agg [.int .i64 f.kind, .str f.A, .str f.B, .str f.C, .int .u32 f.org, .int .u64 f.n, .int .u64 f.k, f.sig.d, f.u.d, f.v.d, f.stop.d, dgD f.leaf, .int .u32 f.ix, .sl 32 (dgs f.br), f.let'.d]

def An.clN (x : An) : Nat → Cl
  | 0 => .pay x.A x.B x.n x.k x.sig
  | 1 => .send x.A x.org x.B x.C x.n x.k x.sig
  | 2 => .say x.A x.B x.k x.sig
  | 3 => .tell x.A x.B x.k x.sig
  | 4 => .submit x.u
  | 5 => .improp x.u x.C
  | 6 => .double x.u x.v x.C
  | 7 => .accept x.u
  | 8 => .doubled x.u x.v
  | 9 => .halt x.stop
  | 10 => .prove x.leaf x.ix x.br
  | 11 => .process x.let'
  | 12 => .no
  | _ => .word
def An.cl (x : An) : Cl := x.clN (x.kind.tmod 14).natAbs

/-- What the types let in. -/
structure An.wf (x : An) : Prop where
  kind : -9223372036854775808 ≤ x.kind ∧ x.kind < 9223372036854775808
  org : x.org < 4294967296
  n : x.n < 18446744073709551616
  k : x.k < 18446744073709551616
  sig : -9223372036854775808 ≤ x.sig.ix ∧ x.sig.ix < 9223372036854775808
  sigL : (∀ b ∈ x.sig.pa, b.size = 32) ∧ (∀ b ∈ x.sig.ot, b.size = 32) ∧ (∀ b ∈ x.sig.pt, b.size = 32)
  u : x.u.home < 4294967296 ∧ x.u.old.size = 32 ∧ x.u.new.size = 32 ∧ (-9223372036854775808 ≤ x.u.sig.ix ∧ x.u.sig.ix < 9223372036854775808) ∧ (∀ b ∈ x.u.sig.pa, b.size = 32) ∧ (∀ b ∈ x.u.sig.ot, b.size = 32) ∧ (∀ b ∈ x.u.sig.pt, b.size = 32)
  v : x.v.home < 4294967296 ∧ x.v.old.size = 32 ∧ x.v.new.size = 32 ∧ (-9223372036854775808 ≤ x.v.sig.ix ∧ x.v.sig.ix < 9223372036854775808) ∧ (∀ b ∈ x.v.sig.pa, b.size = 32) ∧ (∀ b ∈ x.v.sig.ot, b.size = 32) ∧ (∀ b ∈ x.v.sig.pt, b.size = 32)
  s : x.stop.home < 4294967296 ∧ x.stop.key.size = 32 ∧ (-9223372036854775808 ≤ x.stop.wat ∧ x.stop.wat < 9223372036854775808) ∧ (-9223372036854775808 ≤ x.stop.sig.ix ∧ x.stop.sig.ix < 9223372036854775808) ∧ (∀ b ∈ x.stop.sig.pa, b.size = 32) ∧ (∀ b ∈ x.stop.sig.ot, b.size = 32) ∧ (∀ b ∈ x.stop.sig.pt, b.size = 32)
  leaf : x.leaf.size = 32
  ix : x.ix < 4294967296
  br : ∀ b ∈ x.br, b.size = 32
  lt : x.let'.frm < 4294967296 ∧ x.let'.non < 4294967296 ∧ x.let'.too < 4294967296

def Sg.short (s : Sg) : Prop := s.pa.length ≤ 60 ∧ s.ot.length ≤ 60 ∧ s.pt.length ≤ 60
/-- What the law goes through. -/
structure An.light (x : An) : Prop where
  a : x.A.size ≤ 1000
  b : x.B.size ≤ 1000
  c : x.C.size ≤ 1000
  s : x.let'.snd.size ≤ 1000
  r : x.let'.rcv.size ≤ 1000
  t : x.let'.bod.size ≤ 1000
  br : x.br.length ≤ 100
  sig : x.sig.short
  u : x.u.sig.short
  v : x.v.sig.short
  st : x.stop.sig.short

theorem An.fit {x : An} (h : x.wf) (l : x.light) : x.cl.fit := by
  have fs : x.sig.fit := ⟨h.sig, ⟨Nat.le_trans l.sig.1 (by decide), h.sigL.1⟩, ⟨Nat.le_trans l.sig.2.1 (by decide), h.sigL.2.1⟩, ⟨Nat.le_trans l.sig.2.2 (by decide), h.sigL.2.2⟩⟩
  have fu : x.u.fit := ⟨h.u.1, h.u.2.1, h.u.2.2.1, h.u.2.2.2.1, ⟨Nat.le_trans l.u.1 (by decide), h.u.2.2.2.2.1⟩, ⟨Nat.le_trans l.u.2.1 (by decide), h.u.2.2.2.2.2.1⟩, ⟨Nat.le_trans l.u.2.2 (by decide), h.u.2.2.2.2.2.2⟩⟩
  have fv : x.v.fit := ⟨h.v.1, h.v.2.1, h.v.2.2.1, h.v.2.2.2.1, ⟨Nat.le_trans l.v.1 (by decide), h.v.2.2.2.2.1⟩, ⟨Nat.le_trans l.v.2.1 (by decide), h.v.2.2.2.2.2.1⟩, ⟨Nat.le_trans l.v.2.2 (by decide), h.v.2.2.2.2.2.2⟩⟩
  have fp : x.stop.fit := ⟨h.s.1, h.s.2.1, h.s.2.2.1, h.s.2.2.2.1, ⟨Nat.le_trans l.st.1 (by decide), h.s.2.2.2.2.1⟩, ⟨Nat.le_trans l.st.2.1 (by decide), h.s.2.2.2.2.2.1⟩, ⟨Nat.le_trans l.st.2.2 (by decide), h.s.2.2.2.2.2.2⟩⟩
  have H : ∀ k, (x.clN k).fit := by
    intro k
    match k with
    | 0 => exact ⟨l.a, l.b, h.n, h.k, fs⟩
    | 1 => exact ⟨l.a, h.org, l.b, l.c, h.n, h.k, fs⟩
    | 2 => exact ⟨l.a, l.b, h.k, fs⟩
    | 3 => exact ⟨l.a, l.b, h.k, fs⟩
    | 4 => exact fu
    | 5 => exact ⟨fu, l.c⟩
    | 6 => exact ⟨fu, fv, l.c⟩
    | 7 => exact fu
    | 8 => exact ⟨fu, fv⟩
    | 9 => exact fp
    | 10 => exact ⟨h.leaf, h.ix, l.br, h.br⟩
    | 11 => exact ⟨h.lt.1, h.lt.2.1, h.lt.2.2, l.s, l.r, l.t⟩
    | 12 => trivial
    | k + 13 => trivial
  exact H _
end Go.Proofs.YtboohfijacjhjaaDoor

/- Calls: read; what was read is written so (plain). -/
set_option linter.unusedVariables false
namespace Go.Proofs.YtboohfijacjhjaaDoor
open Go.Ab Go.RowKit

/-- A digest of so many bytes as there are. -/
def dgOf (t : ByteArray) : ByteArray := if t.size = 32 then t else z32
def chunkN : Nat → ByteArray → List ByteArray
  | 0, _ => []
  | n + 1, t => t.extract 0 32 :: chunkN n (t.extract 32 t.size)
def chunk (t : ByteArray) : List ByteArray := chunkN (t.size / 32) t

def Rs.dig (r : Rs) : ByteArray := dgOf (r.got 32)
def Rs.dgl (r : Rs) (m : Int) : List ByteArray := chunk ((r.cntR m).got (r.cnt m * 32))
def Rs.dglR (r : Rs) (m : Int) : Rs := (r.cntR m).take (r.cnt m * 32)
/-- A signature's index was read. -/
def Rs.sg1 (r : Rs) : Rs := if (r.num 4 : Int) > 2147483647 then (r.take 4).fail 8 else r.take 4
def Rs.sg2 (r : Rs) : Rs := r.sg1.dglR 32
def Rs.sg3 (r : Rs) : Rs := r.sg2.dglR 32
def Rs.sgR (r : Rs) : Rs := r.sg3.dglR 32
def Rs.sg (r : Rs) : Sg := if r.sgR.e = 0 then ⟨(r.num 4 : Nat), r.sg1.dgl 32, r.sg2.dgl 32, r.sg3.dgl 32⟩ else sg0

def upQ (r : Rs) : Up × Rs := (⟨r.num 4, (r.take 4).dig, ((r.take 4).take 32).dig, (((r.take 4).take 32).take 32).sg⟩, (((r.take 4).take 32).take 32).sgR)
def readU (s : ByteArray) : Up × Int := if (upQ ⟨s, 0⟩).2.out = 0 then ((upQ ⟨s, 0⟩).1, 0) else (up0, (upQ ⟨s, 0⟩).2.out)
def spQ (r : Rs) : Sp × Rs := (⟨r.num 4, (r.take 4).dig, (((r.take 4).take 32).num 4 : Nat), (((r.take 4).take 32).take 4).sg⟩, (((r.take 4).take 32).take 4).sgR)
def readS (s : ByteArray) : Sp × Int := if (spQ ⟨s, 0⟩).2.out = 0 then (if (spQ ⟨s, 0⟩).1.wat > 2147483647 then (sp0, 8) else ((spQ ⟨s, 0⟩).1, 0)) else (sp0, (spQ ⟨s, 0⟩).2.out)
def Le.right (l : Le) : Bool := (rightT l.snd && rightT l.rcv) && decide ((l.bod.size : Int) ≤ 300)
def leQ (r : Rs) : Le × Rs :=
  let r1 := r.take 4; let r2 := r1.take 4; let r3 := r2.take 4; let r4 := r3.txtR 48; let r5 := r4.txtR 48
  (⟨r.num 4, r1.num 4, r2.num 4, r3.txt 48, r4.txt 48, r5.txt 300⟩, r5.txtR 300)
def readL (s : ByteArray) : Le × Int := if (leQ ⟨s, 0⟩).2.out = 0 then (if (leQ ⟨s, 0⟩).1.right then ((leQ ⟨s, 0⟩).1, 0) else (le0, 4)) else (le0, (leQ ⟨s, 0⟩).2.out)

/-- A signed call behind its tag. -/
def sgnQ (t : Nat) (r : Rs) : Cl × Rs :=
  let r1 := r.txtR 48
  match t with
  | 1 => let r2 := r1.txtR 48; let r3 := r2.take 8; let r4 := r3.take 8; (.pay (r.txt 48) (r1.txt 48) (r2.num 8) (r3.num 8) r4.sg, r4.sgR)
  | 2 => let r2 := r1.take 4; let r3 := r2.txtR 48; let r4 := r3.txtR 48; let r5 := r4.take 8; let r6 := r5.take 8
         (.send (r.txt 48) (r1.num 4) (r2.txt 48) (r3.txt 48) (r4.num 8) (r5.num 8) r6.sg, r6.sgR)
  | 3 => let r2 := r1.txtR 256; let r3 := r2.take 8; (.say (r.txt 48) (r1.txt 256) (r2.num 8) r3.sg, r3.sgR)
  | _ => let r2 := r1.txtR 48; let r3 := r2.take 8; (.tell (r.txt 48) (r1.txt 48) (r2.num 8) r3.sg, r3.sgR)

/-- What is told first of two errors. -/
def fst (a b : Int) : Int := if a = 0 then b else a

/-- What a read call is, once all was read. -/
def finC (R : Rs) (c : Cl) (e : Int) : Cl × Int := if R.out = 0 then (if e = 0 then (c, 0) else (.no, e)) else (.no, R.out)

/-- The call that bytes are. -/
def readC (s : ByteArray) : Cl × Int :=
  let t := (Rs.mk s 0).num 1
  let r := (Rs.mk s 0).take 1
  if t = 1 ∨ t = 2 ∨ t = 3 ∨ t = 4 then finC (sgnQ t r).2 (sgnQ t r).1 0
  else if t = 5 then finC (r.txtR 4096) (.submit (readU (r.txt 4096)).1) (readU (r.txt 4096)).2
  else if t = 6 then finC ((r.txtR 4096).txtR 48) (.improp (readU (r.txt 4096)).1 ((r.txtR 4096).txt 48)) (readU (r.txt 4096)).2
  else if t = 7 then finC (((r.txtR 4096).txtR 4096).txtR 48) (.double (readU (r.txt 4096)).1 (readU ((r.txtR 4096).txt 4096)).1 (((r.txtR 4096).txtR 4096).txt 48)) (fst (readU (r.txt 4096)).2 (readU ((r.txtR 4096).txt 4096)).2)
  else if t = 8 then finC (r.txtR 4096) (.accept (readU (r.txt 4096)).1) (readU (r.txt 4096)).2
  else if t = 9 then finC ((r.txtR 4096).txtR 4096) (.doubled (readU (r.txt 4096)).1 (readU ((r.txtR 4096).txt 4096)).1) (fst (readU (r.txt 4096)).2 (readU ((r.txtR 4096).txt 4096)).2)
  else if t = 10 then finC (r.txtR 4096) (.halt (readS (r.txt 4096)).1) (readS (r.txt 4096)).2
  else if t = 11 then finC (((r.take 32).take 4).dglR 64) (.prove r.dig ((r.take 32).num 4) (((r.take 32).take 4).dgl 64)) 0
  else if t = 12 then finC (r.txtR 512) (.process (readL (r.txt 512)).1) (readL (r.txt 512)).2
  else (.no, (r.fail 4).out)

-- What was read is written so.

theorem chunkN_cat : ∀ (n : Nat) (t : ByteArray), t.size = 32 * n → catB (chunkN n t) = t ∧ (chunkN n t).length = n ∧ ∀ b ∈ chunkN n t, b.size = 32
  | 0, t, h => by
    have : t = .empty := size0 (by omega)
    subst this
    exact ⟨rfl, rfl, by simp [chunkN]⟩
  | n + 1, t, h => by
    obtain ⟨h1, h2, h3⟩ := chunkN_cat n (t.extract 32 t.size) (by rw [ByteArray.size_extract]; omega)
    unfold chunkN catB
    refine ⟨?_, by rw [List.length_cons, h2], ?_⟩
    · rw [h1, ByteArray.extract_append_extract, Nat.min_eq_left (by omega), Nat.max_eq_right (by omega)]
      exact ByteArray.extract_zero_size
    · intro b hb
      rcases List.mem_cons.1 hb with rfl | hb
      · rw [ByteArray.size_extract]; omega
      · exact h3 b hb

theorem dig_ok {r : Rs} (h : (r.take 32).e = 0) : r.e = 0 ∧ r.dig.size = 32 ∧ r.s = r.dig ++ (r.take 32).s := by
  obtain ⟨h1, h2, h3⟩ := rd_take_ok (by decide) h
  have e : r.dig = r.got 32 := if_pos (by omega)
  rw [e]
  exact ⟨h1, by omega, h3⟩

theorem dgl_ok {r : Rs} {m : Int} (hm : m ≤ 100) (h0 : 0 ≤ m) (h : (r.dglR m).e = 0) : r.e = 0 ∧ dgF (r.dgl m) ∧ r.s = dgsB (r.dgl m) ++ (r.dglR m).s := by
  unfold Rs.dglR at h
  have hc0 := cnt_nonneg r m
  obtain ⟨h1, h2, h3⟩ := rd_take_ok (by omega) h
  by_cases hc : (r.num 4 : Int) > m
  · have e : r.cntR m = (r.take 4).fail 5 := if_pos hc
    rw [e] at h1
    exact absurd h1 (fail_no (by decide))
  have e : r.cntR m = r.take 4 := if_neg hc
  have e' : r.cnt m = r.num 4 := if_neg hc
  rw [e] at h1
  obtain ⟨g1, g2⟩ := num_ok (k := 4) (by decide) h1
  have hs : ((r.cntR m).got (r.cnt m * 32)).size = 32 * (r.num 4) := by omega
  obtain ⟨c1, c2, c3⟩ := chunkN_cat (r.num 4) _ hs
  have ed : r.dgl m = chunkN (r.num 4) ((r.cntR m).got (r.cnt m * 32)) := by
    unfold Rs.dgl chunk
    rw [hs, Nat.mul_div_cancel_left _ (by decide)]
  refine ⟨g1, ⟨by rw [ed, c2]; omega, by rw [ed]; exact c3⟩, ?_⟩
  unfold dgsB
  rw [ed, c2, c1, ByteArray.append_assoc]
  unfold Rs.dglR
  rw [← h3, e]
  exact g2

theorem sg_ok {r : Rs} (h : r.sgR.e = 0) : r.e = 0 ∧ r.sg.fit ∧ (0 ≤ r.sg.ix ∧ r.sg.ix < 4294967296) ∧ r.s = sigB r.sg ++ r.sgR.s := by
  have e : r.sg = ⟨(r.num 4 : Nat), r.sg1.dgl 32, r.sg2.dgl 32, r.sg3.dgl 32⟩ := if_pos h
  unfold Rs.sgR at h
  obtain ⟨a1, a2, a3⟩ := dgl_ok (by decide) (by decide) h
  unfold Rs.sg3 at a1
  obtain ⟨b1, b2, b3⟩ := dgl_ok (by decide) (by decide) a1
  unfold Rs.sg2 at b1
  obtain ⟨c1, c2, c3⟩ := dgl_ok (by decide) (by decide) b1
  by_cases hc : (r.num 4 : Int) > 2147483647
  · have e : r.sg1 = (r.take 4).fail 8 := if_pos hc
    rw [e] at c1
    exact absurd c1 (fail_no (by decide))
  have e1 : r.sg1 = r.take 4 := if_neg hc
  have c1' := c1
  rw [e1] at c1'
  obtain ⟨d1, d2⟩ := num_ok (k := 4) (by decide) c1'
  have hn := num4_lt r
  refine ⟨d1, ?_, ?_, ?_⟩
  · rw [e]
    exact ⟨⟨by show _ ≤ ((r.num 4 : Nat) : Int); omega, by show ((r.num 4 : Nat) : Int) < _; omega⟩, c2, b2, a2⟩
  · rw [e]
    exact ⟨by show _ ≤ ((r.num 4 : Nat) : Int); omega, by show ((r.num 4 : Nat) : Int) < _; omega⟩
  · rw [e]
    unfold sigB
    simp only
    have : low4 ((r.num 4 : Nat) : Int) = r.num 4 := by unfold low4; omega
    rw [this]
    simp only [ByteArray.append_assoc]
    unfold Rs.sgR
    rw [← a3]
    unfold Rs.sg3
    rw [← b3]
    unfold Rs.sg2
    rw [← c3, e1]
    exact d2

def okI (n : Int) : Prop := 0 ≤ n ∧ n < 4294967296

theorem upQ_ok {r : Rs} (h : (upQ r).2.e = 0) : r.e = 0 ∧ (upQ r).1.fit ∧ okI (upQ r).1.sig.ix ∧ r.s = upB (upQ r).1 ++ (upQ r).2.s := by
  unfold upQ at h ⊢
  simp only at h ⊢
  have n4 := num4_lt r
  obtain ⟨a1, a2, a3, a4⟩ := sg_ok h
  obtain ⟨b1, b2, b3⟩ := dig_ok a1
  obtain ⟨c1, c2, c3⟩ := dig_ok b1
  obtain ⟨d1, d2⟩ := num_ok (r := r) (k := 4) (by decide) c1
  have e4 : ((4 : Nat) : Int) = 4 := rfl
  rw [e4] at d2
  unfold upB Up.fit okI
  simp only [ByteArray.append_assoc]
  generalize r.num 4 = n at *
  generalize r.take 4 = r1 at *
  generalize r1.dig = x1 at *
  generalize r1.take 32 = r2 at *
  generalize r2.dig = x2 at *
  generalize r2.take 32 = r3 at *
  generalize r3.sg = x3 at *
  generalize r3.sgR = r4 at *
  exact ⟨d1, ⟨n4, c2, b2, a2⟩, a3, by rw [d2, c3, b3, a4]⟩

theorem up_ok {s : ByteArray} (h : (readU s).2 = 0) : (readU s).1.fit ∧ okI (readU s).1.sig.ix ∧ upB (readU s).1 = s := by
  have k := upQ_ok (r := ⟨s, 0⟩)
  unfold readU at *
  generalize upQ ⟨s, 0⟩ = q at *
  obtain ⟨u, R⟩ := q
  simp only at *
  by_cases h0 : R.out = 0
  · rw [if_pos h0]
    obtain ⟨g1, g2⟩ := out_ok h0
    obtain ⟨_, k2, k3, k4⟩ := k g1
    rw [g2, ByteArray.append_empty] at k4
    exact ⟨k2, k3, k4.symm⟩
  · rw [if_neg h0] at h
    exact absurd h h0

theorem spQ_ok {r : Rs} (h : (spQ r).2.e = 0) : r.e = 0 ∧ (spQ r).1.fit ∧ okI (spQ r).1.sig.ix ∧ okI (spQ r).1.wat ∧ r.s = spB (spQ r).1 ++ (spQ r).2.s := by
  unfold spQ at h ⊢
  simp only at h ⊢
  have n4 := num4_lt r
  obtain ⟨a1, a2, a3, a4⟩ := sg_ok h
  have m4 := num4_lt ((r.take 4).take 32)
  obtain ⟨b1, b3⟩ := num_ok (r := (r.take 4).take 32) (k := 4) (by decide) a1
  obtain ⟨c1, c2, c3⟩ := dig_ok b1
  obtain ⟨d1, d2⟩ := num_ok (r := r) (k := 4) (by decide) c1
  have e4 : ((4 : Nat) : Int) = 4 := rfl
  rw [e4] at d2 b3
  unfold spB Sp.fit okI
  simp only [ByteArray.append_assoc]
  generalize r.num 4 = n at *
  generalize r.take 4 = r1 at *
  generalize r1.dig = x1 at *
  generalize r1.take 32 = r2 at *
  generalize r2.num 4 = x2 at *
  generalize r2.take 4 = r3 at *
  generalize r3.sg = x3 at *
  generalize r3.sgR = r4 at *
  have hl : low4 (x2 : Int) = x2 := by unfold low4; omega
  exact ⟨d1, ⟨n4, c2, ⟨by omega, by omega⟩, a2⟩, a3, ⟨by omega, by omega⟩, by rw [hl, d2, c3, b3, a4]⟩

theorem sp_ok {s : ByteArray} (h : (readS s).2 = 0) : (readS s).1.fit ∧ okI (readS s).1.sig.ix ∧ okI (readS s).1.wat ∧ spB (readS s).1 = s := by
  have k := spQ_ok (r := ⟨s, 0⟩)
  unfold readS at *
  generalize spQ ⟨s, 0⟩ = q at *
  obtain ⟨u, R⟩ := q
  simp only at *
  by_cases h0 : R.out = 0
  · rw [if_pos h0] at h ⊢
    by_cases hw : u.wat > 2147483647
    · rw [if_pos hw] at h; cases h
    rw [if_neg hw]
    obtain ⟨g1, g2⟩ := out_ok h0
    obtain ⟨_, k2, k3, k5, k4⟩ := k g1
    rw [g2, ByteArray.append_empty] at k4
    exact ⟨k2, k3, k5, k4.symm⟩
  · rw [if_neg h0] at h
    exact absurd h h0

theorem txt_le {r : Rs} {m : Int} (h0 : 0 ≤ m) : ((r.txt m).size : Int) ≤ m := by
  have h1 := got_le (r := r.cntR m) (n := r.cnt m) (cnt_nonneg r m)
  have h2 : r.cnt m ≤ m := by unfold Rs.cnt; split <;> omega
  show (((r.cntR m).got (r.cnt m)).size : Int) ≤ m
  omega

theorem leQ_ok {r : Rs} (h : (leQ r).2.e = 0) : r.e = 0 ∧ (leQ r).1.fit ∧ r.s = leB (leQ r).1 ++ (leQ r).2.s := by
  unfold leQ at h ⊢
  simp only at h ⊢
  have n1 := num4_lt r
  have n2 := num4_lt (r.take 4)
  have n3 := num4_lt ((r.take 4).take 4)
  have t1 := txt_le (r := ((r.take 4).take 4).take 4) (m := 48) (by decide)
  have t2 := txt_le (r := (((r.take 4).take 4).take 4).txtR 48) (m := 48) (by decide)
  have t3 := txt_le (r := ((((r.take 4).take 4).take 4).txtR 48).txtR 48) (m := 300) (by decide)
  obtain ⟨a1, a2⟩ := txt_ok h
  obtain ⟨b1, b2⟩ := txt_ok a1
  obtain ⟨c1, c2⟩ := txt_ok b1
  obtain ⟨d1, d2⟩ := num_ok (r := (r.take 4).take 4) (k := 4) (by decide) c1
  obtain ⟨e1, e2⟩ := num_ok (r := r.take 4) (k := 4) (by decide) d1
  obtain ⟨f1, f2⟩ := num_ok (r := r) (k := 4) (by decide) e1
  have e4 : ((4 : Nat) : Int) = 4 := rfl
  rw [e4] at d2 e2 f2
  unfold leB Le.fit tx
  simp only [ByteArray.append_assoc]
  generalize r.num 4 = x1 at *
  generalize r.take 4 = r1 at *
  generalize r1.num 4 = x2 at *
  generalize r1.take 4 = r2 at *
  generalize r2.num 4 = x3 at *
  generalize r2.take 4 = r3 at *
  generalize r3.txt 48 = y1 at *
  generalize r3.txtR 48 = r4 at *
  generalize r4.txt 48 = y2 at *
  generalize r4.txtR 48 = r5 at *
  generalize r5.txt 300 = y3 at *
  generalize r5.txtR 300 = r6 at *
  exact ⟨f1, ⟨n1, n2, n3, by omega, by omega, by omega⟩, by rw [f2, e2, d2, c2, b2, a2]⟩

theorem le_ok {s : ByteArray} (h : (readL s).2 = 0) : (readL s).1.fit ∧ (readL s).1.right = true ∧ leB (readL s).1 = s := by
  have k := leQ_ok (r := ⟨s, 0⟩)
  unfold readL at *
  generalize leQ ⟨s, 0⟩ = q at *
  obtain ⟨u, R⟩ := q
  simp only at *
  by_cases h0 : R.out = 0
  · rw [if_pos h0] at h ⊢
    by_cases hw : u.right = true
    · rw [if_pos hw]
      obtain ⟨g1, g2⟩ := out_ok h0
      obtain ⟨_, k2, k4⟩ := k g1
      rw [g2, ByteArray.append_empty] at k4
      exact ⟨k2, hw, k4.symm⟩
    · rw [if_neg hw] at h; cases h
  · rw [if_neg h0] at h
    exact absurd h h0

/-- What a call is when it is written: it is right. -/
def Cl.ok (c : Cl) : Prop := match c with
  | .process l => l.right = true
  | .no => False
  | .word => False
  | _ => True
def Cl.bytes (c : Cl) : ByteArray := bigB c.tag 1 ++ c.tail
def Cl.small (c : Cl) : Prop := okI c.idx.1 ∧ okI c.idx.2
end Go.Proofs.YtboohfijacjhjaaDoor

/- Calls: what was read is written so; what is written binds (plain). -/
set_option linter.unusedVariables false
namespace Go.Proofs.YtboohfijacjhjaaDoor
open Go.Ab Go.RowKit

theorem fin_ok {R : Rs} {c : Cl} {e : Int} (h : (finC R c e).2 = 0) : R.e = 0 ∧ R.s = .empty ∧ e = 0 ∧ (finC R c e).1 = c := by
  unfold finC at *
  by_cases h0 : R.out = 0
  · rw [if_pos h0] at h ⊢
    by_cases he : e = 0
    · rw [if_pos he]
      obtain ⟨g1, g2⟩ := out_ok h0
      exact ⟨g1, g2, he, rfl⟩
    · rw [if_neg he] at h
      exact absurd h he
  · rw [if_neg h0] at h
    exact absurd h h0

theorem fst_ok {a b : Int} (h : fst a b = 0) : a = 0 ∧ b = 0 := by
  unfold fst at h
  split at h
  · exact ⟨by assumption, h⟩
  · exact absurd h (by assumption)

theorem tx_of {s : ByteArray} {m : Int} (h : (s.size : Int) ≤ m) (hm : m ≤ 1000) : tx s := by unfold tx; omega

theorem okI0 : okI 0 := ⟨by decide, by decide⟩

theorem sgn1_ok {r : Rs} (h : (sgnQ 1 r).2.e = 0) : r.e = 0 ∧ (sgnQ 1 r).1.fit ∧ (sgnQ 1 r).1.ok ∧ (sgnQ 1 r).1.small ∧ (sgnQ 1 r).1.tag = 1 ∧ r.s = (sgnQ 1 r).1.tail ++ (sgnQ 1 r).2.s := by
  unfold sgnQ at h ⊢
  simp only at h ⊢
  have t0 := txt_le (r := r) (m := 48) (by decide)
  have t1 := txt_le (r := (r.txtR 48)) (m := 48) (by decide)
  have t2 := num8_lt ((r.txtR 48).txtR 48)
  have t3 := num8_lt (((r.txtR 48).txtR 48).take 8)
  obtain ⟨z1, zf, zi, z2⟩ := sg_ok h
  obtain ⟨a3, b3⟩ := num_ok (r := (((r.txtR 48).txtR 48).take 8)) (k := 8) (by decide) z1
  obtain ⟨a2, b2⟩ := num_ok (r := ((r.txtR 48).txtR 48)) (k := 8) (by decide) a3
  obtain ⟨a1, b1⟩ := txt_ok (r := (r.txtR 48)) (m := 48) a2
  obtain ⟨a0, b0⟩ := txt_ok (r := r) (m := 48) a1
  have e8 : ((8 : Nat) : Int) = 8 := rfl
  rw [e8] at b2
  rw [e8] at b3
  unfold Cl.tail Cl.small Cl.fit Cl.ok Cl.tag Cl.idx tx
  simp only [ByteArray.append_assoc]
  generalize r.txt 48 = x0 at *
  generalize r.txtR 48 = r0 at *
  generalize r0.txt 48 = x1 at *
  generalize r0.txtR 48 = r1 at *
  generalize r1.num 8 = x2 at *
  generalize r1.take 8 = r2 at *
  generalize r2.num 8 = x3 at *
  generalize r2.take 8 = r3 at *
  generalize r3.sg = g at *
  generalize r3.sgR = rz at *
  exact ⟨a0, ⟨by omega, by omega, by omega, by omega, zf⟩, trivial, ⟨zi, okI0⟩, trivial, by rw [b0, b1, b2, b3, z2]⟩

theorem sgn2_ok {r : Rs} (h : (sgnQ 2 r).2.e = 0) : r.e = 0 ∧ (sgnQ 2 r).1.fit ∧ (sgnQ 2 r).1.ok ∧ (sgnQ 2 r).1.small ∧ (sgnQ 2 r).1.tag = 2 ∧ r.s = (sgnQ 2 r).1.tail ++ (sgnQ 2 r).2.s := by
  unfold sgnQ at h ⊢
  simp only at h ⊢
  have t0 := txt_le (r := r) (m := 48) (by decide)
  have t1 := num4_lt (r.txtR 48)
  have t2 := txt_le (r := ((r.txtR 48).take 4)) (m := 48) (by decide)
  have t3 := txt_le (r := (((r.txtR 48).take 4).txtR 48)) (m := 48) (by decide)
  have t4 := num8_lt ((((r.txtR 48).take 4).txtR 48).txtR 48)
  have t5 := num8_lt (((((r.txtR 48).take 4).txtR 48).txtR 48).take 8)
  obtain ⟨z1, zf, zi, z2⟩ := sg_ok h
  obtain ⟨a5, b5⟩ := num_ok (r := (((((r.txtR 48).take 4).txtR 48).txtR 48).take 8)) (k := 8) (by decide) z1
  obtain ⟨a4, b4⟩ := num_ok (r := ((((r.txtR 48).take 4).txtR 48).txtR 48)) (k := 8) (by decide) a5
  obtain ⟨a3, b3⟩ := txt_ok (r := (((r.txtR 48).take 4).txtR 48)) (m := 48) a4
  obtain ⟨a2, b2⟩ := txt_ok (r := ((r.txtR 48).take 4)) (m := 48) a3
  obtain ⟨a1, b1⟩ := num_ok (r := (r.txtR 48)) (k := 4) (by decide) a2
  obtain ⟨a0, b0⟩ := txt_ok (r := r) (m := 48) a1
  have e4 : ((4 : Nat) : Int) = 4 := rfl
  have e8 : ((8 : Nat) : Int) = 8 := rfl
  rw [e4] at b1
  rw [e8] at b4
  rw [e8] at b5
  unfold Cl.tail Cl.small Cl.fit Cl.ok Cl.tag Cl.idx tx
  simp only [ByteArray.append_assoc]
  generalize r.txt 48 = x0 at *
  generalize r.txtR 48 = r0 at *
  generalize r0.num 4 = x1 at *
  generalize r0.take 4 = r1 at *
  generalize r1.txt 48 = x2 at *
  generalize r1.txtR 48 = r2 at *
  generalize r2.txt 48 = x3 at *
  generalize r2.txtR 48 = r3 at *
  generalize r3.num 8 = x4 at *
  generalize r3.take 8 = r4 at *
  generalize r4.num 8 = x5 at *
  generalize r4.take 8 = r5 at *
  generalize r5.sg = g at *
  generalize r5.sgR = rz at *
  exact ⟨a0, ⟨by omega, by omega, by omega, by omega, by omega, by omega, zf⟩, trivial, ⟨zi, okI0⟩, trivial, by rw [b0, b1, b2, b3, b4, b5, z2]⟩

theorem sgn3_ok {r : Rs} (h : (sgnQ 3 r).2.e = 0) : r.e = 0 ∧ (sgnQ 3 r).1.fit ∧ (sgnQ 3 r).1.ok ∧ (sgnQ 3 r).1.small ∧ (sgnQ 3 r).1.tag = 3 ∧ r.s = (sgnQ 3 r).1.tail ++ (sgnQ 3 r).2.s := by
  unfold sgnQ at h ⊢
  simp only at h ⊢
  have t0 := txt_le (r := r) (m := 48) (by decide)
  have t1 := txt_le (r := (r.txtR 48)) (m := 256) (by decide)
  have t2 := num8_lt ((r.txtR 48).txtR 256)
  obtain ⟨z1, zf, zi, z2⟩ := sg_ok h
  obtain ⟨a2, b2⟩ := num_ok (r := ((r.txtR 48).txtR 256)) (k := 8) (by decide) z1
  obtain ⟨a1, b1⟩ := txt_ok (r := (r.txtR 48)) (m := 256) a2
  obtain ⟨a0, b0⟩ := txt_ok (r := r) (m := 48) a1
  have e8 : ((8 : Nat) : Int) = 8 := rfl
  rw [e8] at b2
  unfold Cl.tail Cl.small Cl.fit Cl.ok Cl.tag Cl.idx tx
  simp only [ByteArray.append_assoc]
  generalize r.txt 48 = x0 at *
  generalize r.txtR 48 = r0 at *
  generalize r0.txt 256 = x1 at *
  generalize r0.txtR 256 = r1 at *
  generalize r1.num 8 = x2 at *
  generalize r1.take 8 = r2 at *
  generalize r2.sg = g at *
  generalize r2.sgR = rz at *
  exact ⟨a0, ⟨by omega, by omega, by omega, zf⟩, trivial, ⟨zi, okI0⟩, trivial, by rw [b0, b1, b2, z2]⟩

theorem sgn4_ok {r : Rs} (h : (sgnQ 4 r).2.e = 0) : r.e = 0 ∧ (sgnQ 4 r).1.fit ∧ (sgnQ 4 r).1.ok ∧ (sgnQ 4 r).1.small ∧ (sgnQ 4 r).1.tag = 4 ∧ r.s = (sgnQ 4 r).1.tail ++ (sgnQ 4 r).2.s := by
  unfold sgnQ at h ⊢
  simp only at h ⊢
  have t0 := txt_le (r := r) (m := 48) (by decide)
  have t1 := txt_le (r := (r.txtR 48)) (m := 48) (by decide)
  have t2 := num8_lt ((r.txtR 48).txtR 48)
  obtain ⟨z1, zf, zi, z2⟩ := sg_ok h
  obtain ⟨a2, b2⟩ := num_ok (r := ((r.txtR 48).txtR 48)) (k := 8) (by decide) z1
  obtain ⟨a1, b1⟩ := txt_ok (r := (r.txtR 48)) (m := 48) a2
  obtain ⟨a0, b0⟩ := txt_ok (r := r) (m := 48) a1
  have e8 : ((8 : Nat) : Int) = 8 := rfl
  rw [e8] at b2
  unfold Cl.tail Cl.small Cl.fit Cl.ok Cl.tag Cl.idx tx
  simp only [ByteArray.append_assoc]
  generalize r.txt 48 = x0 at *
  generalize r.txtR 48 = r0 at *
  generalize r0.txt 48 = x1 at *
  generalize r0.txtR 48 = r1 at *
  generalize r1.num 8 = x2 at *
  generalize r1.take 8 = r2 at *
  generalize r2.sg = g at *
  generalize r2.sgR = rz at *
  exact ⟨a0, ⟨by omega, by omega, by omega, zf⟩, trivial, ⟨zi, okI0⟩, trivial, by rw [b0, b1, b2, z2]⟩

/-- A call that was read is right, and written so. -/
def good (c : Cl) (s : ByteArray) : Prop := c.fit ∧ c.ok ∧ c.small ∧ c.bytes = s

theorem readC_ok {s : ByteArray} (h : (readC s).2 = 0) : good (readC s).1 s := by
  have h1 : ∀ {c : Cl} {t : Nat}, ((Rs.mk s 0).take 1).e = 0 → (Rs.mk s 0).num 1 = t → c.tag = t → c.tail = ((Rs.mk s 0).take 1).s → c.bytes = s := by
    intro c t g1 g2 g3 g4
    obtain ⟨_, d2⟩ := num_ok (r := Rs.mk s 0) (k := 1) (by decide) g1
    unfold Cl.bytes
    rw [g3, ← g2, g4]
    exact d2.symm
  unfold readC at *
  simp only at *
  generalize (Rs.mk s 0).num 1 = t at *
  generalize (Rs.mk s 0).take 1 = r at *
  by_cases c0 : t = 1 ∨ t = 2 ∨ t = 3 ∨ t = 4
  · rw [if_pos c0] at h ⊢
    obtain ⟨f1, f2, _, f4⟩ := fin_ok h
    rw [f4]
    rcases c0 with rfl | rfl | rfl | rfl
    · obtain ⟨k1, k2, k3, k4, k5, k6⟩ := sgn1_ok f1
      rw [f2, ByteArray.append_empty] at k6
      exact ⟨k2, k3, k4, h1 k1 rfl k5 k6.symm⟩
    · obtain ⟨k1, k2, k3, k4, k5, k6⟩ := sgn2_ok f1
      rw [f2, ByteArray.append_empty] at k6
      exact ⟨k2, k3, k4, h1 k1 rfl k5 k6.symm⟩
    · obtain ⟨k1, k2, k3, k4, k5, k6⟩ := sgn3_ok f1
      rw [f2, ByteArray.append_empty] at k6
      exact ⟨k2, k3, k4, h1 k1 rfl k5 k6.symm⟩
    · obtain ⟨k1, k2, k3, k4, k5, k6⟩ := sgn4_ok f1
      rw [f2, ByteArray.append_empty] at k6
      exact ⟨k2, k3, k4, h1 k1 rfl k5 k6.symm⟩
  rw [if_neg c0] at h ⊢
  by_cases c5 : t = 5
  · rw [if_pos c5] at h ⊢
    obtain ⟨f1, f2, f3, f4⟩ := fin_ok h
    rw [f4]
    clear f4 h
    obtain ⟨a1, a2⟩ := txt_ok (r := r) (m := 4096) f1
    obtain ⟨u1, u2, u3⟩ := up_ok f3
    generalize (readU (r.txt 4096)).1 = U at *
    rw [f2, ByteArray.append_empty] at a2
    refine ⟨u1, trivial, ⟨u2, okI0⟩, h1 a1 c5 rfl ?_⟩
    unfold Cl.tail
    simp only [ByteArray.append_assoc]
    rw [u3]
    exact a2.symm
  rw [if_neg c5] at h ⊢
  by_cases c6 : t = 6
  · rw [if_pos c6] at h ⊢
    obtain ⟨f1, f2, f3, f4⟩ := fin_ok h
    rw [f4]
    clear f4 h
    have t48 := txt_le (r := (r.txtR 4096)) (m := 48) (by decide)
    obtain ⟨b1, b2⟩ := txt_ok (r := (r.txtR 4096)) (m := 48) f1
    obtain ⟨a1, a2⟩ := txt_ok (r := r) (m := 4096) b1
    obtain ⟨u1, u2, u3⟩ := up_ok f3
    generalize (readU (r.txt 4096)).1 = U at *
    generalize (r.txtR 4096).txt 48 = x at *
    rw [f2, ByteArray.append_empty] at b2
    refine ⟨⟨u1, tx_of t48 (by decide)⟩, trivial, ⟨u2, okI0⟩, h1 a1 c6 rfl ?_⟩
    unfold Cl.tail
    simp only [ByteArray.append_assoc]
    rw [u3, ← b2]
    exact a2.symm
  rw [if_neg c6] at h ⊢
  by_cases c7 : t = 7
  · rw [if_pos c7] at h ⊢
    obtain ⟨f1, f2, f3, f4⟩ := fin_ok h
    rw [f4]
    clear f4 h
    have t48 := txt_le (r := ((r.txtR 4096).txtR 4096)) (m := 48) (by decide)
    obtain ⟨d1, d2⟩ := txt_ok (r := ((r.txtR 4096).txtR 4096)) (m := 48) f1
    obtain ⟨b1, b2⟩ := txt_ok (r := (r.txtR 4096)) (m := 4096) d1
    obtain ⟨a1, a2⟩ := txt_ok (r := r) (m := 4096) b1
    obtain ⟨f3, f3b⟩ := fst_ok f3
    obtain ⟨u1, u2, u3⟩ := up_ok f3
    obtain ⟨v1, v2, v3⟩ := up_ok f3b
    generalize (readU (r.txt 4096)).1 = U at *
    generalize (readU ((r.txtR 4096).txt 4096)).1 = V at *
    generalize ((r.txtR 4096).txtR 4096).txt 48 = x at *
    rw [f2, ByteArray.append_empty] at d2
    refine ⟨⟨u1, v1, tx_of t48 (by decide)⟩, trivial, ⟨u2, v2⟩, h1 a1 c7 rfl ?_⟩
    unfold Cl.tail
    simp only [ByteArray.append_assoc]
    rw [u3, v3, ← d2, ← b2]
    exact a2.symm
  rw [if_neg c7] at h ⊢
  by_cases c8 : t = 8
  · rw [if_pos c8] at h ⊢
    obtain ⟨f1, f2, f3, f4⟩ := fin_ok h
    rw [f4]
    clear f4 h
    obtain ⟨a1, a2⟩ := txt_ok (r := r) (m := 4096) f1
    obtain ⟨u1, u2, u3⟩ := up_ok f3
    generalize (readU (r.txt 4096)).1 = U at *
    rw [f2, ByteArray.append_empty] at a2
    refine ⟨u1, trivial, ⟨u2, okI0⟩, h1 a1 c8 rfl ?_⟩
    unfold Cl.tail
    simp only [ByteArray.append_assoc]
    rw [u3]
    exact a2.symm
  rw [if_neg c8] at h ⊢
  by_cases c9 : t = 9
  · rw [if_pos c9] at h ⊢
    obtain ⟨f1, f2, f3, f4⟩ := fin_ok h
    rw [f4]
    clear f4 h
    obtain ⟨b1, b2⟩ := txt_ok (r := (r.txtR 4096)) (m := 4096) f1
    obtain ⟨a1, a2⟩ := txt_ok (r := r) (m := 4096) b1
    obtain ⟨f3, f3b⟩ := fst_ok f3
    obtain ⟨u1, u2, u3⟩ := up_ok f3
    obtain ⟨v1, v2, v3⟩ := up_ok f3b
    generalize (readU (r.txt 4096)).1 = U at *
    generalize (readU ((r.txtR 4096).txt 4096)).1 = V at *
    rw [f2, ByteArray.append_empty] at b2
    refine ⟨⟨u1, v1⟩, trivial, ⟨u2, v2⟩, h1 a1 c9 rfl ?_⟩
    unfold Cl.tail
    simp only [ByteArray.append_assoc]
    rw [u3, v3, ← b2]
    exact a2.symm
  rw [if_neg c9] at h ⊢
  by_cases c10 : t = 10
  · rw [if_pos c10] at h ⊢
    obtain ⟨f1, f2, f3, f4⟩ := fin_ok h
    rw [f4]
    clear f4 h
    obtain ⟨a1, a2⟩ := txt_ok (r := r) (m := 4096) f1
    obtain ⟨u1, u2, u3, u4⟩ := sp_ok f3
    generalize (readS (r.txt 4096)).1 = U at *
    rw [f2, ByteArray.append_empty] at a2
    refine ⟨u1, trivial, ⟨u2, u3⟩, h1 a1 c10 rfl ?_⟩
    unfold Cl.tail
    simp only [ByteArray.append_assoc]
    rw [u4]
    exact a2.symm
  rw [if_neg c10] at h ⊢
  by_cases c11 : t = 11
  · rw [if_pos c11] at h ⊢
    obtain ⟨f1, f2, f3, f4⟩ := fin_ok h
    rw [f4]
    clear f4 h
    have t4 := num4_lt (r.take 32)
    obtain ⟨b1, bf, b2⟩ := dgl_ok (r := ((r.take 32).take 4)) (m := 64) (by decide) (by decide) f1
    obtain ⟨a1, a2⟩ := num_ok (r := (r.take 32)) (k := 4) (by decide) b1
    rw [show ((4 : Nat) : Int) = 4 from rfl] at a2
    obtain ⟨d1, df, d2⟩ := dig_ok (r := r) a1
    generalize r.dig = x at *
    generalize (r.take 32).num 4 = y at *
    generalize ((r.take 32).take 4).dgl 64 = z at *
    rw [f2, ByteArray.append_empty] at b2
    refine ⟨⟨df, t4, bf⟩, trivial, ⟨okI0, okI0⟩, h1 d1 c11 rfl ?_⟩
    unfold Cl.tail
    simp only [ByteArray.append_assoc]
    rw [← b2, ← a2]
    exact d2.symm
  rw [if_neg c11] at h ⊢
  by_cases c12 : t = 12
  · rw [if_pos c12] at h ⊢
    obtain ⟨f1, f2, f3, f4⟩ := fin_ok h
    rw [f4]
    clear f4 h
    obtain ⟨a1, a2⟩ := txt_ok (r := r) (m := 512) f1
    obtain ⟨u1, u2, u3⟩ := le_ok f3
    generalize (readL (r.txt 512)).1 = U at *
    rw [f2, ByteArray.append_empty] at a2
    refine ⟨u1, u2, ⟨okI0, okI0⟩, h1 a1 c12 rfl ?_⟩
    unfold Cl.tail
    simp only [ByteArray.append_assoc]
    rw [u3]
    exact a2.symm
  rw [if_neg c12] at h ⊢
  exfalso
  have : (r.fail 4).e ≠ 0 := fail_no (by decide)
  unfold Rs.out at h
  rw [if_neg this] at h
  exact this h

theorem le_inj' {l m : Le} (hl : l.fit) (hm : m.fit) (h : leB l = leB m) : l = m := by
  have hh : leB l ++ .empty = leB m ++ .empty := by rw [h]
  obtain ⟨a, b, c, x, y, z⟩ := l
  obtain ⟨a', b', c', x', y', z'⟩ := m
  obtain ⟨h1, h2, h3, h4, h5, h6⟩ := hl
  obtain ⟨g1, g2, g3, g4, g5, g6⟩ := hm
  simp only at h1 h2 h3 h4 h5 h6 g1 g2 g3 g4 g5 g6
  unfold tx at h4 h5 h6 g4 g5 g6
  unfold leB at hh
  simp only [ByteArray.append_assoc] at hh
  obtain ⟨rfl, k1⟩ := big4_inj h1 g1 hh
  obtain ⟨rfl, k2⟩ := big4_inj h2 g2 k1
  obtain ⟨rfl, k3⟩ := big4_inj h3 g3 k2
  obtain ⟨rfl, k4⟩ := text_inj (by omega) (by omega) k3
  obtain ⟨rfl, k5⟩ := text_inj (by omega) (by omega) k4
  obtain ⟨rfl, k6⟩ := text_inj (by omega) (by omega) k5
  rfl

/-- Calls of the same bytes and index are one. -/
theorem bytes_inj {c d : Cl} (hc : c.fit) (hd : d.fit) (h0 : 0 < c.tag) (h : c.bytes = d.bytes) (hi : (low4 c.idx.1 = low4 d.idx.1 → c.idx.1 = d.idx.1) ∧ (low4 c.idx.2 = low4 d.idx.2 → c.idx.2 = d.idx.2)) : c = d := by
  unfold Cl.bytes at h
  have t256 : ∀ c : Cl, c.tag < 256 := fun c => by cases c <;> (unfold Cl.tag; simp only; decide)
  obtain ⟨ht, hb⟩ := big_inj (k := 1) (by decide) (t256 c) (t256 d) h
  by_cases h12 : c.tag < 12
  · exact tail_inj hc hd ht h0 h12 hb hi
  · cases c <;> first | (exact absurd (show (_ : Nat) < 12 by unfold Cl.tag; simp only; decide) h12) | skip
    cases d <;> first | (simp [Cl.tag] at ht; done) | skip
    rename_i l m
    have hb : textB (leB l) ++ .empty = textB (leB m) ++ .empty := app_e hb
    obtain ⟨hb, _⟩ := text_inj (Nat.lt_of_le_of_lt (leB_size hc) (by decide)) (Nat.lt_of_le_of_lt (leB_size hd) (by decide)) hb
    rw [le_inj' hc hd hb]

theorem low4_inj {a b : Int} (ha : okI a) (hb : okI b) (h : low4 a = low4 b) : a = b := by
  unfold okI low4 at *; omega

theorem bytes_small {c d : Cl} (hc : c.fit) (hd : d.fit) (h0 : 0 < c.tag) (h : c.bytes = d.bytes) (h1 : c.small) (h2 : d.small) : c = d :=
  bytes_inj hc hd h0 h ⟨low4_inj h1.1 h2.1, low4_inj h1.2 h2.2⟩
end Go.Proofs.YtboohfijacjhjaaDoor

/- Digests, signatures, updates, stops, letters: their bytes, the program's and the document's (printed by gen/cbytes.py). -/
set_option linter.unusedVariables false
namespace Go.Proofs.YtboohfijacjhjaaDoor
open Go.Ab Go.RowKit

theorem wrapLow (n : Int) : IntKind.u32.wrap n = ((low4 n : Nat) : Int) := by
  unfold low4
  simp [IntKind.wrap, IntKind.bits, IntKind.signed]
  omega

theorem bigB_mod (n : Nat) : bigB n 4 = bigB (n % 4294967296) 4 := by
  have e : ∀ n : Nat, bigB n 4 = ⟨#[UInt8.ofNat (n / 16777216), UInt8.ofNat (n / 65536), UInt8.ofNat (n / 256), UInt8.ofNat (n / 1)]⟩ := fun n => rfl
  have q : ∀ a b : Nat, a % 256 = b % 256 → UInt8.ofNat a = UInt8.ofNat b := fun a b h => UInt8.toNat_inj.1 (by rw [UInt8.toNat_ofNat', UInt8.toNat_ofNat']; exact h)
  rw [e n, e (n % 4294967296), q (n / 16777216) (n % 4294967296 / 16777216) (by omega), q (n / 65536) (n % 4294967296 / 65536) (by omega), q (n / 256) (n % 4294967296 / 256) (by omega), q (n / 1) (n % 4294967296 / 1) (by omega)]

theorem rbigLow {i : Int} : CallR cx 61 [u64 (IntKind.u64.wrap i), i64 4] [] fun r S => r = st (bigB (low4 i) 4) ∧ S = [] := by
  have e : IntKind.u64.wrap i = (((i % 18446744073709551616).toNat : Nat) : Int) := by rw [Ab.wrap64]; omega
  have h := rbig4_c (n := (i % 18446744073709551616).toNat) (by omega)
  rw [e]
  rw [bigB_mod] at h
  have e2 : (i % 18446744073709551616).toNat % 4294967296 = low4 i := by unfold low4; omega
  rw [e2] at h
  exact h

theorem bytes32 {b : ByteArray} (h : b.size = 32) : ((D.bytes b).drop 0).take 32 = D.bytes b := by
  rw [List.drop_zero]
  exact List.take_of_length_le (by rw [bytes_length]; omega)

theorem wdig_c {b : ByteArray} (hb : b.size = 32) : CallR cx 78 [.d (dgD b)] [] fun r S => r = st b ∧ S = [] := by
  have e := bytes32 hb
  unfold dgD
  generalize hq : D.bytes b = q at *
  refine callR_of (R := R1) cx_ok Tryd.func78 (by kernel_rfl) rfl ?_
  conv => whnf
  refine ⟨by decide, ?_⟩
  conv => whnf
  refine ⟨b, ⟨by rw [hq]; exact e, by rw [hb]; rfl⟩, ?_⟩
  conv => whnf
  exact ⟨rfl, rfl⟩

theorem rdig_c {b : ByteArray} (hb : b.size = 32) : CallR cx 83 [.d (dgD b)] [] fun r S => r = st b ∧ S = [] := by
  have e := bytes32 hb
  unfold dgD
  generalize hq : D.bytes b = q at *
  refine callR_of (R := R1) cx_ok Tryd.func83 (by kernel_rfl) rfl ?_
  conv => whnf
  refine ⟨by decide, ?_⟩
  conv => whnf
  refine ⟨b, ⟨by rw [hq]; exact e, by rw [hb]; rfl⟩, ?_⟩
  conv => whnf
  exact ⟨rfl, rfl⟩

theorem write_c {p : AV} {s b : ByteArray} (hp : p = .d .nilP ∨ p = .ptr 0 []) (hb : b.size = 32) (hs : s.size ≤ 1000000000) : CallR cx 116 [.ptr 0 [], .d (.sl 1 (((D.bytes b).drop 0).take 32))] (bd p s) fun r S =>
    r = .tup [.d (.int .i64 32), .d .nilI] ∧ S = [.tvar 199 (.agg [.ptr 0 [], .row 2]), .sealed (.sl 1 (D.bytes s)), .row 5 1 (D.bytes (s ++ b))] := by
  have cc := copyCheck_c (p := p) (s := s) hp
  rw [bytes32 hb]
  have hl := bytes_length s
  have hl2 := bytes_length b
  unfold bd at cc ⊢
  rw [bytes_append]
  rw [hb] at hl2
  generalize D.bytes s = xs at *
  generalize D.bytes b = ys at *
  have go : ∀ q : AV, CallR cx 134 [.ptr 0 []] [.tvar 199 (.agg [q, .row 1]), .row 5 1 xs] (fun r S => r = .tup [] ∧ S = [.tvar 199 (.agg [.ptr 0 [], .row 1]), .row 5 1 xs]) →
      (q = .d .nilP ∨ q = .ptr 0 []) → CallR cx 116 [.ptr 0 [], .d (.sl 1 ys)] [.tvar 199 (.agg [q, .row 1]), .row 5 1 xs] fun r S =>
    r = .tup [.d (.int .i64 32), .d .nilI] ∧ S = [.tvar 199 (.agg [.ptr 0 [], .row 2]), .sealed (.sl 1 xs), .row 5 1 (xs ++ ys)] := by
    rintro q cc (rfl | rfl) <;>
    · refine callR_of (R := R1) cx_ok Tryd.func116 (by kernel_rfl) rfl ?_
      conv => whnf
      refine ⟨_, cc, ?_⟩
      rintro _ _ ⟨rfl, rfl⟩
      conv => whnf
      refine ⟨⟨by omega, by show (xs.length + ys.length) * (1 + 1) ≤ _; omega⟩, ?_⟩
      conv => whnf
      refine ⟨?_, rfl⟩
      rw [hl2]; rfl
  exact go p cc hp

theorem dgs_getD {l : List ByteArray} {j : Nat} (h : j < l.length) : (dgs l).getD (j : Int).toNat .nilP = dgD (l[j]'h) := by
  unfold dgs
  rw [Int.toNat_natCast, List.getD_eq_getElem?_getD, List.getElem?_map, List.getElem?_eq_getElem h]
  rfl

theorem cat_snoc (l : List ByteArray) (b : ByteArray) : catB (l ++ [b]) = catB l ++ b := by
  induction l with
  | nil => show b ++ .empty = .empty ++ b; rw [ByteArray.append_empty, ByteArray.empty_append]
  | cons a l ih => show a ++ catB (l ++ [b]) = a ++ catB l ++ b; rw [ih, ByteArray.append_assoc]

theorem cat_take {l : List ByteArray} {j : Nat} (h : j < l.length) : catB (l.take (j + 1)) = catB (l.take j) ++ l[j]'h := by
  rw [List.take_add_one, List.getElem?_eq_getElem h]
  exact cat_snoc _ _

theorem rdgs_c {l : List ByteArray} (hl : dgF l) : CallR cx 84 [.d (.sl 32 (dgs l))] [] fun r S => r = st (dgsB l) ∧ S = [] := by
  obtain ⟨h1, h2⟩ := hl
  have hlen : (dgs l).length = l.length := List.length_map _
  have bc : CallR cx 61 [u64 (IntKind.u64.wrap (((dgs l).length : Nat) : Int)), i64 4] [] fun r S => r = st (bigB l.length 4) ∧ S = [] := by
    rw [hlen, wrapN (by omega)]; exact rbig4_c (by omega)
  unfold dgsB
  generalize hB : bigB l.length 4 = B at *
  have hBs : B.size = 4 := by rw [← hB, bigB_size]
  refine callR_of (R := R1) cx_ok Tryd.func84 (by kernel_rfl) rfl ?_
  conv => whnf
  refine ⟨_, bc, ?_⟩
  rintro _ _ ⟨rfl, rfl⟩
  conv => whnf
  refine .inl ⟨fun m L S => ∃ j : Nat, j ≤ l.length ∧ m = l.length - j ∧
      L = [(3, st (B ++ catB (l.take j))), (10, .d (.sl 32 (dgs l))), (11, i64 (((dgs l).length : Nat) : Int)), (12, i64 (j : Int))] ∧ S = [],
    ⟨_, _, ⟨0, Nat.zero_le _, rfl, rfl, rfl⟩, ⟨congrArg (fun z => some (st z)) (show B = B ++ .empty by rw [ByteArray.append_empty]), rfl, rfl, rfl, trivial⟩⟩, ?_⟩
  rintro _ _ _ ⟨j, hj, rfl, rfl, rfl⟩
  have hc := cat_size (l := l.take j) (fun b hb => h2 b (List.mem_of_mem_take hb))
  rw [List.length_take] at hc
  conv => whnf
  refine brec (fun h4 => ?_) (fun h4 => ?_)
  · have h4 := of_decide_eq_true h4
    rw [hlen] at h4
    have hlt : j < l.length := by omega
    conv => whnf
    refine ⟨⟨by omega, by rw [hlen]; omega⟩, ?_⟩
    rw [dgs_getD hlt]
    have hct := cat_take hlt
    have hsz := h2 _ (List.getElem_mem hlt)
    generalize l[j]'hlt = b at *
    have dc := rdig_c hsz
    have e3 : IntKind.i64.wrap ((j : Int) + 1) = ((j + 1 : Nat) : Int) := by rw [w64 (by omega)]; omega
    generalize catB (l.take j) = C at *
    conv => whnf
    refine ⟨_, dc, ?_⟩
    rintro _ _ ⟨rfl, rfl⟩
    conv => whnf
    refine ⟨by simp only [ByteArray.size_append]; omega, ?_⟩
    conv => whnf
    exact ⟨_, _, 0, (by omega : l.length - (j + 1) < l.length - j), ⟨j + 1, by omega, rfl, rfl, rfl⟩,
      ⟨congrArg (fun z => some (st z)) (by rw [hct, ByteArray.append_assoc]), rfl, rfl, congrArg (fun z => some (i64 z)) e3, trivial⟩, rfl⟩
  · have h4 := of_decide_eq_false h4
    rw [hlen] at h4
    obtain rfl : j = l.length := by omega
    conv => whnf
    rw [List.take_length]
    exact ⟨rfl, rfl⟩

theorem wdgs_c {l : List ByteArray} (hl : dgF l) : CallR cx 79 [.d (.sl 32 (dgs l))] [] fun r S => r = st (dgsB l) ∧ S = [] := by
  obtain ⟨h1, h2⟩ := hl
  have hlen : (dgs l).length = l.length := List.length_map _
  have bc : CallR cx 58 [u32 (IntKind.u32.wrap (((dgs l).length : Nat) : Int))] [] fun r S => r = st (bigB l.length 4) ∧ S = [] := by
    rw [hlen, wrap32 (by omega)]; exact wword_c (by omega)
  unfold dgsB
  generalize hB : bigB l.length 4 = B at *
  have hBs : B.size = 4 := by rw [← hB, bigB_size]
  refine callR_of (R := R1) cx_ok Tryd.func79 (by kernel_rfl) rfl ?_
  conv => whnf
  refine ⟨_, bc, ?_⟩
  rintro _ _ ⟨rfl, rfl⟩
  conv => whnf
  refine ⟨_, writeString_c (s := .empty) (.inl rfl) (by rw [hBs]; decide), ?_⟩
  rintro _ _ ⟨rfl, rfl⟩
  conv => whnf
  have e0 : D.bytes (ByteArray.empty ++ B) = D.bytes (B ++ catB (l.take 0)) := by rw [ByteArray.empty_append]; show _ = D.bytes (B ++ .empty); rw [ByteArray.append_empty]
  refine .inr ⟨fun m L S => ∃ j : Nat, j ≤ l.length ∧ m = l.length - j ∧
      L = [(3, .ptr 1 []), (11, .d (.sl 32 (dgs l))), (12, i64 (((dgs l).length : Nat) : Int)), (13, i64 (j : Int))] ∧
      S = [.sealed (.sl 1 (D.bytes .empty)), .tvar 199 (.agg [.ptr 1 [], .row 2]), .row 5 1 (D.bytes (B ++ catB (l.take j)))],
    ⟨_, _, ⟨0, Nat.zero_le _, rfl, rfl, congrArg (fun z => [Blk.sealed (.sl 1 (D.bytes .empty)), .tvar 199 (.agg [.ptr 1 [], .row 2]), .row 5 1 z]) e0⟩, ⟨rfl, rfl, rfl, rfl, trivial⟩⟩, ?_⟩
  rintro _ _ _ ⟨j, hj, rfl, rfl, rfl⟩
  have hc := cat_size (l := l.take j) (fun b hb => h2 b (List.mem_of_mem_take hb))
  rw [List.length_take] at hc
  conv => whnf
  refine brec (fun h4 => ?_) (fun h4 => ?_)
  · have h4 := of_decide_eq_true h4
    rw [hlen] at h4
    have hlt : j < l.length := by omega
    conv => whnf
    refine ⟨⟨by omega, by rw [hlen]; omega⟩, ?_⟩
    rw [dgs_getD hlt]
    have hct := cat_take hlt
    have hsz := h2 _ (List.getElem_mem hlt)
    generalize l[j]'hlt = b at *
    have e3 : IntKind.i64.wrap ((j : Int) + 1) = ((j + 1 : Nat) : Int) := by rw [w64 (by omega)]; omega
    generalize catB (l.take j) = C at *
    have wc := write_c (p := .ptr 0 []) (s := B ++ C) (b := b) (.inr rfl) hsz (by simp only [ByteArray.size_append]; omega)
    conv => whnf
    refine ⟨by decide, ?_⟩
    conv => whnf
    refine ⟨_, wc, ?_⟩
    rintro _ _ ⟨rfl, rfl⟩
    conv => whnf
    refine ⟨l.length - (j + 1), [(3, .ptr 1 []), (11, .d (.sl 32 (dgs l))), (12, i64 (((dgs l).length : Nat) : Int)), (13, i64 ((j + 1 : Nat) : Int))], [0, 1, 4], by omega, ⟨rfl, rfl, rfl, congrArg (fun z => some (i64 z)) e3, trivial⟩, ?_⟩
    conv => whnf
    refine ⟨j + 1, by omega, rfl, rfl, ?_⟩
    rw [hct, ← ByteArray.append_assoc]
  · have h4 := of_decide_eq_false h4
    rw [hlen] at h4
    obtain rfl : j = l.length := by omega
    rw [List.take_length]
    conv => whnf
    refine ⟨_, string_c (.inr rfl), ?_⟩
    rintro _ _ ⟨rfl, rfl⟩
    conv => whnf
    exact ⟨rfl, rfl⟩
theorem wsig_c {s : Sg} (hs : s.fit) : CallR cx 75 [.d s.d] [] fun r S => r = st (sigB s) ∧ S = [] := by
  obtain ⟨_, h1, h2, h3⟩ := hs
  obtain ⟨i, pa, ot, pt⟩ := s
  simp only at h1 h2 h3
  have d1 := wdgs_c h1
  have d2 := wdgs_c h2
  have d3 := wdgs_c h3
  have s1 := dgsB_size h1
  have s2 := dgsB_size h2
  have s3 := dgsB_size h3
  unfold sigB Sg.d
  have wo : CallR cx 58 [u32 (IntKind.u32.wrap i)] [] fun r S => r = st (bigB (low4 i) 4) ∧ S = [] := by
    rw [wrapLow]; exact wword_c (low4_lt i)
  generalize dgs pa = l1 at *
  generalize dgs ot = l2 at *
  generalize dgs pt = l3 at *
  simp only
  generalize dgsB pa = P at *
  generalize dgsB ot = O at *
  generalize dgsB pt = Q at *
  generalize low4 i = k at *
  refine callR_of (R := R1) cx_ok Tryd.func75 (by kernel_rfl) rfl ?_
  conv => whnf
  refine ⟨by kernel_rfl, ?_⟩
  conv => whnf
  refine ⟨_, wo, ?_⟩
  conv => whnf
  refine ⟨_, d1, ?_⟩
  conv => whnf
  refine ⟨by (repeat (first | rw [ByteArray.size_append] | rw [bigB_size])); omega, ?_⟩
  conv => whnf
  refine ⟨_, d2, ?_⟩
  conv => whnf
  refine ⟨by (repeat (first | rw [ByteArray.size_append] | rw [bigB_size])); omega, ?_⟩
  conv => whnf
  refine ⟨_, d3, ?_⟩
  conv => whnf
  refine ⟨by (repeat (first | rw [ByteArray.size_append] | rw [bigB_size])); omega, ?_⟩
  conv => whnf
  refine ⟨by kernel_rfl, ?_⟩
  conv => whnf
  exact ⟨rfl, rfl⟩

theorem rsig_c {s : Sg} (hs : s.fit) : CallR cx 87 [.d s.d] [] fun r S => r = st (sigB s) ∧ S = [] := by
  obtain ⟨_, h1, h2, h3⟩ := hs
  obtain ⟨i, pa, ot, pt⟩ := s
  simp only at h1 h2 h3
  have d1 := rdgs_c h1
  have d2 := rdgs_c h2
  have d3 := rdgs_c h3
  have s1 := dgsB_size h1
  have s2 := dgsB_size h2
  have s3 := dgsB_size h3
  unfold sigB Sg.d
  have wo : CallR cx 61 [u64 ((IntKind.u64.wrap i).tmod 4294967296), i64 4] [] fun r S => r = st (bigB (low4 i) 4) ∧ S = [] := by
    have e : (IntKind.u64.wrap i).tmod 4294967296 = ((low4 i : Nat) : Int) := by
      rw [Ab.wrap64, Int.tmod_eq_emod_of_nonneg (by omega)]; unfold low4; omega
    rw [e]; exact rbig4_c (by have := low4_lt i; omega)
  generalize dgs pa = l1 at *
  generalize dgs ot = l2 at *
  generalize dgs pt = l3 at *
  simp only
  generalize dgsB pa = P at *
  generalize dgsB ot = O at *
  generalize dgsB pt = Q at *
  generalize low4 i = k at *
  refine callR_of (R := R1) cx_ok Tryd.func87 (by kernel_rfl) rfl ?_
  conv => whnf
  refine ⟨by kernel_rfl, ?_⟩
  conv => whnf
  refine ⟨by decide, ?_⟩
  conv => whnf
  refine ⟨_, wo, ?_⟩
  conv => whnf
  refine ⟨_, d1, ?_⟩
  conv => whnf
  refine ⟨by (repeat (first | rw [ByteArray.size_append] | rw [bigB_size])); omega, ?_⟩
  conv => whnf
  refine ⟨_, d2, ?_⟩
  conv => whnf
  refine ⟨by (repeat (first | rw [ByteArray.size_append] | rw [bigB_size])); omega, ?_⟩
  conv => whnf
  refine ⟨_, d3, ?_⟩
  conv => whnf
  refine ⟨by (repeat (first | rw [ByteArray.size_append] | rw [bigB_size])); omega, ?_⟩
  conv => whnf
  refine ⟨by kernel_rfl, ?_⟩
  conv => whnf
  exact ⟨rfl, rfl⟩

theorem wup_c {u : Up} (hu : u.fit) : CallR cx 114 [.d u.d] [] fun r S => r = st (upB u) ∧ S = [] := by
  obtain ⟨h1, h2, h3, h4⟩ := hu
  obtain ⟨n, a, b, s⟩ := u
  simp only at h1 h2 h3 h4
  have wo := wword_c (n := n) h1
  have d1 := wdig_c h2
  have d2 := wdig_c h3
  have d3 := wsig_c h4
  have s3 := sigB_size h4
  unfold upB Up.d
  simp only
  generalize sigB s = Q at *
  obtain ⟨si, sa, sb, sc⟩ := s
  unfold Sg.d at *
  simp only at *
  generalize dgs sa = la at *
  generalize dgs sb = lb at *
  generalize dgs sc = lc at *
  unfold dgD at *
  generalize D.bytes a = ad at *
  generalize D.bytes b = bd at *
  refine callR_of (R := R1) cx_ok Tryd.func114 (by kernel_rfl) rfl ?_
  conv => whnf
  refine ⟨by kernel_rfl, ?_⟩
  conv => whnf
  refine ⟨_, wo, ?_⟩
  conv => whnf
  refine ⟨_, d1, ?_⟩
  conv => whnf
  refine ⟨by (repeat (first | rw [ByteArray.size_append] | rw [bigB_size])); omega, ?_⟩
  conv => whnf
  refine ⟨_, d2, ?_⟩
  conv => whnf
  refine ⟨by (repeat (first | rw [ByteArray.size_append] | rw [bigB_size])); omega, ?_⟩
  conv => whnf
  refine ⟨_, d3, ?_⟩
  conv => whnf
  refine ⟨by (repeat (first | rw [ByteArray.size_append] | rw [bigB_size])); omega, ?_⟩
  conv => whnf
  refine ⟨by kernel_rfl, ?_⟩
  conv => whnf
  exact ⟨rfl, rfl⟩

theorem rup_c {u : Up} (hu : u.fit) : CallR cx 81 [.d u.d] [] fun r S => r = st (upB u) ∧ S = [] := by
  obtain ⟨h1, h2, h3, h4⟩ := hu
  obtain ⟨n, a, b, s⟩ := u
  simp only at h1 h2 h3 h4
  have wo : CallR cx 61 [u64 (IntKind.u64.wrap (n : Int)), i64 4] [] fun r S => r = st (bigB n 4) ∧ S = [] := by rw [wrapN (by omega)]; exact rbig4_c (by omega)
  have d1 := rdig_c h2
  have d2 := rdig_c h3
  have d3 := rsig_c h4
  have s3 := sigB_size h4
  unfold upB Up.d
  simp only
  generalize sigB s = Q at *
  obtain ⟨si, sa, sb, sc⟩ := s
  unfold Sg.d at *
  simp only at *
  generalize dgs sa = la at *
  generalize dgs sb = lb at *
  generalize dgs sc = lc at *
  unfold dgD at *
  generalize D.bytes a = ad at *
  generalize D.bytes b = bd at *
  refine callR_of (R := R1) cx_ok Tryd.func81 (by kernel_rfl) rfl ?_
  conv => whnf
  refine ⟨by kernel_rfl, ?_⟩
  conv => whnf
  refine ⟨_, wo, ?_⟩
  conv => whnf
  refine ⟨_, d1, ?_⟩
  conv => whnf
  refine ⟨by (repeat (first | rw [ByteArray.size_append] | rw [bigB_size])); omega, ?_⟩
  conv => whnf
  refine ⟨_, d2, ?_⟩
  conv => whnf
  refine ⟨by (repeat (first | rw [ByteArray.size_append] | rw [bigB_size])); omega, ?_⟩
  conv => whnf
  refine ⟨_, d3, ?_⟩
  conv => whnf
  refine ⟨by (repeat (first | rw [ByteArray.size_append] | rw [bigB_size])); omega, ?_⟩
  conv => whnf
  refine ⟨by kernel_rfl, ?_⟩
  conv => whnf
  exact ⟨rfl, rfl⟩

theorem wsp_c {u : Sp} (hu : u.fit) : CallR cx 77 [.d u.d] [] fun r S => r = st (spB u) ∧ S = [] := by
  obtain ⟨h1, h2, _, h4⟩ := hu
  obtain ⟨n, a, i, s⟩ := u
  simp only at h1 h2 h4
  have wo := wword_c (n := n) h1
  have w2 : CallR cx 58 [u32 (IntKind.u32.wrap i)] [] fun r S => r = st (bigB (low4 i) 4) ∧ S = [] := by
    rw [wrapLow]; exact wword_c (low4_lt i)
  have d1 := wdig_c h2
  have d3 := wsig_c h4
  have s3 := sigB_size h4
  unfold spB Sp.d
  simp only
  generalize sigB s = Q at *
  obtain ⟨si, sa, sb, sc⟩ := s
  unfold Sg.d at *
  simp only at *
  generalize dgs sa = la at *
  generalize dgs sb = lb at *
  generalize dgs sc = lc at *
  unfold dgD at *
  generalize D.bytes a = ad at *
  generalize low4 i = k at *
  refine callR_of (R := R1) cx_ok Tryd.func77 (by kernel_rfl) rfl ?_
  conv => whnf
  refine ⟨by kernel_rfl, ?_⟩
  conv => whnf
  refine ⟨_, wo, ?_⟩
  conv => whnf
  refine ⟨_, d1, ?_⟩
  conv => whnf
  refine ⟨by (repeat (first | rw [ByteArray.size_append] | rw [bigB_size])); omega, ?_⟩
  conv => whnf
  refine ⟨_, w2, ?_⟩
  conv => whnf
  refine ⟨by (repeat (first | rw [ByteArray.size_append] | rw [bigB_size])); omega, ?_⟩
  conv => whnf
  refine ⟨_, d3, ?_⟩
  conv => whnf
  refine ⟨by (repeat (first | rw [ByteArray.size_append] | rw [bigB_size])); omega, ?_⟩
  conv => whnf
  refine ⟨by kernel_rfl, ?_⟩
  conv => whnf
  exact ⟨rfl, rfl⟩

theorem rsp_c {u : Sp} (hu : u.fit) : CallR cx 82 [.d u.d] [] fun r S => r = st (spB u) ∧ S = [] := by
  obtain ⟨h1, h2, _, h4⟩ := hu
  obtain ⟨n, a, i, s⟩ := u
  simp only at h1 h2 h4
  have wo : CallR cx 61 [u64 (IntKind.u64.wrap (n : Int)), i64 4] [] fun r S => r = st (bigB n 4) ∧ S = [] := by rw [wrapN (by omega)]; exact rbig4_c (by omega)
  have w2 := rbigLow (i := i)
  have d1 := rdig_c h2
  have d3 := rsig_c h4
  have s3 := sigB_size h4
  unfold spB Sp.d
  simp only
  generalize sigB s = Q at *
  obtain ⟨si, sa, sb, sc⟩ := s
  unfold Sg.d at *
  simp only at *
  generalize dgs sa = la at *
  generalize dgs sb = lb at *
  generalize dgs sc = lc at *
  unfold dgD at *
  generalize D.bytes a = ad at *
  generalize low4 i = k at *
  refine callR_of (R := R1) cx_ok Tryd.func82 (by kernel_rfl) rfl ?_
  conv => whnf
  refine ⟨by kernel_rfl, ?_⟩
  conv => whnf
  refine ⟨_, wo, ?_⟩
  conv => whnf
  refine ⟨_, d1, ?_⟩
  conv => whnf
  refine ⟨by (repeat (first | rw [ByteArray.size_append] | rw [bigB_size])); omega, ?_⟩
  conv => whnf
  refine ⟨_, w2, ?_⟩
  conv => whnf
  refine ⟨by (repeat (first | rw [ByteArray.size_append] | rw [bigB_size])); omega, ?_⟩
  conv => whnf
  refine ⟨_, d3, ?_⟩
  conv => whnf
  refine ⟨by (repeat (first | rw [ByteArray.size_append] | rw [bigB_size])); omega, ?_⟩
  conv => whnf
  refine ⟨by kernel_rfl, ?_⟩
  conv => whnf
  exact ⟨rfl, rfl⟩

theorem ctext_c {u : Up} (hu : u.fit) : CallR cx 76 [.d u.d] [] fun r S => r = st (textB (upB u)) ∧ S = [] := by
  have c1 := wup_c hu
  have c2 := wtext_c (s := upB u) (Nat.lt_of_le_of_lt (upB_size hu) (by decide))
  generalize upB u = b at *
  obtain ⟨n, a, c, ⟨si, sa, sb, sc⟩⟩ := u
  unfold Up.d Sg.d dgD at *
  simp only at *
  generalize dgs sa = la at *
  generalize dgs sb = lb at *
  generalize dgs sc = lc at *
  generalize D.bytes a = ad at *
  generalize D.bytes c = cd at *
  refine callR_of (R := R1) cx_ok Tryd.func76 (by kernel_rfl) rfl ?_
  conv => whnf
  refine ⟨_, c1, ?_⟩
  rintro _ _ ⟨rfl, rfl⟩
  conv => whnf
  refine ⟨_, c2, ?_⟩
  rintro _ _ ⟨rfl, rfl⟩
  conv => whnf
  exact ⟨rfl, rfl⟩

theorem wle_c {l : Le} (hl : l.fit) : CallR cx 119 [.d l.d] [] fun r S => r = st (leB l) ∧ S = [] := by
  obtain ⟨h1, h2, h3, h4, h5, h6⟩ := hl
  obtain ⟨f, n, t, a, b, c⟩ := l
  simp only at h1 h2 h3 h4 h5 h6
  unfold tx at h4 h5 h6
  have w1 := wword_c (n := f) h1
  have w2 := wword_c (n := n) h2
  have w3 := wword_c (n := t) h3
  have t1 := wtext_c (s := a) (by omega)
  have t2 := wtext_c (s := b) (by omega)
  have t3 := wtext_c (s := c) (by omega)
  have s1 := textB_size a
  have s2 := textB_size b
  have s3 := textB_size c
  unfold leB Le.d
  simp only
  generalize textB a = A at *
  generalize textB b = B at *
  generalize textB c = C at *
  refine callR_of (R := R1) cx_ok Tryd.func119 (by kernel_rfl) rfl ?_
  conv => whnf
  refine ⟨by kernel_rfl, ?_⟩
  conv => whnf
  refine ⟨_, w1, ?_⟩
  conv => whnf
  refine ⟨_, w2, ?_⟩
  conv => whnf
  refine ⟨by (repeat (first | rw [ByteArray.size_append] | rw [bigB_size])); omega, ?_⟩
  conv => whnf
  refine ⟨_, w3, ?_⟩
  conv => whnf
  refine ⟨by (repeat (first | rw [ByteArray.size_append] | rw [bigB_size])); omega, ?_⟩
  conv => whnf
  refine ⟨_, t1, ?_⟩
  conv => whnf
  refine ⟨by (repeat (first | rw [ByteArray.size_append] | rw [bigB_size])); omega, ?_⟩
  conv => whnf
  refine ⟨_, t2, ?_⟩
  conv => whnf
  refine ⟨by (repeat (first | rw [ByteArray.size_append] | rw [bigB_size])); omega, ?_⟩
  conv => whnf
  refine ⟨_, t3, ?_⟩
  conv => whnf
  refine ⟨by (repeat (first | rw [ByteArray.size_append] | rw [bigB_size])); omega, ?_⟩
  conv => whnf
  refine ⟨by kernel_rfl, ?_⟩
  conv => whnf
  exact ⟨rfl, rfl⟩

theorem rle_c {l : Le} (hl : l.fit) : CallR cx 86 [.d l.d] [] fun r S => r = st (leB l) ∧ S = [] := by
  obtain ⟨h1, h2, h3, h4, h5, h6⟩ := hl
  obtain ⟨f, n, t, a, b, c⟩ := l
  simp only at h1 h2 h3 h4 h5 h6
  unfold tx at h4 h5 h6
  have w1 : CallR cx 61 [u64 (IntKind.u64.wrap (f : Int)), i64 4] [] fun r S => r = st (bigB f 4) ∧ S = [] := by rw [wrapN (by omega)]; exact rbig4_c (by omega)
  have w2 : CallR cx 61 [u64 (IntKind.u64.wrap (n : Int)), i64 4] [] fun r S => r = st (bigB n 4) ∧ S = [] := by rw [wrapN (by omega)]; exact rbig4_c (by omega)
  have w3 : CallR cx 61 [u64 (IntKind.u64.wrap (t : Int)), i64 4] [] fun r S => r = st (bigB t 4) ∧ S = [] := by rw [wrapN (by omega)]; exact rbig4_c (by omega)
  have t1 := rtext_c (s := a) (by omega)
  have t2 := rtext_c (s := b) (by omega)
  have t3 := rtext_c (s := c) (by omega)
  have s1 := textB_size a
  have s2 := textB_size b
  have s3 := textB_size c
  unfold leB Le.d
  simp only
  generalize textB a = A at *
  generalize textB b = B at *
  generalize textB c = C at *
  refine callR_of (R := R1) cx_ok Tryd.func86 (by kernel_rfl) rfl ?_
  conv => whnf
  refine ⟨_, w1, ?_⟩
  rintro _ _ ⟨rfl, rfl⟩
  conv => whnf
  refine ⟨_, w2, ?_⟩
  rintro _ _ ⟨rfl, rfl⟩
  conv => whnf
  refine ⟨by (repeat (first | rw [ByteArray.size_append] | rw [bigB_size])); omega, ?_⟩
  conv => whnf
  refine ⟨_, w3, ?_⟩
  rintro _ _ ⟨rfl, rfl⟩
  conv => whnf
  refine ⟨by (repeat (first | rw [ByteArray.size_append] | rw [bigB_size])); omega, ?_⟩
  conv => whnf
  refine ⟨by kernel_rfl, ?_⟩
  conv => whnf
  refine ⟨_, t1, ?_⟩
  conv => whnf
  refine ⟨by (repeat (first | rw [ByteArray.size_append] | rw [bigB_size])); omega, ?_⟩
  conv => whnf
  refine ⟨_, t2, ?_⟩
  conv => whnf
  refine ⟨by (repeat (first | rw [ByteArray.size_append] | rw [bigB_size])); omega, ?_⟩
  conv => whnf
  refine ⟨_, t3, ?_⟩
  conv => whnf
  refine ⟨by (repeat (first | rw [ByteArray.size_append] | rw [bigB_size])); omega, ?_⟩
  conv => whnf
  refine ⟨by kernel_rfl, ?_⟩
  conv => whnf
  exact ⟨rfl, rfl⟩

theorem wleR_c {l : Le} (hl : l.fit) : CallR cx 118 [.d l.d] [] fun r S => r = bo l.right ∧ S = [] := by
  obtain ⟨h1, h2, h3, h4, h5, h6⟩ := hl
  obtain ⟨f, n, t, a, b, c⟩ := l
  simp only at h1 h2 h3 h4 h5 h6
  unfold tx at h4 h5 h6
  have c1 := right_c (s := a) (by omega)
  have c2 := right_c (s := b) (by omega)
  unfold Le.right Le.d
  simp only
  generalize rightT a = A at *
  generalize rightT b = B at *
  refine callR_of (R := R1) cx_ok Tryd.func118 (by kernel_rfl) rfl ?_
  conv => whnf
  refine ⟨_, c1, ?_⟩
  rintro _ _ ⟨rfl, rfl⟩
  conv => whnf
  cases A with
  | false =>
    conv => whnf
    exact ⟨rfl, rfl⟩
  | true =>
  conv => whnf
  refine ⟨_, c2, ?_⟩
  rintro _ _ ⟨rfl, rfl⟩
  conv => whnf
  cases B with
  | false =>
    conv => whnf
    exact ⟨rfl, rfl⟩
  | true =>
  conv => whnf
  exact ⟨rfl, rfl⟩

theorem rleR_c {l : Le} (hl : l.fit) : CallR cx 85 [.d l.d] [] fun r S => r = bo l.right ∧ S = [] := by
  obtain ⟨h1, h2, h3, h4, h5, h6⟩ := hl
  obtain ⟨f, n, t, a, b, c⟩ := l
  simp only at h1 h2 h3 h4 h5 h6
  unfold tx at h4 h5 h6
  have c1 := rright_c (s := a) (by omega)
  have c2 := rright_c (s := b) (by omega)
  unfold Le.right Le.d
  simp only
  generalize rightT a = A at *
  generalize rightT b = B at *
  refine callR_of (R := R1) cx_ok Tryd.func85 (by kernel_rfl) rfl ?_
  conv => whnf
  refine ⟨_, c1, ?_⟩
  rintro _ _ ⟨rfl, rfl⟩
  conv => whnf
  cases A with
  | false =>
    conv => whnf
    exact ⟨rfl, rfl⟩
  | true =>
  conv => whnf
  refine ⟨_, c2, ?_⟩
  rintro _ _ ⟨rfl, rfl⟩
  conv => whnf
  cases B with
  | false =>
    conv => whnf
    exact ⟨rfl, rfl⟩
  | true =>
  conv => whnf
  exact ⟨rfl, rfl⟩

theorem leBytes_c {l : Le} (hl : l.fit) : CallR cx 80 [.d l.d] [] fun r S => r = (if l.right = true then .tup [st (leB l), i64 0] else .tup [st .empty, i64 4]) ∧ S = [] := by
  have c1 := wleR_c hl
  have c2 := wle_c hl
  generalize leB l = b at *
  generalize l.right = R at *
  obtain ⟨f, n, t, x, y, z⟩ := l
  unfold Le.d at *
  simp only at *
  refine callR_of (R := R1) cx_ok Tryd.func80 (by kernel_rfl) rfl ?_
  conv => whnf
  refine ⟨_, c1, ?_⟩
  rintro _ _ ⟨rfl, rfl⟩
  conv => whnf
  cases R with
  | false =>
    conv => whnf
    exact ⟨rfl, rfl⟩
  | true =>
  conv => whnf
  refine ⟨_, c2, ?_⟩
  rintro _ _ ⟨rfl, rfl⟩
  conv => whnf
  exact ⟨rfl, rfl⟩

end Go.Proofs.YtboohfijacjhjaaDoor
