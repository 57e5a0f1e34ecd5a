/- Readers of bytes: what they do. Payloads: what they are, their bytes. Payloads: read; what is written is read as it was. -/
import Derived.Test.YtmdfpifcghmpfaaDoorCx
import Derived.Test.YtmdfpifcghmpfaaDoorN3
set_option linter.unusedVariables false
namespace Go.Proofs.YtmdfpifcghmpfaaDoor
open Go.Ab Go.RowKit

/-- A reader: what is left, what is wrong. -/
abbrev rd (s : ByteArray) (e : Int) : D := .agg [.str s, .int .i64 e]

def tkS (s : ByteArray) (e n : Int) : ByteArray := if e = 0 ∧ n ≤ s.size then s.extract 0 n.toNat else .empty

def tkR (s : ByteArray) (e n : Int) : ByteArray := if e = 0 ∧ n ≤ s.size then s.extract n.toNat s.size else s

def rd_tkE (s : ByteArray) (e n : Int) : Int := if e = 0 then (if n ≤ s.size then 0 else 3) else e

theorem rd_take_c {s : ByteArray} {e n : Int} (hn : 0 ≤ n) : CallR cx 156 [.ptr 0 [], i64 n] [.var (.d (rd s e))] fun r S =>
    r = st (tkS s e n) ∧ S = [.var (.d (rd (tkR s e n) (rd_tkE s e n)))] := by
  refine callR_of (R := R1) cx_ok Tryd.func156 (by kernel_rfl) rfl ?_
  conv => whnf
  refine brec (fun h => ?_) (fun h => ?_)
  · have h : ¬ e = 0 := by simpa using h
    have e1 : tkS s e n = .empty := if_neg fun g => h g.1
    have e2 : tkR s e n = s := if_neg fun g => h g.1
    have e3 : rd_tkE s e n = e := if_neg h
    rw [e1, e2, e3]
    conv => whnf
    exact ⟨rfl, rfl⟩
  · have h : e = 0 := by simpa using h
    subst h
    conv => whnf
    refine brec (fun g => ?_) (fun g => ?_)
    · have g := of_decide_eq_true g
      have e1 : tkS s 0 n = .empty := if_neg fun k => by omega
      have e2 : tkR s 0 n = s := if_neg fun k => by omega
      have e3 : rd_tkE s 0 n = 3 := by unfold rd_tkE; rw [if_pos rfl, if_neg (by omega)]
      rw [e1, e2, e3]
      conv => whnf
      exact ⟨rfl, rfl⟩
    · have g := of_decide_eq_false g
      have g : n ≤ s.size := by omega
      have e1 : tkS s 0 n = s.extract 0 n.toNat := if_pos ⟨rfl, g⟩
      have e2 : tkR s 0 n = s.extract n.toNat s.size := if_pos ⟨rfl, g⟩
      have e3 : rd_tkE s 0 n = 0 := by unfold rd_tkE; rw [if_pos rfl, if_pos g]
      rw [e1, e2, e3]
      conv => whnf
      refine ⟨⟨by decide, hn, g⟩, ?_⟩
      conv => whnf
      refine ⟨⟨hn, g, Int.le_refl _⟩, ?_⟩
      conv => whnf
      exact ⟨rfl, rfl⟩

theorem fail_c {s : ByteArray} {e f : Int} : CallR cx 144 [.ptr 0 [], i64 f] [.var (.d (rd s e))] fun r S =>
    r = .tup [] ∧ S = [.var (.d (rd s (if e = 0 then f else e)))] := by
  refine callR_of (R := R1) cx_ok Tryd.func144 (by kernel_rfl) rfl ?_
  conv => whnf
  refine brec (fun h => ?_) (fun h => ?_)
  · have h : e = 0 := by simpa using h
    rw [if_pos h]
    conv => whnf
    exact ⟨rfl, rfl⟩
  · have h : ¬ e = 0 := by simpa using h
    rw [if_neg h]
    conv => whnf
    exact ⟨rfl, rfl⟩

theorem end_c {s : ByteArray} {e : Int} : CallR cx 106 [.ptr 0 []] [.var (.d (rd s e))] fun r S =>
    r = i64 (if e = 0 then (if s = .empty then 0 else 4) else e) ∧ S = [.var (.d (rd s e))] := by
  refine callR_of (R := R1) cx_ok Tryd.func106 (by kernel_rfl) rfl ?_
  conv => whnf
  refine brec (fun h => ?_) (fun h => ?_)
  · have h : e = 0 := by simpa using h
    subst h
    rw [if_pos rfl]
    conv => whnf
    refine brec (fun g => ?_) (fun g => ?_)
    · have g : ¬ s = .empty := by
        intro e; subst e; simp at g; exact g rfl
      rw [if_neg g]
      conv => whnf
      exact ⟨rfl, rfl⟩
    · have g : s = .empty := (by simpa using g : s = ⟨#[]⟩)
      rw [if_pos g]
      conv => whnf
      exact ⟨rfl, rfl⟩
  · have h : ¬ e = 0 := by simpa using h
    rw [if_neg h]
    conv => whnf
    exact ⟨rfl, rfl⟩

/-- Bytes as a number, the highest first. -/
def be (l : List UInt8) (a : Nat) : Nat := l.foldl (fun a b => (a * 256 + b.toNat) % 18446744073709551616) a

theorem be_lt (l : List UInt8) {a : Nat} (h : a < 18446744073709551616) : be l a < 18446744073709551616 := by
  induction l generalizing a with
  | nil => exact h
  | cons b l ih => exact ih (Nat.mod_lt _ (by decide))

theorem wrapN {n : Nat} (h : n < 18446744073709551616) : IntKind.u64.wrap (n : Int) = n := wrapU ⟨by omega, by omega⟩

theorem or_sum {a b s : Nat} (hb : b < 2 ^ s) : a * 2 ^ s ||| b = a * 2 ^ s + b := by
  rw [← Nat.shiftLeft_eq, ← Nat.shiftLeft_add_eq_or_of_lt hb]

theorem be_step {a : Nat} (b : UInt8) (ha : a < 18446744073709551616) :
    IntKind.u64.wrap ((BitVec.ofInt IntKind.u64.bits (IntKind.u64.wrap ((a : Int) * 2 ^ min (8 : Int).toNat IntKind.u64.bits)) ||| BitVec.ofInt IntKind.u64.bits (IntKind.u64.wrap (b.toNat : Int))).toNat : Int) =
      (((a * 256 + b.toNat) % 18446744073709551616 : Nat) : Int) := by
  have hb : b.toNat < 256 := b.toNat_lt
  have e1 : IntKind.u64.wrap ((a : Int) * 2 ^ min (8 : Int).toNat IntKind.u64.bits) = ((a % 72057594037927936 * 2 ^ 8 : Nat) : Int) := by
    rw [Go.Ab.wrap64]
    show (a : Int) * 2 ^ 8 % _ = _
    omega
  have e2 : IntKind.u64.wrap (b.toNat : Int) = (b.toNat : Int) := wrapN (by omega)
  rw [e1, e2]
  have e : (BitVec.ofInt IntKind.u64.bits ((a % 72057594037927936 * 2 ^ 8 : Nat) : Int) ||| BitVec.ofInt IntKind.u64.bits (b.toNat : Int)).toNat = a % 72057594037927936 * 2 ^ 8 + b.toNat := by
    show (BitVec.ofInt 64 ((a % 72057594037927936 * 2 ^ 8 : Nat) : Int) ||| BitVec.ofInt 64 (b.toNat : Int)).toNat = _
    rw [BitVec.toNat_or, BitVec.toNat_ofInt, BitVec.toNat_ofInt]
    have g1 : ((a % 72057594037927936 * 2 ^ 8 : Nat) : Int) % ((2 ^ 64 : Nat) : Int) = ((a % 72057594037927936 * 2 ^ 8 : Nat) : Int) := by omega
    have g2 : (b.toNat : Int) % ((2 ^ 64 : Nat) : Int) = (b.toNat : Int) := by omega
    rw [g1, g2, Int.toNat_natCast, Int.toNat_natCast]
    exact or_sum hb
  rw [e, wrapN (by omega)]
  omega

theorem bytes_getD {s : ByteArray} {j : Nat} (h : j < s.data.toList.length) : (D.bytes s).getD (j : Int).toNat .nilP = .int .u8 ((s.data.toList[j]'h).toNat : Int) := by
  rw [Int.toNat_natCast, List.getD_eq_getElem?_getD]
  unfold D.bytes
  rw [List.getElem?_map, List.getElem?_eq_getElem h]
  rfl

theorem number_c {s : ByteArray} {e n : Int} (hn : 0 ≤ n) (hm : s.size < 9223372036854775807) : CallR cx 145 [.ptr 0 [], i64 n] [.var (.d (rd s e))] fun r S =>
    r = u64 ((be (tkS s e n).data.toList 0 : Nat) : Int) ∧ S = [.var (.d (rd (tkR s e n) (rd_tkE s e n)))] := by
  have ht : (tkS s e n).size ≤ s.size := by
    unfold tkS
    split
    · rw [ByteArray.size_extract]; omega
    · exact Nat.zero_le _
  have tk := rd_take_c (s := s) (e := e) hn
  generalize tkS s e n = t at *
  generalize rd (tkR s e n) (rd_tkE s e n) = R at *
  refine callR_of (R := R1) cx_ok Tryd.func145 (by kernel_rfl) rfl ?_
  conv => whnf
  refine ⟨_, tk, ?_⟩
  rintro _ _ ⟨rfl, rfl⟩
  conv => whnf
  refine ⟨by unfold maxLen; omega, ?_⟩
  conv => whnf
  refine .inl ⟨fun k l S => ∃ j : Nat, j ≤ t.data.toList.length ∧ k = t.data.toList.length - j ∧
      l = [(5, u64 ((be (t.data.toList.take j) 0 : Nat) : Int)), (11, .d (.sl 1 (D.bytes t))), (12, i64 (((D.bytes t).length : Nat) : Int)), (13, i64 (j : Int))] ∧ S = [.var (.d R)],
    ⟨_, _, ⟨0, Nat.zero_le _, rfl, rfl, rfl⟩, ⟨rfl, rfl, rfl, rfl, trivial⟩⟩, ?_⟩
  rintro _ _ _ ⟨j, hj, rfl, rfl, rfl⟩
  have hlen : (D.bytes t).length = t.data.toList.length := by simp [D.bytes]
  have hts : t.data.toList.length = t.size := by rw [Array.length_toList]; rfl
  conv => whnf
  refine brec (fun h1 => ?_) (fun h1 => ?_)
  · have h1 := of_decide_eq_true h1
    rw [hlen] at h1
    have hlt : j < t.data.toList.length := by omega
    conv => whnf
    refine ⟨⟨by omega, by rw [hlen]; omega⟩, ?_⟩
    rw [bytes_getD hlt]
    conv => whnf
    refine ⟨by decide, ?_⟩
    conv => whnf
    have e1 := be_step (a := be (t.data.toList.take j) 0) (t.data.toList[j]'hlt) (be_lt _ (by decide))
    have e2 : (be (t.data.toList.take j) 0 * 256 + (t.data.toList[j]'hlt).toNat) % 18446744073709551616 = be (t.data.toList.take (j + 1)) 0 := by
      rw [List.take_add_one, List.getElem?_eq_getElem hlt]
      unfold be
      rw [List.foldl_append]
      rfl
    rw [e2] at e1
    have e3 : IntKind.i64.wrap ((j : Int) + 1) = ((j + 1 : Nat) : Int) := by rw [IntKind.wrap_i64]; omega
    exact ⟨_, _, 1, (by omega : t.data.toList.length - (j + 1) < t.data.toList.length - j), ⟨j + 1, hlt, rfl, rfl, rfl⟩,
      ⟨congrArg (fun z => some (u64 z)) e1, rfl, rfl, congrArg (fun z => some (i64 z)) e3, trivial⟩, rfl⟩
  · have h1 := of_decide_eq_false h1
    rw [hlen] at h1
    have : j = t.data.toList.length := by omega
    subst this
    conv => whnf
    rw [List.take_length]
    exact ⟨rfl, rfl⟩

theorem byte_c {s : ByteArray} {e : Int} (hm : s.size < 9223372036854775807) : CallR cx 105 [.ptr 0 []] [.var (.d (rd s e))] fun r S =>
    r = u8 (IntKind.u8.wrap ((be (tkS s e 1).data.toList 0 : Nat) : Int)) ∧ S = [.var (.d (rd (tkR s e 1) (rd_tkE s e 1)))] := by
  refine callR_of (R := R1) cx_ok Tryd.func105 (by kernel_rfl) rfl ?_
  conv => whnf
  refine ⟨_, number_c (by decide) hm, ?_⟩
  rintro _ _ ⟨rfl, rfl⟩
  conv => whnf
  exact ⟨rfl, rfl⟩

theorem over_c {s : ByteArray} : CallR cx 103 [st s] [] fun r S => r = .ptr 0 [] ∧ S = [.var (.d (rd s 0))] := by
  refine callR_of (R := R1) cx_ok Tryd.func103 (by kernel_rfl) rfl ?_
  conv => whnf
  exact ⟨rfl, rfl⟩
end Go.Proofs.YtmdfpifcghmpfaaDoor

set_option linter.unusedVariables false
namespace Go.Proofs.YtmdfpifcghmpfaaDoor
open Go.Ab Go.RowKit

theorem must_c {o n : Int} {a b : ByteArray} : CallR cx 100 [.d (.iface 104 (.agg [.int .u32 o, .str a, .str b, .int .u64 n]))] [] fun r S => r = .d (.agg [.int .u32 o, .str a, .str b, .int .u64 n]) ∧ S = [] := by
  refine callR_of (R := R1) cx_ok Tryd.func100 (by kernel_rfl) rfl ?_
  conv => whnf
  exact ⟨rfl, rfl⟩

/-- A payload: a transfer, a saying, a detail, nothing, a number. -/
inductive Pl where
  | tr (o : Int) (a b : ByteArray) (n : Int)
  | sy (a b : ByteArray)
  | de (o : Int) (a : ByteArray) (n : Int)
  | no
  | nu

def Pl.d : Pl → D
  | .tr o a b n => .iface 104 (.agg [.int .u32 o, .str a, .str b, .int .u64 n])
  | .sy a b => .iface 184 (.agg [.str a, .str b])
  | .de o a n => .iface 157 (.agg [.int .u32 o, .str a, .int .u64 n])
  | .no => .nilI
  | .nu => .iface 3 (.int .i64 7)

def Pl.kd : Pl → Int
  | .tr .. => 1
  | .sy .. => 2
  | .de .. => 3
  | _ => 0

def Pl.og : Pl → Int
  | .tr o .. => o
  | .de o .. => o
  | _ => 0

def Pl.fa : Pl → ByteArray
  | .tr _ a _ _ => a
  | .sy a _ => a
  | .de _ a _ => a
  | _ => .empty

def Pl.fb : Pl → ByteArray
  | .tr _ _ b _ => b
  | .sy _ b => b
  | _ => .empty

def Pl.fn : Pl → Int
  | .tr _ _ _ n => n
  | .de _ _ n => n
  | _ => 0

def Pl.isT : Pl → Bool
  | .tr .. => true
  | _ => false

/-- A payload's fields. -/
abbrev fld (p : Pl) : D := .agg [.int .i64 p.kd, .int .u32 p.og, .str p.fa, .str p.fb, .int .u64 p.fn]

abbrev tr4 (o : Int) (a b : ByteArray) (n : Int) : D := .agg [.int .u32 o, .str a, .str b, .int .u64 n]

/-- The transfer that it is, if it is one. -/
def trD (p : Pl) : D := match p with
  | .tr o a b n => tr4 o a b n
  | _ => tr4 0 .empty .empty 0

theorem transfer_c {p : Pl} : CallR cx 50 [.d p.d] [] fun r S => r = .tup [.d (trD p), bo p.isT] ∧ S = [] := by
  cases p <;>
  · refine callR_of (R := R1) cx_ok Tryd.func50 (by kernel_rfl) rfl ?_
    conv => whnf
    exact ⟨rfl, rfl⟩

theorem mustP_c {p : Pl} (h : p.isT = true) : CallR cx 100 [.d p.d] [] fun r S => r = .d (trD p) ∧ S = [] := by
  cases p with
  | tr o a b n => exact must_c
  | _ => cases h

theorem goS_cons (k : Nat) (l : List Nat) (n : Nat) : goS (k :: l) n = (!(decide (k < 32) || decide (k = 127) || decide (2000000 ≤ k)) && goS l (n + 1)) := rfl

theorem says_c {s : ByteArray} (hm : s.size < 1000000000) : CallR cx 146 [st s] [] fun r S => r = bo (saysT s) ∧ S = [] := by
  refine callR_of (R := R1) cx_ok Tryd.func146 (by kernel_rfl) rfl ?_
  conv => whnf
  refine .inl ⟨fun m l S => ∃ (i n : Nat), goS (keysAt s i) n = saysT s ∧ n ≤ i ∧ i ≤ s.size + 3 ∧ m = s.size + 4 - i ∧
      l = [(0, st s), (3, i64 (n : Int)), (7, .ptr 0 [])] ∧ S = [.iter s i],
    ⟨_, _, ⟨0, 0, rfl, Nat.le_refl _, by omega, rfl, rfl, rfl⟩, ⟨rfl, rfl, rfl, trivial⟩⟩, ?_⟩
  rintro _ _ _ ⟨i, n, h1, h2, h3, rfl, rfl, rfl⟩
  conv => whnf
  refine brec (fun h4 => ?_) (fun h4 => ?_)
  · have hi := of_decide_eq_true h4
    have hd := decode_range s i
    have br := broken_c (s := s) hi
    rw [keysAt_lt hi, goS_cons, key_two] at h1
    have e1 : IntKind.i64.wrap ((n : Int) + 1) = ((n + 1 : Nat) : Int) := by rw [w64 (by omega)]; omega
    have hkey : (decide ((key s i).1 < 32) || decide ((key s i).1 = 127) || decide (2000000 ≤ (key s i).1)) = (decide ((Utf8.decode s i).1 < 32) || decide ((Utf8.decode s i).1 = 127) || stray s i) := by
      cases h : stray s i with
      | false =>
        rw [key_plain h, decide_eq_false (p := 2000000 ≤ (Utf8.decode s i).1) (by omega)]
      | true =>
        rw [(key_stray h).1]
        simp
    rw [hkey] at h1
    generalize stray s i = q at *
    generalize hk : Utf8.decode s i = d at *
    obtain ⟨r, w⟩ := d
    simp only at hd h1 br
    generalize hr : (r : Int) = R at *
    conv => whnf
    by_cases hs : R < 32
    · refine brT (decide_eq_true (by omega)) ?_
      conv => whnf
      rw [decide_eq_true (show r < 32 by omega)] at h1
      simp only [Bool.true_or, Bool.not_true, Bool.false_and] at h1
      rw [← h1]
      exact ⟨rfl, rfl⟩
    · refine brF (decide_eq_false (by omega)) ?_
      conv => whnf
      rw [decide_eq_false (show ¬ r < 32 by omega)] at h1
      by_cases hl : R = 127
      · refine brT (beq_iff_eq.2 (by omega)) ?_
        conv => whnf
        rw [decide_eq_true (show r = 127 by omega)] at h1
        simp only [Bool.or_true, Bool.true_or, Bool.not_true, Bool.false_and] at h1
        rw [← h1]
        exact ⟨rfl, rfl⟩
      · refine brF (beq_eq_false_iff_ne.2 (by omega)) ?_
        conv => whnf
        rw [decide_eq_false (show ¬ r = 127 by omega)] at h1
        refine ⟨_, br, ?_⟩
        rintro _ _ ⟨rfl, rfl⟩
        conv => whnf
        refine brec (fun h5 => ?_) (fun h5 => ?_)
        · subst h5
          conv => whnf
          simp only [Bool.or_true, Bool.not_true, Bool.false_and] at h1
          rw [← h1]
          exact ⟨rfl, rfl⟩
        · subst h5
          conv => whnf
          simp only [Bool.or_false, Bool.not_false, Bool.true_and] at h1
          exact ⟨_, _, 1, (by omega : s.size + 4 - (i + w) < s.size + 4 - i), ⟨i + w, n + 1, h1, by omega, by omega, rfl, rfl, rfl⟩,
            ⟨rfl, congrArg (fun z => some (i64 z)) e1, rfl, trivial⟩, rfl⟩
  · have h4 := of_decide_eq_false h4
    rw [keysAt_ge (by omega)] at h1
    conv => whnf
    have e0 : saysT s = decide ((n : Int) ≤ 64) := by
      rw [← h1]
      show decide (n ≤ 64) = _
      have a2 : ((n : Int) ≤ 64) = (n ≤ 64) := propext ⟨fun h => by omega, fun h => by omega⟩
      simp only [a2]
    rw [e0]
    exact ⟨rfl, rfl⟩

/-- A number's bytes, the highest first. -/
def bigB (n k : Nat) : ByteArray := ⟨((List.range k).map fun i => UInt8.ofNat (n / 256 ^ (k - 1 - i))).toArray⟩

abbrev by8 (n e : Nat) : D := .int .u8 ((UInt8.ofNat (n / 256 ^ e)).toNat : Int)

theorem bigB_bytes (n k : Nat) : D.bytes (bigB n k) = (List.range k).map fun i => by8 n (k - 1 - i) := by
  unfold D.bytes bigB
  rw [List.toList_toArray, List.map_map]
  rfl

theorem bigB_size (n k : Nat) : (bigB n k).size = k := by
  show ((List.range k).map _).toArray.size = k
  rw [List.size_toArray, List.length_map, List.length_range]

theorem pow256 (e : Nat) : 256 ^ e = 2 ^ (8 * e) := by rw [Nat.pow_mul]

theorem by8_eq (n e : Nat) {z : Int} (h : z = ((n / 256 ^ e : Nat) : Int)) : D.int .u8 (IntKind.u8.wrap z) = by8 n e := by
  subst h
  have e1 : IntKind.u8.wrap ((n / 256 ^ e : Nat) : Int) = ((n / 256 ^ e : Nat) : Int) % 256 := by simp [IntKind.wrap, IntKind.bits, IntKind.signed]
  show D.int .u8 _ = D.int .u8 _
  rw [e1, UInt8.toNat_ofNat']
  congr 1

theorem shr_e (n e : Nat) (b : Int) (hb : b = ((8 * e : Nat) : Int)) (h8 : 8 * e ≤ 64) : (n : Int).fdiv (2 ^ min b.toNat IntKind.u64.bits) = ((n / 256 ^ e : Nat) : Int) := by
  subst hb
  have : min ((8 * e : Nat) : Int).toNat IntKind.u64.bits = 8 * e := by rw [Int.toNat_natCast]; exact Nat.min_eq_left h8
  rw [this, Int.fdiv_eq_ediv_of_nonneg _ (by exact Int.le_of_lt (Int.pow_pos (by decide))), pow256, Int.natCast_ediv, Int.natCast_pow]
  rfl

abbrev z8 : D := .int .u8 0

theorem big1_c {n : Nat} : CallR cx 155 [u64 n, i64 1] [] fun r S => r = st (bigB n 1) ∧ S = [] := by
  let f : Nat → List D := fun i => match i with
    | 0 => [z8, z8, z8, z8, z8, z8, z8, z8]
    | _ => [by8 n 0, z8, z8, z8, z8, z8, z8, z8]
  refine callR_of (R := R1) cx_ok Tryd.func155 (by kernel_rfl) rfl ?_
  conv => whnf
  refine .inl ⟨fun m l S => ∃ i : Nat, i ≤ 1 ∧ m = 1 - i ∧ l = [(0, u64 n), (1, i64 1), (5, .ptr 0 []), (7, i64 1), (8, i64 (i : Int))] ∧
    S = [.var (.d (.arr 8 1 (f i)))], ⟨1, _, ⟨0, by decide, rfl, rfl, rfl⟩, ⟨rfl, rfl, rfl, rfl, rfl, trivial⟩⟩, ?_⟩
  rintro _ _ _ ⟨i, hi, rfl, rfl, rfl⟩
  rcases i with _ | _ | i
  · conv => whnf
    refine ⟨by decide, ?_⟩
    conv => whnf
    refine ⟨by decide, ?_⟩
    conv => whnf
    exact ⟨0, _, 1, by decide, ⟨1, by decide, rfl, rfl, congrArg (fun z => [Blk.var (.d (.arr 8 1 [z, z8, z8, z8, z8, z8, z8, z8]))]) (by8_eq n 0 (shr_e n 0 _ (by rfl) (by decide)))⟩, ⟨rfl, rfl, rfl, rfl, rfl, trivial⟩, rfl⟩
  · conv => whnf
    refine ⟨by decide, ?_⟩
    conv => whnf
    refine ⟨bigB n 1, ⟨by rw [bigB_bytes]; rfl, by rw [bigB_size]; rfl⟩, ?_⟩
    conv => whnf
    exact ⟨rfl, rfl⟩
  · omega

theorem big4_c {n : Nat} : CallR cx 155 [u64 n, i64 4] [] fun r S => r = st (bigB n 4) ∧ S = [] := by
  let f : Nat → List D := fun i => match i with
    | 0 => [z8, z8, z8, z8, z8, z8, z8, z8]
    | 1 => [by8 n 3, z8, z8, z8, z8, z8, z8, z8]
    | 2 => [by8 n 3, by8 n 2, z8, z8, z8, z8, z8, z8]
    | 3 => [by8 n 3, by8 n 2, by8 n 1, z8, z8, z8, z8, z8]
    | _ => [by8 n 3, by8 n 2, by8 n 1, by8 n 0, z8, z8, z8, z8]
  refine callR_of (R := R1) cx_ok Tryd.func155 (by kernel_rfl) rfl ?_
  conv => whnf
  refine .inl ⟨fun m l S => ∃ i : Nat, i ≤ 4 ∧ m = 4 - i ∧ l = [(0, u64 n), (1, i64 4), (5, .ptr 0 []), (7, i64 4), (8, i64 (i : Int))] ∧
    S = [.var (.d (.arr 8 1 (f i)))], ⟨4, _, ⟨0, by decide, rfl, rfl, rfl⟩, ⟨rfl, rfl, rfl, rfl, rfl, trivial⟩⟩, ?_⟩
  rintro _ _ _ ⟨i, hi, rfl, rfl, rfl⟩
  rcases i with _ | _ | _ | _ | _ | i
  · conv => whnf
    refine ⟨by decide, ?_⟩
    conv => whnf
    refine ⟨by decide, ?_⟩
    conv => whnf
    exact ⟨3, _, 1, by decide, ⟨1, by decide, rfl, rfl, congrArg (fun z => [Blk.var (.d (.arr 8 1 [z, z8, z8, z8, z8, z8, z8, z8]))]) (by8_eq n 3 (shr_e n 3 _ (by rfl) (by decide)))⟩, ⟨rfl, rfl, rfl, rfl, rfl, trivial⟩, rfl⟩
  · conv => whnf
    refine ⟨by decide, ?_⟩
    conv => whnf
    refine ⟨by decide, ?_⟩
    conv => whnf
    exact ⟨2, _, 1, by decide, ⟨2, by decide, rfl, rfl, congrArg (fun z => [Blk.var (.d (.arr 8 1 [by8 n 3, z, z8, z8, z8, z8, z8, z8]))]) (by8_eq n 2 (shr_e n 2 _ (by rfl) (by decide)))⟩, ⟨rfl, rfl, rfl, rfl, rfl, trivial⟩, rfl⟩
  · conv => whnf
    refine ⟨by decide, ?_⟩
    conv => whnf
    refine ⟨by decide, ?_⟩
    conv => whnf
    exact ⟨1, _, 1, by decide, ⟨3, by decide, rfl, rfl, congrArg (fun z => [Blk.var (.d (.arr 8 1 [by8 n 3, by8 n 2, z, z8, z8, z8, z8, z8]))]) (by8_eq n 1 (shr_e n 1 _ (by rfl) (by decide)))⟩, ⟨rfl, rfl, rfl, rfl, rfl, trivial⟩, rfl⟩
  · conv => whnf
    refine ⟨by decide, ?_⟩
    conv => whnf
    refine ⟨by decide, ?_⟩
    conv => whnf
    exact ⟨0, _, 1, by decide, ⟨4, by decide, rfl, rfl, congrArg (fun z => [Blk.var (.d (.arr 8 1 [by8 n 3, by8 n 2, by8 n 1, z, z8, z8, z8, z8]))]) (by8_eq n 0 (shr_e n 0 _ (by rfl) (by decide)))⟩, ⟨rfl, rfl, rfl, rfl, rfl, trivial⟩, rfl⟩
  · conv => whnf
    refine ⟨by decide, ?_⟩
    conv => whnf
    refine ⟨bigB n 4, ⟨by rw [bigB_bytes]; rfl, by rw [bigB_size]; rfl⟩, ?_⟩
    conv => whnf
    exact ⟨rfl, rfl⟩
  · omega

theorem big8_c {n : Nat} : CallR cx 155 [u64 n, i64 8] [] fun r S => r = st (bigB n 8) ∧ S = [] := by
  let f : Nat → List D := fun i => match i with
    | 0 => [z8, z8, z8, z8, z8, z8, z8, z8]
    | 1 => [by8 n 7, z8, z8, z8, z8, z8, z8, z8]
    | 2 => [by8 n 7, by8 n 6, z8, z8, z8, z8, z8, z8]
    | 3 => [by8 n 7, by8 n 6, by8 n 5, z8, z8, z8, z8, z8]
    | 4 => [by8 n 7, by8 n 6, by8 n 5, by8 n 4, z8, z8, z8, z8]
    | 5 => [by8 n 7, by8 n 6, by8 n 5, by8 n 4, by8 n 3, z8, z8, z8]
    | 6 => [by8 n 7, by8 n 6, by8 n 5, by8 n 4, by8 n 3, by8 n 2, z8, z8]
    | 7 => [by8 n 7, by8 n 6, by8 n 5, by8 n 4, by8 n 3, by8 n 2, by8 n 1, z8]
    | _ => [by8 n 7, by8 n 6, by8 n 5, by8 n 4, by8 n 3, by8 n 2, by8 n 1, by8 n 0]
  refine callR_of (R := R1) cx_ok Tryd.func155 (by kernel_rfl) rfl ?_
  conv => whnf
  refine .inl ⟨fun m l S => ∃ i : Nat, i ≤ 8 ∧ m = 8 - i ∧ l = [(0, u64 n), (1, i64 8), (5, .ptr 0 []), (7, i64 8), (8, i64 (i : Int))] ∧
    S = [.var (.d (.arr 8 1 (f i)))], ⟨8, _, ⟨0, by decide, rfl, rfl, rfl⟩, ⟨rfl, rfl, rfl, rfl, rfl, trivial⟩⟩, ?_⟩
  rintro _ _ _ ⟨i, hi, rfl, rfl, rfl⟩
  rcases i with _ | _ | _ | _ | _ | _ | _ | _ | _ | i
  · conv => whnf
    refine ⟨by decide, ?_⟩
    conv => whnf
    refine ⟨by decide, ?_⟩
    conv => whnf
    exact ⟨7, _, 1, by decide, ⟨1, by decide, rfl, rfl, congrArg (fun z => [Blk.var (.d (.arr 8 1 [z, z8, z8, z8, z8, z8, z8, z8]))]) (by8_eq n 7 (shr_e n 7 _ (by rfl) (by decide)))⟩, ⟨rfl, rfl, rfl, rfl, rfl, trivial⟩, rfl⟩
  · conv => whnf
    refine ⟨by decide, ?_⟩
    conv => whnf
    refine ⟨by decide, ?_⟩
    conv => whnf
    exact ⟨6, _, 1, by decide, ⟨2, by decide, rfl, rfl, congrArg (fun z => [Blk.var (.d (.arr 8 1 [by8 n 7, z, z8, z8, z8, z8, z8, z8]))]) (by8_eq n 6 (shr_e n 6 _ (by rfl) (by decide)))⟩, ⟨rfl, rfl, rfl, rfl, rfl, trivial⟩, rfl⟩
  · conv => whnf
    refine ⟨by decide, ?_⟩
    conv => whnf
    refine ⟨by decide, ?_⟩
    conv => whnf
    exact ⟨5, _, 1, by decide, ⟨3, by decide, rfl, rfl, congrArg (fun z => [Blk.var (.d (.arr 8 1 [by8 n 7, by8 n 6, z, z8, z8, z8, z8, z8]))]) (by8_eq n 5 (shr_e n 5 _ (by rfl) (by decide)))⟩, ⟨rfl, rfl, rfl, rfl, rfl, trivial⟩, rfl⟩
  · conv => whnf
    refine ⟨by decide, ?_⟩
    conv => whnf
    refine ⟨by decide, ?_⟩
    conv => whnf
    exact ⟨4, _, 1, by decide, ⟨4, by decide, rfl, rfl, congrArg (fun z => [Blk.var (.d (.arr 8 1 [by8 n 7, by8 n 6, by8 n 5, z, z8, z8, z8, z8]))]) (by8_eq n 4 (shr_e n 4 _ (by rfl) (by decide)))⟩, ⟨rfl, rfl, rfl, rfl, rfl, trivial⟩, rfl⟩
  · conv => whnf
    refine ⟨by decide, ?_⟩
    conv => whnf
    refine ⟨by decide, ?_⟩
    conv => whnf
    exact ⟨3, _, 1, by decide, ⟨5, by decide, rfl, rfl, congrArg (fun z => [Blk.var (.d (.arr 8 1 [by8 n 7, by8 n 6, by8 n 5, by8 n 4, z, z8, z8, z8]))]) (by8_eq n 3 (shr_e n 3 _ (by rfl) (by decide)))⟩, ⟨rfl, rfl, rfl, rfl, rfl, trivial⟩, rfl⟩
  · conv => whnf
    refine ⟨by decide, ?_⟩
    conv => whnf
    refine ⟨by decide, ?_⟩
    conv => whnf
    exact ⟨2, _, 1, by decide, ⟨6, by decide, rfl, rfl, congrArg (fun z => [Blk.var (.d (.arr 8 1 [by8 n 7, by8 n 6, by8 n 5, by8 n 4, by8 n 3, z, z8, z8]))]) (by8_eq n 2 (shr_e n 2 _ (by rfl) (by decide)))⟩, ⟨rfl, rfl, rfl, rfl, rfl, trivial⟩, rfl⟩
  · conv => whnf
    refine ⟨by decide, ?_⟩
    conv => whnf
    refine ⟨by decide, ?_⟩
    conv => whnf
    exact ⟨1, _, 1, by decide, ⟨7, by decide, rfl, rfl, congrArg (fun z => [Blk.var (.d (.arr 8 1 [by8 n 7, by8 n 6, by8 n 5, by8 n 4, by8 n 3, by8 n 2, z, z8]))]) (by8_eq n 1 (shr_e n 1 _ (by rfl) (by decide)))⟩, ⟨rfl, rfl, rfl, rfl, rfl, trivial⟩, rfl⟩
  · conv => whnf
    refine ⟨by decide, ?_⟩
    conv => whnf
    refine ⟨by decide, ?_⟩
    conv => whnf
    exact ⟨0, _, 1, by decide, ⟨8, by decide, rfl, rfl, congrArg (fun z => [Blk.var (.d (.arr 8 1 [by8 n 7, by8 n 6, by8 n 5, by8 n 4, by8 n 3, by8 n 2, by8 n 1, z]))]) (by8_eq n 0 (shr_e n 0 _ (by rfl) (by decide)))⟩, ⟨rfl, rfl, rfl, rfl, rfl, trivial⟩, rfl⟩
  · conv => whnf
    refine ⟨by decide, ?_⟩
    conv => whnf
    refine ⟨bigB n 8, ⟨by rw [bigB_bytes]; rfl, by rw [bigB_size]; rfl⟩, ?_⟩
    conv => whnf
    exact ⟨rfl, rfl⟩
  · omega

theorem mod_e (n e : Nat) : ((n / 256 ^ e : Nat) : Int).tmod 256 = ((n / 256 ^ e % 256 : Nat) : Int) := rfl

theorem by8_mod (n e : Nat) {z : Int} (h : z = ((n / 256 ^ e : Nat) : Int)) : D.int .u8 (IntKind.u8.wrap (z.tmod 256)) = by8 n e := by
  subst h
  have e1 : IntKind.u8.wrap ((n / 256 ^ e % 256 : Nat) : Int) = ((n / 256 ^ e % 256 : Nat) : Int) % 256 := by simp [IntKind.wrap, IntKind.bits, IntKind.signed]
  show D.int .u8 _ = D.int .u8 _
  rw [mod_e, e1, UInt8.toNat_ofNat']
  congr 1
  omega

theorem quo_e (n e : Nat) {z : Int} (hn : n < 18446744073709551616) (h : z = ((n / 256 ^ e : Nat) : Int)) : IntKind.u64.wrap (z.tdiv 256) = ((n / 256 ^ (e + 1) : Nat) : Int) := by
  subst h
  have h1 : n / 256 ^ e ≤ n := Nat.div_le_self _ _
  have h2 : n / 256 ^ (e + 1) = n / 256 ^ e / 256 := by rw [Nat.pow_succ, Nat.div_div_eq_div_mul]
  have h3 : ((n / 256 ^ e : Nat) : Int).tdiv 256 = ((n / 256 ^ e / 256 : Nat) : Int) := rfl
  rw [h2, h3]
  exact wrapN (by omega)

theorem div_1 (n : Nat) : ((n : Nat) : Int) = ((n / 256 ^ 0 : Nat) : Int) := by rw [Nat.pow_zero, Nat.div_one]

abbrev u32 (n : Int) : AV := .d (.int .u32 n)

theorem wrap32 {n : Int} (h : 0 ≤ n ∧ n < 4294967296) : IntKind.u32.wrap n = n := by
  simp [IntKind.wrap, IntKind.bits, IntKind.signed]; omega

theorem wrap8 {n : Int} (h : 0 ≤ n ∧ n < 256) : IntKind.u8.wrap n = n := by
  simp [IntKind.wrap, IntKind.bits, IntKind.signed]; omega

/-- A text's length, and it. -/
def textB (s : ByteArray) : ByteArray := bigB s.size 4 ++ s

theorem textB_size (s : ByteArray) : (textB s).size = 4 + s.size := by unfold textB; rw [ByteArray.size_append, bigB_size]

theorem wbyte_c {n : Nat} (h : n < 256) : CallR cx 135 [u8 n] [] fun r S => r = st (bigB n 1) ∧ S = [] := by
  have w : CallR cx 155 [u64 (IntKind.u64.wrap (n : Int)), i64 1] [] fun r S => r = st (bigB n 1) ∧ S = [] := by rw [wrapN (by omega)]; exact big1_c
  refine callR_of (R := R1) cx_ok Tryd.func135 (by kernel_rfl) rfl ?_
  conv => whnf
  refine ⟨_, w, ?_⟩
  rintro _ _ ⟨rfl, rfl⟩
  conv => whnf
  exact ⟨rfl, rfl⟩

theorem wword_c {n : Nat} (h : n < 4294967296) : CallR cx 136 [u32 n] [] fun r S => r = st (bigB n 4) ∧ S = [] := by
  have w : CallR cx 155 [u64 (IntKind.u64.wrap (n : Int)), i64 4] [] fun r S => r = st (bigB n 4) ∧ S = [] := by rw [wrapN (by omega)]; exact big4_c
  refine callR_of (R := R1) cx_ok Tryd.func136 (by kernel_rfl) rfl ?_
  conv => whnf
  refine ⟨_, w, ?_⟩
  rintro _ _ ⟨rfl, rfl⟩
  conv => whnf
  exact ⟨rfl, rfl⟩

theorem wlong_c {n : Nat} : CallR cx 138 [u64 n] [] fun r S => r = st (bigB n 8) ∧ S = [] := by
  refine callR_of (R := R1) cx_ok Tryd.func138 (by kernel_rfl) rfl ?_
  conv => whnf
  refine ⟨_, big8_c, ?_⟩
  rintro _ _ ⟨rfl, rfl⟩
  conv => whnf
  exact ⟨rfl, rfl⟩

theorem wtext_c {s : ByteArray} (h : s.size < 4294967296) : CallR cx 137 [st s] [] fun r S => r = st (textB s) ∧ S = [] := by
  have w : CallR cx 136 [u32 (IntKind.u32.wrap (s.size : Int))] [] fun r S => r = st (bigB s.size 4) ∧ S = [] := by rw [wrap32 (by omega)]; exact wword_c h
  refine callR_of (R := R1) cx_ok Tryd.func137 (by kernel_rfl) rfl ?_
  conv => whnf
  refine ⟨_, w, ?_⟩
  rintro _ _ ⟨rfl, rfl⟩
  conv => whnf
  refine ⟨by rw [bigB_size]; omega, ?_⟩
  conv => whnf
  exact ⟨rfl, rfl⟩

/-- A payload whose numbers are in range and whose texts are no longer than so much. -/
def Pl.fit : Pl → Prop
  | .tr o a b n => (0 ≤ o ∧ o < 4294967296) ∧ (0 ≤ n ∧ n < 18446744073709551616) ∧ a.size < 100000 ∧ b.size < 100000
  | .sy a b => a.size < 100000 ∧ b.size < 100000
  | .de o a n => (0 ≤ o ∧ o < 4294967296) ∧ (0 ≤ n ∧ n < 18446744073709551616) ∧ a.size < 100000
  | _ => True

def Pl.right : Pl → Bool
  | .tr _ a b n => (rightT a && rightT b) && decide (n ≠ 0)
  | .sy a b => rightT a && saysT b
  | .de _ a _ => rightT a
  | _ => false

theorem pright_c {p : Pl} (h : p.fit) : CallR cx 107 [.d p.d] [] fun r S => r = bo p.right ∧ S = [] := by
  cases p with
  | tr o a b n =>
    have r1 := right_c (s := a) (by have := h.2.2.1; omega)
    have r2 := right_c (s := b) (by have := h.2.2.2; omega)
    refine callR_of (R := R1) cx_ok Tryd.func107 (by kernel_rfl) rfl ?_
    conv => whnf
    refine ⟨_, r1, ?_⟩
    rintro _ _ ⟨rfl, rfl⟩
    conv => whnf
    refine brec (fun h1 => ?_) (fun h1 => ?_)
    · conv => whnf
      refine ⟨_, r2, ?_⟩
      rintro _ _ ⟨rfl, rfl⟩
      conv => whnf
      refine brec (fun h2 => ?_) (fun h2 => ?_)
      · conv => whnf
        refine ⟨?_, rfl⟩
        show _ = bo ((rightT a && rightT b) && decide (n ≠ 0))
        rw [h1, h2, Bool.true_and, Bool.true_and]
        refine congrArg bo ?_
        by_cases hn : n = 0
        · subst hn; rfl
        · rw [decide_eq_true hn]; simp [hn]
      · conv => whnf
        refine ⟨?_, rfl⟩
        show _ = bo ((rightT a && rightT b) && decide (n ≠ 0))
        rw [h2, Bool.and_false, Bool.false_and]; rfl
    · conv => whnf
      refine ⟨?_, rfl⟩
      show _ = bo ((rightT a && rightT b) && decide (n ≠ 0))
      rw [h1, Bool.false_and, Bool.false_and]; rfl
  | sy a b =>
    have r1 := right_c (s := a) (by have := h.1; omega)
    have r2 := says_c (s := b) (by have := h.2; omega)
    refine callR_of (R := R1) cx_ok Tryd.func107 (by kernel_rfl) rfl ?_
    conv => whnf
    refine ⟨_, r1, ?_⟩
    rintro _ _ ⟨rfl, rfl⟩
    conv => whnf
    refine brec (fun h1 => ?_) (fun h1 => ?_)
    · conv => whnf
      refine ⟨_, r2, ?_⟩
      rintro _ _ ⟨rfl, rfl⟩
      conv => whnf
      refine ⟨?_, rfl⟩
      show _ = bo (rightT a && saysT b)
      rw [h1, Bool.true_and]; rfl
    · conv => whnf
      refine ⟨?_, rfl⟩
      show _ = bo (rightT a && saysT b)
      rw [h1, Bool.false_and]; rfl
  | de o a n =>
    have r1 := right_c (s := a) (by have := h.2.2; omega)
    refine callR_of (R := R1) cx_ok Tryd.func107 (by kernel_rfl) rfl ?_
    conv => whnf
    refine ⟨_, r1, ?_⟩
    rintro _ _ ⟨rfl, rfl⟩
    conv => whnf
    exact ⟨rfl, rfl⟩
  | _ =>
    refine callR_of (R := R1) cx_ok Tryd.func107 (by kernel_rfl) rfl ?_
    conv => whnf
    exact ⟨rfl, rfl⟩

theorem tag_c {p : Pl} : CallR cx 98 [.d p.d] [] fun r S => r = i64 p.kd ∧ S = [] := by
  cases p <;>
  · refine callR_of (R := R1) cx_ok Tryd.func98 (by kernel_rfl) rfl ?_
    conv => whnf
    exact ⟨rfl, rfl⟩

/-- A payload's bytes. -/
def Pl.bytes : Pl → ByteArray
  | .tr o a b n => bigB 1 1 ++ (((bigB o.toNat 4 ++ textB a) ++ textB b) ++ bigB n.toNat 8)
  | .sy a b => bigB 2 1 ++ (textB a ++ textB b)
  | .de o a n => bigB 3 1 ++ ((bigB o.toNat 4 ++ textB a) ++ bigB n.toNat 8)
  | _ => .empty

/-- What 'Bytes' hands back. -/
def Pl.outS (p : Pl) : ByteArray := if p.right then p.bytes else .empty

def Pl.outE (p : Pl) : Int := if p.kd = 0 then 2 else if p.right then 0 else 4

theorem bytes_c {p : Pl} (h : p.fit) : CallR cx 97 [.d p.d] [] fun r S => r = .tup [st p.outS, i64 p.outE] ∧ S = [] := by
  have pr := pright_c h
  have tg := tag_c (p := p)
  cases p with
  | tr o a b n =>
    obtain ⟨⟨ho, ho'⟩, ⟨hn, hn'⟩, ha, hb⟩ := h
    obtain ⟨O, rfl⟩ := Int.eq_ofNat_of_zero_le ho
    obtain ⟨M, rfl⟩ := Int.eq_ofNat_of_zero_le hn
    have wo := wword_c (n := O) (by omega)
    have wl := wlong_c (n := M)
    have wa := wtext_c (s := a) (by omega)
    have wc := wtext_c (s := b) (by omega)
    have wb : CallR cx 135 [u8 (IntKind.u8.wrap 1)] [] fun r S => r = st (bigB 1 1) ∧ S = [] := by rw [wrap8 (by omega)]; exact wbyte_c (n := 1) (by omega)
    refine callR_of (R := R1) cx_ok Tryd.func97 (by kernel_rfl) rfl ?_
    conv => whnf
    refine ⟨_, tg, ?_⟩
    rintro _ _ ⟨rfl, rfl⟩
    conv => whnf
    refine ⟨_, wb, ?_⟩
    rintro _ _ ⟨rfl, rfl⟩
    conv => whnf
    refine ⟨by kernel_rfl, ?_⟩
    conv => whnf
    refine ⟨_, wo, ?_⟩
    conv => whnf
    refine ⟨_, wa, ?_⟩
    conv => whnf
    refine ⟨by (repeat (first | rw [ByteArray.size_append] | rw [bigB_size] | rw [textB_size])); omega, ?_⟩
    conv => whnf
    refine ⟨_, wc, ?_⟩
    conv => whnf
    refine ⟨by (repeat (first | rw [ByteArray.size_append] | rw [bigB_size] | rw [textB_size])); omega, ?_⟩
    conv => whnf
    refine ⟨_, wl, ?_⟩
    conv => whnf
    refine ⟨by (repeat (first | rw [ByteArray.size_append] | rw [bigB_size] | rw [textB_size])); omega, ?_⟩
    conv => whnf
    refine ⟨by (repeat (first | rw [ByteArray.size_append] | rw [bigB_size] | rw [textB_size])); omega, ?_⟩
    conv => whnf
    refine ⟨by kernel_rfl, ?_⟩
    conv => whnf
    refine ⟨_, pr, ?_⟩
    rintro _ _ ⟨rfl, rfl⟩
    conv => whnf
    refine brec (fun h1 => ?_) (fun h1 => ?_)
    · conv => whnf
      have h1 : Pl.right (Pl.tr (O : Int) a b (M : Int)) = false := by simpa using h1
      refine ⟨?_, rfl⟩
      show _ = AV.tup [st (if Pl.right (Pl.tr (O : Int) a b (M : Int)) then _ else _), i64 (if (1 : Int) = 0 then 2 else if Pl.right (Pl.tr (O : Int) a b (M : Int)) then 0 else 4)]
      rw [h1]
      rfl
    · conv => whnf
      have h1 : Pl.right (Pl.tr (O : Int) a b (M : Int)) = true := by simpa using h1
      refine ⟨?_, rfl⟩
      show _ = AV.tup [st (if Pl.right (Pl.tr (O : Int) a b (M : Int)) then _ else _), i64 (if (1 : Int) = 0 then 2 else if Pl.right (Pl.tr (O : Int) a b (M : Int)) then 0 else 4)]
      rw [h1]
      rfl
  | sy a b =>
    obtain ⟨ha, hb⟩ := h
    have wa := wtext_c (s := a) (by omega)
    have wc := wtext_c (s := b) (by omega)
    have wb : CallR cx 135 [u8 (IntKind.u8.wrap 2)] [] fun r S => r = st (bigB 2 1) ∧ S = [] := by rw [wrap8 (by omega)]; exact wbyte_c (n := 2) (by omega)
    refine callR_of (R := R1) cx_ok Tryd.func97 (by kernel_rfl) rfl ?_
    conv => whnf
    refine ⟨_, tg, ?_⟩
    rintro _ _ ⟨rfl, rfl⟩
    conv => whnf
    refine ⟨_, wb, ?_⟩
    rintro _ _ ⟨rfl, rfl⟩
    conv => whnf
    refine ⟨by kernel_rfl, ?_⟩
    conv => whnf
    refine ⟨_, wa, ?_⟩
    conv => whnf
    refine ⟨_, wc, ?_⟩
    conv => whnf
    refine ⟨by (repeat (first | rw [ByteArray.size_append] | rw [bigB_size] | rw [textB_size])); omega, ?_⟩
    conv => whnf
    refine ⟨by (repeat (first | rw [ByteArray.size_append] | rw [bigB_size] | rw [textB_size])); omega, ?_⟩
    conv => whnf
    refine ⟨by kernel_rfl, ?_⟩
    conv => whnf
    refine ⟨_, pr, ?_⟩
    rintro _ _ ⟨rfl, rfl⟩
    conv => whnf
    refine brec (fun h1 => ?_) (fun h1 => ?_)
    · conv => whnf
      have h1 : Pl.right (Pl.sy a b) = false := by simpa using h1
      refine ⟨?_, rfl⟩
      show _ = AV.tup [st (if Pl.right (Pl.sy a b) then _ else _), i64 (if (2 : Int) = 0 then 2 else if Pl.right (Pl.sy a b) then 0 else 4)]
      rw [h1]
      rfl
    · conv => whnf
      have h1 : Pl.right (Pl.sy a b) = true := by simpa using h1
      refine ⟨?_, rfl⟩
      show _ = AV.tup [st (if Pl.right (Pl.sy a b) then _ else _), i64 (if (2 : Int) = 0 then 2 else if Pl.right (Pl.sy a b) then 0 else 4)]
      rw [h1]
      rfl
  | de o a n =>
    obtain ⟨⟨ho, ho'⟩, ⟨hn, hn'⟩, ha⟩ := h
    obtain ⟨O, rfl⟩ := Int.eq_ofNat_of_zero_le ho
    obtain ⟨M, rfl⟩ := Int.eq_ofNat_of_zero_le hn
    have wo := wword_c (n := O) (by omega)
    have wl := wlong_c (n := M)
    have wa := wtext_c (s := a) (by omega)
    have wb : CallR cx 135 [u8 (IntKind.u8.wrap 3)] [] fun r S => r = st (bigB 3 1) ∧ S = [] := by rw [wrap8 (by omega)]; exact wbyte_c (n := 3) (by omega)
    refine callR_of (R := R1) cx_ok Tryd.func97 (by kernel_rfl) rfl ?_
    conv => whnf
    refine ⟨_, tg, ?_⟩
    rintro _ _ ⟨rfl, rfl⟩
    conv => whnf
    refine ⟨_, wb, ?_⟩
    rintro _ _ ⟨rfl, rfl⟩
    conv => whnf
    refine ⟨by kernel_rfl, ?_⟩
    conv => whnf
    refine ⟨_, wo, ?_⟩
    conv => whnf
    refine ⟨_, wa, ?_⟩
    conv => whnf
    refine ⟨by (repeat (first | rw [ByteArray.size_append] | rw [bigB_size] | rw [textB_size])); omega, ?_⟩
    conv => whnf
    refine ⟨_, wl, ?_⟩
    conv => whnf
    refine ⟨by (repeat (first | rw [ByteArray.size_append] | rw [bigB_size] | rw [textB_size])); omega, ?_⟩
    conv => whnf
    refine ⟨by (repeat (first | rw [ByteArray.size_append] | rw [bigB_size] | rw [textB_size])); omega, ?_⟩
    conv => whnf
    refine ⟨by kernel_rfl, ?_⟩
    conv => whnf
    refine ⟨_, pr, ?_⟩
    rintro _ _ ⟨rfl, rfl⟩
    conv => whnf
    refine brec (fun h1 => ?_) (fun h1 => ?_)
    · conv => whnf
      have h1 : Pl.right (Pl.de (O : Int) a (M : Int)) = false := by simpa using h1
      refine ⟨?_, rfl⟩
      show _ = AV.tup [st (if Pl.right (Pl.de (O : Int) a (M : Int)) then _ else _), i64 (if (3 : Int) = 0 then 2 else if Pl.right (Pl.de (O : Int) a (M : Int)) then 0 else 4)]
      rw [h1]
      rfl
    · conv => whnf
      have h1 : Pl.right (Pl.de (O : Int) a (M : Int)) = true := by simpa using h1
      refine ⟨?_, rfl⟩
      show _ = AV.tup [st (if Pl.right (Pl.de (O : Int) a (M : Int)) then _ else _), i64 (if (3 : Int) = 0 then 2 else if Pl.right (Pl.de (O : Int) a (M : Int)) then 0 else 4)]
      rw [h1]
      rfl
  | _ =>
    have wb : CallR cx 135 [u8 (IntKind.u8.wrap 0)] [] fun r S => r = st (bigB 0 1) ∧ S = [] := by rw [wrap8 (by omega)]; exact wbyte_c (n := 0) (by omega)
    refine callR_of (R := R1) cx_ok Tryd.func97 (by kernel_rfl) rfl ?_
    conv => whnf
    refine ⟨_, tg, ?_⟩
    rintro _ _ ⟨rfl, rfl⟩
    conv => whnf
    refine ⟨_, wb, ?_⟩
    rintro _ _ ⟨rfl, rfl⟩
    conv => whnf
    exact ⟨rfl, rfl⟩
end Go.Proofs.YtmdfpifcghmpfaaDoor

set_option linter.unusedVariables false
namespace Go.Proofs.YtmdfpifcghmpfaaDoor
open Go.Ab Go.RowKit

/-- A reader: what is left, what is wrong. -/
structure Rs where
  s : ByteArray
  e : Int

def Rs.d (r : Rs) : D := rd r.s r.e

def Rs.got (r : Rs) (n : Int) : ByteArray := tkS r.s r.e n

def Rs.take (r : Rs) (n : Int) : Rs := ⟨tkR r.s r.e n, rd_tkE r.s r.e n⟩

def Rs.num (r : Rs) (n : Int) : Nat := be (r.got n).data.toList 0

def Rs.fail (r : Rs) (f : Int) : Rs := ⟨r.s, if r.e = 0 then f else r.e⟩

def Rs.cnt (r : Rs) (m : Int) : Int := if (r.num 4 : Int) > m then 0 else r.num 4

def Rs.cntR (r : Rs) (m : Int) : Rs := if (r.num 4 : Int) > m then (r.take 4).fail 5 else r.take 4

def Rs.txt (r : Rs) (m : Int) : ByteArray := (r.cntR m).got (r.cnt m)

def Rs.txtR (r : Rs) (m : Int) : Rs := (r.cntR m).take (r.cnt m)

def Rs.out (r : Rs) : Int := if r.e = 0 then (if r.s = .empty then 0 else 4) else r.e

theorem tkR_size (s : ByteArray) (e n : Int) : (tkR s e n).size ≤ s.size := by
  unfold tkR; split
  · rw [ByteArray.size_extract]; omega
  · omega

theorem take_size (r : Rs) (n : Int) : (r.take n).s.size ≤ r.s.size := tkR_size ..

theorem fail_size (r : Rs) (f : Int) : (r.fail f).s.size = r.s.size := rfl

theorem cntR_size (r : Rs) (m : Int) : (r.cntR m).s.size ≤ r.s.size := by
  unfold Rs.cntR; split
  · rw [fail_size]; exact take_size ..
  · exact take_size ..

theorem txtR_size (r : Rs) (m : Int) : (r.txtR m).s.size ≤ r.s.size := Nat.le_trans (take_size ..) (cntR_size ..)

theorem got_size (r : Rs) (n : Int) : (r.got n).size ≤ r.s.size := by
  unfold Rs.got tkS; split
  · rw [ByteArray.size_extract]; omega
  · exact Nat.zero_le _

theorem got_le {r : Rs} {n : Int} (hn : 0 ≤ n) : ((r.got n).size : Int) ≤ n := by
  unfold Rs.got tkS; split
  · rw [ByteArray.size_extract]; omega
  · exact hn

theorem txt_size (r : Rs) (m : Int) : (r.txt m).size ≤ r.s.size := Nat.le_trans (got_size ..) (cntR_size ..)

theorem cnt_nonneg (r : Rs) (m : Int) : 0 ≤ r.cnt m := by unfold Rs.cnt; split <;> omega

theorem be_pow : ∀ (l : List UInt8) {a k : Nat}, a < 256 ^ k → be l a < 256 ^ (k + l.length)
  | [], _, _, h => h
  | b :: l, a, k, h => by
    have hb := b.toNat_lt
    have h1 : (a * 256 + b.toNat) % 18446744073709551616 < 256 ^ (k + 1) := by
      refine Nat.lt_of_le_of_lt (Nat.mod_le _ _) ?_
      rw [Nat.pow_succ]
      omega
    have := be_pow l h1
    rw [List.length_cons, show k + (l.length + 1) = k + 1 + l.length by omega]
    exact this

theorem num_lt {r : Rs} {n : Nat} : r.num n < 256 ^ n := by
  have h := be_pow (r.got n).data.toList (a := 0) (k := 0) (by decide)
  have g := got_le (r := r) (n := (n : Int)) (by omega)
  have e : (r.got n).data.toList.length = (r.got n).size := Array.length_toList
  rw [Nat.zero_add, e] at h
  exact Nat.lt_of_lt_of_le h (Nat.pow_le_pow_right (by decide) (by omega))

theorem num1_lt (r : Rs) : r.num 1 < 256 := num_lt (n := 1)

theorem num4_lt (r : Rs) : r.num 4 < 4294967296 := num_lt (n := 4)

theorem num8_lt (r : Rs) : r.num 8 < 18446744073709551616 := num_lt (n := 8)

theorem nfail_c {r : Rs} {f : Int} : CallR cx 144 [.ptr 0 [], i64 f] [.var (.d r.d)] fun v S => v = .tup [] ∧ S = [.var (.d (r.fail f).d)] := fail_c

theorem nend_c {r : Rs} : CallR cx 106 [.ptr 0 []] [.var (.d r.d)] fun v S => v = i64 r.out ∧ S = [.var (.d r.d)] := end_c

theorem ntake_c {r : Rs} {n : Int} (hn : 0 ≤ n) : CallR cx 156 [.ptr 0 [], i64 n] [.var (.d r.d)] fun v S => v = st (r.got n) ∧ S = [.var (.d (r.take n).d)] := rd_take_c hn

theorem nnum_c {r : Rs} {n : Int} (hn : 0 ≤ n) (hm : r.s.size < 9223372036854775807) : CallR cx 145 [.ptr 0 [], i64 n] [.var (.d r.d)] fun v S => v = u64 ((r.num n : Nat) : Int) ∧ S = [.var (.d (r.take n).d)] := number_c hn hm

theorem nbyte_c {r : Rs} (hm : r.s.size < 9223372036854775807) : CallR cx 105 [.ptr 0 []] [.var (.d r.d)] fun v S => v = u8 ((r.num 1 : Nat) : Int) ∧ S = [.var (.d (r.take 1).d)] := by
  have h := byte_c (s := r.s) (e := r.e) hm
  have := num1_lt r
  rw [show IntKind.u8.wrap ((be (tkS r.s r.e 1).data.toList 0 : Nat) : Int) = ((r.num 1 : Nat) : Int) from wrap8 ⟨by omega, by show ((r.num 1 : Nat) : Int) < 256; omega⟩] at h
  exact h

theorem nword_c {r : Rs} (hm : r.s.size < 9223372036854775807) : CallR cx 141 [.ptr 0 []] [.var (.d r.d)] fun v S => v = u32 ((r.num 4 : Nat) : Int) ∧ S = [.var (.d (r.take 4).d)] := by
  have nu := nnum_c (r := r) (n := 4) (by decide) hm
  have e := wrap32 (n := ((r.num 4 : Nat) : Int)) (by have := num4_lt r; omega)
  generalize ((r.num 4 : Nat) : Int) = m at *
  generalize (r.take 4).d = R at *
  generalize r.d = R0 at *
  refine callR_of (R := R1) cx_ok Tryd.func141 (by kernel_rfl) rfl ?_
  conv => whnf
  refine ⟨_, nu, ?_⟩
  rintro _ _ ⟨rfl, rfl⟩
  conv => whnf
  exact ⟨congrArg u32 e, rfl⟩

theorem nlong_c {r : Rs} (hm : r.s.size < 9223372036854775807) : CallR cx 143 [.ptr 0 []] [.var (.d r.d)] fun v S => v = u64 ((r.num 8 : Nat) : Int) ∧ S = [.var (.d (r.take 8).d)] := by
  have nu := nnum_c (r := r) (n := 8) (by decide) hm
  generalize ((r.num 8 : Nat) : Int) = m at *
  generalize (r.take 8).d = R at *
  generalize r.d = R0 at *
  refine callR_of (R := R1) cx_ok Tryd.func143 (by kernel_rfl) rfl ?_
  conv => whnf
  refine ⟨_, nu, ?_⟩
  rintro _ _ ⟨rfl, rfl⟩
  conv => whnf
  exact ⟨rfl, rfl⟩

theorem ncount_c {r : Rs} {m : Int} (h0 : 0 ≤ m) (hmm : m < 4611686018427387904) (hm : r.s.size < 9223372036854775807) :
    CallR cx 157 [.ptr 0 [], i64 m] [.var (.d r.d)] fun v S => v = i64 (r.cnt m) ∧ S = [.var (.d (r.cntR m).d)] := by
  have nu := nnum_c (r := r) (n := 4) (by decide) hm
  have fa := nfail_c (r := r.take 4) (f := 5)
  unfold Rs.cnt Rs.cntR
  have hlt := num4_lt r
  generalize hk : ((r.num 4 : Nat) : Int) = k at *
  generalize r.d = R0 at *
  have e1 : IntKind.u64.wrap (if (0 : Int) > m then 0 else m) = m := by rw [if_neg (by omega)]; exact wrapU ⟨h0, by omega⟩
  refine callR_of (R := R1) cx_ok Tryd.func157 (by kernel_rfl) rfl ?_
  conv => whnf
  refine ⟨_, nu, ?_⟩
  rintro _ _ ⟨rfl, rfl⟩
  conv => whnf
  refine brec (fun h => ?_) (fun h => ?_)
  · have h := of_decide_eq_true h
    rw [e1] at h
    rw [if_pos h, if_pos h]
    conv => whnf
    refine ⟨_, fa, ?_⟩
    rintro _ _ ⟨rfl, rfl⟩
    conv => whnf
    exact ⟨rfl, rfl⟩
  · have h := of_decide_eq_false h
    rw [e1] at h
    rw [if_neg h, if_neg h]
    conv => whnf
    exact ⟨congrArg i64 (w64 (by omega)), rfl⟩

theorem ntext_c {r : Rs} {m : Int} (h0 : 0 ≤ m) (hmm : m < 4611686018427387904) (hm : r.s.size < 9223372036854775807) :
    CallR cx 142 [.ptr 0 [], i64 m] [.var (.d r.d)] fun v S => v = st (r.txt m) ∧ S = [.var (.d (r.txtR m).d)] := by
  have nc := ncount_c (r := r) h0 hmm hm
  have nt := ntake_c (r := r.cntR m) (cnt_nonneg r m)
  unfold Rs.txt Rs.txtR
  generalize r.cnt m = k at *
  generalize r.cntR m = q at *
  refine callR_of (R := R1) cx_ok Tryd.func142 (by kernel_rfl) rfl ?_
  conv => whnf
  refine ⟨_, nc, ?_⟩
  rintro _ _ ⟨rfl, rfl⟩
  conv => whnf
  refine ⟨_, nt, ?_⟩
  rintro _ _ ⟨rfl, rfl⟩
  conv => whnf
  exact ⟨rfl, rfl⟩

theorem fail_bad (r : Rs) {f : Int} (hf : f ≠ 0) : (r.fail f).e ≠ 0 := by show (if r.e = 0 then f else r.e) ≠ 0; split <;> assumption

/-- What stands behind a tag, and the reader behind it. -/
def readB (t : Nat) (r : Rs) : Pl × Rs :=
  if t = 1 then (.tr ((r.num 4 : Nat) : Int) ((r.take 4).txt 48) (((r.take 4).txtR 48).txt 48) (((((r.take 4).txtR 48).txtR 48).num 8 : Nat) : Int), (((r.take 4).txtR 48).txtR 48).take 8)
  else if t = 2 then (.sy (r.txt 48) ((r.txtR 48).txt 256), (r.txtR 48).txtR 256)
  else if t = 3 then (.de ((r.num 4 : Nat) : Int) ((r.take 4).txt 48) ((((r.take 4).txtR 48).num 8 : Nat) : Int), ((r.take 4).txtR 48).take 8)
  else (.no, r.fail 4)

/-- The payload that bytes are, and what is wrong. -/
def readQ (s : ByteArray) : Pl × Rs := readB ((Rs.mk s 0).num 1) ((Rs.mk s 0).take 1)

def readP (s : ByteArray) : Pl × Int := if (readQ s).2.out = 0 then (if (readQ s).1.right then ((readQ s).1, 0) else (.no, 4)) else (.no, (readQ s).2.out)

theorem readB_fit {t : Nat} {r : Rs} (h : r.s.size < 100000) : (readB t r).1.fit := by
  have a1 := take_size r 4
  have a2 := txt_size (r.take 4) 48
  have a3 := txtR_size (r.take 4) 48
  have a4 := txt_size ((r.take 4).txtR 48) 48
  have a5 := txt_size r 48
  have a6 := txtR_size r 48
  have a7 := txt_size (r.txtR 48) 256
  have b1 := num4_lt r
  have b2 := num8_lt (((r.take 4).txtR 48).txtR 48)
  have b3 := num8_lt ((r.take 4).txtR 48)
  unfold readB
  split
  · exact ⟨⟨by omega, by omega⟩, ⟨by omega, by omega⟩, by omega, by omega⟩
  split
  · exact ⟨by omega, by omega⟩
  split
  · exact ⟨⟨by omega, by omega⟩, ⟨by omega, by omega⟩, by omega⟩
  · trivial

theorem body_c {t : Nat} {r : Rs} (hm : r.s.size < 9223372036854775807) :
    CallR cx 104 [.ptr 0 [], u8 (t : Int)] [.var (.d r.d)] fun v S => v = .d (readB t r).1.d ∧ S = [.var (.d (readB t r).2.d)] := by
  have a1 := take_size r 4
  have a3 := txtR_size (r.take 4) 48
  have a6 := txtR_size r 48
  have a8 := txtR_size ((r.take 4).txtR 48) 48
  unfold readB
  by_cases h1 : t = 1
  · rw [if_pos h1]
    subst h1
    have c1 := nword_c (r := r) hm
    have c2 := ntext_c (r := r.take 4) (m := 48) (by decide) (by decide) (by omega)
    have c3 := ntext_c (r := (r.take 4).txtR 48) (m := 48) (by decide) (by decide) (by omega)
    have c4 := nlong_c (r := ((r.take 4).txtR 48).txtR 48) (by omega)
    refine callR_of (R := R1) cx_ok Tryd.func104 (by kernel_rfl) rfl ?_
    conv => whnf
    refine ⟨_, c1, ?_⟩
    rintro _ _ ⟨rfl, rfl⟩
    conv => whnf
    refine ⟨_, c2, ?_⟩
    rintro _ _ ⟨rfl, rfl⟩
    conv => whnf
    refine ⟨_, c3, ?_⟩
    rintro _ _ ⟨rfl, rfl⟩
    conv => whnf
    refine ⟨_, c4, ?_⟩
    rintro _ _ ⟨rfl, rfl⟩
    conv => whnf
    exact ⟨rfl, rfl⟩
  rw [if_neg h1]
  by_cases h2 : t = 2
  · rw [if_pos h2]
    subst h2
    have c1 := ntext_c (r := r) (m := 48) (by decide) (by decide) (by omega)
    have c2 := ntext_c (r := r.txtR 48) (m := 256) (by decide) (by decide) (by omega)
    refine callR_of (R := R1) cx_ok Tryd.func104 (by kernel_rfl) rfl ?_
    conv => whnf
    refine ⟨_, c1, ?_⟩
    rintro _ _ ⟨rfl, rfl⟩
    conv => whnf
    refine ⟨_, c2, ?_⟩
    rintro _ _ ⟨rfl, rfl⟩
    conv => whnf
    exact ⟨rfl, rfl⟩
  rw [if_neg h2]
  by_cases h3 : t = 3
  · rw [if_pos h3]
    subst h3
    have c1 := nword_c (r := r) hm
    have c2 := ntext_c (r := r.take 4) (m := 48) (by decide) (by decide) (by omega)
    have c4 := nlong_c (r := (r.take 4).txtR 48) (by omega)
    refine callR_of (R := R1) cx_ok Tryd.func104 (by kernel_rfl) rfl ?_
    conv => whnf
    refine ⟨_, c1, ?_⟩
    rintro _ _ ⟨rfl, rfl⟩
    conv => whnf
    refine ⟨_, c2, ?_⟩
    rintro _ _ ⟨rfl, rfl⟩
    conv => whnf
    refine ⟨_, c4, ?_⟩
    rintro _ _ ⟨rfl, rfl⟩
    conv => whnf
    exact ⟨rfl, rfl⟩
  rw [if_neg h3]
  have c1 := nfail_c (r := r) (f := 4)
  generalize hT : (t : Int) = T
  refine callR_of (R := R1) cx_ok Tryd.func104 (by kernel_rfl) rfl ?_
  conv => whnf
  refine brF (beq_eq_false_iff_ne.2 (by omega)) ?_
  conv => whnf
  refine brF (beq_eq_false_iff_ne.2 (by omega)) ?_
  conv => whnf
  refine brF (beq_eq_false_iff_ne.2 (by omega)) ?_
  conv => whnf
  refine ⟨_, c1, ?_⟩
  rintro _ _ ⟨rfl, rfl⟩
  conv => whnf
  exact ⟨rfl, rfl⟩

theorem over2_c {s : ByteArray} : CallR cx 103 [st s] [] fun r S => r = .ptr 0 [] ∧ S = [.var (.d (Rs.mk s 0).d)] := over_c

theorem read_c {s : ByteArray} (hm : s.size < 100000) : CallR cx 49 [st s] [] fun v S => v = .tup [.d (readP s).1.d, i64 (readP s).2] ∧ S = [] := by
  have ov := over2_c (s := s)
  have by' := nbyte_c (r := Rs.mk s 0) (by show s.size < _; omega)
  have hs := take_size (Rs.mk s 0) 1
  have hs : ((Rs.mk s 0).take 1).s.size ≤ s.size := hs
  have bo' := body_c (t := (Rs.mk s 0).num 1) (r := (Rs.mk s 0).take 1) (by omega)
  have fi := readB_fit (t := (Rs.mk s 0).num 1) (r := (Rs.mk s 0).take 1) (by omega)
  have en := nend_c (r := (readB ((Rs.mk s 0).num 1) ((Rs.mk s 0).take 1)).2)
  have ri := pright_c fi
  unfold readP readQ
  generalize readB ((Rs.mk s 0).num 1) ((Rs.mk s 0).take 1) = q at *
  obtain ⟨p, r⟩ := q
  simp only at bo' fi en ri ⊢
  generalize (((Rs.mk s 0).num 1 : Nat) : Int) = t at *
  generalize ((Rs.mk s 0).take 1).d = R2 at *
  generalize (Rs.mk s 0).d = R0 at *
  generalize hd : p.d = pd at *
  generalize r.d = rd' at *
  generalize r.out = e at *
  refine callR_of (R := R1) cx_ok Tryd.func49 (by kernel_rfl) rfl ?_
  conv => whnf
  refine ⟨_, ov, ?_⟩
  rintro _ _ ⟨rfl, rfl⟩
  conv => whnf
  refine ⟨_, by', ?_⟩
  rintro _ _ ⟨rfl, rfl⟩
  conv => whnf
  refine ⟨_, bo', ?_⟩
  rintro _ _ ⟨rfl, rfl⟩
  conv => whnf
  refine ⟨_, en, ?_⟩
  rintro _ _ ⟨rfl, rfl⟩
  conv => whnf
  refine brec (fun h => ?_) (fun h => ?_)
  · have h : ¬ e = 0 := by simpa using h
    rw [if_neg h]
    conv => whnf
    exact ⟨rfl, rfl⟩
  have h : e = 0 := by simpa using h
  rw [if_pos h]
  conv => whnf
  refine ⟨_, ri, ?_⟩
  rintro _ _ ⟨rfl, rfl⟩
  conv => whnf
  refine brec (fun g => ?_) (fun g => ?_)
  · have g : p.right = false := by simpa using g
    rw [g]
    conv => whnf
    exact ⟨rfl, rfl⟩
  have g : p.right = true := by simpa using g
  rw [g, if_pos rfl]
  conv => whnf
  subst hd
  exact ⟨rfl, rfl⟩

def bigL (n k : Nat) : List UInt8 := (List.range k).map fun i => UInt8.ofNat (n / 256 ^ (k - 1 - i))

theorem bigL_succ (n k : Nat) : bigL n (k + 1) = bigL (n / 256) k ++ [UInt8.ofNat n] := by
  unfold bigL
  rw [List.range_succ, List.map_append]
  congr 1
  · refine List.map_congr_left fun i hi => ?_
    have hi := List.mem_range.1 hi
    rw [Nat.div_div_eq_div_mul, ← Nat.pow_succ', show (k - 1 - i).succ = k + 1 - 1 - i by omega]
  · simp

theorem be_append (l : List UInt8) (b : UInt8) (a : Nat) : be (l ++ [b]) a = (be l a * 256 + b.toNat) % 18446744073709551616 := by
  unfold be; rw [List.foldl_append]; rfl

theorem pow_le8 {k : Nat} (h : k ≤ 8) : 256 ^ k ≤ 18446744073709551616 := Nat.pow_le_pow_right (n := 256) (by decide) h

theorem be_bigL : ∀ (k n : Nat), k ≤ 8 → be (bigL n k) 0 = n % 256 ^ k
  | 0, n, _ => by rw [Nat.pow_zero, Nat.mod_one]; rfl
  | k + 1, n, h => by
    rw [bigL_succ, be_append, be_bigL k _ (by omega), UInt8.toNat_ofNat']
    have h1 : n / 256 % 256 ^ k * 256 + n % 256 = n % 256 ^ (k + 1) := by
      rw [Nat.pow_succ, Nat.mul_comm (256 ^ k) 256, Nat.mod_mul]
      omega
    have h2 : n % 256 ^ (k + 1) < 256 ^ (k + 1) := Nat.mod_lt _ (Nat.pow_pos (by decide))
    have h3 := pow_le8 h
    rw [show (2 : Nat) ^ 8 = 256 from rfl, h1]
    exact Nat.mod_eq_of_lt (by omega)

theorem bigL_be : ∀ (k : Nat) (l : List UInt8), l.length = k → k ≤ 8 → bigL (be l 0) k = l
  | 0, l, hl, _ => by rw [List.eq_nil_of_length_eq_zero hl]; rfl
  | k + 1, l, hl, h => by
    have hne : l ≠ [] := by intro e; subst e; simp at hl
    have e := List.dropLast_concat_getLast hne
    have hd : l.dropLast.length = k := by rw [List.length_dropLast]; omega
    have hlt : be l.dropLast 0 < 256 ^ k := by have := be_pow l.dropLast (a := 0) (k := 0) (by decide); rw [Nat.zero_add, hd] at this; exact this
    have hp : 256 ^ k * 256 ≤ 18446744073709551616 := by rw [← Nat.pow_succ]; exact pow_le8 h
    have hb := (l.getLast hne).toNat_lt
    have e2 : be l 0 = be l.dropLast 0 * 256 + (l.getLast hne).toNat := by
      have q := be_append l.dropLast (l.getLast hne) 0
      rw [e] at q
      rw [q]
      exact Nat.mod_eq_of_lt (by omega)
    rw [bigL_succ, e2, show (be l.dropLast 0 * 256 + (l.getLast hne).toNat) / 256 = be l.dropLast 0 by omega, bigL_be k _ hd (by omega)]
    have e3 : UInt8.ofNat (be l.dropLast 0 * 256 + (l.getLast hne).toNat) = l.getLast hne := by
      apply UInt8.toNat_inj.1
      rw [UInt8.toNat_ofNat']
      omega
    rw [e3, e]

theorem bigB_list (n k : Nat) : (bigB n k).data.toList = bigL n k := by unfold bigB bigL; rw [List.toList_toArray]

theorem ba_ext {a b : ByteArray} (h : a.data.toList = b.data.toList) : a = b := by
  cases a; cases b; congr 1; exact Array.toList_inj.1 h

theorem be_bigB {n k : Nat} (hk : k ≤ 8) (hn : n < 256 ^ k) : be (bigB n k).data.toList 0 = n := by
  rw [bigB_list, be_bigL k n hk, Nat.mod_eq_of_lt hn]

theorem bigB_be {x : ByteArray} {k : Nat} (hx : x.size = k) (hk : k ≤ 8) : bigB (be x.data.toList 0) k = x := by
  apply ba_ext
  rw [bigB_list]
  exact bigL_be k _ (by rw [Array.length_toList]; exact hx) hk

-- Forward: a reader over what was written.

theorem got_app {x y : ByteArray} {n : Int} (h : n = (x.size : Int)) : (Rs.mk (x ++ y) 0).got n = x := by
  subst h
  show tkS (x ++ y) 0 _ = x
  unfold tkS
  rw [if_pos ⟨rfl, by rw [ByteArray.size_append]; omega⟩, Int.toNat_natCast]
  exact ByteArray.extract_append_eq_left rfl

theorem take_app {x y : ByteArray} {n : Int} (h : n = (x.size : Int)) : (Rs.mk (x ++ y) 0).take n = ⟨y, 0⟩ := by
  subst h
  unfold Rs.take tkR rd_tkE
  rw [if_pos ⟨rfl, by rw [ByteArray.size_append]; omega⟩, if_pos rfl, if_pos (by rw [ByteArray.size_append]; omega), Int.toNat_natCast]
  congr 1
  exact ByteArray.extract_append_eq_right rfl (by rw [ByteArray.size_append])

theorem num_app {v k : Nat} {y : ByteArray} (hk : k ≤ 8) (hv : v < 256 ^ k) : (Rs.mk (bigB v k ++ y) 0).num (k : Int) = v := by
  unfold Rs.num; rw [got_app (by rw [bigB_size])]; exact be_bigB hk hv

theorem takeN_app {v k : Nat} {y : ByteArray} : (Rs.mk (bigB v k ++ y) 0).take (k : Int) = ⟨y, 0⟩ := take_app (by rw [bigB_size])

theorem txt_app {a y : ByteArray} {m : Int} (hm : (a.size : Int) ≤ m) (ha : a.size < 4294967296) : (Rs.mk (textB a ++ y) 0).txt m = a ∧ (Rs.mk (textB a ++ y) 0).txtR m = ⟨y, 0⟩ := by
  unfold textB
  rw [ByteArray.append_assoc]
  have h1 : (Rs.mk (bigB a.size 4 ++ (a ++ y)) 0).num 4 = a.size := num_app (k := 4) (by decide) ha
  have h2 : (Rs.mk (bigB a.size 4 ++ (a ++ y)) 0).take 4 = ⟨a ++ y, 0⟩ := takeN_app (k := 4)
  unfold Rs.txt Rs.txtR Rs.cntR Rs.cnt
  rw [h1, if_neg (by omega), if_neg (by omega), h2]
  exact ⟨got_app rfl, take_app rfl⟩

-- Backward: what was read.

theorem rd_take_ok {r : Rs} {n : Int} (hn : 0 ≤ n) (h : (r.take n).e = 0) : r.e = 0 ∧ ((r.got n).size : Int) = n ∧ r.s = r.got n ++ (r.take n).s := by
  have h : rd_tkE r.s r.e n = 0 := h
  have e0 : r.e = 0 := by
    unfold rd_tkE at h
    split at h
    · assumption
    · exact h
  have hle : n ≤ r.s.size := by
    unfold rd_tkE at h
    rw [if_pos e0] at h
    split at h
    · assumption
    · cases h
  have e1 : r.got n = r.s.extract 0 n.toNat := if_pos ⟨e0, hle⟩
  have e2 : (r.take n).s = r.s.extract n.toNat r.s.size := if_pos ⟨e0, hle⟩
  refine ⟨e0, ?_, ?_⟩
  · rw [e1, ByteArray.size_extract]; omega
  · rw [e1, e2, ByteArray.extract_append_extract, Nat.min_eq_left (Nat.zero_le _), Nat.max_eq_right (by omega), ByteArray.extract_zero_size]

theorem num_ok {r : Rs} {k : Nat} (hk : k ≤ 8) (h : (r.take (k : Int)).e = 0) : r.e = 0 ∧ r.s = bigB (r.num (k : Int)) k ++ (r.take (k : Int)).s := by
  obtain ⟨h1, h2, h3⟩ := rd_take_ok (by omega) h
  refine ⟨h1, ?_⟩
  unfold Rs.num
  rw [bigB_be (by omega) hk]
  exact h3

theorem fail_no {r : Rs} {f : Int} (hf : f ≠ 0) : (r.fail f).e ≠ 0 := fail_bad r hf

theorem txt_ok {r : Rs} {m : Int} (h : (r.txtR m).e = 0) : r.e = 0 ∧ r.s = textB (r.txt m) ++ (r.txtR m).s := by
  unfold Rs.txtR at h
  obtain ⟨h1, h2, h3⟩ := rd_take_ok (cnt_nonneg r m) h
  by_cases hc : (r.num 4 : Int) > m
  · have e : r.cntR m = (r.take 4).fail 5 := if_pos hc
    rw [e] at h1
    exact absurd h1 (fail_no (by decide))
  have e : r.cntR m = r.take 4 := if_neg hc
  have e' : r.cnt m = r.num 4 := if_neg hc
  rw [e] at h1
  obtain ⟨g1, g2⟩ := num_ok (k := 4) (by decide) h1
  refine ⟨g1, ?_⟩
  have e3 : (r.txt m).size = r.num 4 := by
    have : ((r.txt m).size : Int) = r.cnt m := h2
    rw [e'] at this
    omega
  have h3 : (r.cntR m).s = r.txt m ++ (r.txtR m).s := h3
  rw [e] at h3
  unfold textB
  rw [e3, ByteArray.append_assoc, ← h3]
  exact g2

-- Sizes of right names and texts.

theorem keys_many (s : ByteArray) : ∀ i, s.size - i ≤ 4 * (keysAt s i).length := by
  intro i
  induction h : s.size - i using Nat.strongRecOn generalizing i with
  | _ n ih =>
    by_cases hi : i < s.size
    · rw [keysAt_lt hi]
      have := key_pos s i
      have := key_four s i
      have := ih (s.size - (i + (key s i).2)) (by omega) _ rfl
      simp only [List.length_cons]
      omega
    · omega

theorem goR_len : ∀ (l : List Nat) (n : Nat), goR l n = true → n + l.length ≤ 12
  | [], n, h => by
    simp only [goR, Bool.and_eq_true, decide_eq_true_eq] at h
    simp only [List.length_nil]; omega
  | k :: l, n, h => by
    rw [goR_cons, Bool.and_eq_true] at h
    have := goR_len l (n + 1) h.2
    simp only [List.length_cons]; omega

theorem goS_len : ∀ (l : List Nat) (n : Nat), goS l n = true → n + l.length ≤ 64
  | [], n, h => by
    simp only [goS, decide_eq_true_eq] at h
    simp only [List.length_nil]; omega
  | k :: l, n, h => by
    rw [goS_cons, Bool.and_eq_true] at h
    have := goS_len l (n + 1) h.2
    simp only [List.length_cons]; omega

theorem right_size {s : ByteArray} (h : rightT s = true) : s.size ≤ 48 := by
  have := goR_len _ _ h
  have := keys_many s 0
  omega

theorem says_size {s : ByteArray} (h : saysT s = true) : s.size ≤ 256 := by
  have := goS_len _ _ h
  have := keys_many s 0
  omega

theorem one1 {k : Nat} (h : k < 256) (y : ByteArray) : (Rs.mk (bigB k 1 ++ y) 0).num 1 = k ∧ (Rs.mk (bigB k 1 ++ y) 0).take 1 = ⟨y, 0⟩ := ⟨num_app (k := 1) (by decide) h, takeN_app (k := 1)⟩

theorem one4 {k : Nat} (h : k < 4294967296) (y : ByteArray) : (Rs.mk (bigB k 4 ++ y) 0).num 4 = k ∧ (Rs.mk (bigB k 4 ++ y) 0).take 4 = ⟨y, 0⟩ := ⟨num_app (k := 4) (by decide) h, takeN_app (k := 4)⟩

theorem one8 {k : Nat} (h : k < 18446744073709551616) : (Rs.mk (bigB k 8) 0).num 8 = k ∧ (Rs.mk (bigB k 8) 0).take 8 = ⟨.empty, 0⟩ := by
  have a1 := num_app (k := 8) (y := .empty) (by decide) h
  have a2 := takeN_app (v := k) (k := 8) (y := .empty)
  rw [ByteArray.append_empty] at a1 a2
  exact ⟨a1, a2⟩

/-- What is written is read as it was. -/
theorem read_bytes {p : Pl} (hf : p.fit) (hr : p.right = true) : readP p.bytes = (p, 0) := by
  have key : readQ p.bytes = (p, ⟨.empty, 0⟩) → readP p.bytes = (p, 0) := by
    intro h
    unfold readP
    rw [h, if_pos (by rfl), if_pos hr]
  apply key
  unfold readQ
  cases p with
  | tr o a b n =>
    obtain ⟨⟨ho, ho'⟩, ⟨hn, hn'⟩, _, _⟩ := hf
    obtain ⟨O, rfl⟩ := Int.eq_ofNat_of_zero_le ho
    obtain ⟨M, rfl⟩ := Int.eq_ofNat_of_zero_le hn
    have hr : ((rightT a && rightT b) && decide ((M : Int) ≠ 0)) = true := hr
    simp only [Bool.and_eq_true] at hr
    have ha := right_size hr.1.1
    have hb := right_size hr.1.2
    show readB ((Rs.mk (bigB 1 1 ++ (((bigB (O : Int).toNat 4 ++ textB a) ++ textB b) ++ bigB (M : Int).toNat 8)) 0).num 1) _ = _
    rw [Int.toNat_natCast, Int.toNat_natCast]
    show readB ((Rs.mk (bigB 1 1 ++ (((bigB O 4 ++ textB a) ++ textB b) ++ bigB M 8)) 0).num 1) ((Rs.mk (bigB 1 1 ++ (((bigB O 4 ++ textB a) ++ textB b) ++ bigB M 8)) 0).take 1) = _
    rw [(one1 (by decide) _).1, (one1 (by decide) _).2]
    unfold readB
    rw [if_pos rfl, ByteArray.append_assoc, ByteArray.append_assoc, (one4 (by omega) _).1, (one4 (by omega) _).2, (txt_app (m := 48) (by omega) (by omega)).1, (txt_app (m := 48) (by omega) (by omega)).2, (txt_app (m := 48) (by omega) (by omega)).1, (txt_app (m := 48) (by omega) (by omega)).2,
      (one8 (by omega)).1, (one8 (by omega)).2]
  | sy a b =>
    have hr : (rightT a && saysT b) = true := hr
    simp only [Bool.and_eq_true] at hr
    have ha := right_size hr.1
    have hb := says_size hr.2
    show readB ((Rs.mk (bigB 2 1 ++ (textB a ++ textB b)) 0).num 1) ((Rs.mk (bigB 2 1 ++ (textB a ++ textB b)) 0).take 1) = _
    rw [(one1 (by decide) _).1, (one1 (by decide) _).2]
    unfold readB
    have t2 := txt_app (a := b) (y := .empty) (m := 256) (by omega) (by omega)
    rw [ByteArray.append_empty] at t2
    rw [if_neg (by decide), if_pos rfl, (txt_app (m := 48) (by omega) (by omega)).1, (txt_app (m := 48) (by omega) (by omega)).2, t2.1, t2.2]
  | de o a n =>
    obtain ⟨⟨ho, ho'⟩, ⟨hn, hn'⟩, _⟩ := hf
    obtain ⟨O, rfl⟩ := Int.eq_ofNat_of_zero_le ho
    obtain ⟨M, rfl⟩ := Int.eq_ofNat_of_zero_le hn
    have ha := right_size hr
    show readB ((Rs.mk (bigB 3 1 ++ ((bigB (O : Int).toNat 4 ++ textB a) ++ bigB (M : Int).toNat 8)) 0).num 1) _ = _
    rw [Int.toNat_natCast, Int.toNat_natCast]
    show readB ((Rs.mk (bigB 3 1 ++ ((bigB O 4 ++ textB a) ++ bigB M 8)) 0).num 1) ((Rs.mk (bigB 3 1 ++ ((bigB O 4 ++ textB a) ++ bigB M 8)) 0).take 1) = _
    rw [(one1 (by decide) _).1, (one1 (by decide) _).2]
    unfold readB
    rw [if_neg (by decide), if_neg (by decide), if_pos rfl, ByteArray.append_assoc, (one4 (by omega) _).1, (one4 (by omega) _).2, (txt_app (m := 48) (by omega) (by omega)).1, (txt_app (m := 48) (by omega) (by omega)).2,
      (one8 (by omega)).1, (one8 (by omega)).2]
  | no | nu => cases hr

theorem out_ok {r : Rs} (h : r.out = 0) : r.e = 0 ∧ r.s = .empty := by
  unfold Rs.out at h
  split at h
  · split at h
    · exact ⟨by assumption, by assumption⟩
    · cases h
  · exact absurd h (by assumption)

/-- What is read is written so. -/
theorem bytes_read {s : ByteArray} (h : (readP s).2 = 0) : (readP s).1.right = true ∧ (readP s).1.bytes = s := by
  unfold readP at h ⊢
  by_cases h1 : (readQ s).2.out = 0
  · rw [if_pos h1] at h ⊢
    by_cases h2 : (readQ s).1.right = true
    · rw [if_pos h2] at h ⊢
      refine ⟨h2, ?_⟩
      obtain ⟨e1, e2⟩ := out_ok h1
      clear h h1
      unfold readQ at *
      show (readB _ _).1.bytes = s
      have hs : ((Rs.mk s 0).take 1).e = 0 → s = bigB ((Rs.mk s 0).num 1) 1 ++ ((Rs.mk s 0).take 1).s := fun h => (num_ok (k := 1) (by decide) h).2
      generalize (Rs.mk s 0).num 1 = t at *
      generalize (Rs.mk s 0).take 1 = r at *
      unfold readB at *
      split at e1
      · rename_i ht
        rw [if_pos ht] at e2 ⊢
        obtain ⟨a1, a2⟩ := num_ok (k := 8) (by decide) e1
        obtain ⟨b1, b2⟩ := txt_ok a1
        obtain ⟨c1, c2⟩ := txt_ok b1
        obtain ⟨d1, d2⟩ := num_ok (k := 4) (by decide) c1
        have e2 : ((((r.take 4).txtR 48).txtR 48).take 8).s = .empty := e2
        have a2 : (((r.take 4).txtR 48).txtR 48).s = bigB ((((r.take 4).txtR 48).txtR 48).num 8) 8 ++ ((((r.take 4).txtR 48).txtR 48).take 8).s := a2
        rw [e2, ByteArray.append_empty] at a2
        have d2 : r.s = bigB (r.num 4) 4 ++ (r.take 4).s := d2
        rw [hs d1, d2, c2, b2, a2, ht]
        show bigB 1 1 ++ (((bigB ((r.num 4 : Nat) : Int).toNat 4 ++ _) ++ _) ++ bigB (((((r.take 4).txtR 48).txtR 48).num 8 : Nat) : Int).toNat 8) = _
        rw [Int.toNat_natCast, Int.toNat_natCast, ByteArray.append_assoc, ByteArray.append_assoc]
      · rename_i ht
        rw [if_neg ht] at e2 ⊢
        split at e1
        · rename_i ht
          rw [if_pos ht] at e2 ⊢
          obtain ⟨b1, b2⟩ := txt_ok e1
          obtain ⟨c1, c2⟩ := txt_ok b1
          have e2 : ((r.txtR 48).txtR 256).s = .empty := e2
          rw [e2, ByteArray.append_empty] at b2
          rw [hs c1, c2, b2, ht]
          rfl
        · rename_i ht
          rw [if_neg ht] at e2 ⊢
          split at e1
          · rename_i ht
            rw [if_pos ht] at e2 ⊢
            obtain ⟨a1, a2⟩ := num_ok (k := 8) (by decide) e1
            obtain ⟨c1, c2⟩ := txt_ok a1
            obtain ⟨d1, d2⟩ := num_ok (k := 4) (by decide) c1
            have e2 : (((r.take 4).txtR 48).take 8).s = .empty := e2
            have a2 : ((r.take 4).txtR 48).s = bigB (((r.take 4).txtR 48).num 8) 8 ++ (((r.take 4).txtR 48).take 8).s := a2
            rw [e2, ByteArray.append_empty] at a2
            have d2 : r.s = bigB (r.num 4) 4 ++ (r.take 4).s := d2
            rw [hs d1, d2, c2, a2, ht]
            show bigB 3 1 ++ ((bigB ((r.num 4 : Nat) : Int).toNat 4 ++ _) ++ bigB ((((r.take 4).txtR 48).num 8 : Nat) : Int).toNat 8) = _
            rw [Int.toNat_natCast, Int.toNat_natCast, ByteArray.append_assoc]
          · exact absurd e1 (fail_no (by decide))
    · rw [if_neg h2] at h
      cases h
  · rw [if_neg h1] at h
    exact absurd h h1
end Go.Proofs.YtmdfpifcghmpfaaDoor
