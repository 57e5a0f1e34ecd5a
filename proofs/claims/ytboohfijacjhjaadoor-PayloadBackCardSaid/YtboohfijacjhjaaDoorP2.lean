/- Numbers of so many bytes; a reader over a text; the chapter's example of a payload that is none. -/
import Derived.Test.YtboohfijacjhjaaDoorP1
namespace Go.Proofs.YtboohfijacjhjaaDoor
open Go.Ab

/-- Bytes as a number, the highest first. -/
def be (l : List UInt8) (a : Nat) : Nat := l.foldl (fun a b => (a * 256 + b.toNat) % 18446744073709551616) a

theorem be_lt (l : List UInt8) {a : Nat} (h : a < 18446744073709551616) : be l a < 18446744073709551616 := by
  induction l generalizing a with
  | nil => exact h
  | cons b l ih => exact ih (Nat.mod_lt _ (by decide))

theorem wrapN {n : Nat} (h : n < 18446744073709551616) : IntKind.u64.wrap (n : Int) = n := wrapU ⟨by omega, by omega⟩

theorem or_sum {a b s : Nat} (hb : b < 2 ^ s) : a * 2 ^ s ||| b = a * 2 ^ s + b := by
  rw [← Nat.shiftLeft_eq, ← Nat.shiftLeft_add_eq_or_of_lt hb]

theorem be_step {a : Nat} (b : UInt8) (ha : a < 18446744073709551616) :
    IntKind.u64.wrap ((BitVec.ofInt IntKind.u64.bits (IntKind.u64.wrap ((a : Int) * 2 ^ min (8 : Int).toNat IntKind.u64.bits)) ||| BitVec.ofInt IntKind.u64.bits (IntKind.u64.wrap (b.toNat : Int))).toNat : Int) =
      (((a * 256 + b.toNat) % 18446744073709551616 : Nat) : Int) := by
  have hb : b.toNat < 256 := b.toNat_lt
  have e1 : IntKind.u64.wrap ((a : Int) * 2 ^ min (8 : Int).toNat IntKind.u64.bits) = ((a % 72057594037927936 * 2 ^ 8 : Nat) : Int) := by
    rw [wrap64]
    show (a : Int) * 2 ^ 8 % _ = _
    omega
  have e2 : IntKind.u64.wrap (b.toNat : Int) = (b.toNat : Int) := wrapN (by omega)
  rw [e1, e2]
  have e : (BitVec.ofInt IntKind.u64.bits ((a % 72057594037927936 * 2 ^ 8 : Nat) : Int) ||| BitVec.ofInt IntKind.u64.bits (b.toNat : Int)).toNat = a % 72057594037927936 * 2 ^ 8 + b.toNat := by
    show (BitVec.ofInt 64 ((a % 72057594037927936 * 2 ^ 8 : Nat) : Int) ||| BitVec.ofInt 64 (b.toNat : Int)).toNat = _
    rw [BitVec.toNat_or, BitVec.toNat_ofInt, BitVec.toNat_ofInt]
    have g1 : ((a % 72057594037927936 * 2 ^ 8 : Nat) : Int) % ((2 ^ 64 : Nat) : Int) = ((a % 72057594037927936 * 2 ^ 8 : Nat) : Int) := by omega
    have g2 : (b.toNat : Int) % ((2 ^ 64 : Nat) : Int) = (b.toNat : Int) := by omega
    rw [g1, g2, Int.toNat_natCast, Int.toNat_natCast]
    exact or_sum hb
  rw [e, wrapN (by omega)]
  omega

theorem bytes_getD {s : ByteArray} {j : Nat} (h : j < s.data.toList.length) : (D.bytes s).getD (j : Int).toNat .nilP = .int .u8 ((s.data.toList[j]'h).toNat : Int) := by
  rw [Int.toNat_natCast, List.getD_eq_getElem?_getD]
  unfold D.bytes
  rw [List.getElem?_map, List.getElem?_eq_getElem h]
  rfl

theorem number_c {s : ByteArray} {e n : Int} (hn : 0 ≤ n) (hm : s.size < 9223372036854775807) : CallR cx 107 [.ptr 0 [], i64 n] [.var (.d (rd s e))] fun r S =>
    r = u64 ((be (tkS s e n).data.toList 0 : Nat) : Int) ∧ S = [.var (.d (rd (tkR s e n) (tkE s e n)))] := by
  have ht : (tkS s e n).size ≤ s.size := by
    unfold tkS
    split
    · rw [ByteArray.size_extract]; omega
    · exact Nat.zero_le _
  have tk := take_c (s := s) (e := e) hn
  generalize tkS s e n = t at *
  generalize rd (tkR s e n) (tkE s e n) = R at *
  refine callR_of (R := R1) cx_ok Tryd.func107 (by kernel_rfl) rfl ?_
  conv => whnf
  refine ⟨_, tk, ?_⟩
  rintro _ _ ⟨rfl, rfl⟩
  conv => whnf
  refine ⟨by unfold maxLen; omega, ?_⟩
  conv => whnf
  refine .inl ⟨fun k l S => ∃ j : Nat, j ≤ t.data.toList.length ∧ k = t.data.toList.length - j ∧
      l = [(5, u64 ((be (t.data.toList.take j) 0 : Nat) : Int)), (11, .d (.sl 1 (D.bytes t))), (12, i64 (((D.bytes t).length : Nat) : Int)), (13, i64 (j : Int))] ∧ S = [.var (.d R)],
    ⟨_, _, ⟨0, Nat.zero_le _, rfl, rfl, rfl⟩, ⟨rfl, rfl, rfl, rfl, trivial⟩⟩, ?_⟩
  rintro _ _ _ ⟨j, hj, rfl, rfl, rfl⟩
  have hlen : (D.bytes t).length = t.data.toList.length := by simp [D.bytes]
  have hts : t.data.toList.length = t.size := by rw [Array.length_toList]; rfl
  conv => whnf
  refine brec (fun h1 => ?_) (fun h1 => ?_)
  · have h1 := of_decide_eq_true h1
    rw [hlen] at h1
    have hlt : j < t.data.toList.length := by omega
    conv => whnf
    refine ⟨⟨by omega, by rw [hlen]; omega⟩, ?_⟩
    rw [bytes_getD hlt]
    conv => whnf
    refine ⟨by decide, ?_⟩
    conv => whnf
    have e1 := be_step (a := be (t.data.toList.take j) 0) (t.data.toList[j]'hlt) (be_lt _ (by decide))
    have e2 : (be (t.data.toList.take j) 0 * 256 + (t.data.toList[j]'hlt).toNat) % 18446744073709551616 = be (t.data.toList.take (j + 1)) 0 := by
      rw [List.take_add_one, List.getElem?_eq_getElem hlt]
      unfold be
      rw [List.foldl_append]
      rfl
    rw [e2] at e1
    have e3 : IntKind.i64.wrap ((j : Int) + 1) = ((j + 1 : Nat) : Int) := by rw [IntKind.wrap_i64]; omega
    exact ⟨_, _, 1, (by omega : t.data.toList.length - (j + 1) < t.data.toList.length - j), ⟨j + 1, hlt, rfl, rfl, rfl⟩,
      ⟨congrArg (fun z => some (u64 z)) e1, rfl, rfl, congrArg (fun z => some (i64 z)) e3, trivial⟩, rfl⟩
  · have h1 := of_decide_eq_false h1
    rw [hlen] at h1
    have : j = t.data.toList.length := by omega
    subst this
    conv => whnf
    rw [List.take_length]
    exact ⟨rfl, rfl⟩

theorem byte_c {s : ByteArray} {e : Int} (hm : s.size < 9223372036854775807) : CallR cx 65 [.ptr 0 []] [.var (.d (rd s e))] fun r S =>
    r = u8 (IntKind.u8.wrap ((be (tkS s e 1).data.toList 0 : Nat) : Int)) ∧ S = [.var (.d (rd (tkR s e 1) (tkE s e 1)))] := by
  refine callR_of (R := R1) cx_ok Tryd.func65 (by kernel_rfl) rfl ?_
  conv => whnf
  refine ⟨_, number_c (by decide) hm, ?_⟩
  rintro _ _ ⟨rfl, rfl⟩
  conv => whnf
  exact ⟨rfl, rfl⟩

theorem over_c {s : ByteArray} : CallR cx 63 [st s] [] fun r S => r = .ptr 0 [] ∧ S = [.var (.d (rd s 0))] := by
  refine callR_of (R := R1) cx_ok Tryd.func63 (by kernel_rfl) rfl ?_
  conv => whnf
  exact ⟨rfl, rfl⟩
end Go.Proofs.YtboohfijacjhjaaDoor
