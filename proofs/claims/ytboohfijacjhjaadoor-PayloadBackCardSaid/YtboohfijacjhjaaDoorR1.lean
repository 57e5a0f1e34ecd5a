/- Readers: numbers, texts; the program's and the document's. -/
import Derived.Test.YtboohfijacjhjaaDoorUC
namespace Go.Proofs.YtboohfijacjhjaaDoor
open Go.Ab Go.RowKit

/-- A reader: what is left, what is wrong. -/
structure Rs where
  s : ByteArray
  e : Int

def Rs.d (r : Rs) : D := rd r.s r.e
def Rs.got (r : Rs) (n : Int) : ByteArray := tkS r.s r.e n
def Rs.take (r : Rs) (n : Int) : Rs := ⟨tkR r.s r.e n, tkE r.s r.e n⟩
def Rs.num (r : Rs) (n : Int) : Nat := be (r.got n).data.toList 0
def Rs.fail (r : Rs) (f : Int) : Rs := ⟨r.s, if r.e = 0 then f else r.e⟩
def Rs.cnt (r : Rs) (m : Int) : Int := if (r.num 4 : Int) > m then 0 else r.num 4
def Rs.cntR (r : Rs) (m : Int) : Rs := if (r.num 4 : Int) > m then (r.take 4).fail 5 else r.take 4
def Rs.txt (r : Rs) (m : Int) : ByteArray := (r.cntR m).got (r.cnt m)
def Rs.txtR (r : Rs) (m : Int) : Rs := (r.cntR m).take (r.cnt m)
def Rs.out (r : Rs) : Int := if r.e = 0 then (if r.s = .empty then 0 else 4) else r.e

theorem tkR_size (s : ByteArray) (e n : Int) : (tkR s e n).size ≤ s.size := by
  unfold tkR; split
  · rw [ByteArray.size_extract]; omega
  · omega
theorem take_size (r : Rs) (n : Int) : (r.take n).s.size ≤ r.s.size := tkR_size ..
theorem fail_size (r : Rs) (f : Int) : (r.fail f).s.size = r.s.size := rfl
theorem cntR_size (r : Rs) (m : Int) : (r.cntR m).s.size ≤ r.s.size := by
  unfold Rs.cntR; split
  · rw [fail_size]; exact take_size ..
  · exact take_size ..
theorem txtR_size (r : Rs) (m : Int) : (r.txtR m).s.size ≤ r.s.size := Nat.le_trans (take_size ..) (cntR_size ..)
theorem got_size (r : Rs) (n : Int) : (r.got n).size ≤ r.s.size := by
  unfold Rs.got tkS; split
  · rw [ByteArray.size_extract]; omega
  · exact Nat.zero_le _
theorem got_le {r : Rs} {n : Int} (hn : 0 ≤ n) : ((r.got n).size : Int) ≤ n := by
  unfold Rs.got tkS; split
  · rw [ByteArray.size_extract]; omega
  · exact hn
theorem txt_size (r : Rs) (m : Int) : (r.txt m).size ≤ r.s.size := Nat.le_trans (got_size ..) (cntR_size ..)
theorem cnt_nonneg (r : Rs) (m : Int) : 0 ≤ r.cnt m := by unfold Rs.cnt; split <;> omega

theorem be_pow : ∀ (l : List UInt8) {a k : Nat}, a < 256 ^ k → be l a < 256 ^ (k + l.length)
  | [], _, _, h => h
  | b :: l, a, k, h => by
    have hb := b.toNat_lt
    have h1 : (a * 256 + b.toNat) % 18446744073709551616 < 256 ^ (k + 1) := by
      refine Nat.lt_of_le_of_lt (Nat.mod_le _ _) ?_
      rw [Nat.pow_succ]
      omega
    have := be_pow l h1
    rw [List.length_cons, show k + (l.length + 1) = k + 1 + l.length by omega]
    exact this

theorem num_lt {r : Rs} {n : Nat} : r.num n < 256 ^ n := by
  have h := be_pow (r.got n).data.toList (a := 0) (k := 0) (by decide)
  have g := got_le (r := r) (n := (n : Int)) (by omega)
  have e : (r.got n).data.toList.length = (r.got n).size := Array.length_toList
  rw [Nat.zero_add, e] at h
  exact Nat.lt_of_lt_of_le h (Nat.pow_le_pow_right (by decide) (by omega))
theorem num1_lt (r : Rs) : r.num 1 < 256 := num_lt (n := 1)
theorem num4_lt (r : Rs) : r.num 4 < 4294967296 := num_lt (n := 4)
theorem num8_lt (r : Rs) : r.num 8 < 18446744073709551616 := num_lt (n := 8)

theorem nfail_c {r : Rs} {f : Int} : CallR cx 93 [.ptr 0 [], i64 f] [.var (.d r.d)] fun v S => v = .tup [] ∧ S = [.var (.d (r.fail f).d)] := fail_c
theorem nend_c {r : Rs} : CallR cx 66 [.ptr 0 []] [.var (.d r.d)] fun v S => v = i64 r.out ∧ S = [.var (.d r.d)] := end_c
theorem ntake_c {r : Rs} {n : Int} (hn : 0 ≤ n) : CallR cx 121 [.ptr 0 [], i64 n] [.var (.d r.d)] fun v S => v = st (r.got n) ∧ S = [.var (.d (r.take n).d)] := take_c hn
theorem nnum_c {r : Rs} {n : Int} (hn : 0 ≤ n) (hm : r.s.size < 9223372036854775807) : CallR cx 107 [.ptr 0 [], i64 n] [.var (.d r.d)] fun v S => v = u64 ((r.num n : Nat) : Int) ∧ S = [.var (.d (r.take n).d)] := number_c hn hm

theorem nbyte_c {r : Rs} (hm : r.s.size < 9223372036854775807) : CallR cx 65 [.ptr 0 []] [.var (.d r.d)] fun v S => v = u8 ((r.num 1 : Nat) : Int) ∧ S = [.var (.d (r.take 1).d)] := by
  have h := byte_c (s := r.s) (e := r.e) hm
  have := num1_lt r
  rw [show IntKind.u8.wrap ((be (tkS r.s r.e 1).data.toList 0 : Nat) : Int) = ((r.num 1 : Nat) : Int) from wrap8 ⟨by omega, by show ((r.num 1 : Nat) : Int) < 256; omega⟩] at h
  exact h

theorem nword_c {r : Rs} (hm : r.s.size < 9223372036854775807) : CallR cx 91 [.ptr 0 []] [.var (.d r.d)] fun v S => v = u32 ((r.num 4 : Nat) : Int) ∧ S = [.var (.d (r.take 4).d)] := by
  have nu := nnum_c (r := r) (n := 4) (by decide) hm
  have e := wrap32 (n := ((r.num 4 : Nat) : Int)) (by have := num4_lt r; omega)
  generalize ((r.num 4 : Nat) : Int) = m at *
  generalize (r.take 4).d = R at *
  generalize r.d = R0 at *
  refine callR_of (R := R1) cx_ok Tryd.func91 (by kernel_rfl) rfl ?_
  conv => whnf
  refine ⟨_, nu, ?_⟩
  rintro _ _ ⟨rfl, rfl⟩
  conv => whnf
  exact ⟨congrArg u32 e, rfl⟩

theorem nlong_c {r : Rs} (hm : r.s.size < 9223372036854775807) : CallR cx 106 [.ptr 0 []] [.var (.d r.d)] fun v S => v = u64 ((r.num 8 : Nat) : Int) ∧ S = [.var (.d (r.take 8).d)] := by
  have nu := nnum_c (r := r) (n := 8) (by decide) hm
  generalize ((r.num 8 : Nat) : Int) = m at *
  generalize (r.take 8).d = R at *
  generalize r.d = R0 at *
  refine callR_of (R := R1) cx_ok Tryd.func106 (by kernel_rfl) rfl ?_
  conv => whnf
  refine ⟨_, nu, ?_⟩
  rintro _ _ ⟨rfl, rfl⟩
  conv => whnf
  exact ⟨rfl, rfl⟩

theorem ncount_c {r : Rs} {m : Int} (h0 : 0 ≤ m) (hmm : m < 4611686018427387904) (hm : r.s.size < 9223372036854775807) :
    CallR cx 122 [.ptr 0 [], i64 m] [.var (.d r.d)] fun v S => v = i64 (r.cnt m) ∧ S = [.var (.d (r.cntR m).d)] := by
  have nu := nnum_c (r := r) (n := 4) (by decide) hm
  have fa := nfail_c (r := r.take 4) (f := 5)
  unfold Rs.cnt Rs.cntR
  have hlt := num4_lt r
  generalize hk : ((r.num 4 : Nat) : Int) = k at *
  generalize r.d = R0 at *
  have e1 : IntKind.u64.wrap (if (0 : Int) > m then 0 else m) = m := by rw [if_neg (by omega)]; exact wrapU ⟨h0, by omega⟩
  refine callR_of (R := R1) cx_ok Tryd.func122 (by kernel_rfl) rfl ?_
  conv => whnf
  refine ⟨_, nu, ?_⟩
  rintro _ _ ⟨rfl, rfl⟩
  conv => whnf
  refine brec (fun h => ?_) (fun h => ?_)
  · have h := of_decide_eq_true h
    rw [e1] at h
    rw [if_pos h, if_pos h]
    conv => whnf
    refine ⟨_, fa, ?_⟩
    rintro _ _ ⟨rfl, rfl⟩
    conv => whnf
    exact ⟨rfl, rfl⟩
  · have h := of_decide_eq_false h
    rw [e1] at h
    rw [if_neg h, if_neg h]
    conv => whnf
    exact ⟨congrArg i64 (w64 (by omega)), rfl⟩

theorem ntext_c {r : Rs} {m : Int} (h0 : 0 ≤ m) (hmm : m < 4611686018427387904) (hm : r.s.size < 9223372036854775807) :
    CallR cx 89 [.ptr 0 [], i64 m] [.var (.d r.d)] fun v S => v = st (r.txt m) ∧ S = [.var (.d (r.txtR m).d)] := by
  have nc := ncount_c (r := r) h0 hmm hm
  have nt := ntake_c (r := r.cntR m) (cnt_nonneg r m)
  unfold Rs.txt Rs.txtR
  generalize r.cnt m = k at *
  generalize r.cntR m = q at *
  refine callR_of (R := R1) cx_ok Tryd.func89 (by kernel_rfl) rfl ?_
  conv => whnf
  refine ⟨_, nc, ?_⟩
  rintro _ _ ⟨rfl, rfl⟩
  conv => whnf
  refine ⟨_, nt, ?_⟩
  rintro _ _ ⟨rfl, rfl⟩
  conv => whnf
  exact ⟨rfl, rfl⟩
end Go.Proofs.YtboohfijacjhjaaDoor
