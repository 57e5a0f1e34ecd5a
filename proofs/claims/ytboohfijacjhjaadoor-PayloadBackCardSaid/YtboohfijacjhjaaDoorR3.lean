/- Payloads read: the program's and the document's. -/
import Derived.Test.YtboohfijacjhjaaDoorR2
namespace Go.Proofs.YtboohfijacjhjaaDoor
open Go.Ab Go.RowKit

/-- What stands behind a tag, and the reader behind it. -/
def readB (t : Nat) (r : Rs) : Pl × Rs :=
  if t = 1 then (.tr ((r.num 4 : Nat) : Int) ((r.take 4).txt 48) (((r.take 4).txtR 48).txt 48) (((((r.take 4).txtR 48).txtR 48).num 8 : Nat) : Int), (((r.take 4).txtR 48).txtR 48).take 8)
  else if t = 2 then (.sy (r.txt 48) ((r.txtR 48).txt 256), (r.txtR 48).txtR 256)
  else if t = 3 then (.de ((r.num 4 : Nat) : Int) ((r.take 4).txt 48) ((((r.take 4).txtR 48).num 8 : Nat) : Int), ((r.take 4).txtR 48).take 8)
  else (.no, r.fail 4)

/-- The payload that bytes are, and what is wrong. -/
def readQ (s : ByteArray) : Pl × Rs := readB ((Rs.mk s 0).num 1) ((Rs.mk s 0).take 1)
def readP (s : ByteArray) : Pl × Int := if (readQ s).2.out = 0 then (if (readQ s).1.right then ((readQ s).1, 0) else (.no, 4)) else (.no, (readQ s).2.out)

theorem readB_fit {t : Nat} {r : Rs} (h : r.s.size < 100000) : (readB t r).1.fit := by
  have a1 := take_size r 4
  have a2 := txt_size (r.take 4) 48
  have a3 := txtR_size (r.take 4) 48
  have a4 := txt_size ((r.take 4).txtR 48) 48
  have a5 := txt_size r 48
  have a6 := txtR_size r 48
  have a7 := txt_size (r.txtR 48) 256
  have b1 := num4_lt r
  have b2 := num8_lt (((r.take 4).txtR 48).txtR 48)
  have b3 := num8_lt ((r.take 4).txtR 48)
  unfold readB
  split
  · exact ⟨⟨by omega, by omega⟩, ⟨by omega, by omega⟩, by omega, by omega⟩
  split
  · exact ⟨by omega, by omega⟩
  split
  · exact ⟨⟨by omega, by omega⟩, ⟨by omega, by omega⟩, by omega⟩
  · trivial

theorem body_c {t : Nat} {r : Rs} (hm : r.s.size < 9223372036854775807) :
    CallR cx 64 [.ptr 0 [], u8 (t : Int)] [.var (.d r.d)] fun v S => v = .d (readB t r).1.d ∧ S = [.var (.d (readB t r).2.d)] := by
  have a1 := take_size r 4
  have a3 := txtR_size (r.take 4) 48
  have a6 := txtR_size r 48
  have a8 := txtR_size ((r.take 4).txtR 48) 48
  unfold readB
  by_cases h1 : t = 1
  · rw [if_pos h1]
    subst h1
    have c1 := nword_c (r := r) hm
    have c2 := ntext_c (r := r.take 4) (m := 48) (by decide) (by decide) (by omega)
    have c3 := ntext_c (r := (r.take 4).txtR 48) (m := 48) (by decide) (by decide) (by omega)
    have c4 := nlong_c (r := ((r.take 4).txtR 48).txtR 48) (by omega)
    refine callR_of (R := R1) cx_ok Tryd.func64 (by kernel_rfl) rfl ?_
    conv => whnf
    refine ⟨_, c1, ?_⟩
    rintro _ _ ⟨rfl, rfl⟩
    conv => whnf
    refine ⟨_, c2, ?_⟩
    rintro _ _ ⟨rfl, rfl⟩
    conv => whnf
    refine ⟨_, c3, ?_⟩
    rintro _ _ ⟨rfl, rfl⟩
    conv => whnf
    refine ⟨_, c4, ?_⟩
    rintro _ _ ⟨rfl, rfl⟩
    conv => whnf
    exact ⟨rfl, rfl⟩
  rw [if_neg h1]
  by_cases h2 : t = 2
  · rw [if_pos h2]
    subst h2
    have c1 := ntext_c (r := r) (m := 48) (by decide) (by decide) (by omega)
    have c2 := ntext_c (r := r.txtR 48) (m := 256) (by decide) (by decide) (by omega)
    refine callR_of (R := R1) cx_ok Tryd.func64 (by kernel_rfl) rfl ?_
    conv => whnf
    refine ⟨_, c1, ?_⟩
    rintro _ _ ⟨rfl, rfl⟩
    conv => whnf
    refine ⟨_, c2, ?_⟩
    rintro _ _ ⟨rfl, rfl⟩
    conv => whnf
    exact ⟨rfl, rfl⟩
  rw [if_neg h2]
  by_cases h3 : t = 3
  · rw [if_pos h3]
    subst h3
    have c1 := nword_c (r := r) hm
    have c2 := ntext_c (r := r.take 4) (m := 48) (by decide) (by decide) (by omega)
    have c4 := nlong_c (r := (r.take 4).txtR 48) (by omega)
    refine callR_of (R := R1) cx_ok Tryd.func64 (by kernel_rfl) rfl ?_
    conv => whnf
    refine ⟨_, c1, ?_⟩
    rintro _ _ ⟨rfl, rfl⟩
    conv => whnf
    refine ⟨_, c2, ?_⟩
    rintro _ _ ⟨rfl, rfl⟩
    conv => whnf
    refine ⟨_, c4, ?_⟩
    rintro _ _ ⟨rfl, rfl⟩
    conv => whnf
    exact ⟨rfl, rfl⟩
  rw [if_neg h3]
  have c1 := nfail_c (r := r) (f := 4)
  generalize hT : (t : Int) = T
  refine callR_of (R := R1) cx_ok Tryd.func64 (by kernel_rfl) rfl ?_
  conv => whnf
  refine brF (beq_eq_false_iff_ne.2 (by omega)) ?_
  conv => whnf
  refine brF (beq_eq_false_iff_ne.2 (by omega)) ?_
  conv => whnf
  refine brF (beq_eq_false_iff_ne.2 (by omega)) ?_
  conv => whnf
  refine ⟨_, c1, ?_⟩
  rintro _ _ ⟨rfl, rfl⟩
  conv => whnf
  exact ⟨rfl, rfl⟩

theorem over2_c {s : ByteArray} : CallR cx 63 [st s] [] fun r S => r = .ptr 0 [] ∧ S = [.var (.d (Rs.mk s 0).d)] := over_c

theorem read_c {s : ByteArray} (hm : s.size < 100000) : CallR cx 27 [st s] [] fun v S => v = .tup [.d (readP s).1.d, i64 (readP s).2] ∧ S = [] := by
  have ov := over2_c (s := s)
  have by' := nbyte_c (r := Rs.mk s 0) (by show s.size < _; omega)
  have hs := take_size (Rs.mk s 0) 1
  have hs : ((Rs.mk s 0).take 1).s.size ≤ s.size := hs
  have bo' := body_c (t := (Rs.mk s 0).num 1) (r := (Rs.mk s 0).take 1) (by omega)
  have fi := readB_fit (t := (Rs.mk s 0).num 1) (r := (Rs.mk s 0).take 1) (by omega)
  have en := nend_c (r := (readB ((Rs.mk s 0).num 1) ((Rs.mk s 0).take 1)).2)
  have ri := pright_c fi
  unfold readP readQ
  generalize readB ((Rs.mk s 0).num 1) ((Rs.mk s 0).take 1) = q at *
  obtain ⟨p, r⟩ := q
  simp only at bo' fi en ri ⊢
  generalize (((Rs.mk s 0).num 1 : Nat) : Int) = t at *
  generalize ((Rs.mk s 0).take 1).d = R2 at *
  generalize (Rs.mk s 0).d = R0 at *
  generalize hd : p.d = pd at *
  generalize r.d = rd' at *
  generalize r.out = e at *
  refine callR_of (R := R1) cx_ok Tryd.func27 (by kernel_rfl) rfl ?_
  conv => whnf
  refine ⟨_, ov, ?_⟩
  rintro _ _ ⟨rfl, rfl⟩
  conv => whnf
  refine ⟨_, by', ?_⟩
  rintro _ _ ⟨rfl, rfl⟩
  conv => whnf
  refine ⟨_, bo', ?_⟩
  rintro _ _ ⟨rfl, rfl⟩
  conv => whnf
  refine ⟨_, en, ?_⟩
  rintro _ _ ⟨rfl, rfl⟩
  conv => whnf
  refine brec (fun h => ?_) (fun h => ?_)
  · have h : ¬ e = 0 := by simpa using h
    rw [if_neg h]
    conv => whnf
    exact ⟨rfl, rfl⟩
  have h : e = 0 := by simpa using h
  rw [if_pos h]
  conv => whnf
  refine ⟨_, ri, ?_⟩
  rintro _ _ ⟨rfl, rfl⟩
  conv => whnf
  refine brec (fun g => ?_) (fun g => ?_)
  · have g : p.right = false := by simpa using g
    rw [g]
    conv => whnf
    exact ⟨rfl, rfl⟩
  have g : p.right = true := by simpa using g
  rw [g, if_pos rfl]
  conv => whnf
  subst hd
  exact ⟨rfl, rfl⟩
end Go.Proofs.YtboohfijacjhjaaDoor
