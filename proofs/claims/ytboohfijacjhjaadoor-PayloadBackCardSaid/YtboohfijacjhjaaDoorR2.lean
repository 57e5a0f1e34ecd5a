/- Readers of the document: numbers, texts. -/
import Derived.Test.YtboohfijacjhjaaDoorR1
namespace Go.Proofs.YtboohfijacjhjaaDoor
open Go.Ab Go.RowKit

theorem rtake_c {r : Rs} {n : Int} (hn : 0 ≤ n) : CallR cx 108 [.ptr 0 [], i64 n] [.var (.d r.d)] fun v S => v = st (r.got n) ∧ S = [.var (.d (r.take n).d)] := by
  obtain ⟨s, e⟩ := r
  show CallR cx 108 [.ptr 0 [], i64 n] [.var (.d (rd s e))] fun v S => v = st (tkS s e n) ∧ S = [.var (.d (rd (tkR s e n) (tkE s e n)))]
  refine callR_of (R := R1) cx_ok Tryd.func108 (by kernel_rfl) rfl ?_
  conv => whnf
  by_cases h : e = 0
  · refine brT (beq_iff_eq.2 h) ?_
    subst h
    conv => whnf
    refine brec (fun g => ?_) (fun g => ?_)
    · have g := of_decide_eq_true g
      have e1 : tkS s 0 n = .empty := if_neg fun k => by omega
      have e2 : tkR s 0 n = s := if_neg fun k => by omega
      have e3 : tkE s 0 n = 3 := by unfold tkE; rw [if_pos rfl, if_neg (by omega)]
      rw [e1, e2, e3]
      conv => whnf
      exact ⟨rfl, rfl⟩
    · have g := of_decide_eq_false g
      have g : n ≤ s.size := by omega
      have e1 : tkS s 0 n = s.extract 0 n.toNat := if_pos ⟨rfl, g⟩
      have e2 : tkR s 0 n = s.extract n.toNat s.size := if_pos ⟨rfl, g⟩
      have e3 : tkE s 0 n = 0 := by unfold tkE; rw [if_pos rfl, if_pos g]
      rw [e1, e2, e3]
      conv => whnf
      refine ⟨⟨by decide, hn, g⟩, ?_⟩
      conv => whnf
      refine ⟨⟨hn, g, Int.le_refl _⟩, ?_⟩
      conv => whnf
      exact ⟨rfl, rfl⟩
  · have e1 : tkS s e n = .empty := if_neg fun g => h g.1
    have e2 : tkR s e n = s := if_neg fun g => h g.1
    have e3 : tkE s e n = e := if_neg h
    rw [e1, e2, e3]
    refine brF (beq_eq_false_iff_ne.2 h) ?_
    conv => whnf
    refine brec (fun g => ?_) (fun g => absurd g ?_)
    · conv => whnf
      exact ⟨rfl, rfl⟩
    · simp [h]

theorem rfail_c {r : Rs} {f : Int} : CallR cx 68 [.ptr 0 [], i64 f] [.var (.d r.d)] fun v S => v = .tup [] ∧ S = [.var (.d (r.fail f).d)] := by
  obtain ⟨s, e⟩ := r
  show CallR cx 68 [.ptr 0 [], i64 f] [.var (.d (rd s e))] fun v S => v = .tup [] ∧ S = [.var (.d (rd s (if e = 0 then f else e)))]
  refine callR_of (R := R1) cx_ok Tryd.func68 (by kernel_rfl) rfl ?_
  conv => whnf
  refine brec (fun h => ?_) (fun h => ?_)
  · rw [if_pos (eq_of_beq h)]
    conv => whnf
    exact ⟨rfl, rfl⟩
  · rw [if_neg (ne_of_beq_false h)]
    conv => whnf
    exact ⟨rfl, rfl⟩

theorem rend_c {r : Rs} : CallR cx 70 [.ptr 0 []] [.var (.d r.d)] fun v S => v = i64 r.out ∧ S = [.var (.d r.d)] := by
  obtain ⟨s, e⟩ := r
  show CallR cx 70 [.ptr 0 []] [.var (.d (rd s e))] fun v S => v = i64 (if e = 0 then (if s = .empty then 0 else 4) else e) ∧ S = [.var (.d (rd s e))]
  refine callR_of (R := R1) cx_ok Tryd.func70 (by kernel_rfl) rfl ?_
  conv => whnf
  refine brec (fun h => ?_) (fun h => ?_)
  · have h := eq_of_beq h
    subst h
    rw [if_pos rfl]
    conv => whnf
    refine brec (fun g => ?_) (fun g => ?_)
    · have g := of_decide_eq_true g
      have e1 : ¬ s = .empty := fun e => by subst e; exact absurd g (by decide)
      rw [if_neg e1]
      conv => whnf
      exact ⟨rfl, rfl⟩
    · have g := of_decide_eq_false g
      have e1 : s = .empty := size0 (by omega)
      rw [if_pos e1]
      conv => whnf
      exact ⟨rfl, rfl⟩
  · rw [if_neg (ne_of_beq_false h)]
    have h' := ne_of_beq_false h
    conv => whnf
    exact ⟨rfl, rfl⟩

theorem be_step2 {a : Nat} {b : Nat} (hb : b < 256) : IntKind.u64.wrap (IntKind.u64.wrap ((a : Int) * 256) + IntKind.u64.wrap (b : Int)) = (((a * 256 + b) % 18446744073709551616 : Nat) : Int) := by
  rw [Ab.wrap64, Ab.wrap64, Ab.wrap64]; omega

theorem list_getD {t : ByteArray} {j : Nat} (h : j < t.data.toList.length) : byteAt t j = (((t.data.toList[j]'h).toNat : Nat) : Int) := by
  unfold byteAt; rw [List.getD_eq_getElem?_getD, List.getElem?_eq_getElem h]; rfl

theorem rnum_c {r : Rs} {n : Int} (hn : 0 ≤ n) (hm : r.s.size < 9223372036854775807) : CallR cx 67 [.ptr 0 [], i64 n] [.var (.d r.d)] fun v S => v = u64 ((r.num n : Nat) : Int) ∧ S = [.var (.d (r.take n).d)] := by
  have tk := rtake_c (r := r) hn
  have ht := got_size r n
  unfold Rs.num
  generalize r.got n = t at *
  generalize (r.take n).d = R at *
  generalize r.d = R0 at *
  have hts : t.data.toList.length = t.size := Array.length_toList
  refine callR_of (R := R1) cx_ok Tryd.func67 (by kernel_rfl) rfl ?_
  conv => whnf
  refine ⟨_, tk, ?_⟩
  rintro _ _ ⟨rfl, rfl⟩
  conv => whnf
  refine .inl ⟨fun k l S => ∃ j : Nat, j ≤ t.size ∧ k = t.size - j ∧
      l = [(5, u64 ((be (t.data.toList.take j) 0 : Nat) : Int)), (6, st t), (7, i64 (j : Int))] ∧ S = [.var (.d R)],
    ⟨_, _, ⟨0, Nat.zero_le _, rfl, rfl, rfl⟩, ⟨rfl, rfl, rfl, trivial⟩⟩, ?_⟩
  rintro _ _ _ ⟨j, hj, rfl, rfl, rfl⟩
  conv => whnf
  refine brec (fun h1 => ?_) (fun h1 => ?_)
  · have h1 := of_decide_eq_true h1
    have hlt : j < t.data.toList.length := by omega
    conv => whnf
    refine ⟨⟨by omega, by show (j : Int) < (t.size : Int); omega⟩, ?_⟩
    rw [Int.toNat_natCast, list_getD hlt]
    conv => whnf
    have e1 := be_step2 (a := be (t.data.toList.take j) 0) (t.data.toList[j]'hlt).toNat_lt
    have e2 : (be (t.data.toList.take j) 0 * 256 + (t.data.toList[j]'hlt).toNat) % 18446744073709551616 = be (t.data.toList.take (j + 1)) 0 := by
      rw [List.take_add_one, List.getElem?_eq_getElem hlt]
      unfold be
      rw [List.foldl_append]
      rfl
    rw [e2] at e1
    have e3 : IntKind.i64.wrap ((j : Int) + 1) = ((j + 1 : Nat) : Int) := by rw [w64 (by omega)]; omega
    exact ⟨_, _, 1, (by omega : t.size - (j + 1) < t.size - j), ⟨j + 1, by omega, rfl, rfl, rfl⟩,
      ⟨congrArg (fun z => some (u64 z)) e1, rfl, congrArg (fun z => some (i64 z)) e3, trivial⟩, rfl⟩
  · have h1 := of_decide_eq_false h1
    have : j = t.size := by omega
    subst this
    conv => whnf
    rw [← hts, List.take_length]
    exact ⟨rfl, rfl⟩

theorem rmany_c {r : Rs} {m : Int} (h0 : 0 ≤ m) (hmm : m < 4611686018427387904) (hm : r.s.size < 9223372036854775807) :
    CallR cx 109 [.ptr 0 [], i64 m] [.var (.d r.d)] fun v S => v = i64 (r.cnt m) ∧ S = [.var (.d (r.cntR m).d)] := by
  have nu := rnum_c (r := r) (n := 4) (by decide) hm
  have fa := rfail_c (r := r.take 4) (f := 5)
  unfold Rs.cnt Rs.cntR
  have hlt := num4_lt r
  generalize hk : ((r.num 4 : Nat) : Int) = k at *
  generalize r.d = R0 at *
  have e1 : IntKind.u64.wrap m = m := wrapU ⟨h0, by omega⟩
  refine callR_of (R := R1) cx_ok Tryd.func109 (by kernel_rfl) rfl ?_
  conv => whnf
  refine ⟨_, nu, ?_⟩
  rintro _ _ ⟨rfl, rfl⟩
  conv => whnf
  refine brF (decide_eq_false (by omega)) ?_
  conv => whnf
  refine brT (decide_eq_true (by omega)) ?_
  conv => whnf
  refine brec (fun h => ?_) (fun h => ?_)
  · have h := of_decide_eq_true h
    rw [e1] at h
    rw [if_pos h, if_pos h]
    conv => whnf
    refine ⟨_, fa, ?_⟩
    rintro _ _ ⟨rfl, rfl⟩
    conv => whnf
    exact ⟨rfl, rfl⟩
  · have h := of_decide_eq_false h
    rw [e1] at h
    rw [if_neg h, if_neg h]
    conv => whnf
    exact ⟨congrArg i64 (w64 (by omega)), rfl⟩

theorem rtextR_c {r : Rs} {m : Int} (h0 : 0 ≤ m) (hmm : m < 4611686018427387904) (hm : r.s.size < 9223372036854775807) :
    CallR cx 69 [.ptr 0 [], i64 m] [.var (.d r.d)] fun v S => v = st (r.txt m) ∧ S = [.var (.d (r.txtR m).d)] := by
  have nc := rmany_c (r := r) h0 hmm hm
  have nt := rtake_c (r := r.cntR m) (cnt_nonneg r m)
  unfold Rs.txt Rs.txtR
  generalize r.cnt m = k at *
  generalize r.cntR m = q at *
  refine callR_of (R := R1) cx_ok Tryd.func69 (by kernel_rfl) rfl ?_
  conv => whnf
  refine ⟨_, nc, ?_⟩
  rintro _ _ ⟨rfl, rfl⟩
  conv => whnf
  refine ⟨_, nt, ?_⟩
  rintro _ _ ⟨rfl, rfl⟩
  conv => whnf
  exact ⟨rfl, rfl⟩
end Go.Proofs.YtboohfijacjhjaaDoor
