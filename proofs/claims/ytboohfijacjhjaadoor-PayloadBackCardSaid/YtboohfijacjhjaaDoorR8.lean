/- The law 'PayloadBack' returns true, for any value and any bytes. -/
import Derived.Test.YtboohfijacjhjaaDoorR7
namespace Go.Proofs.YtboohfijacjhjaaDoor
open Go.Ab Go.RowKit

theorem pk_out {k o n : Int} {a b s : ByteArray} {x : Bool} (h : x = false ∨ 5000 < (s.size : Int))
    (li : CallR cx 12 [.d (any k o a b n)] [] fun r S => r = bo x ∧ S = []) : CallR cx 6 [.d (any k o a b n), st s] [] fun r S => r = .d (.bool true) ∧ S = [] := by
  refine callR_of (R := R1) cx_ok Tryd.func6 (by kernel_rfl) rfl ?_
  conv => whnf
  refine ⟨_, awake_c, ?_⟩
  rintro _ _ ⟨rfl, rfl⟩
  conv => whnf
  refine ⟨_, li, ?_⟩
  rintro _ _ ⟨rfl, rfl⟩
  cases x with
  | false =>
    conv => whnf
    refine ⟨_, awake_c, ?_⟩
    rintro _ _ ⟨rfl, rfl⟩
    conv => whnf
    exact ⟨rfl, rfl⟩
  | true =>
    have h : 5000 < (s.size : Int) := h.resolve_left (by simp)
    conv => whnf
    refine brT (decide_eq_true (by omega)) ?_
    conv => whnf
    refine ⟨_, awake_c, ?_⟩
    rintro _ _ ⟨rfl, rfl⟩
    conv => whnf
    exact ⟨rfl, rfl⟩

set_option maxHeartbeats 1000000 in
theorem pk_11 {k o n : Int} {a b s os : ByteArray} {pd q : D} (hs : (s.size : Int) ≤ 5000)
    (li : CallR cx 12 [.d (any k o a b n)] [] fun r S => r = bo true ∧ S = []) (to : CallR cx 13 [.d (any k o a b n)] [] fun r S => r = .d pd ∧ S = [])
    (ba : CallR cx 25 [.d pd] [] fun r S => r = .tup [st os, i64 0] ∧ S = [])
    (re : CallR cx 27 [st s] [] fun r S => r = .tup [.d q, i64 0] ∧ S = [])
    (bq : CallR cx 25 [.d q] [] fun r S => r = .tup [st s, i64 0] ∧ S = [])
    (r1 : CallR cx 27 [st os] [] fun r S => r = .tup [.d pd, i64 0] ∧ S = []) (sa : CallR cx 18 [.d pd, .d pd] [] fun r S => r = bo true ∧ S = [])
    : CallR cx 6 [.d (any k o a b n), st s] [] fun r S => r = .d (.bool true) ∧ S = [] := by
  refine callR_of (R := R1) cx_ok Tryd.func6 (by kernel_rfl) rfl ?_
  conv => whnf
  refine ⟨_, awake_c, ?_⟩
  rintro _ _ ⟨rfl, rfl⟩
  conv => whnf
  refine ⟨_, li, ?_⟩
  rintro _ _ ⟨rfl, rfl⟩
  conv => whnf
  refine brF (decide_eq_false (by omega)) ?_
  conv => whnf
  refine ⟨_, to, ?_⟩
  rintro _ _ ⟨rfl, rfl⟩
  conv => whnf
  refine ⟨_, ba, ?_⟩
  rintro _ _ ⟨rfl, rfl⟩
  conv => whnf
  refine ⟨_, r1, ?_⟩
  rintro _ _ ⟨rfl, rfl⟩
  conv => whnf
  refine ⟨_, sa, ?_⟩
  rintro _ _ ⟨rfl, rfl⟩
  conv => whnf
  refine ⟨_, re, ?_⟩
  rintro _ _ ⟨rfl, rfl⟩
  conv => whnf
  refine ⟨_, bq, ?_⟩
  rintro _ _ ⟨rfl, rfl⟩
  conv => whnf
  refine ⟨_, awake_c, ?_⟩
  rintro _ _ ⟨rfl, rfl⟩
  conv => whnf
  refine ⟨?_, rfl⟩
  exact congrArg bo (decide_eq_true rfl)

set_option maxHeartbeats 1000000 in
theorem pk_10 {k o n e2 f : Int} {a b s os t : ByteArray} {pd q : D} (hs : (s.size : Int) ≤ 5000)
    (li : CallR cx 12 [.d (any k o a b n)] [] fun r S => r = bo true ∧ S = []) (to : CallR cx 13 [.d (any k o a b n)] [] fun r S => r = .d pd ∧ S = [])
    (ba : CallR cx 25 [.d pd] [] fun r S => r = .tup [st os, i64 0] ∧ S = [])
    (re : CallR cx 27 [st s] [] fun r S => r = .tup [.d q, i64 e2] ∧ S = [])
    (bq : CallR cx 25 [.d q] [] fun r S => r = .tup [st t, i64 f] ∧ S = [])
    (r1 : CallR cx 27 [st os] [] fun r S => r = .tup [.d pd, i64 0] ∧ S = []) (sa : CallR cx 18 [.d pd, .d pd] [] fun r S => r = bo true ∧ S = [])
    (he2 : e2 ≠ 0)
    : CallR cx 6 [.d (any k o a b n), st s] [] fun r S => r = .d (.bool true) ∧ S = [] := by
  refine callR_of (R := R1) cx_ok Tryd.func6 (by kernel_rfl) rfl ?_
  conv => whnf
  refine ⟨_, awake_c, ?_⟩
  rintro _ _ ⟨rfl, rfl⟩
  conv => whnf
  refine ⟨_, li, ?_⟩
  rintro _ _ ⟨rfl, rfl⟩
  conv => whnf
  refine brF (decide_eq_false (by omega)) ?_
  conv => whnf
  refine ⟨_, to, ?_⟩
  rintro _ _ ⟨rfl, rfl⟩
  conv => whnf
  refine ⟨_, ba, ?_⟩
  rintro _ _ ⟨rfl, rfl⟩
  conv => whnf
  refine ⟨_, r1, ?_⟩
  rintro _ _ ⟨rfl, rfl⟩
  conv => whnf
  refine ⟨_, sa, ?_⟩
  rintro _ _ ⟨rfl, rfl⟩
  conv => whnf
  refine ⟨_, re, ?_⟩
  rintro _ _ ⟨rfl, rfl⟩
  conv => whnf
  refine ⟨_, bq, ?_⟩
  rintro _ _ ⟨rfl, rfl⟩
  conv => whnf
  refine ⟨_, awake_c, ?_⟩
  rintro _ _ ⟨rfl, rfl⟩
  conv => whnf
  refine brT (bne_iff_ne.2 he2) ?_
  conv => whnf
  exact ⟨rfl, rfl⟩

set_option maxHeartbeats 1000000 in
theorem pk_01 {k o n e : Int} {a b s os : ByteArray} {pd q : D} (hs : (s.size : Int) ≤ 5000)
    (li : CallR cx 12 [.d (any k o a b n)] [] fun r S => r = bo true ∧ S = []) (to : CallR cx 13 [.d (any k o a b n)] [] fun r S => r = .d pd ∧ S = [])
    (ba : CallR cx 25 [.d pd] [] fun r S => r = .tup [st os, i64 e] ∧ S = [])
    (re : CallR cx 27 [st s] [] fun r S => r = .tup [.d q, i64 0] ∧ S = [])
    (bq : CallR cx 25 [.d q] [] fun r S => r = .tup [st s, i64 0] ∧ S = [])
    (he : e ≠ 0)
    : CallR cx 6 [.d (any k o a b n), st s] [] fun r S => r = .d (.bool true) ∧ S = [] := by
  refine callR_of (R := R1) cx_ok Tryd.func6 (by kernel_rfl) rfl ?_
  conv => whnf
  refine ⟨_, awake_c, ?_⟩
  rintro _ _ ⟨rfl, rfl⟩
  conv => whnf
  refine ⟨_, li, ?_⟩
  rintro _ _ ⟨rfl, rfl⟩
  conv => whnf
  refine brF (decide_eq_false (by omega)) ?_
  conv => whnf
  refine ⟨_, to, ?_⟩
  rintro _ _ ⟨rfl, rfl⟩
  conv => whnf
  refine ⟨_, ba, ?_⟩
  rintro _ _ ⟨rfl, rfl⟩
  conv => whnf
  refine brF (beq_eq_false_iff_ne.2 he) ?_
  conv => whnf
  refine ⟨_, re, ?_⟩
  rintro _ _ ⟨rfl, rfl⟩
  conv => whnf
  refine ⟨_, bq, ?_⟩
  rintro _ _ ⟨rfl, rfl⟩
  conv => whnf
  refine ⟨_, awake_c, ?_⟩
  rintro _ _ ⟨rfl, rfl⟩
  conv => whnf
  refine ⟨?_, rfl⟩
  exact congrArg bo (decide_eq_true rfl)

set_option maxHeartbeats 1000000 in
theorem pk_00 {k o n e e2 f : Int} {a b s os t : ByteArray} {pd q : D} (hs : (s.size : Int) ≤ 5000)
    (li : CallR cx 12 [.d (any k o a b n)] [] fun r S => r = bo true ∧ S = []) (to : CallR cx 13 [.d (any k o a b n)] [] fun r S => r = .d pd ∧ S = [])
    (ba : CallR cx 25 [.d pd] [] fun r S => r = .tup [st os, i64 e] ∧ S = [])
    (re : CallR cx 27 [st s] [] fun r S => r = .tup [.d q, i64 e2] ∧ S = [])
    (bq : CallR cx 25 [.d q] [] fun r S => r = .tup [st t, i64 f] ∧ S = [])
    (he : e ≠ 0)
    (he2 : e2 ≠ 0)
    : CallR cx 6 [.d (any k o a b n), st s] [] fun r S => r = .d (.bool true) ∧ S = [] := by
  refine callR_of (R := R1) cx_ok Tryd.func6 (by kernel_rfl) rfl ?_
  conv => whnf
  refine ⟨_, awake_c, ?_⟩
  rintro _ _ ⟨rfl, rfl⟩
  conv => whnf
  refine ⟨_, li, ?_⟩
  rintro _ _ ⟨rfl, rfl⟩
  conv => whnf
  refine brF (decide_eq_false (by omega)) ?_
  conv => whnf
  refine ⟨_, to, ?_⟩
  rintro _ _ ⟨rfl, rfl⟩
  conv => whnf
  refine ⟨_, ba, ?_⟩
  rintro _ _ ⟨rfl, rfl⟩
  conv => whnf
  refine brF (beq_eq_false_iff_ne.2 he) ?_
  conv => whnf
  refine ⟨_, re, ?_⟩
  rintro _ _ ⟨rfl, rfl⟩
  conv => whnf
  refine ⟨_, bq, ?_⟩
  rintro _ _ ⟨rfl, rfl⟩
  conv => whnf
  refine ⟨_, awake_c, ?_⟩
  rintro _ _ ⟨rfl, rfl⟩
  conv => whnf
  refine brT (bne_iff_ne.2 he2) ?_
  conv => whnf
  exact ⟨rfl, rfl⟩

theorem outE_right {p : Pl} (h : p.right = true) : p.outE = 0 ∧ p.outS = p.bytes := by
  unfold Pl.outE Pl.outS
  rw [if_pos h, if_pos h]
  refine ⟨?_, rfl⟩
  cases p <;> first | rfl | cases h
theorem outE_no {p : Pl} (h : ¬ p.right = true) : p.outE ≠ 0 := by
  unfold Pl.outE
  rw [if_neg h]
  split <;> decide
theorem same_self {p : Pl} (h : p.right = true) : same p p = true := by
  unfold same
  refine @decide_eq_true _ (Classical.propDecidable _) ⟨rfl, ?_⟩
  cases p with
  | no | nu => cases h
  | tr => show (0 : Int) < 1; decide
  | sy => show (0 : Int) < 2; decide
  | de => show (0 : Int) < 3; decide

theorem bytes_size {p : Pl} (h : p.right = true) : p.bytes.size < 100000 := by
  cases p with
  | tr o a b n =>
    have hr : ((rightT a && rightT b) && decide (n ≠ 0)) = true := h
    simp only [Bool.and_eq_true] at hr
    have ha := right_size hr.1.1
    have hb := right_size hr.1.2
    show ByteArray.size (_ ++ _) < _
    simp only [ByteArray.size_append, bigB_size, textB_size]; omega
  | sy a b =>
    have hr : (rightT a && saysT b) = true := h
    simp only [Bool.and_eq_true] at hr
    have ha := right_size hr.1
    have hb := says_size hr.2
    show ByteArray.size (_ ++ _) < _
    simp only [ByteArray.size_append, bigB_size, textB_size]; omega
  | de o a n =>
    have ha := right_size h
    show ByteArray.size (_ ++ _) < _
    simp only [ByteArray.size_append, bigB_size, textB_size]; omega
  | no | nu => cases h

theorem payloadBack_c (ys : List D) (hy : Ty.hass [.st [.int .i64, .int .u32, .str, .str, .int .u64], .str] ys) : CallR cx 6 (ys.map AV.d) [] fun r S => r = .d (.bool true) ∧ S = [] := by
  obtain ⟨_, _, rfl, ⟨_, rfl, _, _, rfl, ⟨k, rfl, _⟩, _, _, rfl, ⟨o, rfl, wo⟩, _, _, rfl, ⟨a, rfl, _⟩, _, _, rfl, ⟨b, rfl, _⟩, _, _, rfl, ⟨n, rfl, wn⟩, rfl⟩, _, _, rfl, ⟨s, rfl, _⟩, rfl⟩ := hy
  have li := light_c (k := k) (o := o) (n := n) (a := a) (b := b)
  have to := to_c (k := k) (o := o) (n := n) (a := a) (b := b)
  by_cases h : light a b = false ∨ 5000 < (s.size : Int)
  · exact pk_out h li
  have h1 : light a b = true := by
    cases e : light a b with
    | true => rfl
    | false => exact absurd (.inl e) h
  have h2 : (s.size : Int) ≤ 5000 := by
    rcases Int.lt_or_le 5000 (s.size : Int) with g | g
    · exact absurd (.inr g) h
    · exact g
  have hf := toP_fit (k := k) (U32.of_wf wo) (U.of_wf wn) (light_iff h1).1 (light_iff h1).2
  rw [h1] at li
  generalize toP k o a b n = p at *
  have re := read_c (s := s) (by omega)
  have ba := bytes_c hf
  have hq : (readP s).1.fit := by
    unfold readP
    split
    · split
      · exact readB_fit (Nat.lt_of_le_of_lt (take_size _ _) (show s.size < _ by omega))
      · trivial
    · trivial
  have bq := bytes_c hq
  by_cases hr : p.right = true
  · obtain ⟨g1, g2⟩ := outE_right hr
    rw [g1, g2] at ba
    have r1 := read_c (bytes_size hr)
    rw [read_bytes hf hr] at r1
    have sa := same_c (p := p) (q := p)
    rw [same_self hr] at sa
    by_cases he : (readP s).2 = 0
    · obtain ⟨k1, k2⟩ := bytes_read he
      obtain ⟨m1, m2⟩ := outE_right k1
      rw [m1, m2, k2] at bq
      rw [he] at re
      exact pk_11 h2 li to ba re bq r1 sa
    · exact pk_10 h2 li to ba re bq r1 sa he
  · have hn := outE_no hr
    by_cases he : (readP s).2 = 0
    · obtain ⟨k1, k2⟩ := bytes_read he
      obtain ⟨m1, m2⟩ := outE_right k1
      rw [m1, m2, k2] at bq
      rw [he] at re
      exact pk_01 h2 li to ba re bq hn
    · exact pk_00 h2 li to ba re bq hn he
end Go.Proofs.YtboohfijacjhjaaDoor
