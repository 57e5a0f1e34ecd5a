/- What one statement needs of the texts, by slice.py. -/
import Derived.Test.YtmdfpifcghmpfaaGreatDoorS4

/- The document's readers; payloads read by it; fields. -/
set_option linter.unusedVariables false
namespace Go.Proofs.YtmdfpifcghmpfaaGreatDoor
open Go.Ab Go.RowKit

theorem rsays_c {s : ByteArray} (hm : s.size < 1000000000) : CallR cx 69 [st s] [] fun r S => r = bo (saysT s) ∧ S = [] := by
  have nu := numbers_c hm
  have hL := keysAt_length s 0
  unfold saysT
  generalize keysAt s 0 = L at *
  have hlen : (ints L).length = L.length := List.length_map _
  refine callR_of (R := R1) cx_ok Tryz.func69 (by kernel_rfl) rfl ?_
  conv => whnf
  refine ⟨_, nu, ?_⟩
  rintro _ _ ⟨rfl, rfl⟩
  conv => whnf
  refine .inl ⟨fun m l S => ∃ j : Nat, j ≤ L.length ∧ goS (L.drop j) j = goS L 0 ∧ m = L.length - j ∧
      l = [(3, .d (.sl 1 (ints L))), (8, .d (.sl 1 (ints L))), (9, i64 (((ints L).length : Nat) : Int)), (10, i64 (j : Int))] ∧ S = [],
    ⟨_, _, ⟨0, Nat.zero_le _, rfl, rfl, rfl, rfl⟩, ⟨rfl, rfl, rfl, rfl, trivial⟩⟩, ?_⟩
  rintro _ _ _ ⟨j, hj, h1, rfl, rfl, rfl⟩
  conv => whnf
  refine brec (fun h4 => ?_) (fun h4 => ?_)
  · have h4 := of_decide_eq_true h4
    rw [hlen] at h4
    have hlt : j < L.length := by omega
    conv => whnf
    refine ⟨⟨by omega, by rw [hlen]; omega⟩, ?_⟩
    rw [ints_getD hlt]
    rw [List.drop_eq_getElem_cons hlt, goS_cons] at h1
    generalize L[j]'hlt = r at *
    generalize hK : (r : Int) = R at *
    have e1 : IntKind.i64.wrap ((j : Int) + 1) = ((j + 1 : Nat) : Int) := by rw [w64 (by omega)]; omega
    conv => whnf
    by_cases hs : R < 32
    · refine brT (decide_eq_true (by omega)) ?_
      conv => whnf
      rw [decide_eq_true (show r < 32 by omega)] at h1
      simp only [Bool.true_or, Bool.not_true, Bool.false_and] at h1
      rw [← h1]
      exact ⟨rfl, rfl⟩
    · refine brF (decide_eq_false (by omega)) ?_
      conv => whnf
      rw [decide_eq_false (show ¬ r < 32 by omega)] at h1
      by_cases hl : R = 127
      · refine brT (beq_iff_eq.2 (by omega)) ?_
        conv => whnf
        rw [decide_eq_true (show r = 127 by omega)] at h1
        simp only [Bool.or_true, Bool.true_or, Bool.not_true, Bool.false_and] at h1
        rw [← h1]
        exact ⟨rfl, rfl⟩
      · refine brF (beq_eq_false_iff_ne.2 (by omega)) ?_
        conv => whnf
        rw [decide_eq_false (show ¬ r = 127 by omega)] at h1
        by_cases hb : 2000000 ≤ R
        · refine brT (decide_eq_true (by omega)) ?_
          conv => whnf
          rw [decide_eq_true (show 2000000 ≤ r by omega)] at h1
          simp only [Bool.or_true, Bool.not_true, Bool.false_and] at h1
          rw [← h1]
          exact ⟨rfl, rfl⟩
        · refine brF (decide_eq_false (by omega)) ?_
          conv => whnf
          rw [decide_eq_false (show ¬ 2000000 ≤ r by omega)] at h1
          simp only [Bool.or_false, Bool.not_false, Bool.true_and] at h1
          exact ⟨_, _, 0, (by omega : L.length - (j + 1) < L.length - j), ⟨j + 1, by omega, h1, rfl, rfl, rfl⟩,
            ⟨rfl, rfl, rfl, congrArg (fun z => some (i64 z)) e1, trivial⟩, rfl⟩
  · have h4 := of_decide_eq_false h4
    rw [hlen] at h4
    obtain rfl : j = L.length := by omega
    rw [List.drop_length] at h1
    conv => whnf
    have e0 : goS L 0 = decide ((((ints L).length : Nat) : Int) ≤ 64) := by
      rw [← h1, hlen]
      show decide (L.length ≤ 64) = _
      have a2 : (((L.length : Nat) : Int) ≤ 64) = (L.length ≤ 64) := propext ⟨fun h => by omega, fun h => by omega⟩
      simp only [a2]
    rw [e0]
    exact ⟨rfl, rfl⟩

theorem fright_c {p : Pl} (h : p.fit) : CallR cx 40 [.d (fld p)] [] fun r S => r = bo p.right ∧ S = [] := by
  cases p with
  | tr o a b n =>
    have r1 := rright_c (s := a) (by have := h.2.2.1; omega)
    have r2 := rright_c (s := b) (by have := h.2.2.2; omega)
    have hn0 := h.2.1.1
    refine callR_of (R := R1) cx_ok Tryz.func40 (by kernel_rfl) rfl ?_
    conv => whnf
    refine ⟨_, r1, ?_⟩
    rintro _ _ ⟨rfl, rfl⟩
    conv => whnf
    refine brec (fun h1 => ?_) (fun h1 => ?_)
    · conv => whnf
      refine ⟨_, r2, ?_⟩
      rintro _ _ ⟨rfl, rfl⟩
      conv => whnf
      refine brec (fun h2 => ?_) (fun h2 => ?_)
      · conv => whnf
        refine ⟨?_, rfl⟩
        show bo (decide (n > 0)) = bo ((rightT a && rightT b) && decide (n ≠ 0))
        rw [h1, h2, Bool.true_and, Bool.true_and]
        refine congrArg bo ?_
        have e : (n > 0) = (n ≠ 0) := propext ⟨fun h => by omega, fun h => by omega⟩
        simp only [e]
      · conv => whnf
        refine ⟨?_, rfl⟩
        show _ = bo ((rightT a && rightT b) && decide (n ≠ 0))
        rw [h2, Bool.and_false, Bool.false_and]; rfl
    · conv => whnf
      refine ⟨?_, rfl⟩
      show _ = bo ((rightT a && rightT b) && decide (n ≠ 0))
      rw [h1, Bool.false_and, Bool.false_and]; rfl
  | sy a b =>
    have r1 := rright_c (s := a) (by have := h.1; omega)
    have r2 := rsays_c (s := b) (by have := h.2; omega)
    refine callR_of (R := R1) cx_ok Tryz.func40 (by kernel_rfl) rfl ?_
    conv => whnf
    refine ⟨_, r1, ?_⟩
    rintro _ _ ⟨rfl, rfl⟩
    conv => whnf
    refine brec (fun h1 => ?_) (fun h1 => ?_)
    · conv => whnf
      refine ⟨_, r2, ?_⟩
      rintro _ _ ⟨rfl, rfl⟩
      conv => whnf
      refine ⟨?_, rfl⟩
      show _ = bo (rightT a && saysT b)
      rw [h1, Bool.true_and]; rfl
    · conv => whnf
      refine ⟨?_, rfl⟩
      show _ = bo (rightT a && saysT b)
      rw [h1, Bool.false_and]; rfl
  | de o a n =>
    have r1 := rright_c (s := a) (by have := h.2.2; omega)
    refine callR_of (R := R1) cx_ok Tryz.func40 (by kernel_rfl) rfl ?_
    conv => whnf
    refine ⟨_, r1, ?_⟩
    rintro _ _ ⟨rfl, rfl⟩
    conv => whnf
    exact ⟨rfl, rfl⟩
  | _ =>
    refine callR_of (R := R1) cx_ok Tryz.func40 (by kernel_rfl) rfl ?_
    conv => whnf
    exact ⟨rfl, rfl⟩

theorem rd_rtake_c {r : Rs} {n : Int} (hn : 0 ≤ n) : CallR cx 67 [.ptr 0 [], i64 n] [.var (.d r.d)] fun v S => v = st (r.got n) ∧ S = [.var (.d (r.take n).d)] := by
  obtain ⟨s, e⟩ := r
  show CallR cx 67 [.ptr 0 [], i64 n] [.var (.d (rd s e))] fun v S => v = st (tkS s e n) ∧ S = [.var (.d (rd (tkR s e n) (rd_tkE s e n)))]
  refine callR_of (R := R1) cx_ok Tryz.func67 (by kernel_rfl) rfl ?_
  conv => whnf
  by_cases h : e = 0
  · refine brT (beq_iff_eq.2 h) ?_
    subst h
    conv => whnf
    refine brec (fun g => ?_) (fun g => ?_)
    · have g := of_decide_eq_true g
      have e1 : tkS s 0 n = .empty := if_neg fun k => by omega
      have e2 : tkR s 0 n = s := if_neg fun k => by omega
      have e3 : rd_tkE s 0 n = 3 := by unfold rd_tkE; rw [if_pos rfl, if_neg (by omega)]
      rw [e1, e2, e3]
      conv => whnf
      exact ⟨rfl, rfl⟩
    · have g := of_decide_eq_false g
      have g : n ≤ s.size := by omega
      have e1 : tkS s 0 n = s.extract 0 n.toNat := if_pos ⟨rfl, g⟩
      have e2 : tkR s 0 n = s.extract n.toNat s.size := if_pos ⟨rfl, g⟩
      have e3 : rd_tkE s 0 n = 0 := by unfold rd_tkE; rw [if_pos rfl, if_pos g]
      rw [e1, e2, e3]
      conv => whnf
      refine ⟨⟨by decide, hn, g⟩, ?_⟩
      conv => whnf
      refine ⟨⟨hn, g, Int.le_refl _⟩, ?_⟩
      conv => whnf
      exact ⟨rfl, rfl⟩
  · have e1 : tkS s e n = .empty := if_neg fun g => h g.1
    have e2 : tkR s e n = s := if_neg fun g => h g.1
    have e3 : rd_tkE s e n = e := if_neg h
    rw [e1, e2, e3]
    refine brF (beq_eq_false_iff_ne.2 h) ?_
    conv => whnf
    refine brec (fun g => ?_) (fun g => absurd g ?_)
    · conv => whnf
      exact ⟨rfl, rfl⟩
    · simp [h]

theorem rfail_c {r : Rs} {f : Int} : CallR cx 37 [.ptr 0 [], i64 f] [.var (.d r.d)] fun v S => v = .tup [] ∧ S = [.var (.d (r.fail f).d)] := by
  obtain ⟨s, e⟩ := r
  show CallR cx 37 [.ptr 0 [], i64 f] [.var (.d (rd s e))] fun v S => v = .tup [] ∧ S = [.var (.d (rd s (if e = 0 then f else e)))]
  refine callR_of (R := R1) cx_ok Tryz.func37 (by kernel_rfl) rfl ?_
  conv => whnf
  refine brec (fun h => ?_) (fun h => ?_)
  · rw [if_pos (eq_of_beq h)]
    conv => whnf
    exact ⟨rfl, rfl⟩
  · rw [if_neg (ne_of_beq_false h)]
    conv => whnf
    exact ⟨rfl, rfl⟩

theorem rend_c {r : Rs} : CallR cx 39 [.ptr 0 []] [.var (.d r.d)] fun v S => v = i64 r.out ∧ S = [.var (.d r.d)] := by
  obtain ⟨s, e⟩ := r
  show CallR cx 39 [.ptr 0 []] [.var (.d (rd s e))] fun v S => v = i64 (if e = 0 then (if s = .empty then 0 else 4) else e) ∧ S = [.var (.d (rd s e))]
  refine callR_of (R := R1) cx_ok Tryz.func39 (by kernel_rfl) rfl ?_
  conv => whnf
  refine brec (fun h => ?_) (fun h => ?_)
  · have h := eq_of_beq h
    subst h
    rw [if_pos rfl]
    conv => whnf
    refine brec (fun g => ?_) (fun g => ?_)
    · have g := of_decide_eq_true g
      have e1 : ¬ s = .empty := fun e => by subst e; exact absurd g (by decide)
      rw [if_neg e1]
      conv => whnf
      exact ⟨rfl, rfl⟩
    · have g := of_decide_eq_false g
      have e1 : s = .empty := size0 (by omega)
      rw [if_pos e1]
      conv => whnf
      exact ⟨rfl, rfl⟩
  · rw [if_neg (ne_of_beq_false h)]
    have h' := ne_of_beq_false h
    conv => whnf
    exact ⟨rfl, rfl⟩

theorem be_step2 {a : Nat} {b : Nat} (hb : b < 256) : IntKind.u64.wrap (IntKind.u64.wrap ((a : Int) * 256) + IntKind.u64.wrap (b : Int)) = (((a * 256 + b) % 18446744073709551616 : Nat) : Int) := by
  rw [Ab.wrap64, Ab.wrap64, Ab.wrap64]; omega

theorem list_getD {t : ByteArray} {j : Nat} (h : j < t.data.toList.length) : byteAt t j = (((t.data.toList[j]'h).toNat : Nat) : Int) := by
  unfold byteAt; rw [List.getD_eq_getElem?_getD, List.getElem?_eq_getElem h]; rfl

theorem rnum_c {r : Rs} {n : Int} (hn : 0 ≤ n) (hm : r.s.size < 9223372036854775807) : CallR cx 36 [.ptr 0 [], i64 n] [.var (.d r.d)] fun v S => v = u64 ((r.num n : Nat) : Int) ∧ S = [.var (.d (r.take n).d)] := by
  have tk := rd_rtake_c (r := r) hn
  have ht := got_size r n
  unfold Rs.num
  generalize r.got n = t at *
  generalize (r.take n).d = R at *
  generalize r.d = R0 at *
  have hts : t.data.toList.length = t.size := Array.length_toList
  refine callR_of (R := R1) cx_ok Tryz.func36 (by kernel_rfl) rfl ?_
  conv => whnf
  refine ⟨_, tk, ?_⟩
  rintro _ _ ⟨rfl, rfl⟩
  conv => whnf
  refine .inl ⟨fun k l S => ∃ j : Nat, j ≤ t.size ∧ k = t.size - j ∧
      l = [(5, u64 ((be (t.data.toList.take j) 0 : Nat) : Int)), (6, st t), (7, i64 (j : Int))] ∧ S = [.var (.d R)],
    ⟨_, _, ⟨0, Nat.zero_le _, rfl, rfl, rfl⟩, ⟨rfl, rfl, rfl, trivial⟩⟩, ?_⟩
  rintro _ _ _ ⟨j, hj, rfl, rfl, rfl⟩
  conv => whnf
  refine brec (fun h1 => ?_) (fun h1 => ?_)
  · have h1 := of_decide_eq_true h1
    have hlt : j < t.data.toList.length := by omega
    conv => whnf
    refine ⟨⟨by omega, by show (j : Int) < (t.size : Int); omega⟩, ?_⟩
    rw [Int.toNat_natCast, list_getD hlt]
    conv => whnf
    have e1 := be_step2 (a := be (t.data.toList.take j) 0) (t.data.toList[j]'hlt).toNat_lt
    have e2 : (be (t.data.toList.take j) 0 * 256 + (t.data.toList[j]'hlt).toNat) % 18446744073709551616 = be (t.data.toList.take (j + 1)) 0 := by
      rw [List.take_add_one, List.getElem?_eq_getElem hlt]
      unfold be
      rw [List.foldl_append]
      rfl
    rw [e2] at e1
    have e3 : IntKind.i64.wrap ((j : Int) + 1) = ((j + 1 : Nat) : Int) := by rw [w64 (by omega)]; omega
    exact ⟨_, _, 1, (by omega : t.size - (j + 1) < t.size - j), ⟨j + 1, by omega, rfl, rfl, rfl⟩,
      ⟨congrArg (fun z => some (u64 z)) e1, rfl, congrArg (fun z => some (i64 z)) e3, trivial⟩, rfl⟩
  · have h1 := of_decide_eq_false h1
    have : j = t.size := by omega
    subst this
    conv => whnf
    rw [← hts, List.take_length]
    exact ⟨rfl, rfl⟩

theorem rmany_c {r : Rs} {m : Int} (h0 : 0 ≤ m) (hmm : m < 4611686018427387904) (hm : r.s.size < 9223372036854775807) :
    CallR cx 68 [.ptr 0 [], i64 m] [.var (.d r.d)] fun v S => v = i64 (r.cnt m) ∧ S = [.var (.d (r.cntR m).d)] := by
  have nu := rnum_c (r := r) (n := 4) (by decide) hm
  have fa := rfail_c (r := r.take 4) (f := 5)
  unfold Rs.cnt Rs.cntR
  have hlt := num4_lt r
  generalize hk : ((r.num 4 : Nat) : Int) = k at *
  generalize r.d = R0 at *
  have e1 : IntKind.u64.wrap m = m := wrapU ⟨h0, by omega⟩
  refine callR_of (R := R1) cx_ok Tryz.func68 (by kernel_rfl) rfl ?_
  conv => whnf
  refine ⟨_, nu, ?_⟩
  rintro _ _ ⟨rfl, rfl⟩
  conv => whnf
  refine brF (decide_eq_false (by omega)) ?_
  conv => whnf
  refine brT (decide_eq_true (by omega)) ?_
  conv => whnf
  refine brec (fun h => ?_) (fun h => ?_)
  · have h := of_decide_eq_true h
    rw [e1] at h
    rw [if_pos h, if_pos h]
    conv => whnf
    refine ⟨_, fa, ?_⟩
    rintro _ _ ⟨rfl, rfl⟩
    conv => whnf
    exact ⟨rfl, rfl⟩
  · have h := of_decide_eq_false h
    rw [e1] at h
    rw [if_neg h, if_neg h]
    conv => whnf
    exact ⟨congrArg i64 (w64 (by omega)), rfl⟩

theorem rtextR_c {r : Rs} {m : Int} (h0 : 0 ≤ m) (hmm : m < 4611686018427387904) (hm : r.s.size < 9223372036854775807) :
    CallR cx 38 [.ptr 0 [], i64 m] [.var (.d r.d)] fun v S => v = st (r.txt m) ∧ S = [.var (.d (r.txtR m).d)] := by
  have nc := rmany_c (r := r) h0 hmm hm
  have nt := rd_rtake_c (r := r.cntR m) (cnt_nonneg r m)
  unfold Rs.txt Rs.txtR
  generalize r.cnt m = k at *
  generalize r.cntR m = q at *
  refine callR_of (R := R1) cx_ok Tryz.func38 (by kernel_rfl) rfl ?_
  conv => whnf
  refine ⟨_, nc, ?_⟩
  rintro _ _ ⟨rfl, rfl⟩
  conv => whnf
  refine ⟨_, nt, ?_⟩
  rintro _ _ ⟨rfl, rfl⟩
  conv => whnf
  exact ⟨rfl, rfl⟩

theorem bad_got {r : Rs} (h : r.e ≠ 0) (n : Int) : r.got n = .empty := if_neg fun g => h g.1

theorem bad_take {r : Rs} (h : r.e ≠ 0) (n : Int) : r.take n = r := by
  have e1 : tkR r.s r.e n = r.s := if_neg fun g => h g.1
  have e2 : rd_tkE r.s r.e n = r.e := if_neg h
  unfold Rs.take
  rw [e1, e2]

theorem bad_num {r : Rs} (h : r.e ≠ 0) (n : Int) : r.num n = 0 := by unfold Rs.num; rw [bad_got h]; rfl

theorem bad_cntR {r : Rs} (h : r.e ≠ 0) {m : Int} (hm : 0 ≤ m) : r.cntR m = r := by unfold Rs.cntR; rw [bad_num h, if_neg (by omega), bad_take h]

theorem bad_txt {r : Rs} (h : r.e ≠ 0) {m : Int} (hm : 0 ≤ m) : r.txt m = .empty := by unfold Rs.txt; rw [bad_cntR h hm, bad_got h]

theorem bad_txtR {r : Rs} (h : r.e ≠ 0) {m : Int} (hm : 0 ≤ m) : r.txtR m = r := by unfold Rs.txtR; rw [bad_cntR h hm, bad_take h]

set_option maxHeartbeats 1000000 in
theorem fread_c {s : ByteArray} (hm : s.size < 100000) : CallR cx 20 [st s] [] fun v S => v = .tup [.d (fld (readP s).1), i64 (readP s).2] ∧ S = [] := by
  have nu := rnum_c (r := Rs.mk s 0) (n := 1) (by decide) (by show s.size < _; omega)
  have hs : ((Rs.mk s 0).take 1).s.size ≤ s.size := take_size (Rs.mk s 0) 1
  have fi := readB_fit (t := (Rs.mk s 0).num 1) (r := (Rs.mk s 0).take 1) (by omega)
  have ri := fright_c fi
  have hk1 := num1_lt (Rs.mk s 0)
  unfold readP readQ
  generalize (Rs.mk s 0).num 1 = k at *
  have hR0 : (Rs.mk s 0).d = rd s 0 := rfl
  rw [hR0] at nu
  generalize (Rs.mk s 0).take 1 = r at *
  have a1 := take_size r 4
  have a3 := txtR_size (r.take 4) 48
  have a6 := txtR_size r 48
  have a8 := txtR_size ((r.take 4).txtR 48) 48
  unfold readB at *
  by_cases h1 : k = 1
  · subst h1
    rw [if_pos rfl] at *
    have nu : CallR cx 36 [.ptr 0 [], i64 1] [.var (.d (rd s 0))] fun v S => v = u64 1 ∧ S = [.var (.d r.d)] := nu
    have c1 := rnum_c (r := r) (n := 4) (by decide) (by omega)
    have c2 := rtextR_c (r := r.take 4) (m := 48) (by decide) (by decide) (by omega)
    have c3 := rtextR_c (r := (r.take 4).txtR 48) (m := 48) (by decide) (by decide) (by omega)
    have c4 := rnum_c (r := ((r.take 4).txtR 48).txtR 48) (n := 8) (by decide) (by omega)
    have en := rend_c (r := (((r.take 4).txtR 48).txtR 48).take 8)
    have ew := wrap32 (n := ((r.num 4 : Nat) : Int)) (by have := num4_lt r; omega)
    simp only at *
    generalize (((r.take 4).txtR 48).txtR 48).take 8 = r5 at *
    generalize ((((r.take 4).txtR 48).txtR 48).num 8 : Nat) = v5 at *
    generalize ((r.take 4).txtR 48).txt 48 = v4 at *
    generalize ((r.take 4).txtR 48).txtR 48 = r4 at *
    generalize (r.take 4).txt 48 = v3 at *
    generalize (r.take 4).txtR 48 = r3 at *
    generalize r.take 4 = r2 at *
    generalize ((r.num 4 : Nat) : Int) = v2 at *
    generalize (v5 : Int) = v5 at *
    generalize r5.out = e at *
    refine callR_of (R := R1) cx_ok Tryz.func20 (by kernel_rfl) rfl ?_
    conv => whnf
    refine ⟨_, nu, ?_⟩
    rintro _ _ ⟨rfl, rfl⟩
    conv => whnf
    refine ⟨_, c1, ?_⟩
    rintro _ _ ⟨rfl, rfl⟩
    conv => whnf
    rw [ew]
    refine ⟨_, c2, ?_⟩
    rintro _ _ ⟨rfl, rfl⟩
    conv => whnf
    refine ⟨_, c3, ?_⟩
    rintro _ _ ⟨rfl, rfl⟩
    conv => whnf
    refine ⟨_, c4, ?_⟩
    rintro _ _ ⟨rfl, rfl⟩
    conv => whnf
    refine ⟨_, en, ?_⟩
    rintro _ _ ⟨rfl, rfl⟩
    conv => whnf
    refine brec (fun h => ?_) (fun h => ?_)
    · have h : ¬ e = 0 := by simpa using h
      rw [if_neg h]
      conv => whnf
      exact ⟨rfl, rfl⟩
    have h : e = 0 := by simpa using h
    rw [if_pos h]
    conv => whnf
    refine ⟨_, ri, ?_⟩
    rintro _ _ ⟨rfl, rfl⟩
    conv => whnf
    refine brec (fun g => ?_) (fun g => ?_)
    · have g : Pl.right (.tr v2 v3 v4 v5) = false := by simpa using g
      rw [g]
      conv => whnf
      exact ⟨rfl, rfl⟩
    have g : Pl.right (.tr v2 v3 v4 v5) = true := by simpa using g
    rw [g, if_pos rfl]
    conv => whnf
    exact ⟨rfl, rfl⟩
  by_cases h2 : k = 2
  · subst h2
    rw [if_neg (show ¬ 2 = 1 by omega)] at *
    rw [if_pos rfl] at *
    have nu : CallR cx 36 [.ptr 0 [], i64 1] [.var (.d (rd s 0))] fun v S => v = u64 2 ∧ S = [.var (.d r.d)] := nu
    have c2 := rtextR_c (r := r) (m := 48) (by decide) (by decide) (by omega)
    have c3 := rtextR_c (r := r.txtR 48) (m := 256) (by decide) (by decide) (by omega)
    have en := rend_c (r := (r.txtR 48).txtR 256)
    simp only at *
    generalize (r.txtR 48).txtR 256 = r5 at *
    generalize (r.txtR 48).txt 256 = v4 at *
    generalize r.txtR 48 = r4 at *
    generalize r.txt 48 = v3 at *
    generalize r5.out = e at *
    refine callR_of (R := R1) cx_ok Tryz.func20 (by kernel_rfl) rfl ?_
    conv => whnf
    refine ⟨_, nu, ?_⟩
    rintro _ _ ⟨rfl, rfl⟩
    conv => whnf
    refine ⟨_, c2, ?_⟩
    rintro _ _ ⟨rfl, rfl⟩
    conv => whnf
    refine ⟨_, c3, ?_⟩
    rintro _ _ ⟨rfl, rfl⟩
    conv => whnf
    refine ⟨_, en, ?_⟩
    rintro _ _ ⟨rfl, rfl⟩
    conv => whnf
    refine brec (fun h => ?_) (fun h => ?_)
    · have h : ¬ e = 0 := by simpa using h
      rw [if_neg h]
      conv => whnf
      exact ⟨rfl, rfl⟩
    have h : e = 0 := by simpa using h
    rw [if_pos h]
    conv => whnf
    refine ⟨_, ri, ?_⟩
    rintro _ _ ⟨rfl, rfl⟩
    conv => whnf
    refine brec (fun g => ?_) (fun g => ?_)
    · have g : Pl.right (.sy v3 v4) = false := by simpa using g
      rw [g]
      conv => whnf
      exact ⟨rfl, rfl⟩
    have g : Pl.right (.sy v3 v4) = true := by simpa using g
    rw [g, if_pos rfl]
    conv => whnf
    exact ⟨rfl, rfl⟩
  by_cases h3 : k = 3
  · subst h3
    rw [if_neg (show ¬ 3 = 1 by omega)] at *
    rw [if_neg (show ¬ 3 = 2 by omega)] at *
    rw [if_pos rfl] at *
    have nu : CallR cx 36 [.ptr 0 [], i64 1] [.var (.d (rd s 0))] fun v S => v = u64 3 ∧ S = [.var (.d r.d)] := nu
    have c1 := rnum_c (r := r) (n := 4) (by decide) (by omega)
    have c2 := rtextR_c (r := r.take 4) (m := 48) (by decide) (by decide) (by omega)
    have c4 := rnum_c (r := (r.take 4).txtR 48) (n := 8) (by decide) (by omega)
    have en := rend_c (r := ((r.take 4).txtR 48).take 8)
    have ew := wrap32 (n := ((r.num 4 : Nat) : Int)) (by have := num4_lt r; omega)
    simp only at *
    generalize ((r.take 4).txtR 48).take 8 = r5 at *
    generalize (((r.take 4).txtR 48).num 8 : Nat) = v5 at *
    generalize (r.take 4).txt 48 = v3 at *
    generalize (r.take 4).txtR 48 = r3 at *
    generalize r.take 4 = r2 at *
    generalize ((r.num 4 : Nat) : Int) = v2 at *
    generalize (v5 : Int) = v5 at *
    generalize r5.out = e at *
    refine callR_of (R := R1) cx_ok Tryz.func20 (by kernel_rfl) rfl ?_
    conv => whnf
    refine ⟨_, nu, ?_⟩
    rintro _ _ ⟨rfl, rfl⟩
    conv => whnf
    refine ⟨_, c1, ?_⟩
    rintro _ _ ⟨rfl, rfl⟩
    conv => whnf
    rw [ew]
    refine ⟨_, c2, ?_⟩
    rintro _ _ ⟨rfl, rfl⟩
    conv => whnf
    refine ⟨_, c4, ?_⟩
    rintro _ _ ⟨rfl, rfl⟩
    conv => whnf
    refine ⟨_, en, ?_⟩
    rintro _ _ ⟨rfl, rfl⟩
    conv => whnf
    refine brec (fun h => ?_) (fun h => ?_)
    · have h : ¬ e = 0 := by simpa using h
      rw [if_neg h]
      conv => whnf
      exact ⟨rfl, rfl⟩
    have h : e = 0 := by simpa using h
    rw [if_pos h]
    conv => whnf
    refine ⟨_, ri, ?_⟩
    rintro _ _ ⟨rfl, rfl⟩
    conv => whnf
    refine brec (fun g => ?_) (fun g => ?_)
    · have g : Pl.right (.de v2 v3 v5) = false := by simpa using g
      rw [g]
      conv => whnf
      exact ⟨rfl, rfl⟩
    have g : Pl.right (.de v2 v3 v5) = true := by simpa using g
    rw [g, if_pos rfl]
    conv => whnf
    exact ⟨rfl, rfl⟩
  rw [if_neg h1, if_neg h2, if_neg h3] at *
  have fa := rfail_c (r := r) (f := 4)
  have hf := fail_bad r (f := 4) (by decide)
  have ha : (r.fail 4).s.size ≤ s.size := by rw [fail_size]; exact hs
  have ho : (r.fail 4).out ≠ 0 := by unfold Rs.out; rw [if_neg hf]; exact hf
  have en := rend_c (r := r.fail 4)
  have c1 := rnum_c (r := r.fail 4) (n := 4) (by decide) (by omega)
  have c2 := rtextR_c (r := r.fail 4) (m := 48) (by decide) (by decide) (by omega)
  have c3 := rnum_c (r := r.fail 4) (n := 8) (by decide) (by omega)
  rw [bad_num hf, bad_take hf] at c1 c3
  rw [bad_txt hf (by decide), bad_txtR hf (by decide)] at c2
  have c1 : CallR cx 36 [.ptr 0 [], i64 4] [.var (.d (r.fail 4).d)] fun v S => v = u64 0 ∧ S = [.var (.d (r.fail 4).d)] := c1
  have c3 : CallR cx 36 [.ptr 0 [], i64 8] [.var (.d (r.fail 4).d)] fun v S => v = u64 0 ∧ S = [.var (.d (r.fail 4).d)] := c3
  simp only at *
  rw [if_neg ho]
  generalize r.fail 4 = f at *
  generalize f.out = e at *
  have hK : IntKind.i64.wrap (k : Int) = (k : Int) := w64 (by omega)
  generalize hKk : (k : Int) = K at *
  refine callR_of (R := R1) cx_ok Tryz.func20 (by kernel_rfl) rfl ?_
  conv => whnf
  refine ⟨_, nu, ?_⟩
  rintro _ _ ⟨rfl, rfl⟩
  conv => whnf
  rw [hK]
  by_cases hz : K < 1
  · refine brT (decide_eq_true hz) ?_
    conv => whnf
    refine ⟨_, fa, ?_⟩
    rintro _ _ ⟨rfl, rfl⟩
    conv => whnf
    refine brT (bne_iff_ne.2 (by omega)) ?_
    conv => whnf
    refine ⟨_, c1, ?_⟩
    rintro _ _ ⟨rfl, rfl⟩
    conv => whnf
    refine ⟨_, c2, ?_⟩
    rintro _ _ ⟨rfl, rfl⟩
    conv => whnf
    refine brF (beq_eq_false_iff_ne.2 (by omega)) ?_
    conv => whnf
    refine brF (beq_eq_false_iff_ne.2 (by omega)) ?_
    conv => whnf
    refine brT (bne_iff_ne.2 (by omega)) ?_
    conv => whnf
    refine ⟨_, c3, ?_⟩
    rintro _ _ ⟨rfl, rfl⟩
    conv => whnf
    refine ⟨_, en, ?_⟩
    rintro _ _ ⟨rfl, rfl⟩
    conv => whnf
    refine brT (bne_iff_ne.2 ho) ?_
    conv => whnf
    exact ⟨rfl, rfl⟩
  · refine brF (decide_eq_false hz) ?_
    conv => whnf
    refine brT (decide_eq_true (by omega)) ?_
    conv => whnf
    refine ⟨_, fa, ?_⟩
    rintro _ _ ⟨rfl, rfl⟩
    conv => whnf
    refine brT (bne_iff_ne.2 (by omega)) ?_
    conv => whnf
    refine ⟨_, c1, ?_⟩
    rintro _ _ ⟨rfl, rfl⟩
    conv => whnf
    refine ⟨_, c2, ?_⟩
    rintro _ _ ⟨rfl, rfl⟩
    conv => whnf
    refine brF (beq_eq_false_iff_ne.2 (by omega)) ?_
    conv => whnf
    refine brF (beq_eq_false_iff_ne.2 (by omega)) ?_
    conv => whnf
    refine brT (bne_iff_ne.2 (by omega)) ?_
    conv => whnf
    refine ⟨_, c3, ?_⟩
    rintro _ _ ⟨rfl, rfl⟩
    conv => whnf
    refine ⟨_, en, ?_⟩
    rintro _ _ ⟨rfl, rfl⟩
    conv => whnf
    refine brT (bne_iff_ne.2 ho) ?_
    conv => whnf
    exact ⟨rfl, rfl⟩

theorem rd_of_c {p : Pl} : CallR cx 11 [.d p.d] [] fun r S => r = .d (fld p) ∧ S = [] := by
  cases p <;>
  · refine callR_of (R := R1) cx_ok Tryz.func11 (by kernel_rfl) rfl ?_
    conv => whnf
    exact ⟨rfl, rfl⟩
end Go.Proofs.YtmdfpifcghmpfaaGreatDoor

/- Routers, the document's: a letter does its work. -/
set_option linter.unusedVariables false
namespace Go.Proofs.YtmdfpifcghmpfaaGreatDoor
open Go.Ab Go.RowKit

theorem size_zero {a : ByteArray} (h : a.size = 0) : a = .empty := by
  obtain ⟨⟨l⟩⟩ := a
  cases l with
  | nil => rfl
  | cons x l => cases h

/-- A token's cap is set, where it stands first. -/
def modT (o : Int) (n : ByteArray) (k : Int) : List Tk → List Tk
  | [] => []
  | t :: l => if tkP o n t then { t with cap := k } :: l else t :: modT o n k l

theorem rh_no {T H T2 H2 : List D} {here frm q lt o k : Int} {remote s r b fa fb : ByteArray} (h : remote = .empty ∨ s ≠ remote ∨ r ≠ rtB) :
    CallR cx 9 [.d (.agg [.sl 7 T, .sl 4 H]), .d (.int .u32 here), st remote, .d (ltD frm q lt s r b)] [] fun r S => r = .tup [.d (.agg [.sl 7 T, .sl 4 H]), .d (.agg [.int .i64 0, .int .u32 0, .str .empty, .str .empty, .int .u64 0]), i64 39] ∧ S = [] := by
  refine callR_of (R := R1) cx_ok Tryz.func9 (by kernel_rfl) rfl ?_
  conv => whnf
  by_cases c1 : remote = .empty
  · subst c1
    conv => whnf
    exact ⟨rfl, rfl⟩
  refine brF (beq_eq_false_iff_ne.2 (fun z => c1 (size_zero (by omega)))) ?_
  conv => whnf
  by_cases c2 : s = remote
  · refine brF (by rw [decide_eq_true c2]; rfl) ?_
    conv => whnf
    refine brT ?_ ?_
    · show (!decide (r = rtB)) = true
      rw [decide_eq_false (fun z => (h.resolve_left c1).resolve_left (fun y => y c2) z)]; rfl
    conv => whnf
    exact ⟨rfl, rfl⟩
  · refine brT (by rw [decide_eq_false c2]; rfl) ?_
    conv => whnf
    exact ⟨rfl, rfl⟩

theorem rh_rd {T H T2 H2 : List D} {here frm q lt o k kd e : Int} {remote s r b fa fb : ByteArray} (h : ¬ (remote = .empty ∨ s ≠ remote ∨ r ≠ rtB))
    (he : e ≠ 0)
    (rd : CallR cx 20 [st b] [] fun r S => r = .tup [.d (.agg [.int .i64 kd, .int .u32 o, .str fa, .str fb, .int .u64 k]), i64 e] ∧ S = []) :
    CallR cx 9 [.d (.agg [.sl 7 T, .sl 4 H]), .d (.int .u32 here), st remote, .d (ltD frm q lt s r b)] [] fun r S => r = .tup [.d (.agg [.sl 7 T, .sl 4 H]), .d (.agg [.int .i64 0, .int .u32 0, .str .empty, .str .empty, .int .u64 0]), i64 41] ∧ S = [] := by
  have c1 : ¬ remote = .empty := fun z => h (.inl z)
  have c2 : s = remote := Classical.byContradiction fun z => h (.inr (.inl z))
  have c3 : r = rtB := Classical.byContradiction fun z => h (.inr (.inr z))
  refine callR_of (R := R1) cx_ok Tryz.func9 (by kernel_rfl) rfl ?_
  conv => whnf
  refine brF (beq_eq_false_iff_ne.2 (fun z => c1 (size_zero (by omega)))) ?_
  conv => whnf
  refine brF (by rw [decide_eq_true c2]; rfl) ?_
  conv => whnf
  refine brF ?_ ?_
  · show (!decide (r = rtB)) = false
    rw [decide_eq_true c3]; rfl
  conv => whnf
  refine ⟨_, rd, ?_⟩
  rintro _ _ ⟨rfl, rfl⟩
  conv => whnf
  refine brT (bne_iff_ne.2 he) ?_
  conv => whnf
  exact ⟨rfl, rfl⟩

theorem rh_un {T H T2 H2 : List D} {here frm q lt o k e : Int} {remote s r b fa fb : ByteArray} (h : ¬ (remote = .empty ∨ s ≠ remote ∨ r ≠ rtB))
    (rd : CallR cx 20 [st b] [] fun r S => r = .tup [.d (.agg [.int .i64 1, .int .u32 o, .str fa, .str fb, .int .u64 k]), i64 0] ∧ S = [])
    (h1 : o = here)
    (oc : CallR cx 21 [.d (.agg [.sl 7 T, .sl 4 H]), .d (.int .u32 o), st fa, st fb, u64 k] [] fun r S => r = .tup [.d (.agg [.sl 7 T2, .sl 4 H2]), i64 e] ∧ S = []) :
    CallR cx 9 [.d (.agg [.sl 7 T, .sl 4 H]), .d (.int .u32 here), st remote, .d (ltD frm q lt s r b)] [] fun r S => r = (if e ≠ 0 then .tup [.d (.agg [.sl 7 T, .sl 4 H]), .d (.agg [.int .i64 0, .int .u32 0, .str .empty, .str .empty, .int .u64 0]), i64 e] else .tup [.d (.agg [.sl 7 T2, .sl 4 H2]), .d (.agg [.int .i64 1, .int .u32 o, .str fa, .str fb, .int .u64 k]), i64 0]) ∧ S = [] := by
  have c1 : ¬ remote = .empty := fun z => h (.inl z)
  have c2 : s = remote := Classical.byContradiction fun z => h (.inr (.inl z))
  have c3 : r = rtB := Classical.byContradiction fun z => h (.inr (.inr z))
  refine callR_of (R := R1) cx_ok Tryz.func9 (by kernel_rfl) rfl ?_
  conv => whnf
  refine brF (beq_eq_false_iff_ne.2 (fun z => c1 (size_zero (by omega)))) ?_
  conv => whnf
  refine brF (by rw [decide_eq_true c2]; rfl) ?_
  conv => whnf
  refine brF ?_ ?_
  · show (!decide (r = rtB)) = false
    rw [decide_eq_true c3]; rfl
  conv => whnf
  refine ⟨_, rd, ?_⟩
  rintro _ _ ⟨rfl, rfl⟩
  conv => whnf
  refine brT (decide_eq_true h1) ?_
  conv => whnf
  refine ⟨_, oc, ?_⟩
  rintro _ _ ⟨rfl, rfl⟩
  conv => whnf
  by_cases he : e = 0
  · rw [if_neg (by simp [he])]
    refine brF (bne_eq_false_iff_eq.2 he) ?_
    conv => whnf
    refine ⟨by kernel_rfl, ?_⟩
    conv => whnf
    refine ⟨by kernel_rfl, ?_⟩
    conv => whnf
    exact ⟨rfl, rfl⟩
  · rw [if_pos he]
    refine brT (bne_iff_ne.2 he) ?_
    conv => whnf
    exact ⟨rfl, rfl⟩

theorem rh_mi {T H T2 H2 : List D} {here frm q lt o k e : Int} {remote s r b fa fb : ByteArray} (h : ¬ (remote = .empty ∨ s ≠ remote ∨ r ≠ rtB))
    (rd : CallR cx 20 [st b] [] fun r S => r = .tup [.d (.agg [.int .i64 1, .int .u32 o, .str fa, .str fb, .int .u64 k]), i64 0] ∧ S = [])
    (h1 : ¬ o = here) (h2 : o = frm)
    (oc : CallR cx 22 [.d (.agg [.sl 7 T, .sl 4 H]), .d (.int .u32 o), st fa, st fb, u64 k] [] fun r S => r = .tup [.d (.agg [.sl 7 T2, .sl 4 H2]), i64 e] ∧ S = []) :
    CallR cx 9 [.d (.agg [.sl 7 T, .sl 4 H]), .d (.int .u32 here), st remote, .d (ltD frm q lt s r b)] [] fun r S => r = (if e ≠ 0 then .tup [.d (.agg [.sl 7 T, .sl 4 H]), .d (.agg [.int .i64 0, .int .u32 0, .str .empty, .str .empty, .int .u64 0]), i64 e] else .tup [.d (.agg [.sl 7 T2, .sl 4 H2]), .d (.agg [.int .i64 1, .int .u32 o, .str fa, .str fb, .int .u64 k]), i64 0]) ∧ S = [] := by
  have c1 : ¬ remote = .empty := fun z => h (.inl z)
  have c2 : s = remote := Classical.byContradiction fun z => h (.inr (.inl z))
  have c3 : r = rtB := Classical.byContradiction fun z => h (.inr (.inr z))
  refine callR_of (R := R1) cx_ok Tryz.func9 (by kernel_rfl) rfl ?_
  conv => whnf
  refine brF (beq_eq_false_iff_ne.2 (fun z => c1 (size_zero (by omega)))) ?_
  conv => whnf
  refine brF (by rw [decide_eq_true c2]; rfl) ?_
  conv => whnf
  refine brF ?_ ?_
  · show (!decide (r = rtB)) = false
    rw [decide_eq_true c3]; rfl
  conv => whnf
  refine ⟨_, rd, ?_⟩
  rintro _ _ ⟨rfl, rfl⟩
  conv => whnf
  refine brF (decide_eq_false h1) ?_
  conv => whnf
  refine brT (decide_eq_true h2) ?_
  conv => whnf
  refine ⟨_, oc, ?_⟩
  rintro _ _ ⟨rfl, rfl⟩
  conv => whnf
  by_cases he : e = 0
  · rw [if_neg (by simp [he])]
    refine brF (bne_eq_false_iff_eq.2 he) ?_
    conv => whnf
    refine ⟨by kernel_rfl, ?_⟩
    conv => whnf
    refine ⟨by kernel_rfl, ?_⟩
    conv => whnf
    exact ⟨rfl, rfl⟩
  · rw [if_pos he]
    refine brT (bne_iff_ne.2 he) ?_
    conv => whnf
    exact ⟨rfl, rfl⟩

theorem rh_40 {T H T2 H2 : List D} {here frm q lt o k : Int} {remote s r b fa fb : ByteArray} (h : ¬ (remote = .empty ∨ s ≠ remote ∨ r ≠ rtB))
    (rd : CallR cx 20 [st b] [] fun r S => r = .tup [.d (.agg [.int .i64 1, .int .u32 o, .str fa, .str fb, .int .u64 k]), i64 0] ∧ S = [])
    (h1 : ¬ o = here) (h2 : ¬ o = frm) :
    CallR cx 9 [.d (.agg [.sl 7 T, .sl 4 H]), .d (.int .u32 here), st remote, .d (ltD frm q lt s r b)] [] fun r S => r = .tup [.d (.agg [.sl 7 T, .sl 4 H]), .d (.agg [.int .i64 0, .int .u32 0, .str .empty, .str .empty, .int .u64 0]), i64 40] ∧ S = [] := by
  have c1 : ¬ remote = .empty := fun z => h (.inl z)
  have c2 : s = remote := Classical.byContradiction fun z => h (.inr (.inl z))
  have c3 : r = rtB := Classical.byContradiction fun z => h (.inr (.inr z))
  refine callR_of (R := R1) cx_ok Tryz.func9 (by kernel_rfl) rfl ?_
  conv => whnf
  refine brF (beq_eq_false_iff_ne.2 (fun z => c1 (size_zero (by omega)))) ?_
  conv => whnf
  refine brF (by rw [decide_eq_true c2]; rfl) ?_
  conv => whnf
  refine brF ?_ ?_
  · show (!decide (r = rtB)) = false
    rw [decide_eq_true c3]; rfl
  conv => whnf
  refine ⟨_, rd, ?_⟩
  rintro _ _ ⟨rfl, rfl⟩
  conv => whnf
  refine brF (decide_eq_false h1) ?_
  conv => whnf
  refine brF (decide_eq_false h2) ?_
  conv => whnf
  exact ⟨rfl, rfl⟩

theorem rh_sy {T H T2 H2 : List D} {here frm q lt o k : Int} {remote s r b fa fb : ByteArray} (h : ¬ (remote = .empty ∨ s ≠ remote ∨ r ≠ rtB))
    (rd : CallR cx 20 [st b] [] fun r S => r = .tup [.d (.agg [.int .i64 2, .int .u32 o, .str fa, .str fb, .int .u64 k]), i64 0] ∧ S = []) :
    CallR cx 9 [.d (.agg [.sl 7 T, .sl 4 H]), .d (.int .u32 here), st remote, .d (ltD frm q lt s r b)] [] fun r S => r = .tup [.d (.agg [.sl 7 T, .sl 4 H]), .d (.agg [.int .i64 2, .int .u32 o, .str fa, .str fb, .int .u64 k]), i64 0] ∧ S = [] := by
  have c1 : ¬ remote = .empty := fun z => h (.inl z)
  have c2 : s = remote := Classical.byContradiction fun z => h (.inr (.inl z))
  have c3 : r = rtB := Classical.byContradiction fun z => h (.inr (.inr z))
  refine callR_of (R := R1) cx_ok Tryz.func9 (by kernel_rfl) rfl ?_
  conv => whnf
  refine brF (beq_eq_false_iff_ne.2 (fun z => c1 (size_zero (by omega)))) ?_
  conv => whnf
  refine brF (by rw [decide_eq_true c2]; rfl) ?_
  conv => whnf
  refine brF ?_ ?_
  · show (!decide (r = rtB)) = false
    rw [decide_eq_true c3]; rfl
  conv => whnf
  refine ⟨_, rd, ?_⟩
  rintro _ _ ⟨rfl, rfl⟩
  conv => whnf
  refine ⟨by kernel_rfl, ?_⟩
  conv => whnf
  refine ⟨by kernel_rfl, ?_⟩
  conv => whnf
  exact ⟨rfl, rfl⟩

theorem rh_d0 {T H T2 H2 : List D} {here frm q lt o k : Int} {remote s r b fa fb : ByteArray} (h : ¬ (remote = .empty ∨ s ≠ remote ∨ r ≠ rtB))
    (rd : CallR cx 20 [st b] [] fun r S => r = .tup [.d (.agg [.int .i64 3, .int .u32 o, .str fa, .str fb, .int .u64 k]), i64 0] ∧ S = [])
    (h1 : o ≠ frm ∨ o = here) :
    CallR cx 9 [.d (.agg [.sl 7 T, .sl 4 H]), .d (.int .u32 here), st remote, .d (ltD frm q lt s r b)] [] fun r S => r = .tup [.d (.agg [.sl 7 T, .sl 4 H]), .d (.agg [.int .i64 0, .int .u32 0, .str .empty, .str .empty, .int .u64 0]), i64 40] ∧ S = [] := by
  have c1 : ¬ remote = .empty := fun z => h (.inl z)
  have c2 : s = remote := Classical.byContradiction fun z => h (.inr (.inl z))
  have c3 : r = rtB := Classical.byContradiction fun z => h (.inr (.inr z))
  refine callR_of (R := R1) cx_ok Tryz.func9 (by kernel_rfl) rfl ?_
  conv => whnf
  refine brF (beq_eq_false_iff_ne.2 (fun z => c1 (size_zero (by omega)))) ?_
  conv => whnf
  refine brF (by rw [decide_eq_true c2]; rfl) ?_
  conv => whnf
  refine brF ?_ ?_
  · show (!decide (r = rtB)) = false
    rw [decide_eq_true c3]; rfl
  conv => whnf
  refine ⟨_, rd, ?_⟩
  rintro _ _ ⟨rfl, rfl⟩
  conv => whnf
  by_cases c4 : o = frm
  · refine brF (bne_eq_false_iff_eq.2 c4) ?_
    conv => whnf
    refine brT (decide_eq_true (h1.resolve_left (fun z => z c4))) ?_
    conv => whnf
    exact ⟨rfl, rfl⟩
  · refine brT (bne_iff_ne.2 c4) ?_
    conv => whnf
    exact ⟨rfl, rfl⟩

theorem rh_de {T H T2 H2 : List D} {here frm q lt o k e to a1 a2 a3 a4 a5 : Int} {remote s r b fa fb : ByteArray} {tn : ByteArray}
    (h : ¬ (remote = .empty ∨ s ≠ remote ∨ r ≠ rtB))
    (rd : CallR cx 20 [st b] [] fun r S => r = .tup [.d (.agg [.int .i64 3, .int .u32 o, .str fa, .str fb, .int .u64 k]), i64 0] ∧ S = [])
    (h1 : o = frm) (h2 : ¬ o = here)
    (kc : CallR cx 23 [.d (.agg [.sl 7 T, .sl 4 H]), .d (.int .u32 o), st fa] [] fun r S => r = .tup [.d (.agg [.int .u32 to, .str tn, .int .u64 a1, .int .u64 a2, .int .u64 a3, .int .u64 a4, .int .u64 a5]), bo false] ∧ S = [])
    (oc : CallR cx 24 [.d (.agg [.sl 7 T, .sl 4 H]), .d (.int .u32 o), st fa, u64 k] [] fun r S => r = .tup [.d (.agg [.sl 7 T2, .sl 4 H2]), i64 e] ∧ S = []) :
    CallR cx 9 [.d (.agg [.sl 7 T, .sl 4 H]), .d (.int .u32 here), st remote, .d (ltD frm q lt s r b)] [] fun r S => r = (if e ≠ 0 then .tup [.d (.agg [.sl 7 T, .sl 4 H]), .d (.agg [.int .i64 0, .int .u32 0, .str .empty, .str .empty, .int .u64 0]), i64 e] else .tup [.d (.agg [.sl 7 T2, .sl 4 H2]), .d (.agg [.int .i64 3, .int .u32 o, .str fa, .str fb, .int .u64 k]), i64 0]) ∧ S = [] := by
  have c1 : ¬ remote = .empty := fun z => h (.inl z)
  have c2 : s = remote := Classical.byContradiction fun z => h (.inr (.inl z))
  have c3 : r = rtB := Classical.byContradiction fun z => h (.inr (.inr z))
  refine callR_of (R := R1) cx_ok Tryz.func9 (by kernel_rfl) rfl ?_
  conv => whnf
  refine brF (beq_eq_false_iff_ne.2 (fun z => c1 (size_zero (by omega)))) ?_
  conv => whnf
  refine brF (by rw [decide_eq_true c2]; rfl) ?_
  conv => whnf
  refine brF ?_ ?_
  · show (!decide (r = rtB)) = false
    rw [decide_eq_true c3]; rfl
  conv => whnf
  refine ⟨_, rd, ?_⟩
  rintro _ _ ⟨rfl, rfl⟩
  conv => whnf
  refine brF (bne_eq_false_iff_eq.2 h1) ?_
  conv => whnf
  refine brF (decide_eq_false h2) ?_
  conv => whnf
  refine ⟨_, kc, ?_⟩
  rintro _ _ ⟨rfl, rfl⟩
  conv => whnf
  refine ⟨_, oc, ?_⟩
  rintro _ _ ⟨rfl, rfl⟩
  conv => whnf
  by_cases he : e = 0
  · rw [if_neg (by simp [he])]
    refine brF (bne_eq_false_iff_eq.2 he) ?_
    conv => whnf
    refine ⟨by kernel_rfl, ?_⟩
    conv => whnf
    refine ⟨by kernel_rfl, ?_⟩
    conv => whnf
    exact ⟨rfl, rfl⟩
  · rw [if_pos he]
    refine brT (bne_iff_ne.2 he) ?_
    conv => whnf
    exact ⟨rfl, rfl⟩


theorem rh_set {ts : List Tk} {hs : List Hd} {here frm q lt o k to a1 a2 a3 a4 a5 : Int} {remote s r b fa fb tn : ByteArray} (hT : ts.length ≤ 100000) (h : ¬ (remote = .empty ∨ s ≠ remote ∨ r ≠ rtB))
    (rd : CallR cx 20 [st b] [] fun r S => r = .tup [.d (.agg [.int .i64 3, .int .u32 o, .str fa, .str fb, .int .u64 k]), i64 0] ∧ S = [])
    (h1 : o = frm) (h2 : ¬ o = here)
    (kc : CallR cx 23 [.d (Pu.d ⟨ts, hs⟩), .d (.int .u32 o), st fa] [] fun r S => r = .tup [.d (.agg [.int .u32 to, .str tn, .int .u64 a1, .int .u64 a2, .int .u64 a3, .int .u64 a4, .int .u64 a5]), bo true] ∧ S = []) :
    CallR cx 9 [.d (Pu.d ⟨ts, hs⟩), .d (.int .u32 here), st remote, .d (ltD frm q lt s r b)] [] fun r S => r = .tup [.d (Pu.d ⟨modT o fa k ts, hs⟩), .d (.agg [.int .i64 3, .int .u32 o, .str fa, .str fb, .int .u64 k]), i64 0] ∧ S = [] := by
  have hlt' : (tks ts).length = ts.length := List.length_map _
  have c1 : ¬ remote = .empty := fun z => h (.inl z)
  have c2 : s = remote := Classical.byContradiction fun z => h (.inr (.inl z))
  have c3 : r = rtB := Classical.byContradiction fun z => h (.inr (.inr z))
  refine callR_of (R := R1) cx_ok Tryz.func9 (by kernel_rfl) rfl ?_
  conv => whnf
  refine brF (beq_eq_false_iff_ne.2 (fun z => c1 (size_zero (by omega)))) ?_
  conv => whnf
  refine brF (by rw [decide_eq_true c2]; rfl) ?_
  conv => whnf
  refine brF ?_ ?_
  · show (!decide (r = rtB)) = false
    rw [decide_eq_true c3]; rfl
  conv => whnf
  refine ⟨_, rd, ?_⟩
  rintro _ _ ⟨rfl, rfl⟩
  conv => whnf
  refine brF (bne_eq_false_iff_eq.2 h1) ?_
  conv => whnf
  refine brF (decide_eq_false h2) ?_
  conv => whnf
  refine ⟨_, kc, ?_⟩
  rintro _ _ ⟨rfl, rfl⟩
  conv => whnf
  refine .inr ⟨52, 7, ?_⟩
  conv => whnf
  refine .inr ⟨fun m L S => ∃ (j : Nat) (dn : Bool) (out : List Tk), out ++ (if dn then ts.drop j else modT o fa k (ts.drop j)) = modT o fa k ts ∧ out.length = j ∧ j ≤ ts.length ∧ m = ts.length - j ∧
      L = [(8, .ptr 2 []), (9, .ptr 3 []), (10, i64 0), (11, .ptr 4 []), (13, .ptr 5 []), (14, i64 0), (17, .row 7), (18, bo dn), (135, .d (.sl 7 (tks ts))), (136, i64 (((tks ts).length : Nat) : Int)), (137, i64 (j : Int))] ∧
      S = [.var (.d (Pu.d ⟨ts, hs⟩)), .var (.d (ltD frm q lt s r b)), .var (.d (.agg [.sl 7 [], .sl 4 []])), .var (.d (.agg [.int .i64 0, .int .u32 0, .str .empty, .str .empty, .int .u64 0])), .var (.d (.agg [.int .i64 3, .int .u32 o, .str fa, .str fb, .int .u64 k])), .var (.d (Pu.d ⟨ts, hs⟩)), .var (.d (.agg [.int .u32 to, .str tn, .int .u64 a1, .int .u64 a2, .int .u64 a3, .int .u64 a4, .int .u64 a5])), .row 52 7 (tks out)],
    ⟨_, _, ⟨0, false, [], rfl, rfl, Nat.zero_le _, rfl, rfl, rfl⟩, ⟨rfl, rfl, rfl, rfl, rfl, rfl, rfl, rfl, rfl, rfl, rfl, trivial⟩⟩, ?_⟩
  rintro _ _ _ ⟨j, dn, out, h4, h5, hj, rfl, rfl, rfl⟩
  have hlo : (tks out).length = out.length := List.length_map _
  conv => whnf
  refine brec (fun h6 => ?_) (fun h6 => ?_)
  · have h6 := of_decide_eq_true h6
    rw [hlt'] at h6
    have hlt : j < ts.length := by omega
    conv => whnf
    refine ⟨⟨by omega, by rw [hlt']; omega⟩, ?_⟩
    rw [tks_getD hlt]
    rw [List.drop_eq_getElem_cons hlt, modT] at h4
    generalize ts[j]'hlt = a at *
    have e3 : IntKind.i64.wrap ((j : Int) + 1) = ((j + 1 : Nat) : Int) := by rw [w64 (by omega)]; omega
    have ea : ∀ x : Tk, tks out ++ [x.d] = tks (out ++ [x]) := fun x => by unfold tks; rw [List.map_append]; rfl
    obtain ⟨ao, an, x1, x2, x3, x4, x5⟩ := a
    have hq : tkP o fa ⟨ao, an, x1, x2, x3, x4, x5⟩ = (decide (ao = o) && decide (an = fa)) := rfl
    rw [hq] at h4
    conv => whnf
    cases dn with
    | true =>
      rw [if_pos rfl] at h4
      conv => whnf
      refine ⟨⟨Nat.succ_pos _, by show ((tks out).length + 1) * (64 + 1) ≤ _; omega⟩, ?_⟩
      conv => whnf
      refine ⟨ts.length - (j + 1), [(8, .ptr 2 []), (9, .ptr 3 []), (10, i64 0), (11, .ptr 4 []), (13, .ptr 5 []), (14, i64 0), (17, .row 9), (18, bo true), (135, .d (.sl 7 (tks ts))), (136, i64 (((tks ts).length : Nat) : Int)), (137, i64 ((j + 1 : Nat) : Int))], [0, 1, 2, 3, 4, 5, 6, 9], by omega, ⟨rfl, rfl, rfl, rfl, rfl, rfl, rfl, rfl, rfl, rfl, congrArg (fun z => some (i64 z)) e3, trivial⟩, ?_⟩
      conv => whnf
      refine ⟨j + 1, true, out ++ [⟨ao, an, x1, x2, x3, x4, x5⟩], by rw [if_pos rfl, List.append_assoc]; exact h4, by rw [List.length_append, h5]; rfl, by omega, rfl, rfl, ?_⟩
      exact congrArg (fun z => [Blk.var (.d (Pu.d ⟨ts, hs⟩)), .var (.d (ltD frm q lt s r b)), .var (.d (.agg [.sl 7 [], .sl 4 []])), .var (.d (.agg [.int .i64 0, .int .u32 0, .str .empty, .str .empty, .int .u64 0])), .var (.d (.agg [.int .i64 3, .int .u32 o, .str fa, .str fb, .int .u64 k])), .var (.d (Pu.d ⟨ts, hs⟩)), .var (.d (.agg [.int .u32 to, .str tn, .int .u64 a1, .int .u64 a2, .int .u64 a3, .int .u64 a4, .int .u64 a5])), .row 52 7 z]) (ea ⟨ao, an, x1, x2, x3, x4, x5⟩)
    | false =>
      rw [if_neg (by decide)] at h4
      conv => whnf
      by_cases q1 : ao = o
      · rw [decide_eq_true q1, Bool.true_and] at h4
        refine brT (decide_eq_true q1) ?_
        conv => whnf
        by_cases q2 : an = fa
        · rw [decide_eq_true q2, if_pos rfl] at h4
          refine brT (decide_eq_true q2) ?_
          conv => whnf
          refine ⟨⟨Nat.succ_pos _, by show ((tks out).length + 1) * (64 + 1) ≤ _; omega⟩, ?_⟩
          conv => whnf
          refine ⟨ts.length - (j + 1), [(8, .ptr 2 []), (9, .ptr 3 []), (10, i64 0), (11, .ptr 4 []), (13, .ptr 5 []), (14, i64 0), (17, .row 9), (18, bo true), (135, .d (.sl 7 (tks ts))), (136, i64 (((tks ts).length : Nat) : Int)), (137, i64 ((j + 1 : Nat) : Int))], [0, 1, 2, 3, 4, 5, 6, 9], by omega, ⟨rfl, rfl, rfl, rfl, rfl, rfl, rfl, rfl, rfl, rfl, congrArg (fun z => some (i64 z)) e3, trivial⟩, ?_⟩
          conv => whnf
          refine ⟨j + 1, true, out ++ [⟨ao, an, k, x2, x3, x4, x5⟩], by rw [if_pos rfl, List.append_assoc]; exact h4, by rw [List.length_append, h5]; rfl, by omega, rfl, rfl, ?_⟩
          exact congrArg (fun z => [Blk.var (.d (Pu.d ⟨ts, hs⟩)), .var (.d (ltD frm q lt s r b)), .var (.d (.agg [.sl 7 [], .sl 4 []])), .var (.d (.agg [.int .i64 0, .int .u32 0, .str .empty, .str .empty, .int .u64 0])), .var (.d (.agg [.int .i64 3, .int .u32 o, .str fa, .str fb, .int .u64 k])), .var (.d (Pu.d ⟨ts, hs⟩)), .var (.d (.agg [.int .u32 to, .str tn, .int .u64 a1, .int .u64 a2, .int .u64 a3, .int .u64 a4, .int .u64 a5])), .row 52 7 z]) (ea ⟨ao, an, k, x2, x3, x4, x5⟩)
        · rw [decide_eq_false q2, if_neg (by decide)] at h4
          refine brF (decide_eq_false q2) ?_
          conv => whnf
          refine ⟨⟨Nat.succ_pos _, by show ((tks out).length + 1) * (64 + 1) ≤ _; omega⟩, ?_⟩
          conv => whnf
          refine ⟨ts.length - (j + 1), [(8, .ptr 2 []), (9, .ptr 3 []), (10, i64 0), (11, .ptr 4 []), (13, .ptr 5 []), (14, i64 0), (17, .row 9), (18, bo false), (135, .d (.sl 7 (tks ts))), (136, i64 (((tks ts).length : Nat) : Int)), (137, i64 ((j + 1 : Nat) : Int))], [0, 1, 2, 3, 4, 5, 6, 9], by omega, ⟨rfl, rfl, rfl, rfl, rfl, rfl, rfl, rfl, rfl, rfl, congrArg (fun z => some (i64 z)) e3, trivial⟩, ?_⟩
          conv => whnf
          refine ⟨j + 1, false, out ++ [⟨ao, an, x1, x2, x3, x4, x5⟩], by rw [if_neg (by decide), List.append_assoc]; exact h4, by rw [List.length_append, h5]; rfl, by omega, rfl, rfl, ?_⟩
          exact congrArg (fun z => [Blk.var (.d (Pu.d ⟨ts, hs⟩)), .var (.d (ltD frm q lt s r b)), .var (.d (.agg [.sl 7 [], .sl 4 []])), .var (.d (.agg [.int .i64 0, .int .u32 0, .str .empty, .str .empty, .int .u64 0])), .var (.d (.agg [.int .i64 3, .int .u32 o, .str fa, .str fb, .int .u64 k])), .var (.d (Pu.d ⟨ts, hs⟩)), .var (.d (.agg [.int .u32 to, .str tn, .int .u64 a1, .int .u64 a2, .int .u64 a3, .int .u64 a4, .int .u64 a5])), .row 52 7 z]) (ea ⟨ao, an, x1, x2, x3, x4, x5⟩)
      · rw [decide_eq_false q1, Bool.false_and, if_neg (by decide)] at h4
        refine brF (decide_eq_false q1) ?_
        conv => whnf
        refine ⟨⟨Nat.succ_pos _, by show ((tks out).length + 1) * (64 + 1) ≤ _; omega⟩, ?_⟩
        conv => whnf
        refine ⟨ts.length - (j + 1), [(8, .ptr 2 []), (9, .ptr 3 []), (10, i64 0), (11, .ptr 4 []), (13, .ptr 5 []), (14, i64 0), (17, .row 9), (18, bo false), (135, .d (.sl 7 (tks ts))), (136, i64 (((tks ts).length : Nat) : Int)), (137, i64 ((j + 1 : Nat) : Int))], [0, 1, 2, 3, 4, 5, 6, 9], by omega, ⟨rfl, rfl, rfl, rfl, rfl, rfl, rfl, rfl, rfl, rfl, congrArg (fun z => some (i64 z)) e3, trivial⟩, ?_⟩
        conv => whnf
        refine ⟨j + 1, false, out ++ [⟨ao, an, x1, x2, x3, x4, x5⟩], by rw [if_neg (by decide), List.append_assoc]; exact h4, by rw [List.length_append, h5]; rfl, by omega, rfl, rfl, ?_⟩
        exact congrArg (fun z => [Blk.var (.d (Pu.d ⟨ts, hs⟩)), .var (.d (ltD frm q lt s r b)), .var (.d (.agg [.sl 7 [], .sl 4 []])), .var (.d (.agg [.int .i64 0, .int .u32 0, .str .empty, .str .empty, .int .u64 0])), .var (.d (.agg [.int .i64 3, .int .u32 o, .str fa, .str fb, .int .u64 k])), .var (.d (Pu.d ⟨ts, hs⟩)), .var (.d (.agg [.int .u32 to, .str tn, .int .u64 a1, .int .u64 a2, .int .u64 a3, .int .u64 a4, .int .u64 a5])), .row 52 7 z]) (ea ⟨ao, an, x1, x2, x3, x4, x5⟩)
  · have h6 := of_decide_eq_false h6
    rw [hlt'] at h6
    obtain rfl : j = ts.length := by omega
    have e9 : out = modT o fa k ts := by
      rw [← h4, List.drop_length]
      cases dn <;> simp [modT]
    rw [← e9]
    conv => whnf
    refine ⟨by kernel_rfl, ?_⟩
    conv => whnf
    refine ⟨by kernel_rfl, ?_⟩
    conv => whnf
    exact ⟨rfl, rfl⟩


theorem modT_put {o k : Int} {n : ByteArray} : ∀ {ts : List Tk} {t : Tk}, lookP (tkP o n) ts = some t → modT o n k ts = putP (tkP o n) ts { t with cap := k }
  | [], _, h => by cases h
  | a :: l, t, h => by
    unfold lookP at h
    unfold modT putP
    by_cases c : tkP o n a = true
    · rw [if_pos c] at h
      rw [if_pos c, if_pos c]
      injection h with h
      rw [h]
    · rw [if_neg c] at h
      rw [if_neg c, if_neg c, modT_put h]

theorem rhand_c {p : Pu} {N : Nat} {here f q t : Int} {remote s r b : ByteArray} (hp : p.fine N) (hN : N ≤ 99999) (hb : b.size ≤ 1000) :
    CallR cx 9 [.d p.d, .d (.int .u32 here), st remote, .d (ltD f q t s r b)] [] fun x S =>
      x = .tup [.d (handP p here f remote s r b).1.d, .d (fld (handP p here f remote s r b).2.1), i64 (handP p here f remote s r b).2.2] ∧ S = [] := by
  have rc := fread_c (s := b) (by omega)
  have fi := readP_fit (b := b) (by omega)
  have br := fun h => bytes_read (s := b) h
  have hpo := hp.ok (by omega)
  unfold handP
  by_cases c : remote = .empty ∨ s ≠ remote ∨ r ≠ rtB
  · rw [if_pos c]
    exact rh_no (T2 := []) (H2 := []) (o := 0) (k := 0) (fa := .empty) (fb := .empty) c
  rw [if_neg c]
  generalize readP b = Q at *
  obtain ⟨pl, e⟩ := Q
  simp only at rc fi br ⊢
  by_cases he : e = 0
  · obtain ⟨b1, b2⟩ := br he
    rw [if_neg (by simp [he])]
    subst he
    cases pl with
    | tr o n w k =>
      obtain ⟨ho, hk, _, _⟩ := fi
      have sz := tr_size (o := o) (k := k) (n := n) (w := w)
      rw [b2] at sz
      rw [show doesP p here f (Pl.tr o n w k) = transP p here f o n w k from rfl]
      unfold transP
      by_cases h1 : o = here
      · rw [if_pos h1]
        refine (rh_un (o := o) (fa := n) (fb := w) (k := k) (q := q) (lt := t) c rc h1 (runlock_cc hp hN (by show n.size ≤ 1000; omega) (by show w.size ≤ 1000; omega) hk)).mono fun x S ⟨g1, g2⟩ => ⟨?_, g2⟩
        rw [g1]
        by_cases hq : (unlockP p o n w k).2 ≠ 0
        · rw [if_pos hq, if_pos hq]; rfl
        · rw [if_neg hq, if_neg hq]; rfl
      rw [if_neg h1]
      by_cases h2 : o = f
      · rw [if_pos h2]
        refine (rh_mi (o := o) (fa := n) (fb := w) (k := k) (q := q) (lt := t) c rc h1 h2 (rmint_cc hp hN (by show n.size ≤ 1000; omega) (by show w.size ≤ 1000; omega) hk)).mono fun x S ⟨g1, g2⟩ => ⟨?_, g2⟩
        rw [g1]
        by_cases hq : (mintP p o n w k).2 ≠ 0
        · rw [if_pos hq, if_pos hq]; rfl
        · rw [if_neg hq, if_neg hq]; rfl
      rw [if_neg h2]
      exact rh_40 (o := o) (fa := n) (fb := w) (k := k) (T2 := []) (H2 := []) c rc h1 h2
    | sy a d =>
      exact rh_sy (T2 := []) (H2 := []) c rc
    | de o n k =>
      have sz := de_size (o := o) (k := k) (n := n)
      rw [b2] at sz
      rw [show doesP p here f (Pl.de o n k) = detP p here f o n k from rfl]
      unfold detP
      by_cases cc : o ≠ f ∨ o = here
      · rw [if_pos cc]
        exact rh_d0 (o := o) (fa := n) (fb := .empty) (k := k) (T2 := []) (H2 := []) c rc cc
      rw [if_neg cc]
      have c1 : o = f := Classical.byContradiction fun z => cc (.inl z)
      have c2 : ¬ o = here := fun z => cc (.inr z)
      have kc := rknown_c (o := o) (n := n) hpo
      have oc := renlist_c (o := o) (n := n) (k := k) hpo (by omega)
      unfold knownP at kc
      cases hl : lookP (tkP o n) p.toks with
      | none =>
        rw [hl] at kc
        refine (rh_de (o := o) (fa := n) (fb := .empty) (k := k) (q := q) (lt := t) c rc c1 c2 kc oc).mono fun x S ⟨g1, g2⟩ => ⟨?_, g2⟩
        rw [g1]
        by_cases hq : (enlistP p o n k).2 ≠ 0
        · rw [if_pos hq, if_pos hq]; rfl
        · rw [if_neg hq, if_neg hq]; rfl
      | some tk =>
        rw [hl] at kc
        have m := modT_put (k := k) hl
        have h := rh_set (o := o) (fa := n) (fb := .empty) (k := k) (q := q) (lt := t) (ts := p.toks) (hs := p.holds) hpo.nt c rc c1 c2 kc
        rw [m] at h
        exact h
    | no => cases b1
    | nu => cases b1
  · rw [if_pos he]
    exact rh_rd (T2 := []) (H2 := []) c he rc
end Go.Proofs.YtmdfpifcghmpfaaGreatDoor
