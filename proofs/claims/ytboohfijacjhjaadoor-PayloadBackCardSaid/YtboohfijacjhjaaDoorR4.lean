/- Payloads read by the document. -/
import Derived.Test.YtboohfijacjhjaaDoorR3
namespace Go.Proofs.YtboohfijacjhjaaDoor
open Go.Ab Go.RowKit

theorem bad_got {r : Rs} (h : r.e ≠ 0) (n : Int) : r.got n = .empty := if_neg fun g => h g.1
theorem bad_take {r : Rs} (h : r.e ≠ 0) (n : Int) : r.take n = r := by
  have e1 : tkR r.s r.e n = r.s := if_neg fun g => h g.1
  have e2 : tkE r.s r.e n = r.e := if_neg h
  unfold Rs.take
  rw [e1, e2]
theorem bad_num {r : Rs} (h : r.e ≠ 0) (n : Int) : r.num n = 0 := by unfold Rs.num; rw [bad_got h]; rfl
theorem bad_cnt {r : Rs} (h : r.e ≠ 0) {m : Int} (hm : 0 ≤ m) : r.cnt m = 0 := by unfold Rs.cnt; rw [bad_num h, if_neg (by omega)]; rfl
theorem bad_cntR {r : Rs} (h : r.e ≠ 0) {m : Int} (hm : 0 ≤ m) : r.cntR m = r := by unfold Rs.cntR; rw [bad_num h, if_neg (by omega), bad_take h]
theorem bad_txt {r : Rs} (h : r.e ≠ 0) {m : Int} (hm : 0 ≤ m) : r.txt m = .empty := by unfold Rs.txt; rw [bad_cntR h hm, bad_got h]
theorem bad_txtR {r : Rs} (h : r.e ≠ 0) {m : Int} (hm : 0 ≤ m) : r.txtR m = r := by unfold Rs.txtR; rw [bad_cntR h hm, bad_take h]
theorem fail_bad (r : Rs) {f : Int} (hf : f ≠ 0) : (r.fail f).e ≠ 0 := by show (if r.e = 0 then f else r.e) ≠ 0; split <;> assumption

theorem brecL {b : Bool} {A A' : Prop} (ht : b = true → A) (hf : b = false → A') : @Bool.rec (fun _ => Prop) A' A b := brec ht hf

set_option maxHeartbeats 1000000 in
theorem fread_c {s : ByteArray} (hm : s.size < 100000) : CallR cx 28 [st s] [] fun v S => v = .tup [.d (fld (readP s).1), i64 (readP s).2] ∧ S = [] := by
  have nu := rnum_c (r := Rs.mk s 0) (n := 1) (by decide) (by show s.size < _; omega)
  have hs : ((Rs.mk s 0).take 1).s.size ≤ s.size := take_size (Rs.mk s 0) 1
  have fi := readB_fit (t := (Rs.mk s 0).num 1) (r := (Rs.mk s 0).take 1) (by omega)
  have ri := fright_c fi
  have hk1 := num1_lt (Rs.mk s 0)
  unfold readP readQ
  generalize (Rs.mk s 0).num 1 = k at *
  have hR0 : (Rs.mk s 0).d = rd s 0 := rfl
  rw [hR0] at nu
  generalize (Rs.mk s 0).take 1 = r at *
  have a1 := take_size r 4
  have a3 := txtR_size (r.take 4) 48
  have a6 := txtR_size r 48
  have a8 := txtR_size ((r.take 4).txtR 48) 48
  unfold readB at *
  by_cases h1 : k = 1
  · subst h1
    rw [if_pos rfl] at *
    have nu : CallR cx 67 [.ptr 0 [], i64 1] [.var (.d (rd s 0))] fun v S => v = u64 1 ∧ S = [.var (.d r.d)] := nu
    have c1 := rnum_c (r := r) (n := 4) (by decide) (by omega)
    have c2 := rtextR_c (r := r.take 4) (m := 48) (by decide) (by decide) (by omega)
    have c3 := rtextR_c (r := (r.take 4).txtR 48) (m := 48) (by decide) (by decide) (by omega)
    have c4 := rnum_c (r := ((r.take 4).txtR 48).txtR 48) (n := 8) (by decide) (by omega)
    have en := rend_c (r := (((r.take 4).txtR 48).txtR 48).take 8)
    have ew := wrap32 (n := ((r.num 4 : Nat) : Int)) (by have := num4_lt r; omega)
    simp only at *
    generalize (((r.take 4).txtR 48).txtR 48).take 8 = r5 at *
    generalize ((((r.take 4).txtR 48).txtR 48).num 8 : Nat) = v5 at *
    generalize ((r.take 4).txtR 48).txt 48 = v4 at *
    generalize ((r.take 4).txtR 48).txtR 48 = r4 at *
    generalize (r.take 4).txt 48 = v3 at *
    generalize (r.take 4).txtR 48 = r3 at *
    generalize r.take 4 = r2 at *
    generalize ((r.num 4 : Nat) : Int) = v2 at *
    generalize (v5 : Int) = v5 at *
    generalize r5.out = e at *
    refine callR_of (R := R1) cx_ok Tryd.func28 (by kernel_rfl) rfl ?_
    conv => whnf
    refine ⟨_, nu, ?_⟩
    rintro _ _ ⟨rfl, rfl⟩
    conv => whnf
    refine ⟨_, c1, ?_⟩
    rintro _ _ ⟨rfl, rfl⟩
    conv => whnf
    rw [ew]
    refine ⟨_, c2, ?_⟩
    rintro _ _ ⟨rfl, rfl⟩
    conv => whnf
    refine ⟨_, c3, ?_⟩
    rintro _ _ ⟨rfl, rfl⟩
    conv => whnf
    refine ⟨_, c4, ?_⟩
    rintro _ _ ⟨rfl, rfl⟩
    conv => whnf
    refine ⟨_, en, ?_⟩
    rintro _ _ ⟨rfl, rfl⟩
    conv => whnf
    refine brec (fun h => ?_) (fun h => ?_)
    · have h : ¬ e = 0 := by simpa using h
      rw [if_neg h]
      conv => whnf
      exact ⟨rfl, rfl⟩
    have h : e = 0 := by simpa using h
    rw [if_pos h]
    conv => whnf
    refine ⟨_, ri, ?_⟩
    rintro _ _ ⟨rfl, rfl⟩
    conv => whnf
    refine brec (fun g => ?_) (fun g => ?_)
    · have g : Pl.right (.tr v2 v3 v4 v5) = false := by simpa using g
      rw [g]
      conv => whnf
      exact ⟨rfl, rfl⟩
    have g : Pl.right (.tr v2 v3 v4 v5) = true := by simpa using g
    rw [g, if_pos rfl]
    conv => whnf
    exact ⟨rfl, rfl⟩
  by_cases h2 : k = 2
  · subst h2
    rw [if_neg (show ¬ 2 = 1 by omega)] at *
    rw [if_pos rfl] at *
    have nu : CallR cx 67 [.ptr 0 [], i64 1] [.var (.d (rd s 0))] fun v S => v = u64 2 ∧ S = [.var (.d r.d)] := nu
    have c2 := rtextR_c (r := r) (m := 48) (by decide) (by decide) (by omega)
    have c3 := rtextR_c (r := r.txtR 48) (m := 256) (by decide) (by decide) (by omega)
    have en := rend_c (r := (r.txtR 48).txtR 256)
    simp only at *
    generalize (r.txtR 48).txtR 256 = r5 at *
    generalize (r.txtR 48).txt 256 = v4 at *
    generalize r.txtR 48 = r4 at *
    generalize r.txt 48 = v3 at *
    generalize r5.out = e at *
    refine callR_of (R := R1) cx_ok Tryd.func28 (by kernel_rfl) rfl ?_
    conv => whnf
    refine ⟨_, nu, ?_⟩
    rintro _ _ ⟨rfl, rfl⟩
    conv => whnf
    refine ⟨_, c2, ?_⟩
    rintro _ _ ⟨rfl, rfl⟩
    conv => whnf
    refine ⟨_, c3, ?_⟩
    rintro _ _ ⟨rfl, rfl⟩
    conv => whnf
    refine ⟨_, en, ?_⟩
    rintro _ _ ⟨rfl, rfl⟩
    conv => whnf
    refine brec (fun h => ?_) (fun h => ?_)
    · have h : ¬ e = 0 := by simpa using h
      rw [if_neg h]
      conv => whnf
      exact ⟨rfl, rfl⟩
    have h : e = 0 := by simpa using h
    rw [if_pos h]
    conv => whnf
    refine ⟨_, ri, ?_⟩
    rintro _ _ ⟨rfl, rfl⟩
    conv => whnf
    refine brec (fun g => ?_) (fun g => ?_)
    · have g : Pl.right (.sy v3 v4) = false := by simpa using g
      rw [g]
      conv => whnf
      exact ⟨rfl, rfl⟩
    have g : Pl.right (.sy v3 v4) = true := by simpa using g
    rw [g, if_pos rfl]
    conv => whnf
    exact ⟨rfl, rfl⟩
  by_cases h3 : k = 3
  · subst h3
    rw [if_neg (show ¬ 3 = 1 by omega)] at *
    rw [if_neg (show ¬ 3 = 2 by omega)] at *
    rw [if_pos rfl] at *
    have nu : CallR cx 67 [.ptr 0 [], i64 1] [.var (.d (rd s 0))] fun v S => v = u64 3 ∧ S = [.var (.d r.d)] := nu
    have c1 := rnum_c (r := r) (n := 4) (by decide) (by omega)
    have c2 := rtextR_c (r := r.take 4) (m := 48) (by decide) (by decide) (by omega)
    have c4 := rnum_c (r := (r.take 4).txtR 48) (n := 8) (by decide) (by omega)
    have en := rend_c (r := ((r.take 4).txtR 48).take 8)
    have ew := wrap32 (n := ((r.num 4 : Nat) : Int)) (by have := num4_lt r; omega)
    simp only at *
    generalize ((r.take 4).txtR 48).take 8 = r5 at *
    generalize (((r.take 4).txtR 48).num 8 : Nat) = v5 at *
    generalize (r.take 4).txt 48 = v3 at *
    generalize (r.take 4).txtR 48 = r3 at *
    generalize r.take 4 = r2 at *
    generalize ((r.num 4 : Nat) : Int) = v2 at *
    generalize (v5 : Int) = v5 at *
    generalize r5.out = e at *
    refine callR_of (R := R1) cx_ok Tryd.func28 (by kernel_rfl) rfl ?_
    conv => whnf
    refine ⟨_, nu, ?_⟩
    rintro _ _ ⟨rfl, rfl⟩
    conv => whnf
    refine ⟨_, c1, ?_⟩
    rintro _ _ ⟨rfl, rfl⟩
    conv => whnf
    rw [ew]
    refine ⟨_, c2, ?_⟩
    rintro _ _ ⟨rfl, rfl⟩
    conv => whnf
    refine ⟨_, c4, ?_⟩
    rintro _ _ ⟨rfl, rfl⟩
    conv => whnf
    refine ⟨_, en, ?_⟩
    rintro _ _ ⟨rfl, rfl⟩
    conv => whnf
    refine brec (fun h => ?_) (fun h => ?_)
    · have h : ¬ e = 0 := by simpa using h
      rw [if_neg h]
      conv => whnf
      exact ⟨rfl, rfl⟩
    have h : e = 0 := by simpa using h
    rw [if_pos h]
    conv => whnf
    refine ⟨_, ri, ?_⟩
    rintro _ _ ⟨rfl, rfl⟩
    conv => whnf
    refine brec (fun g => ?_) (fun g => ?_)
    · have g : Pl.right (.de v2 v3 v5) = false := by simpa using g
      rw [g]
      conv => whnf
      exact ⟨rfl, rfl⟩
    have g : Pl.right (.de v2 v3 v5) = true := by simpa using g
    rw [g, if_pos rfl]
    conv => whnf
    exact ⟨rfl, rfl⟩
  rw [if_neg h1, if_neg h2, if_neg h3] at *
  have fa := rfail_c (r := r) (f := 4)
  have hf := fail_bad r (f := 4) (by decide)
  have ha : (r.fail 4).s.size ≤ s.size := by rw [fail_size]; exact hs
  have ho : (r.fail 4).out ≠ 0 := by unfold Rs.out; rw [if_neg hf]; exact hf
  have en := rend_c (r := r.fail 4)
  have c1 := rnum_c (r := r.fail 4) (n := 4) (by decide) (by omega)
  have c2 := rtextR_c (r := r.fail 4) (m := 48) (by decide) (by decide) (by omega)
  have c3 := rnum_c (r := r.fail 4) (n := 8) (by decide) (by omega)
  rw [bad_num hf, bad_take hf] at c1 c3
  rw [bad_txt hf (by decide), bad_txtR hf (by decide)] at c2
  have c1 : CallR cx 67 [.ptr 0 [], i64 4] [.var (.d (r.fail 4).d)] fun v S => v = u64 0 ∧ S = [.var (.d (r.fail 4).d)] := c1
  have c3 : CallR cx 67 [.ptr 0 [], i64 8] [.var (.d (r.fail 4).d)] fun v S => v = u64 0 ∧ S = [.var (.d (r.fail 4).d)] := c3
  simp only at *
  rw [if_neg ho]
  generalize r.fail 4 = f at *
  generalize f.out = e at *
  have hK : IntKind.i64.wrap (k : Int) = (k : Int) := w64 (by omega)
  generalize hKk : (k : Int) = K at *
  refine callR_of (R := R1) cx_ok Tryd.func28 (by kernel_rfl) rfl ?_
  conv => whnf
  refine ⟨_, nu, ?_⟩
  rintro _ _ ⟨rfl, rfl⟩
  conv => whnf
  rw [hK]
  by_cases hz : K < 1
  · refine brT (decide_eq_true hz) ?_
    conv => whnf
    refine ⟨_, fa, ?_⟩
    rintro _ _ ⟨rfl, rfl⟩
    conv => whnf
    refine brT (bne_iff_ne.2 (by omega)) ?_
    conv => whnf
    refine ⟨_, c1, ?_⟩
    rintro _ _ ⟨rfl, rfl⟩
    conv => whnf
    refine ⟨_, c2, ?_⟩
    rintro _ _ ⟨rfl, rfl⟩
    conv => whnf
    refine brF (beq_eq_false_iff_ne.2 (by omega)) ?_
    conv => whnf
    refine brF (beq_eq_false_iff_ne.2 (by omega)) ?_
    conv => whnf
    refine brT (bne_iff_ne.2 (by omega)) ?_
    conv => whnf
    refine ⟨_, c3, ?_⟩
    rintro _ _ ⟨rfl, rfl⟩
    conv => whnf
    refine ⟨_, en, ?_⟩
    rintro _ _ ⟨rfl, rfl⟩
    conv => whnf
    refine brT (bne_iff_ne.2 ho) ?_
    conv => whnf
    exact ⟨rfl, rfl⟩
  · refine brF (decide_eq_false hz) ?_
    conv => whnf
    refine brT (decide_eq_true (by omega)) ?_
    conv => whnf
    refine ⟨_, fa, ?_⟩
    rintro _ _ ⟨rfl, rfl⟩
    conv => whnf
    refine brT (bne_iff_ne.2 (by omega)) ?_
    conv => whnf
    refine ⟨_, c1, ?_⟩
    rintro _ _ ⟨rfl, rfl⟩
    conv => whnf
    refine ⟨_, c2, ?_⟩
    rintro _ _ ⟨rfl, rfl⟩
    conv => whnf
    refine brF (beq_eq_false_iff_ne.2 (by omega)) ?_
    conv => whnf
    refine brF (beq_eq_false_iff_ne.2 (by omega)) ?_
    conv => whnf
    refine brT (bne_iff_ne.2 (by omega)) ?_
    conv => whnf
    refine ⟨_, c3, ?_⟩
    rintro _ _ ⟨rfl, rfl⟩
    conv => whnf
    refine ⟨_, en, ?_⟩
    rintro _ _ ⟨rfl, rfl⟩
    conv => whnf
    refine brT (bne_iff_ne.2 ho) ?_
    conv => whnf
    exact ⟨rfl, rfl⟩
end Go.Proofs.YtboohfijacjhjaaDoor
