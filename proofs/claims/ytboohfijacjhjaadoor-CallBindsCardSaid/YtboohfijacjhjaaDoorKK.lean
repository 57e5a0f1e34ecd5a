/- The document's Read of a call. -/
import Derived.Test.YtboohfijacjhjaaDoorKH
set_option linter.unusedVariables false
namespace Go.Proofs.YtboohfijacjhjaaDoor
open Go.Ab Go.RowKit

theorem bad_dglR {r : Rs} (h : r.e ≠ 0) {m : Int} (hm : 0 ≤ m) : r.dglR m = r := by unfold Rs.dglR; rw [bad_cntR h hm, bad_take h]
theorem bad_sgR {r : Rs} (h : r.e ≠ 0) : r.sgR = r := by
  have e1 : r.sg1 = r := by unfold Rs.sg1; rw [bad_num h, if_neg (by decide), bad_take h]
  have e2 : r.sg2 = r := by unfold Rs.sg2; rw [e1, bad_dglR h (by decide)]
  have e3 : r.sg3 = r := by unfold Rs.sg3; rw [e2, bad_dglR h (by decide)]
  unfold Rs.sgR
  rw [e3, bad_dglR h (by decide)]

set_option maxRecDepth 20000 in
theorem fread_1 {s : ByteArray} (hm : s.size < 100000) (ht : (Rs.mk s 0).num 1 = 1) : CallR cx 35 [st s] [] fun v S => v = .tup [.d (readC s).1.fd.d, i64 (readC s).2] ∧ S = [] := by
  have hr : ((Rs.mk s 0).take 1).s.size ≤ s.size := take_size (Rs.mk s 0) 1
  have nu := rnum_c (r := Rs.mk s 0) (n := 1) (by decide) (by show s.size < _; omega)
  have hc : readC s = finC ((((((Rs.mk s 0).take 1).txtR 48).txtR 48).take 8).take 8).sgR (.pay (((Rs.mk s 0).take 1).txt 48) ((((Rs.mk s 0).take 1).txtR 48).txt 48) (((((Rs.mk s 0).take 1).txtR 48).txtR 48).num 8) ((((((Rs.mk s 0).take 1).txtR 48).txtR 48).take 8).num 8) ((((((Rs.mk s 0).take 1).txtR 48).txtR 48).take 8).take 8).sg) 0 := by
    unfold readC
    simp only
    rw [ht, if_pos (by decide)]
    simp only [sgnQ]
  rw [hc]
  clear hc
  rw [ht] at nu
  have c0 := rtextR_c (r := ((Rs.mk s 0).take 1)) (m := 48) (by decide) (by decide) (by omega)
  have s0 := txtR_size ((Rs.mk s 0).take 1) 48
  have t0 := txt_le (r := ((Rs.mk s 0).take 1)) (m := 48) (by decide)
  have c1 := rtextR_c (r := (((Rs.mk s 0).take 1).txtR 48)) (m := 48) (by decide) (by decide) (by omega)
  have s1 := txtR_size (((Rs.mk s 0).take 1).txtR 48) 48
  have t1 := txt_le (r := (((Rs.mk s 0).take 1).txtR 48)) (m := 48) (by decide)
  have c2 := rnum_c (r := ((((Rs.mk s 0).take 1).txtR 48).txtR 48)) (n := 8) (by decide) (by omega)
  have s2 := take_size ((((Rs.mk s 0).take 1).txtR 48).txtR 48) 8
  have c3 := rnum_c (r := (((((Rs.mk s 0).take 1).txtR 48).txtR 48).take 8)) (n := 8) (by decide) (by omega)
  have s3 := take_size (((((Rs.mk s 0).take 1).txtR 48).txtR 48).take 8) 8
  have c4 := rsigR_c (r := ((((((Rs.mk s 0).take 1).txtR 48).txtR 48).take 8).take 8)) (by omega)
  have s4 := sgR_size ((((((Rs.mk s 0).take 1).txtR 48).txtR 48).take 8).take 8)
  have en := rend_c (r := ((((((Rs.mk s 0).take 1).txtR 48).txtR 48).take 8).take 8).sgR)
  unfold finC
  generalize ((((((Rs.mk s 0).take 1).txtR 48).txtR 48).take 8).take 8).sgR.out = e at *
  generalize ((((((Rs.mk s 0).take 1).txtR 48).txtR 48).take 8).take 8).sgR.d = D5 at *
  generalize ((((((Rs.mk s 0).take 1).txtR 48).txtR 48).take 8).take 8).sg = x4 at *
  obtain ⟨g0, g1, g2, g3⟩ := x4
  generalize ((((((Rs.mk s 0).take 1).txtR 48).txtR 48).take 8).take 8).d = D4 at *
  generalize ((((((Rs.mk s 0).take 1).txtR 48).txtR 48).take 8).num 8) = x3 at *
  generalize (((((Rs.mk s 0).take 1).txtR 48).txtR 48).take 8).d = D3 at *
  generalize (((((Rs.mk s 0).take 1).txtR 48).txtR 48).num 8) = x2 at *
  generalize ((((Rs.mk s 0).take 1).txtR 48).txtR 48).d = D2 at *
  generalize ((((Rs.mk s 0).take 1).txtR 48).txt 48) = x1 at *
  generalize (((Rs.mk s 0).take 1).txtR 48).d = D1 at *
  generalize (((Rs.mk s 0).take 1).txt 48) = x0 at *
  generalize ((Rs.mk s 0).take 1).d = D0 at *
  refine callR_of (R := R1) cx_ok Tryd.func35 (by kernel_rfl) rfl ?_
  conv => whnf
  refine ⟨_, nu, ?_⟩
  rintro _ _ ⟨rfl, rfl⟩
  conv => whnf
  refine ⟨_, c0, ?_⟩
  rintro _ _ ⟨rfl, rfl⟩
  conv => whnf
  refine ⟨_, c1, ?_⟩
  rintro _ _ ⟨rfl, rfl⟩
  conv => whnf
  refine ⟨_, c2, ?_⟩
  rintro _ _ ⟨rfl, rfl⟩
  conv => whnf
  refine ⟨_, c3, ?_⟩
  rintro _ _ ⟨rfl, rfl⟩
  conv => whnf
  refine ⟨_, c4, ?_⟩
  rintro _ _ ⟨rfl, rfl⟩
  conv => whnf
  refine ⟨_, en, ?_⟩
  rintro _ _ ⟨rfl, rfl⟩
  conv => whnf
  refine brec (fun h => ?_) (fun h => ?_)
  · have h : ¬ e = 0 := by simpa using h
    rw [if_neg h]
    conv => whnf
    exact ⟨by kernel_rfl, by kernel_rfl⟩
  have h : e = 0 := by simpa using h
  rw [if_pos h]
  conv => whnf
  subst h
  conv => whnf
  rw [if_pos rfl]
  exact ⟨by kernel_rfl, by kernel_rfl⟩

set_option maxRecDepth 20000 in
theorem fread_2 {s : ByteArray} (hm : s.size < 100000) (ht : (Rs.mk s 0).num 1 = 2) : CallR cx 35 [st s] [] fun v S => v = .tup [.d (readC s).1.fd.d, i64 (readC s).2] ∧ S = [] := by
  have hr : ((Rs.mk s 0).take 1).s.size ≤ s.size := take_size (Rs.mk s 0) 1
  have nu := rnum_c (r := Rs.mk s 0) (n := 1) (by decide) (by show s.size < _; omega)
  have hc : readC s = finC ((((((((Rs.mk s 0).take 1).txtR 48).take 4).txtR 48).txtR 48).take 8).take 8).sgR (.send (((Rs.mk s 0).take 1).txt 48) ((((Rs.mk s 0).take 1).txtR 48).num 4) (((((Rs.mk s 0).take 1).txtR 48).take 4).txt 48) ((((((Rs.mk s 0).take 1).txtR 48).take 4).txtR 48).txt 48) (((((((Rs.mk s 0).take 1).txtR 48).take 4).txtR 48).txtR 48).num 8) ((((((((Rs.mk s 0).take 1).txtR 48).take 4).txtR 48).txtR 48).take 8).num 8) ((((((((Rs.mk s 0).take 1).txtR 48).take 4).txtR 48).txtR 48).take 8).take 8).sg) 0 := by
    unfold readC
    simp only
    rw [ht, if_pos (by decide)]
    simp only [sgnQ]
  rw [hc]
  clear hc
  rw [ht] at nu
  have c0 := rtextR_c (r := ((Rs.mk s 0).take 1)) (m := 48) (by decide) (by decide) (by omega)
  have s0 := txtR_size ((Rs.mk s 0).take 1) 48
  have t0 := txt_le (r := ((Rs.mk s 0).take 1)) (m := 48) (by decide)
  have c1 := rnum_c (r := (((Rs.mk s 0).take 1).txtR 48)) (n := 4) (by decide) (by omega)
  have s1 := take_size (((Rs.mk s 0).take 1).txtR 48) 4
  have n1 := num4_lt (((Rs.mk s 0).take 1).txtR 48)
  have w1 : IntKind.u32.wrap ((((((Rs.mk s 0).take 1).txtR 48).num 4) : Nat) : Int) = ((((((Rs.mk s 0).take 1).txtR 48).num 4) : Nat) : Int) := wrap32 (by omega)
  have c2 := rtextR_c (r := ((((Rs.mk s 0).take 1).txtR 48).take 4)) (m := 48) (by decide) (by decide) (by omega)
  have s2 := txtR_size ((((Rs.mk s 0).take 1).txtR 48).take 4) 48
  have t2 := txt_le (r := ((((Rs.mk s 0).take 1).txtR 48).take 4)) (m := 48) (by decide)
  have c3 := rtextR_c (r := (((((Rs.mk s 0).take 1).txtR 48).take 4).txtR 48)) (m := 48) (by decide) (by decide) (by omega)
  have s3 := txtR_size (((((Rs.mk s 0).take 1).txtR 48).take 4).txtR 48) 48
  have t3 := txt_le (r := (((((Rs.mk s 0).take 1).txtR 48).take 4).txtR 48)) (m := 48) (by decide)
  have c4 := rnum_c (r := ((((((Rs.mk s 0).take 1).txtR 48).take 4).txtR 48).txtR 48)) (n := 8) (by decide) (by omega)
  have s4 := take_size ((((((Rs.mk s 0).take 1).txtR 48).take 4).txtR 48).txtR 48) 8
  have c5 := rnum_c (r := (((((((Rs.mk s 0).take 1).txtR 48).take 4).txtR 48).txtR 48).take 8)) (n := 8) (by decide) (by omega)
  have s5 := take_size (((((((Rs.mk s 0).take 1).txtR 48).take 4).txtR 48).txtR 48).take 8) 8
  have c6 := rsigR_c (r := ((((((((Rs.mk s 0).take 1).txtR 48).take 4).txtR 48).txtR 48).take 8).take 8)) (by omega)
  have s6 := sgR_size ((((((((Rs.mk s 0).take 1).txtR 48).take 4).txtR 48).txtR 48).take 8).take 8)
  have en := rend_c (r := ((((((((Rs.mk s 0).take 1).txtR 48).take 4).txtR 48).txtR 48).take 8).take 8).sgR)
  unfold finC
  generalize ((((((((Rs.mk s 0).take 1).txtR 48).take 4).txtR 48).txtR 48).take 8).take 8).sgR.out = e at *
  generalize ((((((((Rs.mk s 0).take 1).txtR 48).take 4).txtR 48).txtR 48).take 8).take 8).sgR.d = D7 at *
  generalize ((((((((Rs.mk s 0).take 1).txtR 48).take 4).txtR 48).txtR 48).take 8).take 8).sg = x6 at *
  obtain ⟨g0, g1, g2, g3⟩ := x6
  generalize ((((((((Rs.mk s 0).take 1).txtR 48).take 4).txtR 48).txtR 48).take 8).take 8).d = D6 at *
  generalize ((((((((Rs.mk s 0).take 1).txtR 48).take 4).txtR 48).txtR 48).take 8).num 8) = x5 at *
  generalize (((((((Rs.mk s 0).take 1).txtR 48).take 4).txtR 48).txtR 48).take 8).d = D5 at *
  generalize (((((((Rs.mk s 0).take 1).txtR 48).take 4).txtR 48).txtR 48).num 8) = x4 at *
  generalize ((((((Rs.mk s 0).take 1).txtR 48).take 4).txtR 48).txtR 48).d = D4 at *
  generalize ((((((Rs.mk s 0).take 1).txtR 48).take 4).txtR 48).txt 48) = x3 at *
  generalize (((((Rs.mk s 0).take 1).txtR 48).take 4).txtR 48).d = D3 at *
  generalize (((((Rs.mk s 0).take 1).txtR 48).take 4).txt 48) = x2 at *
  generalize ((((Rs.mk s 0).take 1).txtR 48).take 4).d = D2 at *
  generalize ((((Rs.mk s 0).take 1).txtR 48).num 4) = x1 at *
  generalize (((Rs.mk s 0).take 1).txtR 48).d = D1 at *
  generalize (((Rs.mk s 0).take 1).txt 48) = x0 at *
  generalize ((Rs.mk s 0).take 1).d = D0 at *
  refine callR_of (R := R1) cx_ok Tryd.func35 (by kernel_rfl) rfl ?_
  conv => whnf
  refine ⟨_, nu, ?_⟩
  rintro _ _ ⟨rfl, rfl⟩
  conv => whnf
  refine ⟨_, c0, ?_⟩
  rintro _ _ ⟨rfl, rfl⟩
  conv => whnf
  refine ⟨_, c1, ?_⟩
  rintro _ _ ⟨rfl, rfl⟩
  conv => whnf
  rw [w1]
  refine ⟨_, c2, ?_⟩
  rintro _ _ ⟨rfl, rfl⟩
  conv => whnf
  refine ⟨_, c3, ?_⟩
  rintro _ _ ⟨rfl, rfl⟩
  conv => whnf
  refine ⟨_, c4, ?_⟩
  rintro _ _ ⟨rfl, rfl⟩
  conv => whnf
  refine ⟨_, c5, ?_⟩
  rintro _ _ ⟨rfl, rfl⟩
  conv => whnf
  refine ⟨_, c6, ?_⟩
  rintro _ _ ⟨rfl, rfl⟩
  conv => whnf
  refine ⟨_, en, ?_⟩
  rintro _ _ ⟨rfl, rfl⟩
  conv => whnf
  refine brec (fun h => ?_) (fun h => ?_)
  · have h : ¬ e = 0 := by simpa using h
    rw [if_neg h]
    conv => whnf
    exact ⟨by kernel_rfl, by kernel_rfl⟩
  have h : e = 0 := by simpa using h
  rw [if_pos h]
  conv => whnf
  subst h
  conv => whnf
  rw [if_pos rfl]
  exact ⟨by kernel_rfl, by kernel_rfl⟩

set_option maxRecDepth 20000 in
theorem fread_3 {s : ByteArray} (hm : s.size < 100000) (ht : (Rs.mk s 0).num 1 = 3) : CallR cx 35 [st s] [] fun v S => v = .tup [.d (readC s).1.fd.d, i64 (readC s).2] ∧ S = [] := by
  have hr : ((Rs.mk s 0).take 1).s.size ≤ s.size := take_size (Rs.mk s 0) 1
  have nu := rnum_c (r := Rs.mk s 0) (n := 1) (by decide) (by show s.size < _; omega)
  have hc : readC s = finC (((((Rs.mk s 0).take 1).txtR 48).txtR 256).take 8).sgR (.say (((Rs.mk s 0).take 1).txt 48) ((((Rs.mk s 0).take 1).txtR 48).txt 256) (((((Rs.mk s 0).take 1).txtR 48).txtR 256).num 8) (((((Rs.mk s 0).take 1).txtR 48).txtR 256).take 8).sg) 0 := by
    unfold readC
    simp only
    rw [ht, if_pos (by decide)]
    simp only [sgnQ]
  rw [hc]
  clear hc
  rw [ht] at nu
  have c0 := rtextR_c (r := ((Rs.mk s 0).take 1)) (m := 48) (by decide) (by decide) (by omega)
  have s0 := txtR_size ((Rs.mk s 0).take 1) 48
  have t0 := txt_le (r := ((Rs.mk s 0).take 1)) (m := 48) (by decide)
  have c1 := rtextR_c (r := (((Rs.mk s 0).take 1).txtR 48)) (m := 256) (by decide) (by decide) (by omega)
  have s1 := txtR_size (((Rs.mk s 0).take 1).txtR 48) 256
  have t1 := txt_le (r := (((Rs.mk s 0).take 1).txtR 48)) (m := 256) (by decide)
  have c2 := rnum_c (r := ((((Rs.mk s 0).take 1).txtR 48).txtR 256)) (n := 8) (by decide) (by omega)
  have s2 := take_size ((((Rs.mk s 0).take 1).txtR 48).txtR 256) 8
  have c3 := rsigR_c (r := (((((Rs.mk s 0).take 1).txtR 48).txtR 256).take 8)) (by omega)
  have s3 := sgR_size (((((Rs.mk s 0).take 1).txtR 48).txtR 256).take 8)
  have en := rend_c (r := (((((Rs.mk s 0).take 1).txtR 48).txtR 256).take 8).sgR)
  unfold finC
  generalize (((((Rs.mk s 0).take 1).txtR 48).txtR 256).take 8).sgR.out = e at *
  generalize (((((Rs.mk s 0).take 1).txtR 48).txtR 256).take 8).sgR.d = D4 at *
  generalize (((((Rs.mk s 0).take 1).txtR 48).txtR 256).take 8).sg = x3 at *
  obtain ⟨g0, g1, g2, g3⟩ := x3
  generalize (((((Rs.mk s 0).take 1).txtR 48).txtR 256).take 8).d = D3 at *
  generalize (((((Rs.mk s 0).take 1).txtR 48).txtR 256).num 8) = x2 at *
  generalize ((((Rs.mk s 0).take 1).txtR 48).txtR 256).d = D2 at *
  generalize ((((Rs.mk s 0).take 1).txtR 48).txt 256) = x1 at *
  generalize (((Rs.mk s 0).take 1).txtR 48).d = D1 at *
  generalize (((Rs.mk s 0).take 1).txt 48) = x0 at *
  generalize ((Rs.mk s 0).take 1).d = D0 at *
  refine callR_of (R := R1) cx_ok Tryd.func35 (by kernel_rfl) rfl ?_
  conv => whnf
  refine ⟨_, nu, ?_⟩
  rintro _ _ ⟨rfl, rfl⟩
  conv => whnf
  refine ⟨_, c0, ?_⟩
  rintro _ _ ⟨rfl, rfl⟩
  conv => whnf
  refine ⟨_, c1, ?_⟩
  rintro _ _ ⟨rfl, rfl⟩
  conv => whnf
  refine ⟨_, c2, ?_⟩
  rintro _ _ ⟨rfl, rfl⟩
  conv => whnf
  refine ⟨_, c3, ?_⟩
  rintro _ _ ⟨rfl, rfl⟩
  conv => whnf
  refine ⟨_, en, ?_⟩
  rintro _ _ ⟨rfl, rfl⟩
  conv => whnf
  refine brec (fun h => ?_) (fun h => ?_)
  · have h : ¬ e = 0 := by simpa using h
    rw [if_neg h]
    conv => whnf
    exact ⟨by kernel_rfl, by kernel_rfl⟩
  have h : e = 0 := by simpa using h
  rw [if_pos h]
  conv => whnf
  subst h
  conv => whnf
  rw [if_pos rfl]
  exact ⟨by kernel_rfl, by kernel_rfl⟩

set_option maxRecDepth 20000 in
theorem fread_4 {s : ByteArray} (hm : s.size < 100000) (ht : (Rs.mk s 0).num 1 = 4) : CallR cx 35 [st s] [] fun v S => v = .tup [.d (readC s).1.fd.d, i64 (readC s).2] ∧ S = [] := by
  have hr : ((Rs.mk s 0).take 1).s.size ≤ s.size := take_size (Rs.mk s 0) 1
  have nu := rnum_c (r := Rs.mk s 0) (n := 1) (by decide) (by show s.size < _; omega)
  have hc : readC s = finC (((((Rs.mk s 0).take 1).txtR 48).txtR 48).take 8).sgR (.tell (((Rs.mk s 0).take 1).txt 48) ((((Rs.mk s 0).take 1).txtR 48).txt 48) (((((Rs.mk s 0).take 1).txtR 48).txtR 48).num 8) (((((Rs.mk s 0).take 1).txtR 48).txtR 48).take 8).sg) 0 := by
    unfold readC
    simp only
    rw [ht, if_pos (by decide)]
    simp only [sgnQ]
  rw [hc]
  clear hc
  rw [ht] at nu
  have c0 := rtextR_c (r := ((Rs.mk s 0).take 1)) (m := 48) (by decide) (by decide) (by omega)
  have s0 := txtR_size ((Rs.mk s 0).take 1) 48
  have t0 := txt_le (r := ((Rs.mk s 0).take 1)) (m := 48) (by decide)
  have c1 := rtextR_c (r := (((Rs.mk s 0).take 1).txtR 48)) (m := 48) (by decide) (by decide) (by omega)
  have s1 := txtR_size (((Rs.mk s 0).take 1).txtR 48) 48
  have t1 := txt_le (r := (((Rs.mk s 0).take 1).txtR 48)) (m := 48) (by decide)
  have c2 := rnum_c (r := ((((Rs.mk s 0).take 1).txtR 48).txtR 48)) (n := 8) (by decide) (by omega)
  have s2 := take_size ((((Rs.mk s 0).take 1).txtR 48).txtR 48) 8
  have c3 := rsigR_c (r := (((((Rs.mk s 0).take 1).txtR 48).txtR 48).take 8)) (by omega)
  have s3 := sgR_size (((((Rs.mk s 0).take 1).txtR 48).txtR 48).take 8)
  have en := rend_c (r := (((((Rs.mk s 0).take 1).txtR 48).txtR 48).take 8).sgR)
  unfold finC
  generalize (((((Rs.mk s 0).take 1).txtR 48).txtR 48).take 8).sgR.out = e at *
  generalize (((((Rs.mk s 0).take 1).txtR 48).txtR 48).take 8).sgR.d = D4 at *
  generalize (((((Rs.mk s 0).take 1).txtR 48).txtR 48).take 8).sg = x3 at *
  obtain ⟨g0, g1, g2, g3⟩ := x3
  generalize (((((Rs.mk s 0).take 1).txtR 48).txtR 48).take 8).d = D3 at *
  generalize (((((Rs.mk s 0).take 1).txtR 48).txtR 48).num 8) = x2 at *
  generalize ((((Rs.mk s 0).take 1).txtR 48).txtR 48).d = D2 at *
  generalize ((((Rs.mk s 0).take 1).txtR 48).txt 48) = x1 at *
  generalize (((Rs.mk s 0).take 1).txtR 48).d = D1 at *
  generalize (((Rs.mk s 0).take 1).txt 48) = x0 at *
  generalize ((Rs.mk s 0).take 1).d = D0 at *
  refine callR_of (R := R1) cx_ok Tryd.func35 (by kernel_rfl) rfl ?_
  conv => whnf
  refine ⟨_, nu, ?_⟩
  rintro _ _ ⟨rfl, rfl⟩
  conv => whnf
  refine ⟨_, c0, ?_⟩
  rintro _ _ ⟨rfl, rfl⟩
  conv => whnf
  refine ⟨_, c1, ?_⟩
  rintro _ _ ⟨rfl, rfl⟩
  conv => whnf
  refine ⟨_, c2, ?_⟩
  rintro _ _ ⟨rfl, rfl⟩
  conv => whnf
  refine ⟨_, c3, ?_⟩
  rintro _ _ ⟨rfl, rfl⟩
  conv => whnf
  refine ⟨_, en, ?_⟩
  rintro _ _ ⟨rfl, rfl⟩
  conv => whnf
  refine brec (fun h => ?_) (fun h => ?_)
  · have h : ¬ e = 0 := by simpa using h
    rw [if_neg h]
    conv => whnf
    exact ⟨by kernel_rfl, by kernel_rfl⟩
  have h : e = 0 := by simpa using h
  rw [if_pos h]
  conv => whnf
  subst h
  conv => whnf
  rw [if_pos rfl]
  exact ⟨by kernel_rfl, by kernel_rfl⟩

set_option maxRecDepth 20000 in
theorem fread_5 {s : ByteArray} (hm : s.size < 100000) (ht : (Rs.mk s 0).num 1 = 5) : CallR cx 35 [st s] [] fun v S => v = .tup [.d (readC s).1.fd.d, i64 (readC s).2] ∧ S = [] := by
  have hr : ((Rs.mk s 0).take 1).s.size ≤ s.size := take_size (Rs.mk s 0) 1
  have nu := rnum_c (r := Rs.mk s 0) (n := 1) (by decide) (by show s.size < _; omega)
  have hc : readC s = finC (((Rs.mk s 0).take 1).txtR 4096) (.submit (readU (((Rs.mk s 0).take 1).txt 4096)).1) (readU (((Rs.mk s 0).take 1).txt 4096)).2 := by
    unfold readC
    simp only
    rw [ht, if_neg (by decide), if_pos rfl]
  rw [hc]
  clear hc
  rw [ht] at nu
  have c0 := rtextR_c (r := ((Rs.mk s 0).take 1)) (m := 4096) (by decide) (by decide) (by omega)
  have s0 := txtR_size ((Rs.mk s 0).take 1) 4096
  have t0 := txt_le (r := ((Rs.mk s 0).take 1)) (m := 4096) (by decide)
  have en := rend_c (r := (((Rs.mk s 0).take 1).txtR 4096))
  unfold finC
  generalize (((Rs.mk s 0).take 1).txtR 4096).out = e at *
  generalize (((Rs.mk s 0).take 1).txtR 4096).d = D1 at *
  generalize (((Rs.mk s 0).take 1).txt 4096) = x0 at *
  generalize ((Rs.mk s 0).take 1).d = D0 at *
  have l0 := rread_up (s := x0) (by omega)
  generalize (readU x0).1 = U0 at *
  generalize (readU x0).2 = e0 at *
  obtain ⟨u0a, u0b, u0c, ⟨u0d, u0e, u0f, u0g⟩⟩ := U0
  refine callR_of (R := R1) cx_ok Tryd.func35 (by kernel_rfl) rfl ?_
  conv => whnf
  refine ⟨_, nu, ?_⟩
  rintro _ _ ⟨rfl, rfl⟩
  conv => whnf
  refine ⟨_, c0, ?_⟩
  rintro _ _ ⟨rfl, rfl⟩
  conv => whnf
  refine ⟨_, en, ?_⟩
  rintro _ _ ⟨rfl, rfl⟩
  conv => whnf
  refine brec (fun h => ?_) (fun h => ?_)
  · have h : ¬ e = 0 := by simpa using h
    rw [if_neg h]
    conv => whnf
    exact ⟨by kernel_rfl, by kernel_rfl⟩
  have h : e = 0 := by simpa using h
  rw [if_pos h]
  conv => whnf
  refine ⟨_, l0, ?_⟩
  rintro _ _ ⟨rfl, rfl⟩
  conv => whnf
  refine brec (fun g => ?_) (fun g => ?_)
  · have g : e0 = 0 := by simpa using g
    rw [if_pos g]
    conv => whnf
    exact ⟨by kernel_rfl, by kernel_rfl⟩
  · have g : ¬ e0 = 0 := by simpa using g
    rw [if_neg g]
    conv => whnf
    refine brT (bne_iff_ne.2 g) ?_
    conv => whnf
    exact ⟨by kernel_rfl, by kernel_rfl⟩

set_option maxRecDepth 20000 in
theorem fread_6 {s : ByteArray} (hm : s.size < 100000) (ht : (Rs.mk s 0).num 1 = 6) : CallR cx 35 [st s] [] fun v S => v = .tup [.d (readC s).1.fd.d, i64 (readC s).2] ∧ S = [] := by
  have hr : ((Rs.mk s 0).take 1).s.size ≤ s.size := take_size (Rs.mk s 0) 1
  have nu := rnum_c (r := Rs.mk s 0) (n := 1) (by decide) (by show s.size < _; omega)
  have hc : readC s = finC ((((Rs.mk s 0).take 1).txtR 4096).txtR 48) (.improp (readU (((Rs.mk s 0).take 1).txt 4096)).1 ((((Rs.mk s 0).take 1).txtR 4096).txt 48)) (readU (((Rs.mk s 0).take 1).txt 4096)).2 := by
    unfold readC
    simp only
    rw [ht, if_neg (by decide), if_neg (by decide), if_pos rfl]
  rw [hc]
  clear hc
  rw [ht] at nu
  have c0 := rtextR_c (r := ((Rs.mk s 0).take 1)) (m := 4096) (by decide) (by decide) (by omega)
  have s0 := txtR_size ((Rs.mk s 0).take 1) 4096
  have t0 := txt_le (r := ((Rs.mk s 0).take 1)) (m := 4096) (by decide)
  have c1 := rtextR_c (r := (((Rs.mk s 0).take 1).txtR 4096)) (m := 48) (by decide) (by decide) (by omega)
  have s1 := txtR_size (((Rs.mk s 0).take 1).txtR 4096) 48
  have t1 := txt_le (r := (((Rs.mk s 0).take 1).txtR 4096)) (m := 48) (by decide)
  have en := rend_c (r := ((((Rs.mk s 0).take 1).txtR 4096).txtR 48))
  unfold finC
  generalize ((((Rs.mk s 0).take 1).txtR 4096).txtR 48).out = e at *
  generalize ((((Rs.mk s 0).take 1).txtR 4096).txtR 48).d = D2 at *
  generalize ((((Rs.mk s 0).take 1).txtR 4096).txt 48) = x1 at *
  generalize (((Rs.mk s 0).take 1).txtR 4096).d = D1 at *
  generalize (((Rs.mk s 0).take 1).txt 4096) = x0 at *
  generalize ((Rs.mk s 0).take 1).d = D0 at *
  have l0 := rread_up (s := x0) (by omega)
  generalize (readU x0).1 = U0 at *
  generalize (readU x0).2 = e0 at *
  obtain ⟨u0a, u0b, u0c, ⟨u0d, u0e, u0f, u0g⟩⟩ := U0
  refine callR_of (R := R1) cx_ok Tryd.func35 (by kernel_rfl) rfl ?_
  conv => whnf
  refine ⟨_, nu, ?_⟩
  rintro _ _ ⟨rfl, rfl⟩
  conv => whnf
  refine ⟨_, c0, ?_⟩
  rintro _ _ ⟨rfl, rfl⟩
  conv => whnf
  refine ⟨_, c1, ?_⟩
  rintro _ _ ⟨rfl, rfl⟩
  conv => whnf
  refine ⟨_, en, ?_⟩
  rintro _ _ ⟨rfl, rfl⟩
  conv => whnf
  refine brec (fun h => ?_) (fun h => ?_)
  · have h : ¬ e = 0 := by simpa using h
    rw [if_neg h]
    conv => whnf
    exact ⟨by kernel_rfl, by kernel_rfl⟩
  have h : e = 0 := by simpa using h
  rw [if_pos h]
  conv => whnf
  refine ⟨_, l0, ?_⟩
  rintro _ _ ⟨rfl, rfl⟩
  conv => whnf
  refine brec (fun g => ?_) (fun g => ?_)
  · have g : e0 = 0 := by simpa using g
    rw [if_pos g]
    conv => whnf
    exact ⟨by kernel_rfl, by kernel_rfl⟩
  · have g : ¬ e0 = 0 := by simpa using g
    rw [if_neg g]
    conv => whnf
    refine brT (bne_iff_ne.2 g) ?_
    conv => whnf
    exact ⟨by kernel_rfl, by kernel_rfl⟩

set_option maxRecDepth 20000 in
theorem fread_7 {s : ByteArray} (hm : s.size < 100000) (ht : (Rs.mk s 0).num 1 = 7) : CallR cx 35 [st s] [] fun v S => v = .tup [.d (readC s).1.fd.d, i64 (readC s).2] ∧ S = [] := by
  have hr : ((Rs.mk s 0).take 1).s.size ≤ s.size := take_size (Rs.mk s 0) 1
  have nu := rnum_c (r := Rs.mk s 0) (n := 1) (by decide) (by show s.size < _; omega)
  have hc : readC s = finC (((((Rs.mk s 0).take 1).txtR 4096).txtR 4096).txtR 48) (.double (readU (((Rs.mk s 0).take 1).txt 4096)).1 (readU ((((Rs.mk s 0).take 1).txtR 4096).txt 4096)).1 (((((Rs.mk s 0).take 1).txtR 4096).txtR 4096).txt 48)) (fst (readU (((Rs.mk s 0).take 1).txt 4096)).2 (readU ((((Rs.mk s 0).take 1).txtR 4096).txt 4096)).2) := by
    unfold readC
    simp only
    rw [ht, if_neg (by decide), if_neg (by decide), if_neg (by decide), if_pos rfl]
  rw [hc]
  clear hc
  rw [ht] at nu
  have c0 := rtextR_c (r := ((Rs.mk s 0).take 1)) (m := 4096) (by decide) (by decide) (by omega)
  have s0 := txtR_size ((Rs.mk s 0).take 1) 4096
  have t0 := txt_le (r := ((Rs.mk s 0).take 1)) (m := 4096) (by decide)
  have c1 := rtextR_c (r := (((Rs.mk s 0).take 1).txtR 4096)) (m := 4096) (by decide) (by decide) (by omega)
  have s1 := txtR_size (((Rs.mk s 0).take 1).txtR 4096) 4096
  have t1 := txt_le (r := (((Rs.mk s 0).take 1).txtR 4096)) (m := 4096) (by decide)
  have c2 := rtextR_c (r := ((((Rs.mk s 0).take 1).txtR 4096).txtR 4096)) (m := 48) (by decide) (by decide) (by omega)
  have s2 := txtR_size ((((Rs.mk s 0).take 1).txtR 4096).txtR 4096) 48
  have t2 := txt_le (r := ((((Rs.mk s 0).take 1).txtR 4096).txtR 4096)) (m := 48) (by decide)
  have en := rend_c (r := (((((Rs.mk s 0).take 1).txtR 4096).txtR 4096).txtR 48))
  unfold finC
  generalize (((((Rs.mk s 0).take 1).txtR 4096).txtR 4096).txtR 48).out = e at *
  generalize (((((Rs.mk s 0).take 1).txtR 4096).txtR 4096).txtR 48).d = D3 at *
  generalize (((((Rs.mk s 0).take 1).txtR 4096).txtR 4096).txt 48) = x2 at *
  generalize ((((Rs.mk s 0).take 1).txtR 4096).txtR 4096).d = D2 at *
  generalize ((((Rs.mk s 0).take 1).txtR 4096).txt 4096) = x1 at *
  generalize (((Rs.mk s 0).take 1).txtR 4096).d = D1 at *
  generalize (((Rs.mk s 0).take 1).txt 4096) = x0 at *
  generalize ((Rs.mk s 0).take 1).d = D0 at *
  have l0 := rread_up (s := x0) (by omega)
  have l1 := rread_up (s := x1) (by omega)
  generalize (readU x0).1 = U0 at *
  generalize (readU x0).2 = e0 at *
  obtain ⟨u0a, u0b, u0c, ⟨u0d, u0e, u0f, u0g⟩⟩ := U0
  generalize (readU x1).1 = U1 at *
  generalize (readU x1).2 = e1 at *
  obtain ⟨u1a, u1b, u1c, ⟨u1d, u1e, u1f, u1g⟩⟩ := U1
  refine callR_of (R := R1) cx_ok Tryd.func35 (by kernel_rfl) rfl ?_
  conv => whnf
  refine ⟨_, nu, ?_⟩
  rintro _ _ ⟨rfl, rfl⟩
  conv => whnf
  refine ⟨_, c0, ?_⟩
  rintro _ _ ⟨rfl, rfl⟩
  conv => whnf
  refine ⟨_, c1, ?_⟩
  rintro _ _ ⟨rfl, rfl⟩
  conv => whnf
  refine ⟨_, c2, ?_⟩
  rintro _ _ ⟨rfl, rfl⟩
  conv => whnf
  refine ⟨_, en, ?_⟩
  rintro _ _ ⟨rfl, rfl⟩
  conv => whnf
  refine brec (fun h => ?_) (fun h => ?_)
  · have h : ¬ e = 0 := by simpa using h
    rw [if_neg h]
    conv => whnf
    exact ⟨by kernel_rfl, by kernel_rfl⟩
  have h : e = 0 := by simpa using h
  rw [if_pos h]
  conv => whnf
  refine ⟨_, l0, ?_⟩
  rintro _ _ ⟨rfl, rfl⟩
  conv => whnf
  refine ⟨_, l1, ?_⟩
  rintro _ _ ⟨rfl, rfl⟩
  conv => whnf
  unfold fst
  refine brec (fun g => ?_) (fun g => ?_)
  · have g : e0 = 0 := by simpa using g
    rw [if_pos g]
    conv => whnf
    refine brec (fun g2 => ?_) (fun g2 => ?_)
    · have g2 : ¬ e1 = 0 := by simpa using g2
      rw [if_neg g2]
      conv => whnf
      exact ⟨by kernel_rfl, by kernel_rfl⟩
    · have g2 : e1 = 0 := by simpa using g2
      rw [if_pos g2]
      conv => whnf
      exact ⟨by kernel_rfl, by kernel_rfl⟩
  · have g : ¬ e0 = 0 := by simpa using g
    rw [if_neg g, if_neg g]
    conv => whnf
    refine brT (bne_iff_ne.2 g) ?_
    conv => whnf
    exact ⟨by kernel_rfl, by kernel_rfl⟩

set_option maxRecDepth 20000 in
theorem fread_8 {s : ByteArray} (hm : s.size < 100000) (ht : (Rs.mk s 0).num 1 = 8) : CallR cx 35 [st s] [] fun v S => v = .tup [.d (readC s).1.fd.d, i64 (readC s).2] ∧ S = [] := by
  have hr : ((Rs.mk s 0).take 1).s.size ≤ s.size := take_size (Rs.mk s 0) 1
  have nu := rnum_c (r := Rs.mk s 0) (n := 1) (by decide) (by show s.size < _; omega)
  have hc : readC s = finC (((Rs.mk s 0).take 1).txtR 4096) (.accept (readU (((Rs.mk s 0).take 1).txt 4096)).1) (readU (((Rs.mk s 0).take 1).txt 4096)).2 := by
    unfold readC
    simp only
    rw [ht, if_neg (by decide), if_neg (by decide), if_neg (by decide), if_neg (by decide), if_pos rfl]
  rw [hc]
  clear hc
  rw [ht] at nu
  have c0 := rtextR_c (r := ((Rs.mk s 0).take 1)) (m := 4096) (by decide) (by decide) (by omega)
  have s0 := txtR_size ((Rs.mk s 0).take 1) 4096
  have t0 := txt_le (r := ((Rs.mk s 0).take 1)) (m := 4096) (by decide)
  have en := rend_c (r := (((Rs.mk s 0).take 1).txtR 4096))
  unfold finC
  generalize (((Rs.mk s 0).take 1).txtR 4096).out = e at *
  generalize (((Rs.mk s 0).take 1).txtR 4096).d = D1 at *
  generalize (((Rs.mk s 0).take 1).txt 4096) = x0 at *
  generalize ((Rs.mk s 0).take 1).d = D0 at *
  have l0 := rread_up (s := x0) (by omega)
  generalize (readU x0).1 = U0 at *
  generalize (readU x0).2 = e0 at *
  obtain ⟨u0a, u0b, u0c, ⟨u0d, u0e, u0f, u0g⟩⟩ := U0
  refine callR_of (R := R1) cx_ok Tryd.func35 (by kernel_rfl) rfl ?_
  conv => whnf
  refine ⟨_, nu, ?_⟩
  rintro _ _ ⟨rfl, rfl⟩
  conv => whnf
  refine ⟨_, c0, ?_⟩
  rintro _ _ ⟨rfl, rfl⟩
  conv => whnf
  refine ⟨_, en, ?_⟩
  rintro _ _ ⟨rfl, rfl⟩
  conv => whnf
  refine brec (fun h => ?_) (fun h => ?_)
  · have h : ¬ e = 0 := by simpa using h
    rw [if_neg h]
    conv => whnf
    exact ⟨by kernel_rfl, by kernel_rfl⟩
  have h : e = 0 := by simpa using h
  rw [if_pos h]
  conv => whnf
  refine ⟨_, l0, ?_⟩
  rintro _ _ ⟨rfl, rfl⟩
  conv => whnf
  refine brec (fun g => ?_) (fun g => ?_)
  · have g : e0 = 0 := by simpa using g
    rw [if_pos g]
    conv => whnf
    exact ⟨by kernel_rfl, by kernel_rfl⟩
  · have g : ¬ e0 = 0 := by simpa using g
    rw [if_neg g]
    conv => whnf
    refine brT (bne_iff_ne.2 g) ?_
    conv => whnf
    exact ⟨by kernel_rfl, by kernel_rfl⟩

set_option maxRecDepth 20000 in
theorem fread_9 {s : ByteArray} (hm : s.size < 100000) (ht : (Rs.mk s 0).num 1 = 9) : CallR cx 35 [st s] [] fun v S => v = .tup [.d (readC s).1.fd.d, i64 (readC s).2] ∧ S = [] := by
  have hr : ((Rs.mk s 0).take 1).s.size ≤ s.size := take_size (Rs.mk s 0) 1
  have nu := rnum_c (r := Rs.mk s 0) (n := 1) (by decide) (by show s.size < _; omega)
  have hc : readC s = finC ((((Rs.mk s 0).take 1).txtR 4096).txtR 4096) (.doubled (readU (((Rs.mk s 0).take 1).txt 4096)).1 (readU ((((Rs.mk s 0).take 1).txtR 4096).txt 4096)).1) (fst (readU (((Rs.mk s 0).take 1).txt 4096)).2 (readU ((((Rs.mk s 0).take 1).txtR 4096).txt 4096)).2) := by
    unfold readC
    simp only
    rw [ht, if_neg (by decide), if_neg (by decide), if_neg (by decide), if_neg (by decide), if_neg (by decide), if_pos rfl]
  rw [hc]
  clear hc
  rw [ht] at nu
  have c0 := rtextR_c (r := ((Rs.mk s 0).take 1)) (m := 4096) (by decide) (by decide) (by omega)
  have s0 := txtR_size ((Rs.mk s 0).take 1) 4096
  have t0 := txt_le (r := ((Rs.mk s 0).take 1)) (m := 4096) (by decide)
  have c1 := rtextR_c (r := (((Rs.mk s 0).take 1).txtR 4096)) (m := 4096) (by decide) (by decide) (by omega)
  have s1 := txtR_size (((Rs.mk s 0).take 1).txtR 4096) 4096
  have t1 := txt_le (r := (((Rs.mk s 0).take 1).txtR 4096)) (m := 4096) (by decide)
  have en := rend_c (r := ((((Rs.mk s 0).take 1).txtR 4096).txtR 4096))
  unfold finC
  generalize ((((Rs.mk s 0).take 1).txtR 4096).txtR 4096).out = e at *
  generalize ((((Rs.mk s 0).take 1).txtR 4096).txtR 4096).d = D2 at *
  generalize ((((Rs.mk s 0).take 1).txtR 4096).txt 4096) = x1 at *
  generalize (((Rs.mk s 0).take 1).txtR 4096).d = D1 at *
  generalize (((Rs.mk s 0).take 1).txt 4096) = x0 at *
  generalize ((Rs.mk s 0).take 1).d = D0 at *
  have l0 := rread_up (s := x0) (by omega)
  have l1 := rread_up (s := x1) (by omega)
  generalize (readU x0).1 = U0 at *
  generalize (readU x0).2 = e0 at *
  obtain ⟨u0a, u0b, u0c, ⟨u0d, u0e, u0f, u0g⟩⟩ := U0
  generalize (readU x1).1 = U1 at *
  generalize (readU x1).2 = e1 at *
  obtain ⟨u1a, u1b, u1c, ⟨u1d, u1e, u1f, u1g⟩⟩ := U1
  refine callR_of (R := R1) cx_ok Tryd.func35 (by kernel_rfl) rfl ?_
  conv => whnf
  refine ⟨_, nu, ?_⟩
  rintro _ _ ⟨rfl, rfl⟩
  conv => whnf
  refine ⟨_, c0, ?_⟩
  rintro _ _ ⟨rfl, rfl⟩
  conv => whnf
  refine ⟨_, c1, ?_⟩
  rintro _ _ ⟨rfl, rfl⟩
  conv => whnf
  refine ⟨_, en, ?_⟩
  rintro _ _ ⟨rfl, rfl⟩
  conv => whnf
  refine brec (fun h => ?_) (fun h => ?_)
  · have h : ¬ e = 0 := by simpa using h
    rw [if_neg h]
    conv => whnf
    exact ⟨by kernel_rfl, by kernel_rfl⟩
  have h : e = 0 := by simpa using h
  rw [if_pos h]
  conv => whnf
  refine ⟨_, l0, ?_⟩
  rintro _ _ ⟨rfl, rfl⟩
  conv => whnf
  refine ⟨_, l1, ?_⟩
  rintro _ _ ⟨rfl, rfl⟩
  conv => whnf
  unfold fst
  refine brec (fun g => ?_) (fun g => ?_)
  · have g : e0 = 0 := by simpa using g
    rw [if_pos g]
    conv => whnf
    refine brec (fun g2 => ?_) (fun g2 => ?_)
    · have g2 : ¬ e1 = 0 := by simpa using g2
      rw [if_neg g2]
      conv => whnf
      exact ⟨by kernel_rfl, by kernel_rfl⟩
    · have g2 : e1 = 0 := by simpa using g2
      rw [if_pos g2]
      conv => whnf
      exact ⟨by kernel_rfl, by kernel_rfl⟩
  · have g : ¬ e0 = 0 := by simpa using g
    rw [if_neg g, if_neg g]
    conv => whnf
    refine brT (bne_iff_ne.2 g) ?_
    conv => whnf
    exact ⟨by kernel_rfl, by kernel_rfl⟩

set_option maxRecDepth 20000 in
theorem fread_10 {s : ByteArray} (hm : s.size < 100000) (ht : (Rs.mk s 0).num 1 = 10) : CallR cx 35 [st s] [] fun v S => v = .tup [.d (readC s).1.fd.d, i64 (readC s).2] ∧ S = [] := by
  have hr : ((Rs.mk s 0).take 1).s.size ≤ s.size := take_size (Rs.mk s 0) 1
  have nu := rnum_c (r := Rs.mk s 0) (n := 1) (by decide) (by show s.size < _; omega)
  have hc : readC s = finC (((Rs.mk s 0).take 1).txtR 4096) (.halt (readS (((Rs.mk s 0).take 1).txt 4096)).1) (readS (((Rs.mk s 0).take 1).txt 4096)).2 := by
    unfold readC
    simp only
    rw [ht, if_neg (by decide), if_neg (by decide), if_neg (by decide), if_neg (by decide), if_neg (by decide), if_neg (by decide), if_pos rfl]
  rw [hc]
  clear hc
  rw [ht] at nu
  have c0 := rtextR_c (r := ((Rs.mk s 0).take 1)) (m := 4096) (by decide) (by decide) (by omega)
  have s0 := txtR_size ((Rs.mk s 0).take 1) 4096
  have t0 := txt_le (r := ((Rs.mk s 0).take 1)) (m := 4096) (by decide)
  have en := rend_c (r := (((Rs.mk s 0).take 1).txtR 4096))
  unfold finC
  generalize (((Rs.mk s 0).take 1).txtR 4096).out = e at *
  generalize (((Rs.mk s 0).take 1).txtR 4096).d = D1 at *
  generalize (((Rs.mk s 0).take 1).txt 4096) = x0 at *
  generalize ((Rs.mk s 0).take 1).d = D0 at *
  have l0 := rread_sp (s := x0) (by omega)
  generalize (readS x0).1 = U0 at *
  generalize (readS x0).2 = e0 at *
  obtain ⟨u0a, u0b, u0c, ⟨u0d, u0e, u0f, u0g⟩⟩ := U0
  refine callR_of (R := R1) cx_ok Tryd.func35 (by kernel_rfl) rfl ?_
  conv => whnf
  refine ⟨_, nu, ?_⟩
  rintro _ _ ⟨rfl, rfl⟩
  conv => whnf
  refine ⟨_, c0, ?_⟩
  rintro _ _ ⟨rfl, rfl⟩
  conv => whnf
  refine ⟨_, en, ?_⟩
  rintro _ _ ⟨rfl, rfl⟩
  conv => whnf
  refine brec (fun h => ?_) (fun h => ?_)
  · have h : ¬ e = 0 := by simpa using h
    rw [if_neg h]
    conv => whnf
    exact ⟨by kernel_rfl, by kernel_rfl⟩
  have h : e = 0 := by simpa using h
  rw [if_pos h]
  conv => whnf
  refine ⟨_, l0, ?_⟩
  rintro _ _ ⟨rfl, rfl⟩
  conv => whnf
  refine brec (fun g => ?_) (fun g => ?_)
  · have g : e0 = 0 := by simpa using g
    rw [if_pos g]
    conv => whnf
    exact ⟨by kernel_rfl, by kernel_rfl⟩
  · have g : ¬ e0 = 0 := by simpa using g
    rw [if_neg g]
    conv => whnf
    refine brT (bne_iff_ne.2 g) ?_
    conv => whnf
    exact ⟨by kernel_rfl, by kernel_rfl⟩

set_option maxRecDepth 20000 in
theorem fread_11 {s : ByteArray} (hm : s.size < 100000) (ht : (Rs.mk s 0).num 1 = 11) : CallR cx 35 [st s] [] fun v S => v = .tup [.d (readC s).1.fd.d, i64 (readC s).2] ∧ S = [] := by
  have hr : ((Rs.mk s 0).take 1).s.size ≤ s.size := take_size (Rs.mk s 0) 1
  have nu := rnum_c (r := Rs.mk s 0) (n := 1) (by decide) (by show s.size < _; omega)
  have hc : readC s = finC (((((Rs.mk s 0).take 1).take 32).take 4).dglR 64) (.prove ((Rs.mk s 0).take 1).dig ((((Rs.mk s 0).take 1).take 32).num 4) (((((Rs.mk s 0).take 1).take 32).take 4).dgl 64)) 0 := by
    unfold readC
    simp only
    rw [ht, if_neg (by decide), if_neg (by decide), if_neg (by decide), if_neg (by decide), if_neg (by decide), if_neg (by decide), if_neg (by decide), if_pos rfl]
  rw [hc]
  clear hc
  rw [ht] at nu
  have c0 := rdigR_c (r := ((Rs.mk s 0).take 1))
  have s0 := take_size ((Rs.mk s 0).take 1) 32
  have c1 := rnum_c (r := (((Rs.mk s 0).take 1).take 32)) (n := 4) (by decide) (by omega)
  have s1 := take_size (((Rs.mk s 0).take 1).take 32) 4
  have n1 := num4_lt (((Rs.mk s 0).take 1).take 32)
  have w1 : IntKind.u32.wrap ((((((Rs.mk s 0).take 1).take 32).num 4) : Nat) : Int) = ((((((Rs.mk s 0).take 1).take 32).num 4) : Nat) : Int) := wrap32 (by omega)
  have c2 := rdgsR_c (r := ((((Rs.mk s 0).take 1).take 32).take 4)) (m := 64) (by decide) (by decide) (by omega)
  have s2 := dglR_size ((((Rs.mk s 0).take 1).take 32).take 4) 64
  have en := rend_c (r := (((((Rs.mk s 0).take 1).take 32).take 4).dglR 64))
  unfold finC
  generalize (((((Rs.mk s 0).take 1).take 32).take 4).dglR 64).out = e at *
  generalize (((((Rs.mk s 0).take 1).take 32).take 4).dglR 64).d = D3 at *
  generalize (((((Rs.mk s 0).take 1).take 32).take 4).dgl 64) = x2 at *
  generalize ((((Rs.mk s 0).take 1).take 32).take 4).d = D2 at *
  generalize ((((Rs.mk s 0).take 1).take 32).num 4) = x1 at *
  generalize (((Rs.mk s 0).take 1).take 32).d = D1 at *
  generalize ((Rs.mk s 0).take 1).dig = x0 at *
  generalize ((Rs.mk s 0).take 1).d = D0 at *
  refine callR_of (R := R1) cx_ok Tryd.func35 (by kernel_rfl) rfl ?_
  conv => whnf
  refine ⟨_, nu, ?_⟩
  rintro _ _ ⟨rfl, rfl⟩
  conv => whnf
  refine ⟨_, c0, ?_⟩
  rintro _ _ ⟨rfl, rfl⟩
  conv => whnf
  refine ⟨_, c1, ?_⟩
  rintro _ _ ⟨rfl, rfl⟩
  conv => whnf
  rw [w1]
  refine ⟨_, c2, ?_⟩
  rintro _ _ ⟨rfl, rfl⟩
  conv => whnf
  refine ⟨_, en, ?_⟩
  rintro _ _ ⟨rfl, rfl⟩
  conv => whnf
  refine brec (fun h => ?_) (fun h => ?_)
  · have h : ¬ e = 0 := by simpa using h
    rw [if_neg h]
    conv => whnf
    exact ⟨by kernel_rfl, by kernel_rfl⟩
  have h : e = 0 := by simpa using h
  rw [if_pos h]
  conv => whnf
  subst h
  conv => whnf
  rw [if_pos rfl]
  exact ⟨by kernel_rfl, by kernel_rfl⟩

set_option maxRecDepth 20000 in
theorem fread_12 {s : ByteArray} (hm : s.size < 100000) (ht : (Rs.mk s 0).num 1 = 12) : CallR cx 35 [st s] [] fun v S => v = .tup [.d (readC s).1.fd.d, i64 (readC s).2] ∧ S = [] := by
  have hr : ((Rs.mk s 0).take 1).s.size ≤ s.size := take_size (Rs.mk s 0) 1
  have nu := rnum_c (r := Rs.mk s 0) (n := 1) (by decide) (by show s.size < _; omega)
  have hc : readC s = finC (((Rs.mk s 0).take 1).txtR 512) (.process (readL (((Rs.mk s 0).take 1).txt 512)).1) (readL (((Rs.mk s 0).take 1).txt 512)).2 := by
    unfold readC
    simp only
    rw [ht, if_neg (by decide), if_neg (by decide), if_neg (by decide), if_neg (by decide), if_neg (by decide), if_neg (by decide), if_neg (by decide), if_neg (by decide), if_pos rfl]
  rw [hc]
  clear hc
  rw [ht] at nu
  have c0 := rtextR_c (r := ((Rs.mk s 0).take 1)) (m := 512) (by decide) (by decide) (by omega)
  have s0 := txtR_size ((Rs.mk s 0).take 1) 512
  have t0 := txt_le (r := ((Rs.mk s 0).take 1)) (m := 512) (by decide)
  have en := rend_c (r := (((Rs.mk s 0).take 1).txtR 512))
  unfold finC
  generalize (((Rs.mk s 0).take 1).txtR 512).out = e at *
  generalize (((Rs.mk s 0).take 1).txtR 512).d = D1 at *
  generalize (((Rs.mk s 0).take 1).txt 512) = x0 at *
  generalize ((Rs.mk s 0).take 1).d = D0 at *
  have l0 := rread_le (s := x0) (by omega)
  generalize (readL x0).1 = U0 at *
  generalize (readL x0).2 = e0 at *
  obtain ⟨u0a, u0b, u0c, u0d, u0e, u0f⟩ := U0
  refine callR_of (R := R1) cx_ok Tryd.func35 (by kernel_rfl) rfl ?_
  conv => whnf
  refine ⟨_, nu, ?_⟩
  rintro _ _ ⟨rfl, rfl⟩
  conv => whnf
  refine ⟨_, c0, ?_⟩
  rintro _ _ ⟨rfl, rfl⟩
  conv => whnf
  refine ⟨_, en, ?_⟩
  rintro _ _ ⟨rfl, rfl⟩
  conv => whnf
  refine brec (fun h => ?_) (fun h => ?_)
  · have h : ¬ e = 0 := by simpa using h
    rw [if_neg h]
    conv => whnf
    exact ⟨by kernel_rfl, by kernel_rfl⟩
  have h : e = 0 := by simpa using h
  rw [if_pos h]
  conv => whnf
  refine ⟨_, l0, ?_⟩
  rintro _ _ ⟨rfl, rfl⟩
  conv => whnf
  refine brec (fun g => ?_) (fun g => ?_)
  · have g : e0 = 0 := by simpa using g
    rw [if_pos g]
    conv => whnf
    exact ⟨by kernel_rfl, by kernel_rfl⟩
  · have g : ¬ e0 = 0 := by simpa using g
    rw [if_neg g]
    conv => whnf
    refine brT (bne_iff_ne.2 g) ?_
    conv => whnf
    exact ⟨by kernel_rfl, by kernel_rfl⟩

set_option maxRecDepth 20000 in
theorem fread_0 {s : ByteArray} (hm : s.size < 100000) (ht : (Rs.mk s 0).num 1 = 0) : CallR cx 35 [st s] [] fun v S => v = .tup [.d (readC s).1.fd.d, i64 (readC s).2] ∧ S = [] := by
  have hr : ((Rs.mk s 0).take 1).s.size ≤ s.size := take_size (Rs.mk s 0) 1
  have nu := rnum_c (r := Rs.mk s 0) (n := 1) (by decide) (by show s.size < _; omega)
  have hc : readC s = (.no, (((Rs.mk s 0).take 1).fail 4).out) := by
    unfold readC
    simp only
    rw [if_neg (by omega), if_neg (by omega), if_neg (by omega), if_neg (by omega), if_neg (by omega), if_neg (by omega), if_neg (by omega), if_neg (by omega), if_neg (by omega)]
  rw [hc]
  clear hc
  rw [ht] at nu
  have fa := rfail_c (r := ((Rs.mk s 0).take 1)) (f := 4)
  have hf : (((Rs.mk s 0).take 1).fail 4).e ≠ 0 := fail_no (by decide)
  have en := rend_c (r := ((Rs.mk s 0).take 1).fail 4)
  have ho : (((Rs.mk s 0).take 1).fail 4).out ≠ 0 := by
    unfold Rs.out
    rw [if_neg hf]
    exact hf
  have c0 := rnum_c (r := ((Rs.mk s 0).take 1).fail 4) (n := 8) (by decide) (by rw [fail_size]; omega)
  rw [bad_num hf, bad_take hf] at c0
  have c1 := rsigR_c (r := ((Rs.mk s 0).take 1).fail 4) (by rw [fail_size]; omega)
  rw [bad_sgR hf] at c1
  generalize (((Rs.mk s 0).take 1).fail 4).sg = x1 at *
  obtain ⟨g0, g1, g2, g3⟩ := x1
  clear hf
  generalize (((Rs.mk s 0).take 1).fail 4).out = e at *
  generalize (((Rs.mk s 0).take 1).fail 4).d = D1 at *
  generalize ((Rs.mk s 0).take 1).d = D0 at *
  refine callR_of (R := R1) cx_ok Tryd.func35 (by kernel_rfl) rfl ?_
  conv => whnf
  refine ⟨_, nu, ?_⟩
  rintro _ _ ⟨rfl, rfl⟩
  conv => whnf
  refine ⟨_, fa, ?_⟩
  rintro _ _ ⟨rfl, rfl⟩
  conv => whnf
  refine ⟨_, c0, ?_⟩
  rintro _ _ ⟨rfl, rfl⟩
  conv => whnf
  refine ⟨_, c1, ?_⟩
  rintro _ _ ⟨rfl, rfl⟩
  conv => whnf
  refine ⟨_, en, ?_⟩
  rintro _ _ ⟨rfl, rfl⟩
  conv => whnf
  refine brT (bne_iff_ne.2 ho) ?_
  conv => whnf
  exact ⟨by kernel_rfl, by kernel_rfl⟩

set_option maxRecDepth 20000 in
theorem fread_13 {s : ByteArray} (hm : s.size < 100000) (ht : 12 < (Rs.mk s 0).num 1) : CallR cx 35 [st s] [] fun v S => v = .tup [.d (readC s).1.fd.d, i64 (readC s).2] ∧ S = [] := by
  have hr : ((Rs.mk s 0).take 1).s.size ≤ s.size := take_size (Rs.mk s 0) 1
  have nu := rnum_c (r := Rs.mk s 0) (n := 1) (by decide) (by show s.size < _; omega)
  have hc : readC s = (.no, (((Rs.mk s 0).take 1).fail 4).out) := by
    unfold readC
    simp only
    rw [if_neg (by omega), if_neg (by omega), if_neg (by omega), if_neg (by omega), if_neg (by omega), if_neg (by omega), if_neg (by omega), if_neg (by omega), if_neg (by omega)]
  rw [hc]
  clear hc
  have fa := rfail_c (r := ((Rs.mk s 0).take 1)) (f := 4)
  have hf : (((Rs.mk s 0).take 1).fail 4).e ≠ 0 := fail_no (by decide)
  have en := rend_c (r := ((Rs.mk s 0).take 1).fail 4)
  have ho : (((Rs.mk s 0).take 1).fail 4).out ≠ 0 := by
    unfold Rs.out
    rw [if_neg hf]
    exact hf
  clear hf
  have t256 := num1_lt (Rs.mk s 0)
  have hK : IntKind.i64.wrap (((Rs.mk s 0).num 1 : Nat) : Int) = (((Rs.mk s 0).num 1 : Nat) : Int) := w64 (by omega)
  generalize (((Rs.mk s 0).take 1).fail 4).out = e at *
  generalize (((Rs.mk s 0).take 1).fail 4).d = D1 at *
  generalize (Rs.mk s 0).num 1 = k at *
  generalize ((Rs.mk s 0).take 1).d = D0 at *
  refine callR_of (R := R1) cx_ok Tryd.func35 (by kernel_rfl) rfl ?_
  conv => whnf
  refine ⟨_, nu, ?_⟩
  rintro _ _ ⟨rfl, rfl⟩
  conv => whnf
  rw [hK]
  refine brF (decide_eq_false (by omega)) ?_
  conv => whnf
  refine brT (decide_eq_true (by omega)) ?_
  conv => whnf
  refine ⟨_, fa, ?_⟩
  rintro _ _ ⟨rfl, rfl⟩
  conv => whnf
  iterate 12
    refine brF (beq_eq_false_iff_ne.2 (by omega)) ?_
    conv => whnf
  refine brF (decide_eq_false (by omega)) ?_
  conv => whnf
  iterate 2
    refine brF (beq_eq_false_iff_ne.2 (by omega)) ?_
    conv => whnf
  refine ⟨_, en, ?_⟩
  rintro _ _ ⟨rfl, rfl⟩
  conv => whnf
  refine brT (bne_iff_ne.2 ho) ?_
  conv => whnf
  exact ⟨by kernel_rfl, by kernel_rfl⟩

theorem fread_c {s : ByteArray} (hm : s.size < 100000) : CallR cx 35 [st s] [] fun v S => v = .tup [.d (readC s).1.fd.d, i64 (readC s).2] ∧ S = [] := by
  by_cases h0 : (Rs.mk s 0).num 1 = 0
  · exact fread_0 hm h0
  by_cases h13 : 12 < (Rs.mk s 0).num 1
  · exact fread_13 hm h13
  by_cases h1 : (Rs.mk s 0).num 1 = 1
  · exact fread_1 hm h1
  by_cases h2 : (Rs.mk s 0).num 1 = 2
  · exact fread_2 hm h2
  by_cases h3 : (Rs.mk s 0).num 1 = 3
  · exact fread_3 hm h3
  by_cases h4 : (Rs.mk s 0).num 1 = 4
  · exact fread_4 hm h4
  by_cases h5 : (Rs.mk s 0).num 1 = 5
  · exact fread_5 hm h5
  by_cases h6 : (Rs.mk s 0).num 1 = 6
  · exact fread_6 hm h6
  by_cases h7 : (Rs.mk s 0).num 1 = 7
  · exact fread_7 hm h7
  by_cases h8 : (Rs.mk s 0).num 1 = 8
  · exact fread_8 hm h8
  by_cases h9 : (Rs.mk s 0).num 1 = 9
  · exact fread_9 hm h9
  by_cases h10 : (Rs.mk s 0).num 1 = 10
  · exact fread_10 hm h10
  by_cases h11 : (Rs.mk s 0).num 1 = 11
  · exact fread_11 hm h11
  by_cases h12 : (Rs.mk s 0).num 1 = 12
  · exact fread_12 hm h12
  omega
end Go.Proofs.YtboohfijacjhjaaDoor
