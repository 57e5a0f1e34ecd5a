/- call.Read. -/
import Derived.Test.YtboohfijacjhjaaDoorKG
set_option linter.unusedVariables false
namespace Go.Proofs.YtboohfijacjhjaaDoor
open Go.Ab Go.RowKit

theorem cread_1 {s : ByteArray} (hm : s.size < 100000) (ht : (Rs.mk s 0).num 1 = 1) : CallR cx 34 [st s] [] fun v S => v = .tup [.d (readC s).1.d, i64 (readC s).2] ∧ S = [] := by
  have hr : ((Rs.mk s 0).take 1).s.size ≤ s.size := take_size (Rs.mk s 0) 1
  have ov := over2_c (s := s)
  have by' := nbyte_c (r := Rs.mk s 0) (by show s.size < _; omega)
  have hc : readC s = finC (sgnQ 1 ((Rs.mk s 0).take 1)).2 (sgnQ 1 ((Rs.mk s 0).take 1)).1 0 := by
    unfold readC
    simp only
    rw [ht, if_pos (by decide)]
  rw [hc]
  clear hc
  rw [ht] at by'
  have c0 := signed1_c (r := ((Rs.mk s 0).take 1)) (by omega)
  have en := nend_c (r := (sgnQ 1 ((Rs.mk s 0).take 1)).2)
  unfold finC
  generalize (sgnQ 1 ((Rs.mk s 0).take 1)).1 = c at *
  generalize (sgnQ 1 ((Rs.mk s 0).take 1)).2.out = e at *
  generalize (sgnQ 1 ((Rs.mk s 0).take 1)).2.d = D1 at *
  generalize hcd : c.d = cd at *
  generalize ((Rs.mk s 0).take 1).d = D0 at *
  generalize (Rs.mk s 0).d = DD at *
  refine callR_of (R := R1) cx_ok Tryd.func34 (by kernel_rfl) rfl ?_
  conv => whnf
  refine ⟨_, ov, ?_⟩
  rintro _ _ ⟨rfl, rfl⟩
  conv => whnf
  refine ⟨_, by', ?_⟩
  rintro _ _ ⟨rfl, rfl⟩
  conv => whnf
  refine ⟨_, c0, ?_⟩
  rintro _ _ ⟨rfl, rfl⟩
  conv => whnf
  refine ⟨_, en, ?_⟩
  rintro _ _ ⟨rfl, rfl⟩
  conv => whnf
  refine brec (fun h => ?_) (fun h => ?_)
  · have h : ¬ e = 0 := by simpa using h
    rw [if_neg h]
    conv => whnf
    exact ⟨rfl, rfl⟩
  have h : e = 0 := by simpa using h
  rw [if_pos h]
  conv => whnf
  rw [if_pos rfl]
  subst hcd
  exact ⟨rfl, rfl⟩

theorem cread_2 {s : ByteArray} (hm : s.size < 100000) (ht : (Rs.mk s 0).num 1 = 2) : CallR cx 34 [st s] [] fun v S => v = .tup [.d (readC s).1.d, i64 (readC s).2] ∧ S = [] := by
  have hr : ((Rs.mk s 0).take 1).s.size ≤ s.size := take_size (Rs.mk s 0) 1
  have ov := over2_c (s := s)
  have by' := nbyte_c (r := Rs.mk s 0) (by show s.size < _; omega)
  have hc : readC s = finC (sgnQ 2 ((Rs.mk s 0).take 1)).2 (sgnQ 2 ((Rs.mk s 0).take 1)).1 0 := by
    unfold readC
    simp only
    rw [ht, if_pos (by decide)]
  rw [hc]
  clear hc
  rw [ht] at by'
  have c0 := signed2_c (r := ((Rs.mk s 0).take 1)) (by omega)
  have en := nend_c (r := (sgnQ 2 ((Rs.mk s 0).take 1)).2)
  unfold finC
  generalize (sgnQ 2 ((Rs.mk s 0).take 1)).1 = c at *
  generalize (sgnQ 2 ((Rs.mk s 0).take 1)).2.out = e at *
  generalize (sgnQ 2 ((Rs.mk s 0).take 1)).2.d = D1 at *
  generalize hcd : c.d = cd at *
  generalize ((Rs.mk s 0).take 1).d = D0 at *
  generalize (Rs.mk s 0).d = DD at *
  refine callR_of (R := R1) cx_ok Tryd.func34 (by kernel_rfl) rfl ?_
  conv => whnf
  refine ⟨_, ov, ?_⟩
  rintro _ _ ⟨rfl, rfl⟩
  conv => whnf
  refine ⟨_, by', ?_⟩
  rintro _ _ ⟨rfl, rfl⟩
  conv => whnf
  refine ⟨_, c0, ?_⟩
  rintro _ _ ⟨rfl, rfl⟩
  conv => whnf
  refine ⟨_, en, ?_⟩
  rintro _ _ ⟨rfl, rfl⟩
  conv => whnf
  refine brec (fun h => ?_) (fun h => ?_)
  · have h : ¬ e = 0 := by simpa using h
    rw [if_neg h]
    conv => whnf
    exact ⟨rfl, rfl⟩
  have h : e = 0 := by simpa using h
  rw [if_pos h]
  conv => whnf
  rw [if_pos rfl]
  subst hcd
  exact ⟨rfl, rfl⟩

theorem cread_3 {s : ByteArray} (hm : s.size < 100000) (ht : (Rs.mk s 0).num 1 = 3) : CallR cx 34 [st s] [] fun v S => v = .tup [.d (readC s).1.d, i64 (readC s).2] ∧ S = [] := by
  have hr : ((Rs.mk s 0).take 1).s.size ≤ s.size := take_size (Rs.mk s 0) 1
  have ov := over2_c (s := s)
  have by' := nbyte_c (r := Rs.mk s 0) (by show s.size < _; omega)
  have hc : readC s = finC (sgnQ 3 ((Rs.mk s 0).take 1)).2 (sgnQ 3 ((Rs.mk s 0).take 1)).1 0 := by
    unfold readC
    simp only
    rw [ht, if_pos (by decide)]
  rw [hc]
  clear hc
  rw [ht] at by'
  have c0 := signed3_c (r := ((Rs.mk s 0).take 1)) (by omega)
  have en := nend_c (r := (sgnQ 3 ((Rs.mk s 0).take 1)).2)
  unfold finC
  generalize (sgnQ 3 ((Rs.mk s 0).take 1)).1 = c at *
  generalize (sgnQ 3 ((Rs.mk s 0).take 1)).2.out = e at *
  generalize (sgnQ 3 ((Rs.mk s 0).take 1)).2.d = D1 at *
  generalize hcd : c.d = cd at *
  generalize ((Rs.mk s 0).take 1).d = D0 at *
  generalize (Rs.mk s 0).d = DD at *
  refine callR_of (R := R1) cx_ok Tryd.func34 (by kernel_rfl) rfl ?_
  conv => whnf
  refine ⟨_, ov, ?_⟩
  rintro _ _ ⟨rfl, rfl⟩
  conv => whnf
  refine ⟨_, by', ?_⟩
  rintro _ _ ⟨rfl, rfl⟩
  conv => whnf
  refine ⟨_, c0, ?_⟩
  rintro _ _ ⟨rfl, rfl⟩
  conv => whnf
  refine ⟨_, en, ?_⟩
  rintro _ _ ⟨rfl, rfl⟩
  conv => whnf
  refine brec (fun h => ?_) (fun h => ?_)
  · have h : ¬ e = 0 := by simpa using h
    rw [if_neg h]
    conv => whnf
    exact ⟨rfl, rfl⟩
  have h : e = 0 := by simpa using h
  rw [if_pos h]
  conv => whnf
  rw [if_pos rfl]
  subst hcd
  exact ⟨rfl, rfl⟩

theorem cread_4 {s : ByteArray} (hm : s.size < 100000) (ht : (Rs.mk s 0).num 1 = 4) : CallR cx 34 [st s] [] fun v S => v = .tup [.d (readC s).1.d, i64 (readC s).2] ∧ S = [] := by
  have hr : ((Rs.mk s 0).take 1).s.size ≤ s.size := take_size (Rs.mk s 0) 1
  have ov := over2_c (s := s)
  have by' := nbyte_c (r := Rs.mk s 0) (by show s.size < _; omega)
  have hc : readC s = finC (sgnQ 4 ((Rs.mk s 0).take 1)).2 (sgnQ 4 ((Rs.mk s 0).take 1)).1 0 := by
    unfold readC
    simp only
    rw [ht, if_pos (by decide)]
  rw [hc]
  clear hc
  rw [ht] at by'
  have c0 := signed4_c (r := ((Rs.mk s 0).take 1)) (by omega)
  have en := nend_c (r := (sgnQ 4 ((Rs.mk s 0).take 1)).2)
  unfold finC
  generalize (sgnQ 4 ((Rs.mk s 0).take 1)).1 = c at *
  generalize (sgnQ 4 ((Rs.mk s 0).take 1)).2.out = e at *
  generalize (sgnQ 4 ((Rs.mk s 0).take 1)).2.d = D1 at *
  generalize hcd : c.d = cd at *
  generalize ((Rs.mk s 0).take 1).d = D0 at *
  generalize (Rs.mk s 0).d = DD at *
  refine callR_of (R := R1) cx_ok Tryd.func34 (by kernel_rfl) rfl ?_
  conv => whnf
  refine ⟨_, ov, ?_⟩
  rintro _ _ ⟨rfl, rfl⟩
  conv => whnf
  refine ⟨_, by', ?_⟩
  rintro _ _ ⟨rfl, rfl⟩
  conv => whnf
  refine ⟨_, c0, ?_⟩
  rintro _ _ ⟨rfl, rfl⟩
  conv => whnf
  refine ⟨_, en, ?_⟩
  rintro _ _ ⟨rfl, rfl⟩
  conv => whnf
  refine brec (fun h => ?_) (fun h => ?_)
  · have h : ¬ e = 0 := by simpa using h
    rw [if_neg h]
    conv => whnf
    exact ⟨rfl, rfl⟩
  have h : e = 0 := by simpa using h
  rw [if_pos h]
  conv => whnf
  rw [if_pos rfl]
  subst hcd
  exact ⟨rfl, rfl⟩

theorem cread_5 {s : ByteArray} (hm : s.size < 100000) (ht : (Rs.mk s 0).num 1 = 5) : CallR cx 34 [st s] [] fun v S => v = .tup [.d (readC s).1.d, i64 (readC s).2] ∧ S = [] := by
  have hr : ((Rs.mk s 0).take 1).s.size ≤ s.size := take_size (Rs.mk s 0) 1
  have ov := over2_c (s := s)
  have by' := nbyte_c (r := Rs.mk s 0) (by show s.size < _; omega)
  have hc : readC s = finC (((Rs.mk s 0).take 1).txtR 4096) (.submit (readU (((Rs.mk s 0).take 1).txt 4096)).1) (readU (((Rs.mk s 0).take 1).txt 4096)).2 := by
    unfold readC
    simp only
    rw [ht, if_neg (by decide), if_pos rfl]
  rw [hc]
  clear hc
  rw [ht] at by'
  have s0 := txtR_size ((Rs.mk s 0).take 1) 4096
  have t0 := txt_le (r := ((Rs.mk s 0).take 1)) (m := 4096) (by decide)
  have c0 := ntext_c (r := ((Rs.mk s 0).take 1)) (m := 4096) (by decide) (by decide) (by omega)
  have en := nend_c (r := (((Rs.mk s 0).take 1).txtR 4096))
  unfold finC
  generalize (((Rs.mk s 0).take 1).txtR 4096).out = e at *
  generalize (((Rs.mk s 0).take 1).txtR 4096).d = D1 at *
  generalize (((Rs.mk s 0).take 1).txt 4096) = x0 at *
  generalize ((Rs.mk s 0).take 1).d = D0 at *
  have l0 := late_up (s := x0) (e := 0) (by omega)
  rw [show fst 0 (readU x0).2 = (readU x0).2 from if_pos rfl] at l0
  generalize (readU x0).1 = U0 at *
  generalize (readU x0).2 = e0 at *
  obtain ⟨u0a, u0b, u0c, u0d⟩ := U0
  generalize e0 = E at *
  generalize (Rs.mk s 0).d = DD at *
  refine callR_of (R := R1) cx_ok Tryd.func34 (by kernel_rfl) rfl ?_
  conv => whnf
  refine ⟨_, ov, ?_⟩
  rintro _ _ ⟨rfl, rfl⟩
  conv => whnf
  refine ⟨_, by', ?_⟩
  rintro _ _ ⟨rfl, rfl⟩
  conv => whnf
  refine ⟨_, c0, ?_⟩
  rintro _ _ ⟨rfl, rfl⟩
  conv => whnf
  refine ⟨_, en, ?_⟩
  rintro _ _ ⟨rfl, rfl⟩
  conv => whnf
  refine brec (fun h => ?_) (fun h => ?_)
  · have h : ¬ e = 0 := by simpa using h
    rw [if_neg h]
    conv => whnf
    exact ⟨rfl, rfl⟩
  have h : e = 0 := by simpa using h
  rw [if_pos h]
  conv => whnf
  refine ⟨_, l0, ?_⟩
  rintro _ _ ⟨rfl, rfl⟩
  conv => whnf
  refine brec (fun g => ?_) (fun g => ?_)
  · have g : ¬ E = 0 := by simpa using g
    rw [if_neg g]
    conv => whnf
    refine ⟨by kernel_rfl, ?_⟩
    conv => whnf
    refine ⟨by kernel_rfl, ?_⟩
    conv => whnf
    exact ⟨rfl, rfl⟩
  have g : E = 0 := by simpa using g
  rw [if_pos g]
  conv => whnf
  exact ⟨rfl, rfl⟩

theorem cread_6 {s : ByteArray} (hm : s.size < 100000) (ht : (Rs.mk s 0).num 1 = 6) : CallR cx 34 [st s] [] fun v S => v = .tup [.d (readC s).1.d, i64 (readC s).2] ∧ S = [] := by
  have hr : ((Rs.mk s 0).take 1).s.size ≤ s.size := take_size (Rs.mk s 0) 1
  have ov := over2_c (s := s)
  have by' := nbyte_c (r := Rs.mk s 0) (by show s.size < _; omega)
  have hc : readC s = finC ((((Rs.mk s 0).take 1).txtR 4096).txtR 48) (.improp (readU (((Rs.mk s 0).take 1).txt 4096)).1 ((((Rs.mk s 0).take 1).txtR 4096).txt 48)) (readU (((Rs.mk s 0).take 1).txt 4096)).2 := by
    unfold readC
    simp only
    rw [ht, if_neg (by decide), if_neg (by decide), if_pos rfl]
  rw [hc]
  clear hc
  rw [ht] at by'
  have s0 := txtR_size ((Rs.mk s 0).take 1) 4096
  have t0 := txt_le (r := ((Rs.mk s 0).take 1)) (m := 4096) (by decide)
  have c0 := ntext_c (r := ((Rs.mk s 0).take 1)) (m := 4096) (by decide) (by decide) (by omega)
  have s1 := txtR_size (((Rs.mk s 0).take 1).txtR 4096) 48
  have t1 := txt_le (r := (((Rs.mk s 0).take 1).txtR 4096)) (m := 48) (by decide)
  have c1 := ntext_c (r := (((Rs.mk s 0).take 1).txtR 4096)) (m := 48) (by decide) (by decide) (by omega)
  have en := nend_c (r := ((((Rs.mk s 0).take 1).txtR 4096).txtR 48))
  unfold finC
  generalize ((((Rs.mk s 0).take 1).txtR 4096).txtR 48).out = e at *
  generalize ((((Rs.mk s 0).take 1).txtR 4096).txtR 48).d = D2 at *
  generalize ((((Rs.mk s 0).take 1).txtR 4096).txt 48) = x1 at *
  generalize (((Rs.mk s 0).take 1).txtR 4096).d = D1 at *
  generalize (((Rs.mk s 0).take 1).txt 4096) = x0 at *
  generalize ((Rs.mk s 0).take 1).d = D0 at *
  have l0 := late_up (s := x0) (e := 0) (by omega)
  rw [show fst 0 (readU x0).2 = (readU x0).2 from if_pos rfl] at l0
  generalize (readU x0).1 = U0 at *
  generalize (readU x0).2 = e0 at *
  obtain ⟨u0a, u0b, u0c, u0d⟩ := U0
  generalize e0 = E at *
  generalize (Rs.mk s 0).d = DD at *
  refine callR_of (R := R1) cx_ok Tryd.func34 (by kernel_rfl) rfl ?_
  conv => whnf
  refine ⟨_, ov, ?_⟩
  rintro _ _ ⟨rfl, rfl⟩
  conv => whnf
  refine ⟨_, by', ?_⟩
  rintro _ _ ⟨rfl, rfl⟩
  conv => whnf
  refine ⟨_, c0, ?_⟩
  rintro _ _ ⟨rfl, rfl⟩
  conv => whnf
  refine ⟨_, c1, ?_⟩
  rintro _ _ ⟨rfl, rfl⟩
  conv => whnf
  refine ⟨_, en, ?_⟩
  rintro _ _ ⟨rfl, rfl⟩
  conv => whnf
  refine brec (fun h => ?_) (fun h => ?_)
  · have h : ¬ e = 0 := by simpa using h
    rw [if_neg h]
    conv => whnf
    exact ⟨rfl, rfl⟩
  have h : e = 0 := by simpa using h
  rw [if_pos h]
  conv => whnf
  refine ⟨_, l0, ?_⟩
  rintro _ _ ⟨rfl, rfl⟩
  conv => whnf
  refine brec (fun g => ?_) (fun g => ?_)
  · have g : ¬ E = 0 := by simpa using g
    rw [if_neg g]
    conv => whnf
    refine ⟨by kernel_rfl, ?_⟩
    conv => whnf
    refine ⟨by kernel_rfl, ?_⟩
    conv => whnf
    exact ⟨rfl, rfl⟩
  have g : E = 0 := by simpa using g
  rw [if_pos g]
  conv => whnf
  exact ⟨rfl, rfl⟩

theorem cread_7 {s : ByteArray} (hm : s.size < 100000) (ht : (Rs.mk s 0).num 1 = 7) : CallR cx 34 [st s] [] fun v S => v = .tup [.d (readC s).1.d, i64 (readC s).2] ∧ S = [] := by
  have hr : ((Rs.mk s 0).take 1).s.size ≤ s.size := take_size (Rs.mk s 0) 1
  have ov := over2_c (s := s)
  have by' := nbyte_c (r := Rs.mk s 0) (by show s.size < _; omega)
  have hc : readC s = finC (((((Rs.mk s 0).take 1).txtR 4096).txtR 4096).txtR 48) (.double (readU (((Rs.mk s 0).take 1).txt 4096)).1 (readU ((((Rs.mk s 0).take 1).txtR 4096).txt 4096)).1 (((((Rs.mk s 0).take 1).txtR 4096).txtR 4096).txt 48)) (fst (readU (((Rs.mk s 0).take 1).txt 4096)).2 (readU ((((Rs.mk s 0).take 1).txtR 4096).txt 4096)).2) := by
    unfold readC
    simp only
    rw [ht, if_neg (by decide), if_neg (by decide), if_neg (by decide), if_pos rfl]
  rw [hc]
  clear hc
  rw [ht] at by'
  have s0 := txtR_size ((Rs.mk s 0).take 1) 4096
  have t0 := txt_le (r := ((Rs.mk s 0).take 1)) (m := 4096) (by decide)
  have c0 := ntext_c (r := ((Rs.mk s 0).take 1)) (m := 4096) (by decide) (by decide) (by omega)
  have s1 := txtR_size (((Rs.mk s 0).take 1).txtR 4096) 4096
  have t1 := txt_le (r := (((Rs.mk s 0).take 1).txtR 4096)) (m := 4096) (by decide)
  have c1 := ntext_c (r := (((Rs.mk s 0).take 1).txtR 4096)) (m := 4096) (by decide) (by decide) (by omega)
  have s2 := txtR_size ((((Rs.mk s 0).take 1).txtR 4096).txtR 4096) 48
  have t2 := txt_le (r := ((((Rs.mk s 0).take 1).txtR 4096).txtR 4096)) (m := 48) (by decide)
  have c2 := ntext_c (r := ((((Rs.mk s 0).take 1).txtR 4096).txtR 4096)) (m := 48) (by decide) (by decide) (by omega)
  have en := nend_c (r := (((((Rs.mk s 0).take 1).txtR 4096).txtR 4096).txtR 48))
  unfold finC
  generalize (((((Rs.mk s 0).take 1).txtR 4096).txtR 4096).txtR 48).out = e at *
  generalize (((((Rs.mk s 0).take 1).txtR 4096).txtR 4096).txtR 48).d = D3 at *
  generalize (((((Rs.mk s 0).take 1).txtR 4096).txtR 4096).txt 48) = x2 at *
  generalize ((((Rs.mk s 0).take 1).txtR 4096).txtR 4096).d = D2 at *
  generalize ((((Rs.mk s 0).take 1).txtR 4096).txt 4096) = x1 at *
  generalize (((Rs.mk s 0).take 1).txtR 4096).d = D1 at *
  generalize (((Rs.mk s 0).take 1).txt 4096) = x0 at *
  generalize ((Rs.mk s 0).take 1).d = D0 at *
  have l0 := late_up (s := x0) (e := 0) (by omega)
  have l1 := late_up (s := x1) (e := (readU x0).2) (by omega)
  rw [show fst 0 (readU x0).2 = (readU x0).2 from if_pos rfl] at l0
  generalize (readU x0).1 = U0 at *
  generalize (readU x0).2 = e0 at *
  obtain ⟨u0a, u0b, u0c, u0d⟩ := U0
  generalize (readU x1).1 = U1 at *
  generalize (readU x1).2 = e1 at *
  obtain ⟨u1a, u1b, u1c, u1d⟩ := U1
  generalize fst e0 e1 = E at *
  generalize (Rs.mk s 0).d = DD at *
  refine callR_of (R := R1) cx_ok Tryd.func34 (by kernel_rfl) rfl ?_
  conv => whnf
  refine ⟨_, ov, ?_⟩
  rintro _ _ ⟨rfl, rfl⟩
  conv => whnf
  refine ⟨_, by', ?_⟩
  rintro _ _ ⟨rfl, rfl⟩
  conv => whnf
  refine ⟨_, c0, ?_⟩
  rintro _ _ ⟨rfl, rfl⟩
  conv => whnf
  refine ⟨_, c1, ?_⟩
  rintro _ _ ⟨rfl, rfl⟩
  conv => whnf
  refine ⟨_, c2, ?_⟩
  rintro _ _ ⟨rfl, rfl⟩
  conv => whnf
  refine ⟨_, en, ?_⟩
  rintro _ _ ⟨rfl, rfl⟩
  conv => whnf
  refine brec (fun h => ?_) (fun h => ?_)
  · have h : ¬ e = 0 := by simpa using h
    rw [if_neg h]
    conv => whnf
    exact ⟨rfl, rfl⟩
  have h : e = 0 := by simpa using h
  rw [if_pos h]
  conv => whnf
  refine ⟨_, l0, ?_⟩
  rintro _ _ ⟨rfl, rfl⟩
  conv => whnf
  refine ⟨_, l1, ?_⟩
  rintro _ _ ⟨rfl, rfl⟩
  conv => whnf
  refine brec (fun g => ?_) (fun g => ?_)
  · have g : ¬ E = 0 := by simpa using g
    rw [if_neg g]
    conv => whnf
    refine ⟨by kernel_rfl, ?_⟩
    conv => whnf
    refine ⟨by kernel_rfl, ?_⟩
    conv => whnf
    exact ⟨rfl, rfl⟩
  have g : E = 0 := by simpa using g
  rw [if_pos g]
  conv => whnf
  exact ⟨rfl, rfl⟩

theorem cread_8 {s : ByteArray} (hm : s.size < 100000) (ht : (Rs.mk s 0).num 1 = 8) : CallR cx 34 [st s] [] fun v S => v = .tup [.d (readC s).1.d, i64 (readC s).2] ∧ S = [] := by
  have hr : ((Rs.mk s 0).take 1).s.size ≤ s.size := take_size (Rs.mk s 0) 1
  have ov := over2_c (s := s)
  have by' := nbyte_c (r := Rs.mk s 0) (by show s.size < _; omega)
  have hc : readC s = finC (((Rs.mk s 0).take 1).txtR 4096) (.accept (readU (((Rs.mk s 0).take 1).txt 4096)).1) (readU (((Rs.mk s 0).take 1).txt 4096)).2 := by
    unfold readC
    simp only
    rw [ht, if_neg (by decide), if_neg (by decide), if_neg (by decide), if_neg (by decide), if_pos rfl]
  rw [hc]
  clear hc
  rw [ht] at by'
  have s0 := txtR_size ((Rs.mk s 0).take 1) 4096
  have t0 := txt_le (r := ((Rs.mk s 0).take 1)) (m := 4096) (by decide)
  have c0 := ntext_c (r := ((Rs.mk s 0).take 1)) (m := 4096) (by decide) (by decide) (by omega)
  have en := nend_c (r := (((Rs.mk s 0).take 1).txtR 4096))
  unfold finC
  generalize (((Rs.mk s 0).take 1).txtR 4096).out = e at *
  generalize (((Rs.mk s 0).take 1).txtR 4096).d = D1 at *
  generalize (((Rs.mk s 0).take 1).txt 4096) = x0 at *
  generalize ((Rs.mk s 0).take 1).d = D0 at *
  have l0 := late_up (s := x0) (e := 0) (by omega)
  rw [show fst 0 (readU x0).2 = (readU x0).2 from if_pos rfl] at l0
  generalize (readU x0).1 = U0 at *
  generalize (readU x0).2 = e0 at *
  obtain ⟨u0a, u0b, u0c, u0d⟩ := U0
  generalize e0 = E at *
  generalize (Rs.mk s 0).d = DD at *
  refine callR_of (R := R1) cx_ok Tryd.func34 (by kernel_rfl) rfl ?_
  conv => whnf
  refine ⟨_, ov, ?_⟩
  rintro _ _ ⟨rfl, rfl⟩
  conv => whnf
  refine ⟨_, by', ?_⟩
  rintro _ _ ⟨rfl, rfl⟩
  conv => whnf
  refine ⟨_, c0, ?_⟩
  rintro _ _ ⟨rfl, rfl⟩
  conv => whnf
  refine ⟨_, en, ?_⟩
  rintro _ _ ⟨rfl, rfl⟩
  conv => whnf
  refine brec (fun h => ?_) (fun h => ?_)
  · have h : ¬ e = 0 := by simpa using h
    rw [if_neg h]
    conv => whnf
    exact ⟨rfl, rfl⟩
  have h : e = 0 := by simpa using h
  rw [if_pos h]
  conv => whnf
  refine ⟨_, l0, ?_⟩
  rintro _ _ ⟨rfl, rfl⟩
  conv => whnf
  refine brec (fun g => ?_) (fun g => ?_)
  · have g : ¬ E = 0 := by simpa using g
    rw [if_neg g]
    conv => whnf
    refine ⟨by kernel_rfl, ?_⟩
    conv => whnf
    refine ⟨by kernel_rfl, ?_⟩
    conv => whnf
    exact ⟨rfl, rfl⟩
  have g : E = 0 := by simpa using g
  rw [if_pos g]
  conv => whnf
  exact ⟨rfl, rfl⟩

theorem cread_9 {s : ByteArray} (hm : s.size < 100000) (ht : (Rs.mk s 0).num 1 = 9) : CallR cx 34 [st s] [] fun v S => v = .tup [.d (readC s).1.d, i64 (readC s).2] ∧ S = [] := by
  have hr : ((Rs.mk s 0).take 1).s.size ≤ s.size := take_size (Rs.mk s 0) 1
  have ov := over2_c (s := s)
  have by' := nbyte_c (r := Rs.mk s 0) (by show s.size < _; omega)
  have hc : readC s = finC ((((Rs.mk s 0).take 1).txtR 4096).txtR 4096) (.doubled (readU (((Rs.mk s 0).take 1).txt 4096)).1 (readU ((((Rs.mk s 0).take 1).txtR 4096).txt 4096)).1) (fst (readU (((Rs.mk s 0).take 1).txt 4096)).2 (readU ((((Rs.mk s 0).take 1).txtR 4096).txt 4096)).2) := by
    unfold readC
    simp only
    rw [ht, if_neg (by decide), if_neg (by decide), if_neg (by decide), if_neg (by decide), if_neg (by decide), if_pos rfl]
  rw [hc]
  clear hc
  rw [ht] at by'
  have s0 := txtR_size ((Rs.mk s 0).take 1) 4096
  have t0 := txt_le (r := ((Rs.mk s 0).take 1)) (m := 4096) (by decide)
  have c0 := ntext_c (r := ((Rs.mk s 0).take 1)) (m := 4096) (by decide) (by decide) (by omega)
  have s1 := txtR_size (((Rs.mk s 0).take 1).txtR 4096) 4096
  have t1 := txt_le (r := (((Rs.mk s 0).take 1).txtR 4096)) (m := 4096) (by decide)
  have c1 := ntext_c (r := (((Rs.mk s 0).take 1).txtR 4096)) (m := 4096) (by decide) (by decide) (by omega)
  have en := nend_c (r := ((((Rs.mk s 0).take 1).txtR 4096).txtR 4096))
  unfold finC
  generalize ((((Rs.mk s 0).take 1).txtR 4096).txtR 4096).out = e at *
  generalize ((((Rs.mk s 0).take 1).txtR 4096).txtR 4096).d = D2 at *
  generalize ((((Rs.mk s 0).take 1).txtR 4096).txt 4096) = x1 at *
  generalize (((Rs.mk s 0).take 1).txtR 4096).d = D1 at *
  generalize (((Rs.mk s 0).take 1).txt 4096) = x0 at *
  generalize ((Rs.mk s 0).take 1).d = D0 at *
  have l0 := late_up (s := x0) (e := 0) (by omega)
  have l1 := late_up (s := x1) (e := (readU x0).2) (by omega)
  rw [show fst 0 (readU x0).2 = (readU x0).2 from if_pos rfl] at l0
  generalize (readU x0).1 = U0 at *
  generalize (readU x0).2 = e0 at *
  obtain ⟨u0a, u0b, u0c, u0d⟩ := U0
  generalize (readU x1).1 = U1 at *
  generalize (readU x1).2 = e1 at *
  obtain ⟨u1a, u1b, u1c, u1d⟩ := U1
  generalize fst e0 e1 = E at *
  generalize (Rs.mk s 0).d = DD at *
  refine callR_of (R := R1) cx_ok Tryd.func34 (by kernel_rfl) rfl ?_
  conv => whnf
  refine ⟨_, ov, ?_⟩
  rintro _ _ ⟨rfl, rfl⟩
  conv => whnf
  refine ⟨_, by', ?_⟩
  rintro _ _ ⟨rfl, rfl⟩
  conv => whnf
  refine ⟨_, c0, ?_⟩
  rintro _ _ ⟨rfl, rfl⟩
  conv => whnf
  refine ⟨_, c1, ?_⟩
  rintro _ _ ⟨rfl, rfl⟩
  conv => whnf
  refine ⟨_, en, ?_⟩
  rintro _ _ ⟨rfl, rfl⟩
  conv => whnf
  refine brec (fun h => ?_) (fun h => ?_)
  · have h : ¬ e = 0 := by simpa using h
    rw [if_neg h]
    conv => whnf
    exact ⟨rfl, rfl⟩
  have h : e = 0 := by simpa using h
  rw [if_pos h]
  conv => whnf
  refine ⟨_, l0, ?_⟩
  rintro _ _ ⟨rfl, rfl⟩
  conv => whnf
  refine ⟨_, l1, ?_⟩
  rintro _ _ ⟨rfl, rfl⟩
  conv => whnf
  refine brec (fun g => ?_) (fun g => ?_)
  · have g : ¬ E = 0 := by simpa using g
    rw [if_neg g]
    conv => whnf
    refine ⟨by kernel_rfl, ?_⟩
    conv => whnf
    refine ⟨by kernel_rfl, ?_⟩
    conv => whnf
    exact ⟨rfl, rfl⟩
  have g : E = 0 := by simpa using g
  rw [if_pos g]
  conv => whnf
  exact ⟨rfl, rfl⟩

theorem cread_10 {s : ByteArray} (hm : s.size < 100000) (ht : (Rs.mk s 0).num 1 = 10) : CallR cx 34 [st s] [] fun v S => v = .tup [.d (readC s).1.d, i64 (readC s).2] ∧ S = [] := by
  have hr : ((Rs.mk s 0).take 1).s.size ≤ s.size := take_size (Rs.mk s 0) 1
  have ov := over2_c (s := s)
  have by' := nbyte_c (r := Rs.mk s 0) (by show s.size < _; omega)
  have hc : readC s = finC (((Rs.mk s 0).take 1).txtR 4096) (.halt (readS (((Rs.mk s 0).take 1).txt 4096)).1) (readS (((Rs.mk s 0).take 1).txt 4096)).2 := by
    unfold readC
    simp only
    rw [ht, if_neg (by decide), if_neg (by decide), if_neg (by decide), if_neg (by decide), if_neg (by decide), if_neg (by decide), if_pos rfl]
  rw [hc]
  clear hc
  rw [ht] at by'
  have s0 := txtR_size ((Rs.mk s 0).take 1) 4096
  have t0 := txt_le (r := ((Rs.mk s 0).take 1)) (m := 4096) (by decide)
  have c0 := ntext_c (r := ((Rs.mk s 0).take 1)) (m := 4096) (by decide) (by decide) (by omega)
  have en := nend_c (r := (((Rs.mk s 0).take 1).txtR 4096))
  unfold finC
  generalize (((Rs.mk s 0).take 1).txtR 4096).out = e at *
  generalize (((Rs.mk s 0).take 1).txtR 4096).d = D1 at *
  generalize (((Rs.mk s 0).take 1).txt 4096) = x0 at *
  generalize ((Rs.mk s 0).take 1).d = D0 at *
  have l0 := late_sp (s := x0) (e := 0) (by omega)
  rw [show fst 0 (readS x0).2 = (readS x0).2 from if_pos rfl] at l0
  generalize (readS x0).1 = U0 at *
  generalize (readS x0).2 = e0 at *
  obtain ⟨u0a, u0b, u0c, u0d⟩ := U0
  generalize e0 = E at *
  generalize (Rs.mk s 0).d = DD at *
  refine callR_of (R := R1) cx_ok Tryd.func34 (by kernel_rfl) rfl ?_
  conv => whnf
  refine ⟨_, ov, ?_⟩
  rintro _ _ ⟨rfl, rfl⟩
  conv => whnf
  refine ⟨_, by', ?_⟩
  rintro _ _ ⟨rfl, rfl⟩
  conv => whnf
  refine ⟨_, c0, ?_⟩
  rintro _ _ ⟨rfl, rfl⟩
  conv => whnf
  refine ⟨_, en, ?_⟩
  rintro _ _ ⟨rfl, rfl⟩
  conv => whnf
  refine brec (fun h => ?_) (fun h => ?_)
  · have h : ¬ e = 0 := by simpa using h
    rw [if_neg h]
    conv => whnf
    exact ⟨rfl, rfl⟩
  have h : e = 0 := by simpa using h
  rw [if_pos h]
  conv => whnf
  refine ⟨_, l0, ?_⟩
  rintro _ _ ⟨rfl, rfl⟩
  conv => whnf
  refine brec (fun g => ?_) (fun g => ?_)
  · have g : ¬ E = 0 := by simpa using g
    rw [if_neg g]
    conv => whnf
    refine ⟨by kernel_rfl, ?_⟩
    conv => whnf
    refine ⟨by kernel_rfl, ?_⟩
    conv => whnf
    exact ⟨rfl, rfl⟩
  have g : E = 0 := by simpa using g
  rw [if_pos g]
  conv => whnf
  exact ⟨rfl, rfl⟩

theorem cread_11 {s : ByteArray} (hm : s.size < 100000) (ht : (Rs.mk s 0).num 1 = 11) : CallR cx 34 [st s] [] fun v S => v = .tup [.d (readC s).1.d, i64 (readC s).2] ∧ S = [] := by
  have hr : ((Rs.mk s 0).take 1).s.size ≤ s.size := take_size (Rs.mk s 0) 1
  have ov := over2_c (s := s)
  have by' := nbyte_c (r := Rs.mk s 0) (by show s.size < _; omega)
  have hc : readC s = finC (((((Rs.mk s 0).take 1).take 32).take 4).dglR 64) (.prove ((Rs.mk s 0).take 1).dig ((((Rs.mk s 0).take 1).take 32).num 4) (((((Rs.mk s 0).take 1).take 32).take 4).dgl 64)) 0 := by
    unfold readC
    simp only
    rw [ht, if_neg (by decide), if_neg (by decide), if_neg (by decide), if_neg (by decide), if_neg (by decide), if_neg (by decide), if_neg (by decide), if_pos rfl]
  rw [hc]
  clear hc
  rw [ht] at by'
  have s1 := take_size ((Rs.mk s 0).take 1) 32
  have s2 := take_size (((Rs.mk s 0).take 1).take 32) 4
  have c0 := ndig_c (r := ((Rs.mk s 0).take 1))
  have c1 := nword_c (r := (((Rs.mk s 0).take 1).take 32)) (by omega)
  have c2 := ndgs_c (r := ((((Rs.mk s 0).take 1).take 32).take 4)) (m := 64) (by decide) (by decide) (by omega)
  have en := nend_c (r := (((((Rs.mk s 0).take 1).take 32).take 4).dglR 64))
  unfold finC
  generalize (((((Rs.mk s 0).take 1).take 32).take 4).dglR 64).out = e at *
  generalize (((((Rs.mk s 0).take 1).take 32).take 4).dglR 64).d = D3 at *
  generalize ((((Rs.mk s 0).take 1).take 32).take 4).dgl 64 = x2 at *
  generalize ((((Rs.mk s 0).take 1).take 32).take 4).d = D2 at *
  generalize (((Rs.mk s 0).take 1).take 32).num 4 = x1 at *
  generalize (((Rs.mk s 0).take 1).take 32).d = D1 at *
  generalize ((Rs.mk s 0).take 1).dig = x0 at *
  generalize ((Rs.mk s 0).take 1).d = D0 at *
  generalize (Rs.mk s 0).d = DD at *
  refine callR_of (R := R1) cx_ok Tryd.func34 (by kernel_rfl) rfl ?_
  conv => whnf
  refine ⟨_, ov, ?_⟩
  rintro _ _ ⟨rfl, rfl⟩
  conv => whnf
  refine ⟨_, by', ?_⟩
  rintro _ _ ⟨rfl, rfl⟩
  conv => whnf
  refine ⟨_, c0, ?_⟩
  rintro _ _ ⟨rfl, rfl⟩
  conv => whnf
  refine ⟨_, c1, ?_⟩
  rintro _ _ ⟨rfl, rfl⟩
  conv => whnf
  refine ⟨_, c2, ?_⟩
  rintro _ _ ⟨rfl, rfl⟩
  conv => whnf
  refine ⟨_, en, ?_⟩
  rintro _ _ ⟨rfl, rfl⟩
  conv => whnf
  refine brec (fun h => ?_) (fun h => ?_)
  · have h : ¬ e = 0 := by simpa using h
    rw [if_neg h]
    conv => whnf
    exact ⟨rfl, rfl⟩
  have h : e = 0 := by simpa using h
  rw [if_pos h]
  conv => whnf
  rw [if_pos rfl]
  exact ⟨rfl, rfl⟩

theorem cread_12 {s : ByteArray} (hm : s.size < 100000) (ht : (Rs.mk s 0).num 1 = 12) : CallR cx 34 [st s] [] fun v S => v = .tup [.d (readC s).1.d, i64 (readC s).2] ∧ S = [] := by
  have hr : ((Rs.mk s 0).take 1).s.size ≤ s.size := take_size (Rs.mk s 0) 1
  have ov := over2_c (s := s)
  have by' := nbyte_c (r := Rs.mk s 0) (by show s.size < _; omega)
  have hc : readC s = finC (((Rs.mk s 0).take 1).txtR 512) (.process (readL (((Rs.mk s 0).take 1).txt 512)).1) (readL (((Rs.mk s 0).take 1).txt 512)).2 := by
    unfold readC
    simp only
    rw [ht, if_neg (by decide), if_neg (by decide), if_neg (by decide), if_neg (by decide), if_neg (by decide), if_neg (by decide), if_neg (by decide), if_neg (by decide), if_pos rfl]
  rw [hc]
  clear hc
  rw [ht] at by'
  have s0 := txtR_size ((Rs.mk s 0).take 1) 512
  have t0 := txt_le (r := ((Rs.mk s 0).take 1)) (m := 512) (by decide)
  have c0 := ntext_c (r := ((Rs.mk s 0).take 1)) (m := 512) (by decide) (by decide) (by omega)
  have en := nend_c (r := (((Rs.mk s 0).take 1).txtR 512))
  unfold finC
  generalize (((Rs.mk s 0).take 1).txtR 512).out = e at *
  generalize (((Rs.mk s 0).take 1).txtR 512).d = D1 at *
  generalize (((Rs.mk s 0).take 1).txt 512) = x0 at *
  generalize ((Rs.mk s 0).take 1).d = D0 at *
  have l0 := late_le (s := x0) (e := 0) (by omega)
  rw [show fst 0 (readL x0).2 = (readL x0).2 from if_pos rfl] at l0
  generalize (readL x0).1 = U0 at *
  generalize (readL x0).2 = e0 at *
  obtain ⟨u0a, u0b, u0c, u0d, u0e, u0f⟩ := U0
  generalize e0 = E at *
  generalize (Rs.mk s 0).d = DD at *
  refine callR_of (R := R1) cx_ok Tryd.func34 (by kernel_rfl) rfl ?_
  conv => whnf
  refine ⟨_, ov, ?_⟩
  rintro _ _ ⟨rfl, rfl⟩
  conv => whnf
  refine ⟨_, by', ?_⟩
  rintro _ _ ⟨rfl, rfl⟩
  conv => whnf
  refine ⟨_, c0, ?_⟩
  rintro _ _ ⟨rfl, rfl⟩
  conv => whnf
  refine ⟨_, en, ?_⟩
  rintro _ _ ⟨rfl, rfl⟩
  conv => whnf
  refine brec (fun h => ?_) (fun h => ?_)
  · have h : ¬ e = 0 := by simpa using h
    rw [if_neg h]
    conv => whnf
    exact ⟨rfl, rfl⟩
  have h : e = 0 := by simpa using h
  rw [if_pos h]
  conv => whnf
  refine ⟨_, l0, ?_⟩
  rintro _ _ ⟨rfl, rfl⟩
  conv => whnf
  refine brec (fun g => ?_) (fun g => ?_)
  · have g : ¬ E = 0 := by simpa using g
    rw [if_neg g]
    conv => whnf
    refine ⟨by kernel_rfl, ?_⟩
    conv => whnf
    refine ⟨by kernel_rfl, ?_⟩
    conv => whnf
    exact ⟨rfl, rfl⟩
  have g : E = 0 := by simpa using g
  rw [if_pos g]
  conv => whnf
  exact ⟨rfl, rfl⟩

theorem cread_0 {s : ByteArray} (hm : s.size < 100000) (ht : (Rs.mk s 0).num 1 = 0 ∨ 12 < (Rs.mk s 0).num 1) : CallR cx 34 [st s] [] fun v S => v = .tup [.d (readC s).1.d, i64 (readC s).2] ∧ S = [] := by
  have hr : ((Rs.mk s 0).take 1).s.size ≤ s.size := take_size (Rs.mk s 0) 1
  have ov := over2_c (s := s)
  have by' := nbyte_c (r := Rs.mk s 0) (by show s.size < _; omega)
  have hc : readC s = (.no, (((Rs.mk s 0).take 1).fail 4).out) := by
    unfold readC
    simp only
    rw [if_neg (by omega), if_neg (by omega), if_neg (by omega), if_neg (by omega), if_neg (by omega), if_neg (by omega), if_neg (by omega), if_neg (by omega), if_neg (by omega)]
  rw [hc]
  clear hc
  have fa := nfail_c (r := ((Rs.mk s 0).take 1)) (f := 4)
  have en := nend_c (r := ((Rs.mk s 0).take 1).fail 4)
  have ho : (((Rs.mk s 0).take 1).fail 4).out ≠ 0 := by
    have hf : (((Rs.mk s 0).take 1).fail 4).e ≠ 0 := fail_no (by decide)
    unfold Rs.out
    rw [if_neg hf]
    exact hf
  have t256 := num1_lt (Rs.mk s 0)
  generalize (((Rs.mk s 0).take 1).fail 4).out = e at *
  generalize (((Rs.mk s 0).take 1).fail 4).d = D1 at *
  generalize (Rs.mk s 0).num 1 = k at *
  generalize ((Rs.mk s 0).take 1).d = D0 at *
  generalize (Rs.mk s 0).d = DD at *
  refine callR_of (R := R1) cx_ok Tryd.func34 (by kernel_rfl) rfl ?_
  conv => whnf
  refine ⟨_, ov, ?_⟩
  rintro _ _ ⟨rfl, rfl⟩
  conv => whnf
  refine ⟨_, by', ?_⟩
  rintro _ _ ⟨rfl, rfl⟩
  conv => whnf
  iterate 12
    refine brF (beq_eq_false_iff_ne.2 (by omega)) ?_
    conv => whnf
  refine ⟨_, fa, ?_⟩
  rintro _ _ ⟨rfl, rfl⟩
  conv => whnf
  refine ⟨_, en, ?_⟩
  rintro _ _ ⟨rfl, rfl⟩
  conv => whnf
  refine brT (bne_iff_ne.2 ho) ?_
  conv => whnf
  exact ⟨rfl, rfl⟩

theorem cread_c {s : ByteArray} (hm : s.size < 100000) : CallR cx 34 [st s] [] fun v S => v = .tup [.d (readC s).1.d, i64 (readC s).2] ∧ S = [] := by
  by_cases h0 : (Rs.mk s 0).num 1 = 0 ∨ 12 < (Rs.mk s 0).num 1
  · exact cread_0 hm h0
  by_cases h1 : (Rs.mk s 0).num 1 = 1
  · exact cread_1 hm h1
  by_cases h2 : (Rs.mk s 0).num 1 = 2
  · exact cread_2 hm h2
  by_cases h3 : (Rs.mk s 0).num 1 = 3
  · exact cread_3 hm h3
  by_cases h4 : (Rs.mk s 0).num 1 = 4
  · exact cread_4 hm h4
  by_cases h5 : (Rs.mk s 0).num 1 = 5
  · exact cread_5 hm h5
  by_cases h6 : (Rs.mk s 0).num 1 = 6
  · exact cread_6 hm h6
  by_cases h7 : (Rs.mk s 0).num 1 = 7
  · exact cread_7 hm h7
  by_cases h8 : (Rs.mk s 0).num 1 = 8
  · exact cread_8 hm h8
  by_cases h9 : (Rs.mk s 0).num 1 = 9
  · exact cread_9 hm h9
  by_cases h10 : (Rs.mk s 0).num 1 = 10
  · exact cread_10 hm h10
  by_cases h11 : (Rs.mk s 0).num 1 = 11
  · exact cread_11 hm h11
  by_cases h12 : (Rs.mk s 0).num 1 = 12
  · exact cread_12 hm h12
  omega
end Go.Proofs.YtboohfijacjhjaaDoor
