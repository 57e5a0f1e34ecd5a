/- Readers of updates, stops and letters. -/
import Derived.Test.YtboohfijacjhjaaDoorKE
set_option linter.unusedVariables false
namespace Go.Proofs.YtboohfijacjhjaaDoor
open Go.Ab Go.RowKit

set_option maxRecDepth 10000 in
theorem zD : dgD z32 = .arr 32 1 (List.replicate 32 (.int .u8 0)) := by rfl
theorem up0_D : up0.d = .agg [.int .u32 0, .arr 32 1 (List.replicate 32 (.int .u8 0)), .arr 32 1 (List.replicate 32 (.int .u8 0)), .agg [.int .i64 0, .sl 32 [], .sl 32 [], .sl 32 []]] := by
  show D.agg [.int .u32 ((0 : Nat) : Int), dgD z32, dgD z32, .agg [.int .i64 0, .sl 32 [], .sl 32 [], .sl 32 []]] = _
  rw [zD]
  generalize List.replicate 32 (D.int .u8 0) = l
  rfl
theorem sp0_D : sp0.d = .agg [.int .u32 0, .arr 32 1 (List.replicate 32 (.int .u8 0)), .int .i64 0, .agg [.int .i64 0, .sl 32 [], .sl 32 [], .sl 32 []]] := by
  show D.agg [.int .u32 ((0 : Nat) : Int), dgD z32, .int .i64 0, .agg [.int .i64 0, .sl 32 [], .sl 32 [], .sl 32 []]] = _
  rw [zD]
  generalize List.replicate 32 (D.int .u8 0) = l
  rfl
theorem le0_D : le0.d = .agg [.int .u32 0, .int .u32 0, .int .u32 0, .str .empty, .str .empty, .str .empty] := rfl

theorem nread_up {s : ByteArray} (hm : s.size < 100000) : CallR cx 123 [st s] [] fun v S => v = .tup [.d (readU s).1.d, i64 (readU s).2] ∧ S = [] := by
  have ov := over2_c (s := s)
  have s0 : (Rs.mk s 0).s.size ≤ s.size := Nat.le_refl _
  have c0 := nword_c (r := (Rs.mk s 0)) (by omega)
  have s1 := take_size (Rs.mk s 0) 4
  have n0 := num4_lt (Rs.mk s 0)
  have c1 := ndig_c (r := ((Rs.mk s 0).take 4))
  have s2 := take_size ((Rs.mk s 0).take 4) 32
  have c2 := ndig_c (r := (((Rs.mk s 0).take 4).take 32))
  have s3 := take_size (((Rs.mk s 0).take 4).take 32) 32
  have c3 := nsig_c (r := ((((Rs.mk s 0).take 4).take 32).take 32)) (by omega)
  have s4 := sgR_size ((((Rs.mk s 0).take 4).take 32).take 32)
  have en := nend_c (r := ((((Rs.mk s 0).take 4).take 32).take 32).sgR)
  obtain ⟨U, hU⟩ : ∃ U, (upQ ⟨s, 0⟩).1 = U := ⟨_, rfl⟩
  obtain ⟨e, he⟩ : ∃ e, ((((Rs.mk s 0).take 4).take 32).take 32).sgR.out = e := ⟨_, rfl⟩
  have q2 : (upQ ⟨s, 0⟩).2 = ((((Rs.mk s 0).take 4).take 32).take 32).sgR := by simp only [upQ]
  have hR : readU s = if e = 0 then (U, 0) else (up0, e) := by unfold readU; rw [q2, he, hU]
  rw [hR]
  clear hR q2
  rw [he] at en
  have hd : U.d = .agg [.int .u32 (((Rs.mk s 0).num 4 : Nat) : Int), dgD ((Rs.mk s 0).take 4).dig, dgD (((Rs.mk s 0).take 4).take 32).dig, ((((Rs.mk s 0).take 4).take 32).take 32).sg.d] := by rw [← hU]; simp only [upQ, Up.d]
  clear hU
  generalize hud : U.d = ud at *
  have hz := up0_D
  generalize hzz : up0.d = zz at *
  generalize ((((Rs.mk s 0).take 4).take 32).take 32).sg = x3 at *
  generalize (((Rs.mk s 0).take 4).take 32).dig = x2 at *
  generalize ((Rs.mk s 0).take 4).dig = x1 at *
  generalize (((Rs.mk s 0).num 4 : Nat) : Int) = x0 at *
  generalize he2 : ((((Rs.mk s 0).take 4).take 32).take 32).sgR.d = D4 at *
  generalize ((((Rs.mk s 0).take 4).take 32).take 32).d = D3 at *
  generalize (((Rs.mk s 0).take 4).take 32).d = D2 at *
  generalize ((Rs.mk s 0).take 4).d = D1 at *
  generalize (Rs.mk s 0).d = D0 at *
  refine callR_of (R := R1) cx_ok Tryd.func123 (by kernel_rfl) rfl ?_
  conv => whnf
  refine ⟨_, ov, ?_⟩
  rintro _ _ ⟨rfl, rfl⟩
  conv => whnf
  refine ⟨_, c0, ?_⟩
  rintro _ _ ⟨rfl, rfl⟩
  conv => whnf
  refine ⟨_, c1, ?_⟩
  rintro _ _ ⟨rfl, rfl⟩
  conv => whnf
  refine ⟨_, c2, ?_⟩
  rintro _ _ ⟨rfl, rfl⟩
  conv => whnf
  refine ⟨_, c3, ?_⟩
  rintro _ _ ⟨rfl, rfl⟩
  conv => whnf
  refine ⟨_, en, ?_⟩
  rintro _ _ ⟨rfl, rfl⟩
  conv => whnf
  refine brec (fun h => ?_) (fun h => ?_)
  · have h : ¬ e = 0 := by simpa using h
    rw [if_neg h]
    conv => whnf
    rw [hzz, hz]
    exact ⟨rfl, rfl⟩
  have h : e = 0 := by simpa using h
  rw [if_pos h]
  conv => whnf
  rw [hud, hd]
  exact ⟨rfl, rfl⟩

theorem nread_sp {s : ByteArray} (hm : s.size < 100000) : CallR cx 124 [st s] [] fun v S => v = .tup [.d (readS s).1.d, i64 (readS s).2] ∧ S = [] := by
  have ov := over2_c (s := s)
  have s0 : (Rs.mk s 0).s.size ≤ s.size := Nat.le_refl _
  have c0 := nword_c (r := (Rs.mk s 0)) (by omega)
  have s1 := take_size (Rs.mk s 0) 4
  have n0 := num4_lt (Rs.mk s 0)
  have c1 := ndig_c (r := ((Rs.mk s 0).take 4))
  have s2 := take_size ((Rs.mk s 0).take 4) 32
  have c2 := nword_c (r := (((Rs.mk s 0).take 4).take 32)) (by omega)
  have s3 := take_size (((Rs.mk s 0).take 4).take 32) 4
  have n2 := num4_lt (((Rs.mk s 0).take 4).take 32)
  have w2 : IntKind.i64.wrap (((((Rs.mk s 0).take 4).take 32).num 4 : Nat) : Int) = (((((Rs.mk s 0).take 4).take 32).num 4 : Nat) : Int) := w64 (by omega)
  have c3 := nsig_c (r := ((((Rs.mk s 0).take 4).take 32).take 4)) (by omega)
  have s4 := sgR_size ((((Rs.mk s 0).take 4).take 32).take 4)
  have en := nend_c (r := ((((Rs.mk s 0).take 4).take 32).take 4).sgR)
  obtain ⟨U, hU⟩ : ∃ U, (spQ ⟨s, 0⟩).1 = U := ⟨_, rfl⟩
  obtain ⟨e, he⟩ : ∃ e, ((((Rs.mk s 0).take 4).take 32).take 4).sgR.out = e := ⟨_, rfl⟩
  have q2 : (spQ ⟨s, 0⟩).2 = ((((Rs.mk s 0).take 4).take 32).take 4).sgR := by simp only [spQ]
  have hR : readS s = if e = 0 then (if U.wat > 2147483647 then (sp0, 8) else (U, 0)) else (sp0, e) := by unfold readS; rw [q2, he, hU]
  rw [hR]
  clear hR q2
  rw [he] at en
  have hd : U.d = .agg [.int .u32 (((Rs.mk s 0).num 4 : Nat) : Int), dgD ((Rs.mk s 0).take 4).dig, .int .i64 (((((Rs.mk s 0).take 4).take 32).num 4 : Nat) : Int), ((((Rs.mk s 0).take 4).take 32).take 4).sg.d] := by rw [← hU]; simp only [spQ, Sp.d]
  have hw : U.wat = (((((Rs.mk s 0).take 4).take 32).num 4 : Nat) : Int) := by rw [← hU]; simp only [spQ]
  clear hU
  generalize hud : U.d = ud at *
  have hz := sp0_D
  generalize hzz : sp0.d = zz at *
  generalize ((((Rs.mk s 0).take 4).take 32).take 4).sg = x3 at *
  generalize (((((Rs.mk s 0).take 4).take 32).num 4 : Nat) : Int) = x2 at *
  generalize ((Rs.mk s 0).take 4).dig = x1 at *
  generalize (((Rs.mk s 0).num 4 : Nat) : Int) = x0 at *
  generalize he2 : ((((Rs.mk s 0).take 4).take 32).take 4).sgR.d = D4 at *
  generalize ((((Rs.mk s 0).take 4).take 32).take 4).d = D3 at *
  generalize (((Rs.mk s 0).take 4).take 32).d = D2 at *
  generalize ((Rs.mk s 0).take 4).d = D1 at *
  generalize (Rs.mk s 0).d = D0 at *
  refine callR_of (R := R1) cx_ok Tryd.func124 (by kernel_rfl) rfl ?_
  conv => whnf
  refine ⟨_, ov, ?_⟩
  rintro _ _ ⟨rfl, rfl⟩
  conv => whnf
  refine ⟨_, c0, ?_⟩
  rintro _ _ ⟨rfl, rfl⟩
  conv => whnf
  refine ⟨_, c1, ?_⟩
  rintro _ _ ⟨rfl, rfl⟩
  conv => whnf
  refine ⟨_, c2, ?_⟩
  rintro _ _ ⟨rfl, rfl⟩
  conv => whnf
  rw [w2]
  refine ⟨_, c3, ?_⟩
  rintro _ _ ⟨rfl, rfl⟩
  conv => whnf
  refine ⟨_, en, ?_⟩
  rintro _ _ ⟨rfl, rfl⟩
  conv => whnf
  refine brec (fun h => ?_) (fun h => ?_)
  · have h : ¬ e = 0 := by simpa using h
    rw [if_neg h]
    conv => whnf
    rw [hzz, hz]
    exact ⟨rfl, rfl⟩
  have h : e = 0 := by simpa using h
  rw [if_pos h]
  conv => whnf
  refine brec (fun g => ?_) (fun g => ?_)
  · have g := of_decide_eq_true g
    rw [if_pos (by rw [hw]; exact g)]
    conv => whnf
    rw [hzz, hz]
    exact ⟨rfl, rfl⟩
  have g := of_decide_eq_false g
  rw [if_neg (by rw [hw]; exact g)]
  conv => whnf
  rw [hud, hd]
  exact ⟨rfl, rfl⟩

theorem nread_le {s : ByteArray} (hm : s.size < 100000) : CallR cx 125 [st s] [] fun v S => v = .tup [.d (readL s).1.d, i64 (readL s).2] ∧ S = [] := by
  have ov := over2_c (s := s)
  have s0 : (Rs.mk s 0).s.size ≤ s.size := Nat.le_refl _
  have c0 := nword_c (r := (Rs.mk s 0)) (by omega)
  have s1 := take_size (Rs.mk s 0) 4
  have n0 := num4_lt (Rs.mk s 0)
  have c1 := nword_c (r := ((Rs.mk s 0).take 4)) (by omega)
  have s2 := take_size ((Rs.mk s 0).take 4) 4
  have n1 := num4_lt ((Rs.mk s 0).take 4)
  have c2 := nword_c (r := (((Rs.mk s 0).take 4).take 4)) (by omega)
  have s3 := take_size (((Rs.mk s 0).take 4).take 4) 4
  have n2 := num4_lt (((Rs.mk s 0).take 4).take 4)
  have c3 := ntext_c (r := ((((Rs.mk s 0).take 4).take 4).take 4)) (m := 48) (by decide) (by decide) (by omega)
  have s4 := txtR_size ((((Rs.mk s 0).take 4).take 4).take 4) 48
  have c4 := ntext_c (r := (((((Rs.mk s 0).take 4).take 4).take 4).txtR 48)) (m := 48) (by decide) (by decide) (by omega)
  have s5 := txtR_size (((((Rs.mk s 0).take 4).take 4).take 4).txtR 48) 48
  have c5 := ntext_c (r := ((((((Rs.mk s 0).take 4).take 4).take 4).txtR 48).txtR 48)) (m := 300) (by decide) (by decide) (by omega)
  have s6 := txtR_size ((((((Rs.mk s 0).take 4).take 4).take 4).txtR 48).txtR 48) 300
  have en := nend_c (r := (((((((Rs.mk s 0).take 4).take 4).take 4).txtR 48).txtR 48).txtR 300))
  obtain ⟨U, hU⟩ : ∃ U, (leQ ⟨s, 0⟩).1 = U := ⟨_, rfl⟩
  obtain ⟨e, he⟩ : ∃ e, (((((((Rs.mk s 0).take 4).take 4).take 4).txtR 48).txtR 48).txtR 300).out = e := ⟨_, rfl⟩
  have ki : ∀ (h : e = 0), U.fit := fun h => by rw [← hU]; exact (leQ_ok (r := ⟨s, 0⟩) (out_ok (show (leQ ⟨s, 0⟩).2.out = 0 from he.trans h)).1).2.1
  have ri : ∀ (h : e = 0), CallR cx 118 [.d U.d] [] fun r S => r = bo U.right ∧ S = [] := fun h => wleR_c (ki h)
  have q2 : (leQ ⟨s, 0⟩).2 = (((((((Rs.mk s 0).take 4).take 4).take 4).txtR 48).txtR 48).txtR 300) := by simp only [leQ]
  have hR : readL s = if e = 0 then (if U.right = true then (U, 0) else (le0, 4)) else (le0, e) := by unfold readL; rw [q2, he, hU]
  rw [hR]
  clear hR q2
  rw [he] at en
  have hd : U.d = .agg [.int .u32 (((Rs.mk s 0).num 4 : Nat) : Int), .int .u32 ((((Rs.mk s 0).take 4).num 4 : Nat) : Int), .int .u32 (((((Rs.mk s 0).take 4).take 4).num 4 : Nat) : Int), .str (((((Rs.mk s 0).take 4).take 4).take 4).txt 48), .str ((((((Rs.mk s 0).take 4).take 4).take 4).txtR 48).txt 48), .str (((((((Rs.mk s 0).take 4).take 4).take 4).txtR 48).txtR 48).txt 300)] := by rw [← hU]; simp only [leQ, Le.d]
  clear hU
  generalize hud : U.d = ud at *
  have hz := le0_D
  generalize hzz : le0.d = zz at *
  generalize ((((((Rs.mk s 0).take 4).take 4).take 4).txtR 48).txtR 48).txt 300 = x5 at *
  generalize (((((Rs.mk s 0).take 4).take 4).take 4).txtR 48).txt 48 = x4 at *
  generalize ((((Rs.mk s 0).take 4).take 4).take 4).txt 48 = x3 at *
  generalize (((((Rs.mk s 0).take 4).take 4).num 4 : Nat) : Int) = x2 at *
  generalize ((((Rs.mk s 0).take 4).num 4 : Nat) : Int) = x1 at *
  generalize (((Rs.mk s 0).num 4 : Nat) : Int) = x0 at *
  generalize he2 : (((((((Rs.mk s 0).take 4).take 4).take 4).txtR 48).txtR 48).txtR 300).d = D6 at *
  generalize ((((((Rs.mk s 0).take 4).take 4).take 4).txtR 48).txtR 48).d = D5 at *
  generalize (((((Rs.mk s 0).take 4).take 4).take 4).txtR 48).d = D4 at *
  generalize ((((Rs.mk s 0).take 4).take 4).take 4).d = D3 at *
  generalize (((Rs.mk s 0).take 4).take 4).d = D2 at *
  generalize ((Rs.mk s 0).take 4).d = D1 at *
  generalize (Rs.mk s 0).d = D0 at *
  refine callR_of (R := R1) cx_ok Tryd.func125 (by kernel_rfl) rfl ?_
  conv => whnf
  refine ⟨_, ov, ?_⟩
  rintro _ _ ⟨rfl, rfl⟩
  conv => whnf
  refine ⟨_, c0, ?_⟩
  rintro _ _ ⟨rfl, rfl⟩
  conv => whnf
  refine ⟨_, c1, ?_⟩
  rintro _ _ ⟨rfl, rfl⟩
  conv => whnf
  refine ⟨_, c2, ?_⟩
  rintro _ _ ⟨rfl, rfl⟩
  conv => whnf
  refine ⟨_, c3, ?_⟩
  rintro _ _ ⟨rfl, rfl⟩
  conv => whnf
  refine ⟨_, c4, ?_⟩
  rintro _ _ ⟨rfl, rfl⟩
  conv => whnf
  refine ⟨_, c5, ?_⟩
  rintro _ _ ⟨rfl, rfl⟩
  conv => whnf
  refine ⟨_, en, ?_⟩
  rintro _ _ ⟨rfl, rfl⟩
  conv => whnf
  refine brec (fun h => ?_) (fun h => ?_)
  · have h : ¬ e = 0 := by simpa using h
    rw [if_neg h]
    conv => whnf
    rw [hzz, hz]
    exact ⟨rfl, rfl⟩
  have h : e = 0 := by simpa using h
  rw [if_pos h]
  conv => whnf
  have ri := ri h
  rw [hd] at ri
  refine ⟨_, ri, ?_⟩
  rintro _ _ ⟨rfl, rfl⟩
  conv => whnf
  refine brec (fun g => ?_) (fun g => ?_)
  · have g : U.right = false := by simpa using g
    rw [g, if_neg (by decide)]
    conv => whnf
    rw [hzz, hz]
    exact ⟨rfl, rfl⟩
  have g : U.right = true := by simpa using g
  rw [g, if_pos rfl]
  conv => whnf
  rw [hud, hd]
  exact ⟨rfl, rfl⟩

theorem rread_up {s : ByteArray} (hm : s.size < 100000) : CallR cx 100 [st s] [] fun v S => v = .tup [.d (readU s).1.d, i64 (readU s).2] ∧ S = [] := by
  have s0 : (Rs.mk s 0).s.size ≤ s.size := Nat.le_refl _
  have c0 := rnum_c (r := (Rs.mk s 0)) (n := 4) (by decide) (by omega)
  have s1 := take_size (Rs.mk s 0) 4
  have n0 := num4_lt (Rs.mk s 0)
  have w0 : IntKind.u32.wrap (((Rs.mk s 0).num 4 : Nat) : Int) = (((Rs.mk s 0).num 4 : Nat) : Int) := wrap32 (by omega)
  have c1 := rdigR_c (r := ((Rs.mk s 0).take 4))
  have s2 := take_size ((Rs.mk s 0).take 4) 32
  have c2 := rdigR_c (r := (((Rs.mk s 0).take 4).take 32))
  have s3 := take_size (((Rs.mk s 0).take 4).take 32) 32
  have c3 := rsigR_c (r := ((((Rs.mk s 0).take 4).take 32).take 32)) (by omega)
  have s4 := sgR_size ((((Rs.mk s 0).take 4).take 32).take 32)
  have en := rend_c (r := ((((Rs.mk s 0).take 4).take 32).take 32).sgR)
  obtain ⟨U, hU⟩ : ∃ U, (upQ ⟨s, 0⟩).1 = U := ⟨_, rfl⟩
  obtain ⟨e, he⟩ : ∃ e, ((((Rs.mk s 0).take 4).take 32).take 32).sgR.out = e := ⟨_, rfl⟩
  have q2 : (upQ ⟨s, 0⟩).2 = ((((Rs.mk s 0).take 4).take 32).take 32).sgR := by simp only [upQ]
  have hR : readU s = if e = 0 then (U, 0) else (up0, e) := by unfold readU; rw [q2, he, hU]
  rw [hR]
  clear hR q2
  rw [he] at en
  have hd : U.d = .agg [.int .u32 (((Rs.mk s 0).num 4 : Nat) : Int), dgD ((Rs.mk s 0).take 4).dig, dgD (((Rs.mk s 0).take 4).take 32).dig, ((((Rs.mk s 0).take 4).take 32).take 32).sg.d] := by rw [← hU]; simp only [upQ, Up.d]
  clear hU
  generalize hud : U.d = ud at *
  have hz := up0_D
  generalize hzz : up0.d = zz at *
  generalize ((((Rs.mk s 0).take 4).take 32).take 32).sg = x3 at *
  generalize (((Rs.mk s 0).take 4).take 32).dig = x2 at *
  generalize ((Rs.mk s 0).take 4).dig = x1 at *
  generalize (((Rs.mk s 0).num 4 : Nat) : Int) = x0 at *
  generalize he2 : ((((Rs.mk s 0).take 4).take 32).take 32).sgR.d = D4 at *
  generalize ((((Rs.mk s 0).take 4).take 32).take 32).d = D3 at *
  generalize (((Rs.mk s 0).take 4).take 32).d = D2 at *
  generalize ((Rs.mk s 0).take 4).d = D1 at *
  refine callR_of (R := R1) cx_ok Tryd.func100 (by kernel_rfl) rfl ?_
  conv => whnf
  refine ⟨_, c0, ?_⟩
  rintro _ _ ⟨rfl, rfl⟩
  conv => whnf
  rw [w0]
  refine ⟨_, c1, ?_⟩
  rintro _ _ ⟨rfl, rfl⟩
  conv => whnf
  refine ⟨_, c2, ?_⟩
  rintro _ _ ⟨rfl, rfl⟩
  conv => whnf
  refine ⟨_, c3, ?_⟩
  rintro _ _ ⟨rfl, rfl⟩
  conv => whnf
  refine ⟨_, en, ?_⟩
  rintro _ _ ⟨rfl, rfl⟩
  conv => whnf
  refine brec (fun h => ?_) (fun h => ?_)
  · have h : ¬ e = 0 := by simpa using h
    rw [if_neg h]
    conv => whnf
    rw [hzz, hz]
    exact ⟨rfl, rfl⟩
  have h : e = 0 := by simpa using h
  rw [if_pos h]
  conv => whnf
  rw [hud, hd]
  exact ⟨rfl, rfl⟩

theorem rread_sp {s : ByteArray} (hm : s.size < 100000) : CallR cx 101 [st s] [] fun v S => v = .tup [.d (readS s).1.d, i64 (readS s).2] ∧ S = [] := by
  have s0 : (Rs.mk s 0).s.size ≤ s.size := Nat.le_refl _
  have c0 := rnum_c (r := (Rs.mk s 0)) (n := 4) (by decide) (by omega)
  have s1 := take_size (Rs.mk s 0) 4
  have n0 := num4_lt (Rs.mk s 0)
  have w0 : IntKind.u32.wrap (((Rs.mk s 0).num 4 : Nat) : Int) = (((Rs.mk s 0).num 4 : Nat) : Int) := wrap32 (by omega)
  have c1 := rdigR_c (r := ((Rs.mk s 0).take 4))
  have s2 := take_size ((Rs.mk s 0).take 4) 32
  have c2 := rnum_c (r := (((Rs.mk s 0).take 4).take 32)) (n := 4) (by decide) (by omega)
  have s3 := take_size (((Rs.mk s 0).take 4).take 32) 4
  have n2 := num4_lt (((Rs.mk s 0).take 4).take 32)
  have w2 : IntKind.i64.wrap (((((Rs.mk s 0).take 4).take 32).num 4 : Nat) : Int) = (((((Rs.mk s 0).take 4).take 32).num 4 : Nat) : Int) := w64 (by omega)
  have c3 := rsigR_c (r := ((((Rs.mk s 0).take 4).take 32).take 4)) (by omega)
  have s4 := sgR_size ((((Rs.mk s 0).take 4).take 32).take 4)
  have en := rend_c (r := ((((Rs.mk s 0).take 4).take 32).take 4).sgR)
  obtain ⟨U, hU⟩ : ∃ U, (spQ ⟨s, 0⟩).1 = U := ⟨_, rfl⟩
  obtain ⟨e, he⟩ : ∃ e, ((((Rs.mk s 0).take 4).take 32).take 4).sgR.out = e := ⟨_, rfl⟩
  have q2 : (spQ ⟨s, 0⟩).2 = ((((Rs.mk s 0).take 4).take 32).take 4).sgR := by simp only [spQ]
  have hR : readS s = if e = 0 then (if U.wat > 2147483647 then (sp0, 8) else (U, 0)) else (sp0, e) := by unfold readS; rw [q2, he, hU]
  rw [hR]
  clear hR q2
  rw [he] at en
  have hd : U.d = .agg [.int .u32 (((Rs.mk s 0).num 4 : Nat) : Int), dgD ((Rs.mk s 0).take 4).dig, .int .i64 (((((Rs.mk s 0).take 4).take 32).num 4 : Nat) : Int), ((((Rs.mk s 0).take 4).take 32).take 4).sg.d] := by rw [← hU]; simp only [spQ, Sp.d]
  have hw : U.wat = (((((Rs.mk s 0).take 4).take 32).num 4 : Nat) : Int) := by rw [← hU]; simp only [spQ]
  clear hU
  generalize hud : U.d = ud at *
  have hz := sp0_D
  generalize hzz : sp0.d = zz at *
  generalize ((((Rs.mk s 0).take 4).take 32).take 4).sg = x3 at *
  generalize (((((Rs.mk s 0).take 4).take 32).num 4 : Nat) : Int) = x2 at *
  generalize ((Rs.mk s 0).take 4).dig = x1 at *
  generalize (((Rs.mk s 0).num 4 : Nat) : Int) = x0 at *
  generalize he2 : ((((Rs.mk s 0).take 4).take 32).take 4).sgR.d = D4 at *
  generalize ((((Rs.mk s 0).take 4).take 32).take 4).d = D3 at *
  generalize (((Rs.mk s 0).take 4).take 32).d = D2 at *
  generalize ((Rs.mk s 0).take 4).d = D1 at *
  refine callR_of (R := R1) cx_ok Tryd.func101 (by kernel_rfl) rfl ?_
  conv => whnf
  refine ⟨_, c0, ?_⟩
  rintro _ _ ⟨rfl, rfl⟩
  conv => whnf
  rw [w0]
  refine ⟨_, c1, ?_⟩
  rintro _ _ ⟨rfl, rfl⟩
  conv => whnf
  refine ⟨_, c2, ?_⟩
  rintro _ _ ⟨rfl, rfl⟩
  conv => whnf
  rw [w2]
  refine ⟨_, c3, ?_⟩
  rintro _ _ ⟨rfl, rfl⟩
  conv => whnf
  refine ⟨_, en, ?_⟩
  rintro _ _ ⟨rfl, rfl⟩
  conv => whnf
  refine brec (fun h => ?_) (fun h => ?_)
  · have h : ¬ e = 0 := by simpa using h
    rw [if_neg h]
    conv => whnf
    rw [hzz, hz]
    exact ⟨rfl, rfl⟩
  have h : e = 0 := by simpa using h
  rw [if_pos h]
  conv => whnf
  refine brec (fun g => ?_) (fun g => ?_)
  · have g := of_decide_eq_true g
    rw [if_pos (by rw [hw]; exact g)]
    conv => whnf
    rw [hzz, hz]
    exact ⟨rfl, rfl⟩
  have g := of_decide_eq_false g
  rw [if_neg (by rw [hw]; exact g)]
  conv => whnf
  rw [hud, hd]
  exact ⟨rfl, rfl⟩

theorem rread_le {s : ByteArray} (hm : s.size < 100000) : CallR cx 102 [st s] [] fun v S => v = .tup [.d (readL s).1.d, i64 (readL s).2] ∧ S = [] := by
  have s0 : (Rs.mk s 0).s.size ≤ s.size := Nat.le_refl _
  have c0 := rnum_c (r := (Rs.mk s 0)) (n := 4) (by decide) (by omega)
  have s1 := take_size (Rs.mk s 0) 4
  have n0 := num4_lt (Rs.mk s 0)
  have w0 : IntKind.u32.wrap (((Rs.mk s 0).num 4 : Nat) : Int) = (((Rs.mk s 0).num 4 : Nat) : Int) := wrap32 (by omega)
  have c1 := rnum_c (r := ((Rs.mk s 0).take 4)) (n := 4) (by decide) (by omega)
  have s2 := take_size ((Rs.mk s 0).take 4) 4
  have n1 := num4_lt ((Rs.mk s 0).take 4)
  have w1 : IntKind.u32.wrap ((((Rs.mk s 0).take 4).num 4 : Nat) : Int) = ((((Rs.mk s 0).take 4).num 4 : Nat) : Int) := wrap32 (by omega)
  have c2 := rnum_c (r := (((Rs.mk s 0).take 4).take 4)) (n := 4) (by decide) (by omega)
  have s3 := take_size (((Rs.mk s 0).take 4).take 4) 4
  have n2 := num4_lt (((Rs.mk s 0).take 4).take 4)
  have w2 : IntKind.u32.wrap (((((Rs.mk s 0).take 4).take 4).num 4 : Nat) : Int) = (((((Rs.mk s 0).take 4).take 4).num 4 : Nat) : Int) := wrap32 (by omega)
  have c3 := rtextR_c (r := ((((Rs.mk s 0).take 4).take 4).take 4)) (m := 48) (by decide) (by decide) (by omega)
  have s4 := txtR_size ((((Rs.mk s 0).take 4).take 4).take 4) 48
  have c4 := rtextR_c (r := (((((Rs.mk s 0).take 4).take 4).take 4).txtR 48)) (m := 48) (by decide) (by decide) (by omega)
  have s5 := txtR_size (((((Rs.mk s 0).take 4).take 4).take 4).txtR 48) 48
  have c5 := rtextR_c (r := ((((((Rs.mk s 0).take 4).take 4).take 4).txtR 48).txtR 48)) (m := 300) (by decide) (by decide) (by omega)
  have s6 := txtR_size ((((((Rs.mk s 0).take 4).take 4).take 4).txtR 48).txtR 48) 300
  have en := rend_c (r := (((((((Rs.mk s 0).take 4).take 4).take 4).txtR 48).txtR 48).txtR 300))
  obtain ⟨U, hU⟩ : ∃ U, (leQ ⟨s, 0⟩).1 = U := ⟨_, rfl⟩
  obtain ⟨e, he⟩ : ∃ e, (((((((Rs.mk s 0).take 4).take 4).take 4).txtR 48).txtR 48).txtR 300).out = e := ⟨_, rfl⟩
  have ki : ∀ (h : e = 0), U.fit := fun h => by rw [← hU]; exact (leQ_ok (r := ⟨s, 0⟩) (out_ok (show (leQ ⟨s, 0⟩).2.out = 0 from he.trans h)).1).2.1
  have ri : ∀ (h : e = 0), CallR cx 85 [.d U.d] [] fun r S => r = bo U.right ∧ S = [] := fun h => rleR_c (ki h)
  have q2 : (leQ ⟨s, 0⟩).2 = (((((((Rs.mk s 0).take 4).take 4).take 4).txtR 48).txtR 48).txtR 300) := by simp only [leQ]
  have hR : readL s = if e = 0 then (if U.right = true then (U, 0) else (le0, 4)) else (le0, e) := by unfold readL; rw [q2, he, hU]
  rw [hR]
  clear hR q2
  rw [he] at en
  have hd : U.d = .agg [.int .u32 (((Rs.mk s 0).num 4 : Nat) : Int), .int .u32 ((((Rs.mk s 0).take 4).num 4 : Nat) : Int), .int .u32 (((((Rs.mk s 0).take 4).take 4).num 4 : Nat) : Int), .str (((((Rs.mk s 0).take 4).take 4).take 4).txt 48), .str ((((((Rs.mk s 0).take 4).take 4).take 4).txtR 48).txt 48), .str (((((((Rs.mk s 0).take 4).take 4).take 4).txtR 48).txtR 48).txt 300)] := by rw [← hU]; simp only [leQ, Le.d]
  clear hU
  generalize hud : U.d = ud at *
  have hz := le0_D
  generalize hzz : le0.d = zz at *
  generalize ((((((Rs.mk s 0).take 4).take 4).take 4).txtR 48).txtR 48).txt 300 = x5 at *
  generalize (((((Rs.mk s 0).take 4).take 4).take 4).txtR 48).txt 48 = x4 at *
  generalize ((((Rs.mk s 0).take 4).take 4).take 4).txt 48 = x3 at *
  generalize (((((Rs.mk s 0).take 4).take 4).num 4 : Nat) : Int) = x2 at *
  generalize ((((Rs.mk s 0).take 4).num 4 : Nat) : Int) = x1 at *
  generalize (((Rs.mk s 0).num 4 : Nat) : Int) = x0 at *
  generalize he2 : (((((((Rs.mk s 0).take 4).take 4).take 4).txtR 48).txtR 48).txtR 300).d = D6 at *
  generalize ((((((Rs.mk s 0).take 4).take 4).take 4).txtR 48).txtR 48).d = D5 at *
  generalize (((((Rs.mk s 0).take 4).take 4).take 4).txtR 48).d = D4 at *
  generalize ((((Rs.mk s 0).take 4).take 4).take 4).d = D3 at *
  generalize (((Rs.mk s 0).take 4).take 4).d = D2 at *
  generalize ((Rs.mk s 0).take 4).d = D1 at *
  refine callR_of (R := R1) cx_ok Tryd.func102 (by kernel_rfl) rfl ?_
  conv => whnf
  refine ⟨_, c0, ?_⟩
  rintro _ _ ⟨rfl, rfl⟩
  conv => whnf
  rw [w0]
  refine ⟨_, c1, ?_⟩
  rintro _ _ ⟨rfl, rfl⟩
  conv => whnf
  rw [w1]
  refine ⟨_, c2, ?_⟩
  rintro _ _ ⟨rfl, rfl⟩
  conv => whnf
  rw [w2]
  refine ⟨_, c3, ?_⟩
  rintro _ _ ⟨rfl, rfl⟩
  conv => whnf
  refine ⟨_, c4, ?_⟩
  rintro _ _ ⟨rfl, rfl⟩
  conv => whnf
  refine ⟨_, c5, ?_⟩
  rintro _ _ ⟨rfl, rfl⟩
  conv => whnf
  refine ⟨_, en, ?_⟩
  rintro _ _ ⟨rfl, rfl⟩
  conv => whnf
  refine brec (fun h => ?_) (fun h => ?_)
  · have h : ¬ e = 0 := by simpa using h
    rw [if_neg h]
    conv => whnf
    rw [hzz, hz]
    exact ⟨rfl, rfl⟩
  have h : e = 0 := by simpa using h
  rw [if_pos h]
  conv => whnf
  have ri := ri h
  rw [hd] at ri
  refine ⟨_, ri, ?_⟩
  rintro _ _ ⟨rfl, rfl⟩
  conv => whnf
  refine brec (fun g => ?_) (fun g => ?_)
  · have g : U.right = false := by simpa using g
    rw [g, if_neg (by decide)]
    conv => whnf
    rw [hzz, hz]
    exact ⟨rfl, rfl⟩
  have g : U.right = true := by simpa using g
  rw [g, if_pos rfl]
  conv => whnf
  rw [hud, hd]
  exact ⟨rfl, rfl⟩

end Go.Proofs.YtboohfijacjhjaaDoor
