/- Late readers; signed calls read. -/
import Derived.Test.YtboohfijacjhjaaDoorKF
set_option linter.unusedVariables false
namespace Go.Proofs.YtboohfijacjhjaaDoor
open Go.Ab Go.RowKit

abbrev lt (e : Int) : D := .agg [.int .i64 e]

theorem late_up {s : ByteArray} {e : Int} (hm : s.size < 100000) : CallR cx 94 [.ptr 0 [], st s] [.var (.d (lt e))] fun v S => v = .d (readU s).1.d ∧ S = [.var (.d (lt (fst e (readU s).2)))] := by
  have c := nread_up (s := s) hm
  unfold fst
  generalize (readU s).1 = x at *
  obtain ⟨a, b, d, g⟩ := x
  generalize (readU s).2 = f at *
  refine callR_of (R := R1) cx_ok Tryd.func94 (by kernel_rfl) rfl ?_
  conv => whnf
  refine ⟨_, c, ?_⟩
  rintro _ _ ⟨rfl, rfl⟩
  conv => whnf
  refine brec (fun h => ?_) (fun h => ?_)
  · have h : e = 0 := by simpa using h
    rw [if_pos h]
    conv => whnf
    exact ⟨rfl, rfl⟩
  · have h : ¬ e = 0 := by simpa using h
    rw [if_neg h]
    conv => whnf
    exact ⟨rfl, rfl⟩

theorem late_sp {s : ByteArray} {e : Int} (hm : s.size < 100000) : CallR cx 95 [.ptr 0 [], st s] [.var (.d (lt e))] fun v S => v = .d (readS s).1.d ∧ S = [.var (.d (lt (fst e (readS s).2)))] := by
  have c := nread_sp (s := s) hm
  unfold fst
  generalize (readS s).1 = x at *
  obtain ⟨a, b, d, g⟩ := x
  generalize (readS s).2 = f at *
  refine callR_of (R := R1) cx_ok Tryd.func95 (by kernel_rfl) rfl ?_
  conv => whnf
  refine ⟨_, c, ?_⟩
  rintro _ _ ⟨rfl, rfl⟩
  conv => whnf
  refine brec (fun h => ?_) (fun h => ?_)
  · have h : e = 0 := by simpa using h
    rw [if_pos h]
    conv => whnf
    exact ⟨rfl, rfl⟩
  · have h : ¬ e = 0 := by simpa using h
    rw [if_neg h]
    conv => whnf
    exact ⟨rfl, rfl⟩

theorem late_le {s : ByteArray} {e : Int} (hm : s.size < 100000) : CallR cx 96 [.ptr 0 [], st s] [.var (.d (lt e))] fun v S => v = .d (readL s).1.d ∧ S = [.var (.d (lt (fst e (readL s).2)))] := by
  have c := nread_le (s := s) hm
  unfold fst
  generalize (readL s).1 = x at *
  obtain ⟨a, b, d, g, k, l⟩ := x
  generalize (readL s).2 = f at *
  refine callR_of (R := R1) cx_ok Tryd.func96 (by kernel_rfl) rfl ?_
  conv => whnf
  refine ⟨_, c, ?_⟩
  rintro _ _ ⟨rfl, rfl⟩
  conv => whnf
  refine brec (fun h => ?_) (fun h => ?_)
  · have h : e = 0 := by simpa using h
    rw [if_pos h]
    conv => whnf
    exact ⟨rfl, rfl⟩
  · have h : ¬ e = 0 := by simpa using h
    rw [if_neg h]
    conv => whnf
    exact ⟨rfl, rfl⟩

theorem signed1_c {r : Rs} (hm : r.s.size < 100000) : CallR cx 88 [.ptr 0 [], u8 1] [.var (.d r.d)] fun v S => v = .d (sgnQ 1 r).1.d ∧ S = [.var (.d (sgnQ 1 r).2.d)] := by
  have c0 := ntext_c (r := r) (m := 48) (by decide) (by decide) (by omega)
  have s0 := txtR_size r 48
  have c1 := ntext_c (r := (r.txtR 48)) (m := 48) (by decide) (by decide) (by omega)
  have s1 := txtR_size (r.txtR 48) 48
  have c2 := nlong_c (r := ((r.txtR 48).txtR 48)) (by omega)
  have s2 := take_size ((r.txtR 48).txtR 48) 8
  have c3 := nlong_c (r := (((r.txtR 48).txtR 48).take 8)) (by omega)
  have s3 := take_size (((r.txtR 48).txtR 48).take 8) 8
  have cs := nsig_c (r := ((((r.txtR 48).txtR 48).take 8).take 8)) (by omega)
  have hd : (sgnQ 1 r).1.d = .iface 97 (.agg [.str (r.txt 48), .str ((r.txtR 48).txt 48), .int .u64 ((((r.txtR 48).txtR 48).num 8 : Nat) : Int), .int .u64 (((((r.txtR 48).txtR 48).take 8).num 8 : Nat) : Int), ((((r.txtR 48).txtR 48).take 8).take 8).sg.d]) := by simp only [sgnQ, Cl.d]
  have h2 : (sgnQ 1 r).2 = ((((r.txtR 48).txtR 48).take 8).take 8).sgR := by simp only [sgnQ]
  rw [hd, h2]
  clear hd h2
  generalize ((((r.txtR 48).txtR 48).take 8).take 8).sg = xs at *
  obtain ⟨g0, g1, g2, g3⟩ := xs
  generalize (((((r.txtR 48).txtR 48).take 8).num 8 : Nat) : Int) = x3 at *
  generalize ((((r.txtR 48).txtR 48).num 8 : Nat) : Int) = x2 at *
  generalize (r.txtR 48).txt 48 = x1 at *
  generalize r.txt 48 = x0 at *
  generalize ((((r.txtR 48).txtR 48).take 8).take 8).sgR.d = D5 at *
  generalize ((((r.txtR 48).txtR 48).take 8).take 8).d = D4 at *
  generalize (((r.txtR 48).txtR 48).take 8).d = D3 at *
  generalize ((r.txtR 48).txtR 48).d = D2 at *
  generalize (r.txtR 48).d = D1 at *
  generalize r.d = D0 at *
  refine callR_of (R := R1) cx_ok Tryd.func88 (by kernel_rfl) rfl ?_
  conv => whnf
  refine ⟨_, c0, ?_⟩
  rintro _ _ ⟨rfl, rfl⟩
  conv => whnf
  refine ⟨_, c1, ?_⟩
  rintro _ _ ⟨rfl, rfl⟩
  conv => whnf
  refine ⟨_, c2, ?_⟩
  rintro _ _ ⟨rfl, rfl⟩
  conv => whnf
  refine ⟨_, c3, ?_⟩
  rintro _ _ ⟨rfl, rfl⟩
  conv => whnf
  refine ⟨_, cs, ?_⟩
  rintro _ _ ⟨rfl, rfl⟩
  conv => whnf
  exact ⟨rfl, rfl⟩

theorem signed2_c {r : Rs} (hm : r.s.size < 100000) : CallR cx 88 [.ptr 0 [], u8 2] [.var (.d r.d)] fun v S => v = .d (sgnQ 2 r).1.d ∧ S = [.var (.d (sgnQ 2 r).2.d)] := by
  have c0 := ntext_c (r := r) (m := 48) (by decide) (by decide) (by omega)
  have s0 := txtR_size r 48
  have c1 := nword_c (r := (r.txtR 48)) (by omega)
  have s1 := take_size (r.txtR 48) 4
  have c2 := ntext_c (r := ((r.txtR 48).take 4)) (m := 48) (by decide) (by decide) (by omega)
  have s2 := txtR_size ((r.txtR 48).take 4) 48
  have c3 := ntext_c (r := (((r.txtR 48).take 4).txtR 48)) (m := 48) (by decide) (by decide) (by omega)
  have s3 := txtR_size (((r.txtR 48).take 4).txtR 48) 48
  have c4 := nlong_c (r := ((((r.txtR 48).take 4).txtR 48).txtR 48)) (by omega)
  have s4 := take_size ((((r.txtR 48).take 4).txtR 48).txtR 48) 8
  have c5 := nlong_c (r := (((((r.txtR 48).take 4).txtR 48).txtR 48).take 8)) (by omega)
  have s5 := take_size (((((r.txtR 48).take 4).txtR 48).txtR 48).take 8) 8
  have cs := nsig_c (r := ((((((r.txtR 48).take 4).txtR 48).txtR 48).take 8).take 8)) (by omega)
  have hd : (sgnQ 2 r).1.d = .iface 95 (.agg [.str (r.txt 48), .int .u32 (((r.txtR 48).num 4 : Nat) : Int), .str (((r.txtR 48).take 4).txt 48), .str ((((r.txtR 48).take 4).txtR 48).txt 48), .int .u64 ((((((r.txtR 48).take 4).txtR 48).txtR 48).num 8 : Nat) : Int), .int .u64 (((((((r.txtR 48).take 4).txtR 48).txtR 48).take 8).num 8 : Nat) : Int), ((((((r.txtR 48).take 4).txtR 48).txtR 48).take 8).take 8).sg.d]) := by simp only [sgnQ, Cl.d]
  have h2 : (sgnQ 2 r).2 = ((((((r.txtR 48).take 4).txtR 48).txtR 48).take 8).take 8).sgR := by simp only [sgnQ]
  rw [hd, h2]
  clear hd h2
  generalize ((((((r.txtR 48).take 4).txtR 48).txtR 48).take 8).take 8).sg = xs at *
  obtain ⟨g0, g1, g2, g3⟩ := xs
  generalize (((((((r.txtR 48).take 4).txtR 48).txtR 48).take 8).num 8 : Nat) : Int) = x5 at *
  generalize ((((((r.txtR 48).take 4).txtR 48).txtR 48).num 8 : Nat) : Int) = x4 at *
  generalize (((r.txtR 48).take 4).txtR 48).txt 48 = x3 at *
  generalize ((r.txtR 48).take 4).txt 48 = x2 at *
  generalize (((r.txtR 48).num 4 : Nat) : Int) = x1 at *
  generalize r.txt 48 = x0 at *
  generalize ((((((r.txtR 48).take 4).txtR 48).txtR 48).take 8).take 8).sgR.d = D7 at *
  generalize ((((((r.txtR 48).take 4).txtR 48).txtR 48).take 8).take 8).d = D6 at *
  generalize (((((r.txtR 48).take 4).txtR 48).txtR 48).take 8).d = D5 at *
  generalize ((((r.txtR 48).take 4).txtR 48).txtR 48).d = D4 at *
  generalize (((r.txtR 48).take 4).txtR 48).d = D3 at *
  generalize ((r.txtR 48).take 4).d = D2 at *
  generalize (r.txtR 48).d = D1 at *
  generalize r.d = D0 at *
  refine callR_of (R := R1) cx_ok Tryd.func88 (by kernel_rfl) rfl ?_
  conv => whnf
  refine ⟨_, c0, ?_⟩
  rintro _ _ ⟨rfl, rfl⟩
  conv => whnf
  refine ⟨_, c1, ?_⟩
  rintro _ _ ⟨rfl, rfl⟩
  conv => whnf
  refine ⟨_, c2, ?_⟩
  rintro _ _ ⟨rfl, rfl⟩
  conv => whnf
  refine ⟨_, c3, ?_⟩
  rintro _ _ ⟨rfl, rfl⟩
  conv => whnf
  refine ⟨_, c4, ?_⟩
  rintro _ _ ⟨rfl, rfl⟩
  conv => whnf
  refine ⟨_, c5, ?_⟩
  rintro _ _ ⟨rfl, rfl⟩
  conv => whnf
  refine ⟨_, cs, ?_⟩
  rintro _ _ ⟨rfl, rfl⟩
  conv => whnf
  exact ⟨rfl, rfl⟩

theorem signed3_c {r : Rs} (hm : r.s.size < 100000) : CallR cx 88 [.ptr 0 [], u8 3] [.var (.d r.d)] fun v S => v = .d (sgnQ 3 r).1.d ∧ S = [.var (.d (sgnQ 3 r).2.d)] := by
  have c0 := ntext_c (r := r) (m := 48) (by decide) (by decide) (by omega)
  have s0 := txtR_size r 48
  have c1 := ntext_c (r := (r.txtR 48)) (m := 256) (by decide) (by decide) (by omega)
  have s1 := txtR_size (r.txtR 48) 256
  have c2 := nlong_c (r := ((r.txtR 48).txtR 256)) (by omega)
  have s2 := take_size ((r.txtR 48).txtR 256) 8
  have cs := nsig_c (r := (((r.txtR 48).txtR 256).take 8)) (by omega)
  have hd : (sgnQ 3 r).1.d = .iface 99 (.agg [.str (r.txt 48), .str ((r.txtR 48).txt 256), .int .u64 ((((r.txtR 48).txtR 256).num 8 : Nat) : Int), (((r.txtR 48).txtR 256).take 8).sg.d]) := by simp only [sgnQ, Cl.d]
  have h2 : (sgnQ 3 r).2 = (((r.txtR 48).txtR 256).take 8).sgR := by simp only [sgnQ]
  rw [hd, h2]
  clear hd h2
  generalize (((r.txtR 48).txtR 256).take 8).sg = xs at *
  obtain ⟨g0, g1, g2, g3⟩ := xs
  generalize ((((r.txtR 48).txtR 256).num 8 : Nat) : Int) = x2 at *
  generalize (r.txtR 48).txt 256 = x1 at *
  generalize r.txt 48 = x0 at *
  generalize (((r.txtR 48).txtR 256).take 8).sgR.d = D4 at *
  generalize (((r.txtR 48).txtR 256).take 8).d = D3 at *
  generalize ((r.txtR 48).txtR 256).d = D2 at *
  generalize (r.txtR 48).d = D1 at *
  generalize r.d = D0 at *
  refine callR_of (R := R1) cx_ok Tryd.func88 (by kernel_rfl) rfl ?_
  conv => whnf
  refine ⟨_, c0, ?_⟩
  rintro _ _ ⟨rfl, rfl⟩
  conv => whnf
  refine ⟨_, c1, ?_⟩
  rintro _ _ ⟨rfl, rfl⟩
  conv => whnf
  refine ⟨_, c2, ?_⟩
  rintro _ _ ⟨rfl, rfl⟩
  conv => whnf
  refine ⟨_, cs, ?_⟩
  rintro _ _ ⟨rfl, rfl⟩
  conv => whnf
  exact ⟨rfl, rfl⟩

theorem signed4_c {r : Rs} (hm : r.s.size < 100000) : CallR cx 88 [.ptr 0 [], u8 4] [.var (.d r.d)] fun v S => v = .d (sgnQ 4 r).1.d ∧ S = [.var (.d (sgnQ 4 r).2.d)] := by
  have c0 := ntext_c (r := r) (m := 48) (by decide) (by decide) (by omega)
  have s0 := txtR_size r 48
  have c1 := ntext_c (r := (r.txtR 48)) (m := 48) (by decide) (by decide) (by omega)
  have s1 := txtR_size (r.txtR 48) 48
  have c2 := nlong_c (r := ((r.txtR 48).txtR 48)) (by omega)
  have s2 := take_size ((r.txtR 48).txtR 48) 8
  have cs := nsig_c (r := (((r.txtR 48).txtR 48).take 8)) (by omega)
  have hd : (sgnQ 4 r).1.d = .iface 101 (.agg [.str (r.txt 48), .str ((r.txtR 48).txt 48), .int .u64 ((((r.txtR 48).txtR 48).num 8 : Nat) : Int), (((r.txtR 48).txtR 48).take 8).sg.d]) := by simp only [sgnQ, Cl.d]
  have h2 : (sgnQ 4 r).2 = (((r.txtR 48).txtR 48).take 8).sgR := by simp only [sgnQ]
  rw [hd, h2]
  clear hd h2
  generalize (((r.txtR 48).txtR 48).take 8).sg = xs at *
  obtain ⟨g0, g1, g2, g3⟩ := xs
  generalize ((((r.txtR 48).txtR 48).num 8 : Nat) : Int) = x2 at *
  generalize (r.txtR 48).txt 48 = x1 at *
  generalize r.txt 48 = x0 at *
  generalize (((r.txtR 48).txtR 48).take 8).sgR.d = D4 at *
  generalize (((r.txtR 48).txtR 48).take 8).d = D3 at *
  generalize ((r.txtR 48).txtR 48).d = D2 at *
  generalize (r.txtR 48).d = D1 at *
  generalize r.d = D0 at *
  refine callR_of (R := R1) cx_ok Tryd.func88 (by kernel_rfl) rfl ?_
  conv => whnf
  refine ⟨_, c0, ?_⟩
  rintro _ _ ⟨rfl, rfl⟩
  conv => whnf
  refine ⟨_, c1, ?_⟩
  rintro _ _ ⟨rfl, rfl⟩
  conv => whnf
  refine ⟨_, c2, ?_⟩
  rintro _ _ ⟨rfl, rfl⟩
  conv => whnf
  refine ⟨_, cs, ?_⟩
  rintro _ _ ⟨rfl, rfl⟩
  conv => whnf
  exact ⟨rfl, rfl⟩

end Go.Proofs.YtboohfijacjhjaaDoor
