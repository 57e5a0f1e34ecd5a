/- Posts: the law is awake; an item is opened. -/
import Derived.Test.YtboohfijacjhjaaPC
import Derived.Test.YtboohfijacjhjaaKL
import Derived.Test.YtboohfijacjhjaaKI
set_option linter.unusedVariables false
namespace Go.Proofs.Ytboohfijacjhjaa
open Go.Ab Go.RowKit

theorem pv_fit : (Cl.prove z32 0 []).fit := ⟨by decide, by decide, by decide, by simp⟩
theorem pv_D : (Cl.prove z32 0 []).d = .iface 84 (.agg [.arr 32 1 (List.replicate 32 (.int .u8 0)), .int .u32 0, .sl 32 []]) := by
  show D.iface 84 (.agg [dgD z32, .int .u32 ((0 : Nat) : Int), .sl 32 []]) = _
  rw [zD]
  generalize List.replicate 32 (D.int .u8 0) = l
  rfl

theorem pawake_c : CallR cx 6 [] [] fun r S => r = bo true ∧ S = [] := by
  have tw := twice_c (l := []) (i := 0) (by decide)
  have sn := send_c (l := []) (h := 1) (c := .prove z32 0 []) (by decide) pv_fit
  have tk := take_c (l := [⟨1, (Cl.prove z32 0 []).cS⟩]) (i := 0) (by decide)
  have hs : 0 < (Cl.prove z32 0 []).cS.size := by
    show 0 < (bigB 11 1 ++ _).size
    rw [ByteArray.size_append, bigB_size]
    omega
  rw [pv_D] at sn
  have e1 : twiceP [] 0 = ([], 2) := rfl
  have e2 : sendP [] 1 (Cl.prove z32 0 []) = ([⟨1, (Cl.prove z32 0 []).cS⟩], 0) := rfl
  have e3 : takeP [⟨1, (Cl.prove z32 0 []).cS⟩] 0 = ([], ⟨1, (Cl.prove z32 0 []).cS⟩, true) := rfl
  rw [e1] at tw
  rw [e2] at sn
  rw [e3] at tk
  generalize (Cl.prove z32 0 []).cS = B at *
  refine callR_of (R := R1) cx_ok Try.func6 (by kernel_rfl) rfl ?_
  conv => whnf
  refine ⟨_, tw, ?_⟩
  rintro _ _ ⟨rfl, rfl⟩
  conv => whnf
  refine ⟨_, sn, ?_⟩
  rintro _ _ ⟨rfl, rfl⟩
  conv => whnf
  refine ⟨_, tk, ?_⟩
  rintro _ _ ⟨rfl, rfl⟩
  conv => whnf
  refine ⟨?_, rfl⟩
  exact congrArg bo (decide_eq_true (by show (0 : Int) < (B.size : Int); omega))

theorem popen_c {i : It} (hm : i.tx.size < 100000) : CallR cx 25 [.d i.d] [] fun v S => v = .tup [.d (readC i.tx).1.d, i64 (readC i.tx).2] ∧ S = [] := by
  have rd := cread_c hm
  obtain ⟨t, x⟩ := i
  refine callR_of (R := R1) cx_ok Try.func25 (by kernel_rfl) rfl ?_
  conv => whnf
  refine ⟨_, rd, ?_⟩
  rintro _ _ ⟨rfl, rfl⟩
  conv => whnf
  exact ⟨rfl, rfl⟩

theorem popens_c {i : It} : CallR cx 4 [.d i.d] [] fun r S => r = bo true ∧ S = [] := by
  obtain ⟨t, x⟩ := i
  by_cases hx : x.size > 20000
  · have hx : (x.size : Int) > 20000 := by omega
    refine callR_of (R := R1) cx_ok Try.func4 (by kernel_rfl) rfl ?_
    conv => whnf
    refine ⟨_, pawake_c, ?_⟩
    rintro _ _ ⟨rfl, rfl⟩
    conv => whnf
    refine brT (decide_eq_true hx) ?_
    conv => whnf
    exact ⟨rfl, rfl⟩
  · have op := popen_c (i := ⟨t, x⟩) (by show x.size < _; omega)
    have fr := fread_c (s := x) (by omega)
    have of := cof_c (c := (readC x).1)
    have ff := fd_fit (readC_fit x)
    have sm := fsame_c ff ff
    rw [decide_eq_true rfl] at sm
    simp only at op
    generalize (readC x).2 = E at *
    generalize (readC x).1.d = X at *
    generalize (readC x).1.fd = F at *
    refine callR_of (R := R1) cx_ok Try.func4 (by kernel_rfl) rfl ?_
    conv => whnf
    refine ⟨_, pawake_c, ?_⟩
    rintro _ _ ⟨rfl, rfl⟩
    conv => whnf
    refine brF (decide_eq_false (by show ¬ (x.size : Int) > 20000; omega)) ?_
    conv => whnf
    refine ⟨_, op, ?_⟩
    rintro _ _ ⟨rfl, rfl⟩
    conv => whnf
    refine ⟨_, fr, ?_⟩
    rintro _ _ ⟨rfl, rfl⟩
    conv => whnf
    refine ⟨by kernel_rfl, ?_⟩
    conv => whnf
    refine ⟨_, of, ?_⟩
    conv => whnf
    refine ⟨_, sm, ?_⟩
    conv => whnf
    refine ⟨by kernel_rfl, ?_⟩
    conv => whnf
    exact ⟨congrArg bo (beq_self_eq_true E), rfl⟩

abbrev tyIt : Ty := .st [.int .u32, .str]
theorem it_of {x : D} (h : tyIt.has x) : ∃ i : It, x = i.d ∧ i.to < 4294967296 := by
  obtain ⟨_, rfl, _, _, rfl, ⟨n, rfl, wn⟩, _, _, rfl, ⟨s, rfl, _⟩, rfl⟩ := h
  obtain ⟨m, rfl, hm⟩ := wf_u32 wn
  exact ⟨⟨m, s⟩, rfl, hm⟩

theorem postOpens_c (ys : List D) (hy : Ty.hass [tyIt] ys) : CallR cx 4 (ys.map AV.d) [] fun r S => r = .d (.bool true) ∧ S = [] := by
  obtain ⟨_, _, rfl, ha, rfl⟩ := hy
  obtain ⟨i, rfl, _⟩ := it_of ha
  exact popens_c
end Go.Proofs.Ytboohfijacjhjaa
