/- Posts: what the program does with them (walks). -/
import Derived.Test.YtboohfijacjhjaaPA
set_option linter.unusedVariables false
namespace Go.Proofs.Ytboohfijacjhjaa
open Go.Ab Go.RowKit

abbrev po (H : List D) : D := .agg [.sl 2 H]
abbrev CL (H : List D) : Prop := CallR cx 31 [.d (.sl 2 H)] [] fun r S => r = .row 0 ∧ S = [.own 55 2 H]
abbrev u32' (n : Int) : AV := .d (.int .u32 n)

theorem there_c {H : List D} {i : Int} : CallR cx 33 [.d (po H), i64 i] [] fun r S => r = bo (decide (0 ≤ i) && decide (i < (H.length : Int))) ∧ S = [] := by
  refine callR_of (R := R1) cx_ok Try.func33 (by kernel_rfl) rfl ?_
  conv => whnf
  refine brec (fun h => ?_) (fun h => ?_)
  · have h := of_decide_eq_true h
    conv => whnf
    refine ⟨?_, rfl⟩
    rw [decide_eq_true (show 0 ≤ i from h)]
    rfl
  · have h := of_decide_eq_false h
    conv => whnf
    refine ⟨?_, rfl⟩
    rw [decide_eq_false (show ¬ 0 ≤ i from h)]
    rfl

theorem snd_no {H : List D} {h e : Int} {X : D} {B : ByteArray} (he : e ≠ 0) (cb : CallR cx 30 [.d X] [] fun r S => r = .tup [st B, i64 e] ∧ S = []) :
    CallR cx 11 [.d (po H), u32' h, .d X] [] fun r S => r = .tup [.d (po H), i64 e] ∧ S = [] := by
  refine callR_of (R := R1) cx_ok Try.func11 (by kernel_rfl) rfl ?_
  conv => whnf
  refine ⟨_, cb, ?_⟩
  rintro _ _ ⟨rfl, rfl⟩
  conv => whnf
  refine brT (bne_iff_ne.2 he) ?_
  conv => whnf
  exact ⟨rfl, rfl⟩

theorem snd_full {H : List D} {h : Int} {X : D} {B : ByteArray} (hl : 256 ≤ H.length) (cb : CallR cx 30 [.d X] [] fun r S => r = .tup [st B, i64 0] ∧ S = []) :
    CallR cx 11 [.d (po H), u32' h, .d X] [] fun r S => r = .tup [.d (po H), i64 6] ∧ S = [] := by
  refine callR_of (R := R1) cx_ok Try.func11 (by kernel_rfl) rfl ?_
  conv => whnf
  refine ⟨_, cb, ?_⟩
  rintro _ _ ⟨rfl, rfl⟩
  conv => whnf
  refine brT (decide_eq_true (by omega)) ?_
  conv => whnf
  exact ⟨rfl, rfl⟩

theorem snd_ok {H : List D} {h : Int} {X : D} {B : ByteArray} (hl : ¬ 256 ≤ H.length) (cl : CL H) (cb : CallR cx 30 [.d X] [] fun r S => r = .tup [st B, i64 0] ∧ S = []) :
    CallR cx 11 [.d (po H), u32' h, .d X] [] fun r S => r = .tup [.d (po (H ++ [.agg [.int .u32 h, .str B]])), i64 0] ∧ S = [] := by
  refine callR_of (R := R1) cx_ok Try.func11 (by kernel_rfl) rfl ?_
  conv => whnf
  refine ⟨_, cb, ?_⟩
  rintro _ _ ⟨rfl, rfl⟩
  conv => whnf
  refine brF (decide_eq_false (by omega)) ?_
  conv => whnf
  refine ⟨_, cl, ?_⟩
  rintro _ _ ⟨rfl, rfl⟩
  conv => whnf
  refine ⟨⟨Nat.succ_pos _, by show (H.length + 1) * (24 + 1) ≤ _; omega⟩, ?_⟩
  conv => whnf
  exact ⟨rfl, rfl⟩

theorem tak_no {H : List D} {i : Int} (hn : ¬ (0 ≤ i ∧ i < (H.length : Int))) : CallR cx 14 [.d (po H), i64 i] [] fun r S => r = .tup [.d (po H), .d (.agg [.int .u32 0, .str .empty]), bo false] ∧ S = [] := by
  have th := there_c (H := H) (i := i)
  have e : (decide (0 ≤ i) && decide (i < (H.length : Int))) = false := by rw [← Bool.decide_and]; exact decide_eq_false hn
  rw [e] at th
  refine callR_of (R := R1) cx_ok Try.func14 (by kernel_rfl) rfl ?_
  conv => whnf
  refine ⟨_, th, ?_⟩
  rintro _ _ ⟨rfl, rfl⟩
  conv => whnf
  exact ⟨rfl, rfl⟩

theorem tak_ok {H M : List D} {i t : Int} {b : ByteArray} (hn : 0 ≤ i ∧ i < (H.length : Int)) (hl : H.length ≤ 100000) (cl : CL H) (hg : H.getD i.toNat .nilP = .agg [.int .u32 t, .str b])
    (dl : CallR cx 34 [.row 0, i64 i, i64 (IntKind.i64.wrap (i + 1))] [.own 55 2 H] fun r S => r = .row 1 ∧ S = [.dead, .own 55 2 M]) :
    CallR cx 14 [.d (po H), i64 i] [] fun r S => r = .tup [.d (po M), .d (.agg [.int .u32 t, .str b]), bo true] ∧ S = [] := by
  have th := there_c (H := H) (i := i)
  have e : (decide (0 ≤ i) && decide (i < (H.length : Int))) = true := by rw [← Bool.decide_and]; exact decide_eq_true hn
  rw [e] at th
  refine callR_of (R := R1) cx_ok Try.func14 (by kernel_rfl) rfl ?_
  conv => whnf
  refine ⟨_, th, ?_⟩
  rintro _ _ ⟨rfl, rfl⟩
  conv => whnf
  refine ⟨by kernel_rfl, ?_⟩
  conv => whnf
  refine ⟨_, _, _, cl, ?_⟩
  conv => whnf
  refine ⟨_, _, _, dl, ?_⟩
  conv => whnf
  refine ⟨hn, ?_⟩
  conv => whnf
  rw [hg]
  conv => whnf
  refine ⟨by kernel_rfl, ?_⟩
  conv => whnf
  exact ⟨rfl, rfl⟩

theorem los_c {H M : List D} {i t : Int} {b : ByteArray} {q : Bool} (tk : CallR cx 14 [.d (po H), i64 i] [] fun r S => r = .tup [.d (po M), .d (.agg [.int .u32 t, .str b]), bo q] ∧ S = []) :
    CallR cx 16 [.d (po H), i64 i] [] fun r S => r = .tup [.d (po M), bo q] ∧ S = [] := by
  refine callR_of (R := R1) cx_ok Try.func16 (by kernel_rfl) rfl ?_
  conv => whnf
  refine ⟨_, tk, ?_⟩
  rintro _ _ ⟨rfl, rfl⟩
  conv => whnf
  exact ⟨rfl, rfl⟩

theorem twi_no {H : List D} {i : Int} (hn : ¬ (0 ≤ i ∧ i < (H.length : Int))) : CallR cx 17 [.d (po H), i64 i] [] fun r S => r = .tup [.d (po H), i64 2] ∧ S = [] := by
  have th := there_c (H := H) (i := i)
  have e : (decide (0 ≤ i) && decide (i < (H.length : Int))) = false := by rw [← Bool.decide_and]; exact decide_eq_false hn
  rw [e] at th
  refine callR_of (R := R1) cx_ok Try.func17 (by kernel_rfl) rfl ?_
  conv => whnf
  refine ⟨_, th, ?_⟩
  rintro _ _ ⟨rfl, rfl⟩
  conv => whnf
  exact ⟨rfl, rfl⟩

theorem twi_full {H : List D} {i : Int} (hn : 0 ≤ i ∧ i < (H.length : Int)) (hl : 256 ≤ H.length) : CallR cx 17 [.d (po H), i64 i] [] fun r S => r = .tup [.d (po H), i64 6] ∧ S = [] := by
  have th := there_c (H := H) (i := i)
  have e : (decide (0 ≤ i) && decide (i < (H.length : Int))) = true := by rw [← Bool.decide_and]; exact decide_eq_true hn
  rw [e] at th
  refine callR_of (R := R1) cx_ok Try.func17 (by kernel_rfl) rfl ?_
  conv => whnf
  refine ⟨_, th, ?_⟩
  rintro _ _ ⟨rfl, rfl⟩
  conv => whnf
  refine brT (decide_eq_true (by omega)) ?_
  conv => whnf
  exact ⟨rfl, rfl⟩

theorem twi_ok {H M : List D} {i t : Int} {b : ByteArray} (hn : 0 ≤ i ∧ i < (H.length : Int)) (hl : ¬ 256 ≤ H.length) (cl : CL H) (hg : H.getD i.toNat .nilP = .agg [.int .u32 t, .str b])
    (dl : CallR cx 35 [.row 0, i64 (IntKind.i64.wrap (i + 1)), .d (.sl 2 [.agg [.int .u32 t, .str b]])] [.own 55 2 H] fun r S => r = .row 1 ∧ S = [.dead, .own 55 2 M]) :
    CallR cx 17 [.d (po H), i64 i] [] fun r S => r = .tup [.d (po M), i64 0] ∧ S = [] := by
  have th := there_c (H := H) (i := i)
  have e : (decide (0 ≤ i) && decide (i < (H.length : Int))) = true := by rw [← Bool.decide_and]; exact decide_eq_true hn
  rw [e] at th
  refine callR_of (R := R1) cx_ok Try.func17 (by kernel_rfl) rfl ?_
  conv => whnf
  refine ⟨_, th, ?_⟩
  rintro _ _ ⟨rfl, rfl⟩
  conv => whnf
  refine brF (decide_eq_false (by omega)) ?_
  conv => whnf
  refine ⟨by kernel_rfl, ?_⟩
  conv => whnf
  refine ⟨_, _, _, cl, ?_⟩
  conv => whnf
  refine ⟨hn, ?_⟩
  rw [hg]
  conv => whnf
  refine ⟨_, _, _, dl, ?_⟩
  conv => whnf
  refine ⟨by kernel_rfl, ?_⟩
  conv => whnf
  exact ⟨rfl, rfl⟩

theorem swp_no {H : List D} {i j : Int} (hn : ¬ ((0 ≤ i ∧ i < (H.length : Int)) ∧ (0 ≤ j ∧ j < (H.length : Int)))) : CallR cx 19 [.d (po H), i64 i, i64 j] [] fun r S => r = .tup [.d (po H), bo false] ∧ S = [] := by
  have th := there_c (H := H) (i := i)
  have th2 := there_c (H := H) (i := j)
  refine callR_of (R := R1) cx_ok Try.func19 (by kernel_rfl) rfl ?_
  conv => whnf
  refine ⟨_, th, ?_⟩
  rintro _ _ ⟨rfl, rfl⟩
  by_cases hi : 0 ≤ i ∧ i < (H.length : Int)
  · have e : (decide (0 ≤ i) && decide (i < (H.length : Int))) = true := by rw [← Bool.decide_and]; exact decide_eq_true hi
    have e2 : (decide (0 ≤ j) && decide (j < (H.length : Int))) = false := by rw [← Bool.decide_and]; exact decide_eq_false fun h => hn ⟨hi, h⟩
    rw [e]
    rw [e2] at th2
    conv => whnf
    refine ⟨_, th2, ?_⟩
    rintro _ _ ⟨rfl, rfl⟩
    conv => whnf
    exact ⟨rfl, rfl⟩
  · have e : (decide (0 ≤ i) && decide (i < (H.length : Int))) = false := by rw [← Bool.decide_and]; exact decide_eq_false hi
    rw [e]
    conv => whnf
    exact ⟨rfl, rfl⟩

end Go.Proofs.Ytboohfijacjhjaa
