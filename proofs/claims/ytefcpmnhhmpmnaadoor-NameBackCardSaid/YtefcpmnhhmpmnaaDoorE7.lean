/- The document's utf8. -/
import Derived.Test.YtefcpmnhhmpmnaaDoorE6
set_option linter.unusedVariables false
namespace Go.Proofs.YtefcpmnhhmpmnaaDoor
open Go.Ab Go.RowKit
variable [Errs]

omit [Errs] in
theorem b8 {z : Int} {n : Nat} (h : z = (n : Int)) (hn : n < 256) : D.int .u8 (IntKind.u8.wrap z) = D.int .u8 (((UInt8.ofNat n).toNat : Nat) : Int) := by
  rw [h, wrap8n, UInt8.toNat_ofNat']
omit [Errs] in
theorem qd (n : Nat) (k : Nat) : ((n : Int)).tdiv (k : Int) = ((n / k : Nat) : Int) := by rw [Int.ofNat_tdiv]
omit [Errs] in
theorem rd (n : Nat) (k : Nat) : ((n : Int)).tmod (k : Int) = ((n % k : Nat) : Int) := by rw [Int.ofNat_tmod]

theorem ru1_c {n : Nat} (h : n ≤ 1114111) (h1 : n < 128) : CallR cxE 38 [i64 (n : Int)] [] fun r S => r = .d (.sl 1 (([UInt8.ofNat n] : List UInt8).map fun b => D.int .u8 (b.toNat : Int))) ∧ S = [] := by
  generalize hN : (n : Int) = N at *
  refine callR_of (R := R1) cxE_ok Tryd.func38 (by kernel_rfl) rfl ?_
  conv => whnf
  refine .inl ?_
  conv => whnf
  refine brT (decide_eq_true (by omega)) ?_
  conv => whnf
  exact ⟨congrArg (fun z => AV.d (.sl 1 [z])) (b8 (by omega) (by omega)), rfl⟩

theorem ru2_c {n : Nat} (h : n ≤ 1114111) (h1 : ¬ n < 128) (h2 : n < 2048) : CallR cxE 38 [i64 (n : Int)] [] fun r S => r = .d (.sl 1 (([UInt8.ofNat (192 + n / 64), UInt8.ofNat (128 + n % 64)] : List UInt8).map fun b => D.int .u8 (b.toNat : Int))) ∧ S = [] := by
  have q1 : (n : Int).tdiv 64 = ((n / 64 : Nat) : Int) := qd n 64
  have q2 : (n : Int).tdiv 4096 = ((n / 4096 : Nat) : Int) := qd n 4096
  have q3 : (n : Int).tdiv 262144 = ((n / 262144 : Nat) : Int) := qd n 262144
  have q4 : (n : Int).tmod 64 = ((n % 64 : Nat) : Int) := rd n 64
  have q5 : ((n / 64 : Nat) : Int).tmod 64 = ((n / 64 % 64 : Nat) : Int) := rd (n / 64) 64
  have q6 : ((n / 4096 : Nat) : Int).tmod 64 = ((n / 4096 % 64 : Nat) : Int) := rd (n / 4096) 64
  generalize hN : (n : Int) = N at *
  have w1 : IntKind.i64.wrap (N.tdiv 64) = ((n / 64 : Nat) : Int) := by rw [q1, w64 (by omega)]
  have w2 : IntKind.i64.wrap (N.tdiv 4096) = ((n / 4096 : Nat) : Int) := by rw [q2, w64 (by omega)]
  have w3 : IntKind.i64.wrap (N.tdiv 262144) = ((n / 262144 : Nat) : Int) := by rw [q3, w64 (by omega)]
  refine callR_of (R := R1) cxE_ok Tryd.func38 (by kernel_rfl) rfl ?_
  conv => whnf
  refine .inl ?_
  conv => whnf
  refine brF (decide_eq_false (by omega)) ?_
  conv => whnf
  refine brT (decide_eq_true (by omega)) ?_
  conv => whnf
  refine ⟨by decide, ?_⟩
  conv => whnf
  refine ⟨by decide, ?_⟩
  conv => whnf
  refine ⟨congrArg (fun z => AV.d (.sl 1 z)) ?_, rfl⟩
  refine congr (congrArg List.cons (b8 ?_ ?_)) (congr (congrArg List.cons (b8 ?_ ?_)) (rfl))
  all_goals first | omega | (simp only [w1, q4]; rw [w64 (by omega)]; omega)

theorem ru3_c {n : Nat} (h : n ≤ 1114111) (h1 : ¬ n < 128) (h2 : ¬ n < 2048) (h3 : n < 65536) : CallR cxE 38 [i64 (n : Int)] [] fun r S => r = .d (.sl 1 (([UInt8.ofNat (224 + n / 4096), UInt8.ofNat (128 + n / 64 % 64), UInt8.ofNat (128 + n % 64)] : List UInt8).map fun b => D.int .u8 (b.toNat : Int))) ∧ S = [] := by
  have q1 : (n : Int).tdiv 64 = ((n / 64 : Nat) : Int) := qd n 64
  have q2 : (n : Int).tdiv 4096 = ((n / 4096 : Nat) : Int) := qd n 4096
  have q3 : (n : Int).tdiv 262144 = ((n / 262144 : Nat) : Int) := qd n 262144
  have q4 : (n : Int).tmod 64 = ((n % 64 : Nat) : Int) := rd n 64
  have q5 : ((n / 64 : Nat) : Int).tmod 64 = ((n / 64 % 64 : Nat) : Int) := rd (n / 64) 64
  have q6 : ((n / 4096 : Nat) : Int).tmod 64 = ((n / 4096 % 64 : Nat) : Int) := rd (n / 4096) 64
  generalize hN : (n : Int) = N at *
  have w1 : IntKind.i64.wrap (N.tdiv 64) = ((n / 64 : Nat) : Int) := by rw [q1, w64 (by omega)]
  have w2 : IntKind.i64.wrap (N.tdiv 4096) = ((n / 4096 : Nat) : Int) := by rw [q2, w64 (by omega)]
  have w3 : IntKind.i64.wrap (N.tdiv 262144) = ((n / 262144 : Nat) : Int) := by rw [q3, w64 (by omega)]
  refine callR_of (R := R1) cxE_ok Tryd.func38 (by kernel_rfl) rfl ?_
  conv => whnf
  refine .inl ?_
  obtain ⟨C, hC⟩ : ∃ C : Int, C = 65536 := ⟨_, rfl⟩
  rw [← hC]
  conv => whnf
  refine brF (decide_eq_false (by omega)) ?_
  conv => whnf
  refine brF (decide_eq_false (by omega)) ?_
  conv => whnf
  refine brT (decide_eq_true (by omega)) ?_
  conv => whnf
  refine ⟨by decide, ?_⟩
  conv => whnf
  refine ⟨by decide, ?_⟩
  conv => whnf
  refine ⟨by decide, ?_⟩
  conv => whnf
  refine ⟨by decide, ?_⟩
  conv => whnf
  refine ⟨congrArg (fun z => AV.d (.sl 1 z)) ?_, rfl⟩
  refine congr (congrArg List.cons (b8 ?_ ?_)) (congr (congrArg List.cons (b8 ?_ ?_)) (congr (congrArg List.cons (b8 ?_ ?_)) (rfl)))
  all_goals first | omega | (simp only [w1, w2, q4, q5]; rw [w64 (by omega)]; omega)

theorem ru4_c {n : Nat} (h : n ≤ 1114111) (h1 : ¬ n < 128) (h2 : ¬ n < 2048) (h3 : ¬ n < 65536) : CallR cxE 38 [i64 (n : Int)] [] fun r S => r = .d (.sl 1 (([UInt8.ofNat (240 + n / 262144), UInt8.ofNat (128 + n / 4096 % 64), UInt8.ofNat (128 + n / 64 % 64), UInt8.ofNat (128 + n % 64)] : List UInt8).map fun b => D.int .u8 (b.toNat : Int))) ∧ S = [] := by
  have q1 : (n : Int).tdiv 64 = ((n / 64 : Nat) : Int) := qd n 64
  have q2 : (n : Int).tdiv 4096 = ((n / 4096 : Nat) : Int) := qd n 4096
  have q3 : (n : Int).tdiv 262144 = ((n / 262144 : Nat) : Int) := qd n 262144
  have q4 : (n : Int).tmod 64 = ((n % 64 : Nat) : Int) := rd n 64
  have q5 : ((n / 64 : Nat) : Int).tmod 64 = ((n / 64 % 64 : Nat) : Int) := rd (n / 64) 64
  have q6 : ((n / 4096 : Nat) : Int).tmod 64 = ((n / 4096 % 64 : Nat) : Int) := rd (n / 4096) 64
  generalize hN : (n : Int) = N at *
  have w1 : IntKind.i64.wrap (N.tdiv 64) = ((n / 64 : Nat) : Int) := by rw [q1, w64 (by omega)]
  have w2 : IntKind.i64.wrap (N.tdiv 4096) = ((n / 4096 : Nat) : Int) := by rw [q2, w64 (by omega)]
  have w3 : IntKind.i64.wrap (N.tdiv 262144) = ((n / 262144 : Nat) : Int) := by rw [q3, w64 (by omega)]
  refine callR_of (R := R1) cxE_ok Tryd.func38 (by kernel_rfl) rfl ?_
  conv => whnf
  refine .inl ?_
  obtain ⟨C, hC⟩ : ∃ C : Int, C = 65536 := ⟨_, rfl⟩
  rw [← hC]
  conv => whnf
  refine brF (decide_eq_false (by omega)) ?_
  conv => whnf
  refine brF (decide_eq_false (by omega)) ?_
  conv => whnf
  refine brF (decide_eq_false (by omega)) ?_
  conv => whnf
  refine ⟨by decide, ?_⟩
  conv => whnf
  refine ⟨by decide, ?_⟩
  conv => whnf
  refine ⟨by decide, ?_⟩
  conv => whnf
  refine ⟨by decide, ?_⟩
  conv => whnf
  refine ⟨by decide, ?_⟩
  conv => whnf
  refine ⟨by decide, ?_⟩
  conv => whnf
  refine ⟨congrArg (fun z => AV.d (.sl 1 z)) ?_, rfl⟩
  refine congr (congrArg List.cons (b8 ?_ ?_)) (congr (congrArg List.cons (b8 ?_ ?_)) (congr (congrArg List.cons (b8 ?_ ?_)) (congr (congrArg List.cons (b8 ?_ ?_)) (rfl))))
  all_goals first | omega | (simp only [w1, w2, w3, q4, q5, q6]; rw [w64 (by omega)]; omega)

theorem ru_c {n : Nat} (h : n ≤ 1114111) : CallR cxE 38 [i64 (n : Int)] [] fun r S => r = .d (.sl 1 (D.bytes (baL (encK n)))) ∧ S = [] := by
  rw [bytes_baL]
  unfold encK
  rw [if_neg (by omega)]
  by_cases h1 : n < 128
  · rw [if_pos h1]; exact ru1_c h h1
  rw [if_neg h1]
  by_cases h2 : n < 2048
  · rw [if_pos h2]; exact ru2_c h h1 h2
  rw [if_neg h2]
  by_cases h3 : n < 65536
  · rw [if_pos h3]; exact ru3_c h h1 h2 h3
  · rw [if_neg h3]; exact ru4_c h h1 h2 h3
end Go.Proofs.YtefcpmnhhmpmnaaDoor
