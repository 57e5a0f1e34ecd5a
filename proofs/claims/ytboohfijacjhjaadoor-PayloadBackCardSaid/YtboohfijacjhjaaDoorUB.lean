/- Writing: a byte, a word, a long, a text; the program's and the document's. -/
import Derived.Test.YtboohfijacjhjaaDoorUA
import Derived.Test.YtboohfijacjhjaaDoorW1
import Derived.Test.YtboohfijacjhjaaDoorKinds
namespace Go.Proofs.YtboohfijacjhjaaDoor
open Go.Ab Go.RowKit
abbrev u32 (n : Int) : AV := .d (.int .u32 n)

theorem wrap32 {n : Int} (h : 0 ≤ n ∧ n < 4294967296) : IntKind.u32.wrap n = n := by
  simp [IntKind.wrap, IntKind.bits, IntKind.signed]; omega
theorem wrap8 {n : Int} (h : 0 ≤ n ∧ n < 256) : IntKind.u8.wrap n = n := by
  simp [IntKind.wrap, IntKind.bits, IntKind.signed]; omega

/-- A text's length, and it. -/
def textB (s : ByteArray) : ByteArray := bigB s.size 4 ++ s

theorem textB_size (s : ByteArray) : (textB s).size = 4 + s.size := by unfold textB; rw [ByteArray.size_append, bigB_size]

theorem wbyte_c {n : Nat} (h : n < 256) : CallR cx 57 [u8 n] [] fun r S => r = st (bigB n 1) ∧ S = [] := by
  have w : CallR cx 105 [u64 (IntKind.u64.wrap (n : Int)), i64 1] [] fun r S => r = st (bigB n 1) ∧ S = [] := by rw [wrapN (by omega)]; exact big1_c
  refine callR_of (R := R1) cx_ok Tryd.func57 (by kernel_rfl) rfl ?_
  conv => whnf
  refine ⟨_, w, ?_⟩
  rintro _ _ ⟨rfl, rfl⟩
  conv => whnf
  exact ⟨rfl, rfl⟩

theorem wword_c {n : Nat} (h : n < 4294967296) : CallR cx 58 [u32 n] [] fun r S => r = st (bigB n 4) ∧ S = [] := by
  have w : CallR cx 105 [u64 (IntKind.u64.wrap (n : Int)), i64 4] [] fun r S => r = st (bigB n 4) ∧ S = [] := by rw [wrapN (by omega)]; exact big4_c
  refine callR_of (R := R1) cx_ok Tryd.func58 (by kernel_rfl) rfl ?_
  conv => whnf
  refine ⟨_, w, ?_⟩
  rintro _ _ ⟨rfl, rfl⟩
  conv => whnf
  exact ⟨rfl, rfl⟩

theorem wlong_c {n : Nat} : CallR cx 60 [u64 n] [] fun r S => r = st (bigB n 8) ∧ S = [] := by
  refine callR_of (R := R1) cx_ok Tryd.func60 (by kernel_rfl) rfl ?_
  conv => whnf
  refine ⟨_, big8_c, ?_⟩
  rintro _ _ ⟨rfl, rfl⟩
  conv => whnf
  exact ⟨rfl, rfl⟩

theorem wtext_c {s : ByteArray} (h : s.size < 4294967296) : CallR cx 59 [st s] [] fun r S => r = st (textB s) ∧ S = [] := by
  have w : CallR cx 58 [u32 (IntKind.u32.wrap (s.size : Int))] [] fun r S => r = st (bigB s.size 4) ∧ S = [] := by rw [wrap32 (by omega)]; exact wword_c h
  refine callR_of (R := R1) cx_ok Tryd.func59 (by kernel_rfl) rfl ?_
  conv => whnf
  refine ⟨_, w, ?_⟩
  rintro _ _ ⟨rfl, rfl⟩
  conv => whnf
  refine ⟨by rw [bigB_size]; omega, ?_⟩
  conv => whnf
  exact ⟨rfl, rfl⟩

theorem rtext_c {s : ByteArray} (h : s.size < 4294967296) : CallR cx 62 [st s] [] fun r S => r = st (textB s) ∧ S = [] := by
  have w : CallR cx 61 [u64 (IntKind.u64.wrap (s.size : Int)), i64 4] [] fun r S => r = st (bigB s.size 4) ∧ S = [] := by rw [wrapN (by omega)]; exact rbig4_c (by omega)
  refine callR_of (R := R1) cx_ok Tryd.func62 (by kernel_rfl) rfl ?_
  conv => whnf
  refine ⟨_, w, ?_⟩
  rintro _ _ ⟨rfl, rfl⟩
  conv => whnf
  refine ⟨by rw [bigB_size]; omega, ?_⟩
  conv => whnf
  exact ⟨rfl, rfl⟩

/-- A payload whose numbers are in range and whose texts are no longer than so much. -/
def Pl.fit : Pl → Prop
  | .tr o a b n => (0 ≤ o ∧ o < 4294967296) ∧ (0 ≤ n ∧ n < 18446744073709551616) ∧ a.size < 100000 ∧ b.size < 100000
  | .sy a b => a.size < 100000 ∧ b.size < 100000
  | .de o a n => (0 ≤ o ∧ o < 4294967296) ∧ (0 ≤ n ∧ n < 18446744073709551616) ∧ a.size < 100000
  | _ => True

def Pl.right : Pl → Bool
  | .tr _ a b n => (rightT a && rightT b) && decide (n ≠ 0)
  | .sy a b => rightT a && saysT b
  | .de _ a _ => rightT a
  | _ => false

theorem pright_c {p : Pl} (h : p.fit) : CallR cx 30 [.d p.d] [] fun r S => r = bo p.right ∧ S = [] := by
  cases p with
  | tr o a b n =>
    have r1 := right_c (s := a) (by have := h.2.2.1; omega)
    have r2 := right_c (s := b) (by have := h.2.2.2; omega)
    refine callR_of (R := R1) cx_ok Tryd.func30 (by kernel_rfl) rfl ?_
    conv => whnf
    refine ⟨_, r1, ?_⟩
    rintro _ _ ⟨rfl, rfl⟩
    conv => whnf
    refine brec (fun h1 => ?_) (fun h1 => ?_)
    · conv => whnf
      refine ⟨_, r2, ?_⟩
      rintro _ _ ⟨rfl, rfl⟩
      conv => whnf
      refine brec (fun h2 => ?_) (fun h2 => ?_)
      · conv => whnf
        refine ⟨?_, rfl⟩
        show _ = bo ((rightT a && rightT b) && decide (n ≠ 0))
        rw [h1, h2, Bool.true_and, Bool.true_and]
        refine congrArg bo ?_
        by_cases hn : n = 0
        · subst hn; rfl
        · rw [decide_eq_true hn]; simp [hn]
      · conv => whnf
        refine ⟨?_, rfl⟩
        show _ = bo ((rightT a && rightT b) && decide (n ≠ 0))
        rw [h2, Bool.and_false, Bool.false_and]; rfl
    · conv => whnf
      refine ⟨?_, rfl⟩
      show _ = bo ((rightT a && rightT b) && decide (n ≠ 0))
      rw [h1, Bool.false_and, Bool.false_and]; rfl
  | sy a b =>
    have r1 := right_c (s := a) (by have := h.1; omega)
    have r2 := says_c (s := b) (by have := h.2; omega)
    refine callR_of (R := R1) cx_ok Tryd.func30 (by kernel_rfl) rfl ?_
    conv => whnf
    refine ⟨_, r1, ?_⟩
    rintro _ _ ⟨rfl, rfl⟩
    conv => whnf
    refine brec (fun h1 => ?_) (fun h1 => ?_)
    · conv => whnf
      refine ⟨_, r2, ?_⟩
      rintro _ _ ⟨rfl, rfl⟩
      conv => whnf
      refine ⟨?_, rfl⟩
      show _ = bo (rightT a && saysT b)
      rw [h1, Bool.true_and]; rfl
    · conv => whnf
      refine ⟨?_, rfl⟩
      show _ = bo (rightT a && saysT b)
      rw [h1, Bool.false_and]; rfl
  | de o a n =>
    have r1 := right_c (s := a) (by have := h.2.2; omega)
    refine callR_of (R := R1) cx_ok Tryd.func30 (by kernel_rfl) rfl ?_
    conv => whnf
    refine ⟨_, r1, ?_⟩
    rintro _ _ ⟨rfl, rfl⟩
    conv => whnf
    exact ⟨rfl, rfl⟩
  | _ =>
    refine callR_of (R := R1) cx_ok Tryd.func30 (by kernel_rfl) rfl ?_
    conv => whnf
    exact ⟨rfl, rfl⟩

theorem tag_c {p : Pl} : CallR cx 29 [.d p.d] [] fun r S => r = i64 p.kd ∧ S = [] := by
  cases p <;>
  · refine callR_of (R := R1) cx_ok Tryd.func29 (by kernel_rfl) rfl ?_
    conv => whnf
    exact ⟨rfl, rfl⟩
end Go.Proofs.YtboohfijacjhjaaDoor
