/- One-time keys (layer 5) without a log: secrets, publics, the word of a key. -/
import Derived.Test.YtghblnkplfajjaaDoorW1
import Derived.Test.YtghblnkplfajjaaDoorAbV
set_option linter.unusedVariables false
namespace Go.Proofs.YtghblnkplfajjaaDoor
open Go.Ab

/-- A secret, a public. -/
def secP (seed : ByteArray) (ix i b : Nat) : ByteArray := dgL 1 [seed, bigB ix 4, bigB i 1, bigB b 1]
def pubP (s : ByteArray) : ByteArray := dgL 2 [s]
theorem secP_size (s : ByteArray) (ix i b : Nat) : (secP s ix i b).size = 32 := dgL_size _ _
theorem pubP_size (s : ByteArray) : (pubP s).size = 32 := dgL_size _ _
theorem one_size (d : UInt8) : (one d).size = 1 := rfl

theorem public_c {s : ByteArray} (h : s.size = 32) : CallR cx 20 [.d .nilP, .d (dgD s)] [] fun r S => r = .d (dgD (pubP s)) ∧ S = [] := by
  have wd := wdig_c h
  have po := pofL_c (d := 2) (l := [s]) (by simp) (by simp only [inL, List.foldl, ByteArray.size_append, textB_size, h, one_size]; omega)
  unfold pubP
  generalize dgL 2 [s] = Q at *
  unfold dgD at *
  generalize D.bytes s = X at *
  refine callR_of (R := R1) cx_ok Tryd.func20 (by kernel_rfl) rfl ?_
  conv => whnf
  refine ⟨_, wd, ?_⟩
  rintro _ _ ⟨rfl, rfl⟩
  conv => whnf
  refine ⟨_, po, ?_⟩
  rintro _ _ ⟨rfl, rfl⟩
  conv => whnf
  exact ⟨rfl, rfl⟩

theorem secret_c {s : ByteArray} {ix i b : Nat} (h : s.size = 32) (hx : ix < 4294967296) (hi : i < 256) (hb : b < 256) :
    CallR cx 21 [.d .nilP, .d (dgD s), i64 (ix : Int), i64 (i : Int), i64 (b : Int)] [] fun r S => r = .d (dgD (secP s ix i b)) ∧ S = [] := by
  have wd := wdig_c h
  have ww : CallR cx 27 [u32 (IntKind.u32.wrap (ix : Int))] [] fun r S => r = st (bigB ix 4) ∧ S = [] := by rw [wrap32 (by omega)]; exact wword_c hx
  have w1 : CallR cx 29 [u8 (IntKind.u8.wrap (i : Int))] [] fun r S => r = st (bigB i 1) ∧ S = [] := by rw [wrap8 (by omega)]; exact wbyte_c hi
  have w2 : CallR cx 29 [u8 (IntKind.u8.wrap (b : Int))] [] fun r S => r = st (bigB b 1) ∧ S = [] := by rw [wrap8 (by omega)]; exact wbyte_c hb
  have po := pofL_c (d := 1) (l := [s, bigB ix 4, bigB i 1, bigB b 1]) (by simp) (by simp only [inL, List.foldl, ByteArray.size_append, textB_size, bigB_size, h, one_size]; omega)
  unfold secP
  generalize dgL 1 _ = Q at *
  unfold dgD at *
  generalize D.bytes s = X at *
  generalize bigB ix 4 = X1 at *
  generalize bigB i 1 = X2 at *
  generalize bigB b 1 = X3 at *
  refine callR_of (R := R1) cx_ok Tryd.func21 (by kernel_rfl) rfl ?_
  conv => whnf
  refine ⟨_, wd, ?_⟩
  rintro _ _ ⟨rfl, rfl⟩
  conv => whnf
  refine ⟨_, ww, ?_⟩
  rintro _ _ ⟨rfl, rfl⟩
  conv => whnf
  refine ⟨_, w1, ?_⟩
  rintro _ _ ⟨rfl, rfl⟩
  conv => whnf
  refine ⟨_, w2, ?_⟩
  rintro _ _ ⟨rfl, rfl⟩
  conv => whnf
  refine ⟨_, po, ?_⟩
  rintro _ _ ⟨rfl, rfl⟩
  conv => whnf
  exact ⟨rfl, rfl⟩

/-- The digest of two. -/
def twoP (a b : ByteArray) : ByteArray := dgL 4 [a, b]
theorem twoP_size (a b : ByteArray) : (twoP a b).size = 32 := dgL_size _ _
theorem two_c {a b : ByteArray} (ha : a.size = 32) (hb : b.size = 32) : CallR cx 58 [.d .nilP, u8 4, .d (dgD a), .d (dgD b)] [] fun r S => r = .d (dgD (twoP a b)) ∧ S = [] := by
  have wa := wdig_c ha
  have wb := wdig_c hb
  have po := pofL_c (d := 4) (l := [a, b]) (by simp) (by simp only [inL, List.foldl, ByteArray.size_append, textB_size, ha, hb, one_size]; omega)
  unfold twoP
  generalize dgL 4 _ = Q at *
  unfold dgD at *
  generalize D.bytes a = X at *
  generalize D.bytes b = Y at *
  refine callR_of (R := R1) cx_ok Tryd.func58 (by kernel_rfl) rfl ?_
  conv => whnf
  refine ⟨by kernel_rfl, ?_⟩
  conv => whnf
  refine ⟨_, wa, ?_⟩
  conv => whnf
  refine ⟨_, wb, ?_⟩
  conv => whnf
  refine ⟨_, po, ?_⟩
  conv => whnf
  refine ⟨by kernel_rfl, ?_⟩
  conv => whnf
  exact ⟨rfl, rfl⟩
end Go.Proofs.YtghblnkplfajjaaDoor
