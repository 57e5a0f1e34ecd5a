/- sha-256 of texts: the program's Sum, the document's. -/
import Derived.Test.YtboohfijacjhjaaDoorS7
set_option linter.unusedVariables false
namespace Go.Proofs.YtboohfijacjhjaaDoor
open Go.Ab

def fw (i : Nat) : W32 := BitVec.ofInt 32 (fiL.getD i 0)
def H0 : H8 := ⟨fw 0, fw 1, fw 2, fw 3, fw 4, fw 5, fw 6, fw 7⟩
/-- sha-256. -/
def shaP (s : ByteArray) : ByteArray := endP (afterP H0 s).1 (afterP H0 s).2 s.size
theorem shaP_size (s : ByteArray) : (shaP s).size = 32 := digP_size _

theorem afterN_size : ∀ (n : Nat) (h : H8) (s : ByteArray), (afterN n h s).2.size ≤ s.size
  | 0, _, _ => Nat.le_refl _
  | n + 1, h, s => by
    rw [afterN]
    split
    · refine Nat.le_trans (afterN_size n _ _) ?_
      rw [ByteArray.size_extract]; omega
    · exact Nat.le_refl _
theorem H0_first : H0.D = .arr 8 1 (fiL.map fun z => .int .u32 z) := by
  have h : ∀ i : Fin 8, wi (fw i.val) = fiL.getD i.val 0 := by decide +kernel
  show D.arr 8 1 [wD (fw 0), wD (fw 1), wD (fw 2), wD (fw 3), wD (fw 4), wD (fw 5), wD (fw 6), wD (fw 7)] = _
  unfold wD
  rw [show wi (fw 0) = _ from h 0, show wi (fw 1) = _ from h 1, show wi (fw 2) = _ from h 2, show wi (fw 3) = _ from h 3, show wi (fw 4) = _ from h 4, show wi (fw 5) = _ from h 5, show wi (fw 6) = _ from h 6, show wi (fw 7) = _ from h 7]
  rfl

theorem begin_c : CallR cx 136 [] [] fun r S => r = .d (stD H0 .empty 0) ∧ S = [] := by
  refine callR_of (R := R1) cx_ok Tryd.func136 (by kernel_rfl) rfl ?_
  conv => whnf
  unfold stD
  rw [H0_first]
  exact ⟨rfl, rfl⟩

theorem rfirst_c : CallR cx 140 [] [] fun r S => r = .d H0.D ∧ S = [] := by
  refine callR_of (R := R1) cx_ok Tryd.func140 (by kernel_rfl) rfl ?_
  conv => whnf
  rw [H0_first]
  exact ⟨rfl, rfl⟩

theorem rsum_sha {s : ByteArray} (hs : s.size ≤ 100000) : CallR cx 130 [st s] [] fun r S => r = .d (dgD (shaP s)) ∧ S = [] := by
  have ra := rafter_c (h := H0) (s0 := s) (by omega)
  have hz := afterN_size s.size H0 s
  have re := rend_sha (h := (afterP H0 s).1) (r := (afterP H0 s).2) (c := s.size) (by omega) (by unfold afterP; omega)
  have ec : IntKind.u64.wrap (s.size : Int) = ((s.size : Nat) : Int) := by rw [IntKind.wrap_u64]; omega
  unfold shaP
  generalize endP (afterP H0 s).1 (afterP H0 s).2 s.size = E at *
  generalize (afterP H0 s).2 = q at *
  generalize (afterP H0 s).1 = Q at *
  obtain ⟨a1, b1, c1, d1, e1, f1, g1, k1⟩ := Q
  refine callR_of (R := R1) cx_ok Tryd.func130 (by kernel_rfl) rfl ?_
  conv => whnf
  refine ⟨_, rfirst_c, ?_⟩
  rintro _ _ ⟨rfl, rfl⟩
  conv => whnf
  refine ⟨by unfold maxLen; omega, ?_⟩
  conv => whnf
  refine ⟨_, ra, ?_⟩
  rintro _ _ ⟨rfl, rfl⟩
  conv => whnf
  rw [ec]
  refine ⟨_, re, ?_⟩
  rintro _ _ ⟨rfl, rfl⟩
  conv => whnf
  exact ⟨rfl, rfl⟩

def stA (s : ByteArray) : Nat → D
  | 0 => stD H0 .empty 0
  | _ => stD (afterP H0 s).1 (afterP H0 s).2 s.size

theorem psum_sha {s : ByteArray} (hs : s.size ≤ 100000) : CallR cx 127 [.d (.sl 1 [.str s])] [] fun r S => r = .d (dgD (shaP s)) ∧ S = [] := by
  have pa := padd_c (h := H0) (r := .empty) (t := s) (c := 0) (by show 0 + s.size ≤ _; omega)
  rw [ByteArray.empty_append, show (0 + s.size) % 18446744073709551616 = s.size by omega] at pa
  have hz := afterN_size s.size H0 s
  have re := pend_sha (h := (afterP H0 s).1) (r := (afterP H0 s).2) (c := s.size) (by omega) (by unfold afterP; omega)
  unfold shaP
  generalize endP (afterP H0 s).1 (afterP H0 s).2 s.size = E at *
  refine callR_of (R := R1) cx_ok Tryd.func127 (by kernel_rfl) rfl ?_
  conv => whnf
  refine ⟨_, begin_c, ?_⟩
  rintro _ _ ⟨rfl, rfl⟩
  conv => whnf
  refine .inl ⟨fun p L S => ∃ j : Nat, j ≤ 1 ∧ p = 1 - j ∧ L = [(2, .ptr 0 []), (3, .ptr 1 []), (7, .d (.sl 1 [.str s])), (8, i64 1), (9, i64 (j : Int))] ∧
      S = [.var (.d (.arr 32 1 (List.replicate 32 (.int .u8 0)))), .var (.d (stA s j))],
    ⟨_, _, ⟨0, Nat.zero_le _, rfl, rfl, rfl⟩, ⟨rfl, rfl, rfl, rfl, rfl, trivial⟩⟩, ?_⟩
  rintro p _ _ ⟨j, hj, rfl, rfl, rfl⟩
  match j, hj with
  | 0, _ =>
    conv => whnf
    refine ⟨⟨by decide, (by decide : (0 : Int) < 1)⟩, ?_⟩
    conv => whnf
    refine ⟨_, pa, ?_⟩
    rintro _ _ ⟨rfl, rfl⟩
    generalize hq : (afterP H0 s).1 = Q
    obtain ⟨a1, b1, c1, d1, e1, f1, g1, k1⟩ := Q
    conv => whnf
    refine ⟨_, _, 2, (by decide : 1 - 1 < 1 - 0), ⟨1, by decide, rfl, rfl, ?_⟩, ⟨rfl, rfl, rfl, rfl, rfl, trivial⟩, rfl⟩
    unfold stA
    rw [hq]
    rfl
  | 1, _ =>
    unfold stA
    generalize (afterP H0 s).2 = q at *
    generalize (afterP H0 s).1 = Q at *
    obtain ⟨a1, b1, c1, d1, e1, f1, g1, k1⟩ := Q
    conv => whnf
    refine ⟨_, re, ?_⟩
    rintro _ _ ⟨rfl, rfl⟩
    conv => whnf
    exact ⟨rfl, rfl⟩
end Go.Proofs.YtboohfijacjhjaaDoor
