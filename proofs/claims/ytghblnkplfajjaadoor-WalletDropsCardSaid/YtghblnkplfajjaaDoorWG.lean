/- A seed's keys (layer 6) without a log: a path. -/
import Derived.Test.YtghblnkplfajjaaDoorWF
set_option linter.unusedVariables false
namespace Go.Proofs.YtghblnkplfajjaaDoor
open Go.Ab

theorem brT {A B : Prop} {b : Bool} (h : b = true) (x : A) : @Bool.rec (fun _ => Prop) B A b := by subst h; exact x

/-- From a leaf to the top, so many levels. -/
def pathN : Nat → List ByteArray → Nat → List ByteArray
  | 0, _, _ => []
  | k + 1, l, i => l.getD (i ^^^ 1) z32 :: pathN k (upP l) (i / 2)
theorem pathN_len : ∀ (k : Nat) (l : List ByteArray) (i : Nat), (pathN k l i).length = k
  | 0, _, _ => rfl
  | k + 1, l, i => by rw [pathN, List.length_cons, pathN_len k]
theorem pathN_32 : ∀ (k : Nat) {l : List ByteArray} (i : Nat), (∀ b ∈ l, b.size = 32) → ∀ b ∈ pathN k l i, b.size = 32
  | 0, _, _, _ => fun b h => absurd h (by simp [pathN])
  | k + 1, l, i, hl => fun b h => by
    rw [pathN, List.mem_cons] at h
    rcases h with rfl | h
    · exact getD_32 hl _
    · exact pathN_32 k _ (upN_32 l _) b h
theorem upP_len (l : List ByteArray) : (upP l).length = l.length / 2 := upN_len _ _

theorem xor1 {n : Nat} (h : n < 1000000) : IntKind.i64.wrap ((BitVec.ofInt IntKind.i64.bits (n : Int) ^^^ BitVec.ofInt IntKind.i64.bits 1).toNat : Int) = ((n ^^^ 1 : Nat) : Int) := by
  have h1 : (BitVec.ofInt IntKind.i64.bits (n : Int)).toNat = n := by
    show (BitVec.ofInt 64 (n : Int)).toNat = n
    rw [BitVec.toNat_ofInt]; omega
  have h2 : (BitVec.ofInt IntKind.i64.bits 1).toNat = 1 := by decide
  rw [BitVec.toNat_xor, h1, h2]
  have h3 : n ^^^ 1 < 2 ^ 20 := Nat.xor_lt_two_pow (by omega) (by decide)
  exact w64 (by omega)

set_option maxRecDepth 100000 in
theorem path_c {s : ByteArray} {n ix : Nat} {l : List ByteArray} (hf : ∀ b ∈ l, b.size = 32) (hl : l.length = 16) (hx : ix < 16) :
    CallR cx 33 [.d (signD s n l), .d .nilP, i64 (ix : Int)] [] fun r S => r = .d (.sl 32 (dgs (pathN 4 l ix))) ∧ S = [] := by
  refine callR_of (R := R1) cx_ok Tryd.func33 (by kernel_rfl) rfl ?_
  conv => whnf
  refine .inl ?_
  conv => whnf
  refine .inr ⟨23, 32, ?_⟩
  conv => whnf
  refine .inr ⟨fun m L S => ∃ (lv P : List ByteArray) (i : Nat), m ≤ 4 ∧ lv.length = 2 ^ m ∧ i < 2 ^ m ∧ (∀ b ∈ lv, b.size = 32) ∧ P ++ pathN m lv i = pathN 4 l ix ∧
      L = [(1, .d .nilP), (2, i64 (i : Int)), (7, .row 1), (8, .d (.sl 32 (dgs lv)))] ∧
      S = [.var (.d (signD s n l)), .row 23 32 (dgs P)],
    ⟨4, _, ⟨l, [], ix, by decide, hl, hx, hf, rfl, rfl, rfl⟩, ⟨rfl, rfl, rfl, rfl, trivial⟩⟩, ?_⟩
  rintro m _ _ ⟨lv, P, i, hm, hlv, hi, hfv, hP, rfl, rfl⟩
  have hPl : P.length = 4 - m := by
    have := congrArg List.length hP
    rw [List.length_append, pathN_len, pathN_len] at this
    omega
  have dl := dgs_len lv
  have dp := dgs_len P
  have h16 : 2 ^ m ≤ 2 ^ 4 := Nat.pow_le_pow_right (by decide) hm
  cases m with
  | zero =>
    rw [Nat.pow_zero] at hlv
    rw [show P = pathN 4 l ix by rw [← hP, pathN, List.append_nil]]
    conv => whnf
    refine brF (decide_eq_false (by rw [dl]; omega)) ?_
    conv => whnf
    exact ⟨rfl, rfl⟩
  | succ m =>
    have hp2 : 2 ^ (m + 1) = 2 * 2 ^ m := by rw [Nat.pow_succ]; omega
    have hp1 : 0 < 2 ^ m := Nat.pow_pos (by decide)
    have hxl : i ^^^ 1 < 2 ^ (m + 1) := Nat.xor_lt_two_pow hi (by omega)
    have ex := xor1 (n := i) (by omega)
    have eq : IntKind.i64.wrap (Int.tdiv (i : Int) 2) = ((i / 2 : Nat) : Int) := by
      rw [show Int.tdiv (i : Int) 2 = ((i / 2 : Nat) : Int) from rfl, w64 (by omega)]
    have da := dgs_at (l := lv) (j := i ^^^ 1) (by omega)
    have uc := up_c hfv (by omega)
    have hP2 : (P ++ [lv.getD (i ^^^ 1) z32]) ++ pathN m (upP lv) (i / 2) = pathN 4 l ix := by
      rw [← hP, pathN, List.append_assoc]; rfl
    have hul := upP_len lv
    have hu32 : ∀ b ∈ upP lv, b.size = 32 := upN_32 lv _
    generalize lv.getD (i ^^^ 1) z32 = A at *
    generalize i ^^^ 1 = xi at *
    have edg : dgs (P ++ [A]) = dgs P ++ [dgD A] := dgs_snoc _ _
    generalize hX : dgs lv = X at *
    conv => whnf
    refine brT (decide_eq_true (by rw [dl]; omega)) ?_
    conv => whnf
    rw [ex]
    refine ⟨⟨by omega, by rw [dl]; omega⟩, ?_⟩
    rw [Int.toNat_natCast, da]
    conv => whnf
    refine ⟨⟨by simp, by rw [dp]; simp; omega⟩, ?_⟩
    conv => whnf
    refine ⟨_, uc, ?_⟩
    rintro _ _ ⟨rfl, rfl⟩
    conv => whnf
    refine ⟨by decide, ?_⟩
    conv => whnf
    refine ⟨m, [(1, .d .nilP), (2, i64 ((i / 2 : Nat) : Int)), (7, .row 2), (8, .d (.sl 32 (dgs (upP lv))))], [0, 2], by omega, ⟨rfl, congrArg (fun z => some (i64 z)) eq, rfl, rfl, trivial⟩, ?_⟩
    conv => whnf
    exact ⟨upP lv, P ++ [A], i / 2, by omega, by omega, by omega, hu32, hP2, rfl, by rw [edg]; rfl⟩
end Go.Proofs.YtghblnkplfajjaaDoor
