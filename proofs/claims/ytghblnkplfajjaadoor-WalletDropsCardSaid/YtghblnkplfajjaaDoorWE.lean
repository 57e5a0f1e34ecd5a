/- A seed's keys (layer 6) without a log: the leaves. -/
import Derived.Test.YtghblnkplfajjaaDoorWD
set_option linter.unusedVariables false
namespace Go.Proofs.YtghblnkplfajjaaDoor
open Go.Ab

/-- The words of the first keys. -/
def leavesP (s : ByteArray) : Nat → List ByteArray
  | 0 => []
  | j + 1 => leavesP s j ++ [wordP s j]
theorem leaves_len (s : ByteArray) : ∀ n, (leavesP s n).length = n
  | 0 => rfl
  | n + 1 => by rw [leavesP, List.length_append, leaves_len s n]; rfl
theorem leaves_32 (s : ByteArray) : ∀ n, ∀ b ∈ leavesP s n, b.size = 32
  | 0 => fun b h => absurd h (by simp [leavesP])
  | n + 1 => fun b h => by
    rw [leavesP, List.mem_append] at h
    rcases h with h | h
    · exact leaves_32 s n b h
    · rw [List.mem_singleton.1 h]; exact wordP_size _ _

/-- A signer. -/
abbrev signD (s : ByteArray) (n : Nat) (l : List ByteArray) : D := .agg [dgD s, .int .i64 (n : Int), .sl 32 (dgs l)]

set_option maxRecDepth 100000 in
theorem knew_c {s : ByteArray} (h : s.size = 32) : CallR cx 6 [.d .nilP, .d (dgD s)] [] fun r S => r = .d (signD s 0 (leavesP s 16)) ∧ S = [] := by
  have wc := fun (i : Nat) (hi : i < 4294967296) => word_c h hi
  have hz : (dgD s).size = 32 := rfl
  refine callR_of (R := R3) cx_ok Tryd.func6 (by kernel_rfl) rfl ?_
  conv => whnf
  refine .inr ⟨[none, none, some 23], ?_⟩
  conv => whnf
  refine .inr ⟨fun m L S => ∃ j : Nat, j ≤ 16 ∧ m = 16 - j ∧
      L = [(0, .d .nilP), (3, .ptr 0 []), (4, .ptr 1 []), (5, .ptr 3 []), (9, i64 (j : Int))] ∧
      S = [.var (.d (dgD s)), .var (.d (.agg [zD, .int .i64 0, .sl 32 []])), .row 23 32 (dgs (leavesP s j)), .var (.agg [.d (dgD s), i64 0, .row 2])],
    ⟨_, _, ⟨0, Nat.zero_le _, rfl, rfl, rfl⟩, ⟨rfl, rfl, rfl, rfl, rfl, trivial⟩⟩, ?_⟩
  rintro _ _ _ ⟨j, hj, rfl, rfl, rfl⟩
  have e1 : dgs (leavesP s (j + 1)) = dgs (leavesP s j) ++ [dgD (wordP s j)] := dgs_snoc _ _
  have l1 : (dgs (leavesP s j)).length = j := by rw [dgs_len, leaves_len]
  have f1 : j = 16 → leavesP s j = leavesP s 16 := fun e => by rw [e]
  generalize leavesP s j = P at *
  conv => whnf
  refine brec (fun g => ?_) (fun g => ?_)
  · have g := of_decide_eq_true g
    have hlt : j < 16 := by omega
    have e3 : IntKind.i64.wrap ((j : Int) + 1) = ((j + 1 : Nat) : Int) := by rw [w64 (by omega)]; omega
    have wc := wc j (by omega)
    generalize wordP s j = A at *
    conv => whnf
    refine ⟨by kernel_rfl, ?_⟩
    conv => whnf
    refine ⟨_, wc, ?_⟩
    conv => whnf
    refine ⟨⟨by simp, by rw [l1]; simp; omega⟩, ?_⟩
    conv => whnf
    refine ⟨by kernel_rfl, ?_⟩
    conv => whnf
    refine ⟨16 - (j + 1), [(0, .d .nilP), (3, .ptr 0 []), (4, .ptr 1 []), (5, .ptr 3 []), (9, i64 ((j + 1 : Nat) : Int))], [0, 1, 11, 3], by omega, ⟨rfl, rfl, rfl, rfl, congrArg (fun z => some (i64 z)) e3, trivial⟩, ?_⟩
    conv => whnf
    exact ⟨j + 1, by omega, rfl, rfl, by rw [e1]; rfl⟩
  · have g := of_decide_eq_false g
    obtain rfl : j = 16 := by omega
    rw [f1 rfl]
    conv => whnf
    exact ⟨rfl, rfl⟩
end Go.Proofs.YtghblnkplfajjaaDoor
