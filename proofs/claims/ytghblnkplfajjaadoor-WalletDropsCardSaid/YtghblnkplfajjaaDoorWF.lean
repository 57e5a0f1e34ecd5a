/- A seed's keys (layer 6) without a log: a level up, a path. -/
import Derived.Test.YtghblnkplfajjaaDoorWE
set_option linter.unusedVariables false
namespace Go.Proofs.YtghblnkplfajjaaDoor
open Go.Ab

/-- A level's digests, two by two: the first of them. -/
def upN (l : List ByteArray) : Nat → List ByteArray
  | 0 => []
  | k + 1 => upN l k ++ [twoP (l.getD (2 * k) z32) (l.getD (2 * k + 1) z32)]
theorem upN_len (l : List ByteArray) : ∀ n, (upN l n).length = n
  | 0 => rfl
  | n + 1 => by rw [upN, List.length_append, upN_len l n]; rfl
theorem upN_32 (l : List ByteArray) : ∀ n, ∀ b ∈ upN l n, b.size = 32
  | 0 => fun b h => absurd h (by simp [upN])
  | n + 1 => fun b h => by
    rw [upN, List.mem_append] at h
    rcases h with h | h
    · exact upN_32 l n b h
    · rw [List.mem_singleton.1 h]; exact twoP_size _ _
def upP (l : List ByteArray) : List ByteArray := upN l (l.length / 2)
theorem getD_32 {l : List ByteArray} (h : ∀ b ∈ l, b.size = 32) (j : Nat) : (l.getD j z32).size = 32 := by
  rw [List.getD_eq_getElem?_getD]
  by_cases hj : j < l.length
  · rw [List.getElem?_eq_getElem hj]; exact h _ (List.getElem_mem hj)
  · rw [List.getElem?_eq_none (by omega)]; exact z32_size
theorem dgs_at {l : List ByteArray} {j : Nat} (h : j < l.length) : (dgs l).getD j .nilP = dgD (l.getD j z32) := by
  have e := dgs_getD h
  rw [Int.toNat_natCast] at e
  rw [e, List.getD_eq_getElem?_getD, List.getElem?_eq_getElem h]
  rfl

set_option maxRecDepth 100000 in
theorem up_c {l : List ByteArray} (hf : ∀ b ∈ l, b.size = 32) (hl : l.length ≤ 1000) : CallR cx 48 [.d .nilP, .d (.sl 32 (dgs l))] [] fun r S => r = .d (.sl 32 (dgs (upP l))) ∧ S = [] := by
  have tc := fun (i j : Nat) => two_c (getD_32 hf i) (getD_32 hf j)
  have dl := dgs_len l
  have da := fun j h => dgs_at (l := l) (j := j) h
  unfold upP
  have e1 := fun k => show dgs (upN l (k + 1)) = dgs (upN l k) ++ [dgD (twoP (l.getD (2 * k) z32) (l.getD (2 * k + 1) z32))] from dgs_snoc _ _
  have ul := upN_len l
  generalize hG : (fun i => l.getD i z32) = G at *
  have hG' : ∀ i, l.getD i z32 = G i := fun i => by rw [← hG]
  simp only [hG'] at tc da e1
  clear hG hG'
  generalize dgs l = X at *
  refine callR_of (R := R1) cx_ok Tryd.func48 (by kernel_rfl) rfl ?_
  conv => whnf
  refine .inl ?_
  conv => whnf
  refine .inr ⟨23, 32, ?_⟩
  conv => whnf
  refine .inr ⟨fun m L S => ∃ k : Nat, k ≤ l.length / 2 ∧ m = l.length / 2 - k ∧
      L = [(0, .d .nilP), (1, .d (.sl 32 X)), (5, .row 0), (6, i64 ((2 * k : Nat) : Int))] ∧
      S = [.row 23 32 (dgs (upN l k))],
    ⟨_, _, ⟨0, Nat.zero_le _, rfl, rfl, rfl⟩, ⟨rfl, rfl, rfl, rfl, trivial⟩⟩, ?_⟩
  rintro _ _ _ ⟨k, hk, rfl, rfl, rfl⟩
  have e1 := e1 k
  have l1 : (dgs (upN l k)).length = k := by rw [dgs_len, upN_len]
  have f1 : k = l.length / 2 → upN l k = upN l (l.length / 2) := fun e => by rw [e]
  generalize upN l k = P at *
  have e2 : IntKind.i64.wrap (((2 * k : Nat) : Int) + 1) = ((2 * k + 1 : Nat) : Int) := by rw [w64 (by omega)]; omega
  have e3 : IntKind.i64.wrap (((2 * k : Nat) : Int) + 2) = ((2 * (k + 1) : Nat) : Int) := by rw [w64 (by omega)]; omega
  have tc := tc (2 * k) (2 * k + 1)
  conv => whnf
  rw [e2, dl]
  refine brec (fun g => ?_) (fun g => ?_)
  · have g := of_decide_eq_true g
    have hlt : 2 * k + 1 < l.length := by omega
    have da1 := da (2 * k) (by omega)
    have da2 := da (2 * k + 1) (by omega)
    generalize twoP (G (2 * k)) (G (2 * k + 1)) = T at *
    generalize G (2 * k) = A at *
    generalize G (2 * k + 1) = B at *
    conv => whnf
    refine ⟨by kernel_rfl, ?_⟩
    refine ⟨⟨by omega, by rw [dl]; omega⟩, ?_⟩
    rw [Int.toNat_natCast, da1]
    conv => whnf
    rw [e2]
    refine ⟨⟨by omega, by rw [dl]; omega⟩, ?_⟩
    rw [Int.toNat_natCast, da2]
    conv => whnf
    refine ⟨_, tc, ?_⟩
    conv => whnf
    refine ⟨⟨by simp, by rw [l1]; simp; omega⟩, ?_⟩
    conv => whnf
    refine ⟨by kernel_rfl, ?_⟩
    conv => whnf
    refine ⟨l.length / 2 - (k + 1), [(0, .d .nilP), (1, .d (.sl 32 X)), (5, .row 14), (6, i64 ((2 * (k + 1) : Nat) : Int))], [14], by omega, ⟨rfl, rfl, rfl, congrArg (fun z => some (i64 z)) e3, trivial⟩, ?_⟩
    conv => whnf
    exact ⟨k + 1, by omega, rfl, rfl, by rw [e1]; rfl⟩
  · have g := of_decide_eq_false g
    obtain rfl : k = l.length / 2 := by omega
    rw [f1 rfl]
    conv => whnf
    exact ⟨rfl, rfl⟩
end Go.Proofs.YtghblnkplfajjaaDoor
