/- Names: a text's runes as numbers; small letters. -/
import Derived.Test.YtefcpmnhhmpmnaaDoorU6
namespace Go.Proofs.YtefcpmnhhmpmnaaDoor
open Go.Ab Go.RowKit

abbrev ints (l : List Nat) : List D := l.map fun (k : Nat) => D.int .i64 (k : Int)

theorem numbers_c {s : ByteArray} (hm : s.size < 1000000000) : CallR cx 25 [st s] [] fun r S => r = .d (.sl 1 (ints (keysAt s 0))) ∧ S = [] := by
  refine callR_of (R := R1) cx_ok Tryd.func25 (by kernel_rfl) rfl ?_
  conv => whnf
  refine .inl ?_
  conv => whnf
  refine .inr ⟨3, 1, ?_⟩
  conv => whnf
  refine .inr ⟨fun n l S => ∃ (i : Nat) (xs : List Nat), xs ++ keysAt s i = keysAt s 0 ∧ xs.length ≤ i ∧ i ≤ s.size + 3 ∧ n = s.size + 4 - i ∧
      l = [(0, st s), (3, .row 0), (4, i64 (i : Int))] ∧ S = [.row 3 1 (ints xs)],
    ⟨_, _, ⟨0, [], rfl, Nat.le_refl _, by omega, rfl, rfl, rfl⟩, ⟨rfl, rfl, rfl, trivial⟩⟩, ?_⟩
  rintro _ _ _ ⟨i, xs, h1, h2, h3, rfl, rfl, rfl⟩
  conv => whnf
  refine brec (fun h4 => ?_) (fun h4 => ?_)
  · have h4 := of_decide_eq_true h4
    have hi : i < s.size := by omega
    conv => whnf
    refine ⟨_, one_c (s := s) (x := (i : Int)) rfl hi hm, ?_⟩
    rintro _ _ ⟨rfl, rfl⟩
    conv => whnf
    have hp := key_pos s i
    have hf := key_four s i
    refine ⟨⟨Nat.one_pos, by show ((ints xs).length + 1) * (8 + 1) ≤ _; rw [List.length_map]; omega⟩, ?_⟩
    conv => whnf
    refine ⟨s.size + 4 - (i + (key s i).2), [(0, st s), (3, .row 1), (4, i64 ((i + (key s i).2 : Nat) : Int))], [1], by omega,
      ⟨rfl, rfl, congrArg (fun z => some (i64 z)) (by rw [w64 (by omega)]; omega), trivial⟩, ?_⟩
    conv => whnf
    refine ⟨i + (key s i).2, xs ++ [(key s i).1], ?_, ?_, by omega, rfl, rfl, ?_⟩
    · rw [← h1, keysAt_lt hi, List.append_assoc]; rfl
    · rw [List.length_append]; show xs.length + 1 ≤ _; omega
    · show _ = [Blk.row 3 1 (List.map (fun (k : Nat) => D.int .i64 (k : Int)) (xs ++ [(key s i).1]))]
      rw [List.map_append]
      rfl
  · have h4 := of_decide_eq_false h4
    rw [keysAt_ge (by omega), List.append_nil] at h1
    conv => whnf
    rw [h1]
    exact ⟨rfl, rfl⟩
end Go.Proofs.YtefcpmnhhmpmnaaDoor
