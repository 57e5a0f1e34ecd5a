/- Names: how many runes; a text's numbers. -/
import Derived.Test.YtefcpmnhhmpmnaaDoorUA
import Derived.Test.YtefcpmnhhmpmnaaDoorN1
namespace Go.Proofs.YtefcpmnhhmpmnaaDoor
open Go.Ab Go.RowKit

theorem w32 {n : Int} (h : -2147483648 ≤ n ∧ n < 2147483648) : IntKind.i32.wrap n = n := by
  simp [IntKind.wrap, IntKind.bits, IntKind.signed]; omega

def runesN (l : List Nat) : Nat := (l.filter fun k => decide (k < 2000000)).length
def strN (l : List Nat) : Nat := (l.filter fun k => decide (2000000 ≤ k)).length
theorem runesN_nil : runesN [] = 0 := rfl
theorem strN_nil : strN [] = 0 := rfl
theorem runesN_cons (k : Nat) (l : List Nat) : runesN (k :: l) = (if k < 2000000 then 1 else 0) + runesN l := by
  unfold runesN; rw [List.filter_cons]
  by_cases h : k < 2000000
  · rw [if_pos (decide_eq_true h), if_pos h, List.length_cons]; omega
  · rw [if_neg (by rw [decide_eq_false h]; decide), if_neg h]; omega
theorem strN_cons (k : Nat) (l : List Nat) : strN (k :: l) = (if k < 2000000 then 0 else 1) + strN l := by
  unfold strN; rw [List.filter_cons]
  by_cases h : k < 2000000
  · rw [if_neg (by rw [decide_eq_false (by omega)]; decide), if_pos h]; omega
  · rw [if_pos (decide_eq_true (by omega)), if_neg h, List.length_cons]; omega
theorem runesN_le (l : List Nat) : runesN l ≤ l.length := List.length_filter_le ..
theorem strN_le (l : List Nat) : strN l ≤ l.length := List.length_filter_le ..

theorem stray_key (s : ByteArray) (i : Nat) : stray s i = decide (¬ (key s i).1 < 2000000) := by
  cases h : stray s i with
  | true => rw [(key_stray h).1]; symm; exact decide_eq_true (by show ¬ _ + _ < _; omega)
  | false => rw [key_plain h]; symm; exact decide_eq_false (by have := (decode_range s i).1; omega)

abbrev runes (l : List Nat) : List D := l.map fun (k : Nat) => D.int .i32 (k : Int)

theorem keys_c {s : ByteArray} (hm : s.size < 1000000000) : CallR cx 28 [st s] [] fun r S => r = .d (.sl 1 (runes (keysAt s 0))) ∧ S = [] := by
  refine callR_of (R := R1) cx_ok Tryd.func28 (by kernel_rfl) rfl ?_
  conv => whnf
  refine .inl ?_
  conv => whnf
  refine .inr ⟨21, 1, ?_⟩
  conv => whnf
  refine .inr ⟨fun m l S => ∃ (i : Nat) (xs : List Nat), xs ++ keysAt s i = keysAt s 0 ∧ xs.length ≤ i ∧ i ≤ s.size + 3 ∧ m = s.size + 4 - i ∧
      l = [(0, st s), (3, .row 0), (7, .ptr 1 [])] ∧ S = [.row 21 1 (runes xs), .iter s i],
    ⟨_, _, ⟨0, [], rfl, Nat.le_refl _, by omega, rfl, rfl, rfl⟩, ⟨rfl, rfl, rfl, trivial⟩⟩, ?_⟩
  rintro _ _ _ ⟨i, xs, h1, h2, h3, rfl, rfl, rfl⟩
  conv => whnf
  refine brec (fun h4 => ?_) (fun h4 => ?_)
  · have hi := of_decide_eq_true h4
    have br := broken_c (s := s) hi
    have hd := decode_range s i
    have hb := byteAt_range s i
    have hbe := byteAt_eq s i
    have hl : (runes xs).length = xs.length := List.length_map _
    rw [keysAt_lt hi, key_two] at h1
    cases hq : stray s i with
    | true =>
      rw [hq] at br
      have hk := (key_stray hq).1
      rw [hk] at h1
      have hk2 : (key s i).2 = (Utf8.decode s i).2 := key_two
      rw [hk] at hk2
      generalize Utf8.decode s i = d at *
      obtain ⟨r, w⟩ := d
      simp only at hd h1 br hk2
      subst hk2
      generalize (r : Int) = R at *
      conv => whnf
      refine ⟨_, br, ?_⟩
      rintro _ _ ⟨rfl, rfl⟩
      conv => whnf
      refine ⟨⟨by omega, by show (i : Int) < _; omega⟩, ?_⟩
      conv => whnf
      refine ⟨⟨Nat.one_pos, by show ((runes xs).length + 1) * (4 + 1) ≤ _; rw [hl]; omega⟩, ?_⟩
      conv => whnf
      refine ⟨s.size + 4 - (i + 1), [(0, st s), (3, .row 2), (7, .ptr 1 [])], [2, 1], by omega, ⟨rfl, rfl, rfl, trivial⟩, ?_⟩
      conv => whnf
      refine ⟨i + 1, xs ++ [(s.get! i).toNat + 2000000], ?_, ?_, by omega, rfl, rfl, ?_⟩
      · rw [List.append_assoc]; exact h1
      · rw [List.length_append]; show xs.length + 1 ≤ _; omega
      · rw [Int.toNat_natCast, hbe, w32 (n := ((s.get! i).toNat : Int)) (by omega), w32 (by omega)]
        show _ = [Blk.row 21 1 (List.map (fun (k : Nat) => D.int .i32 (k : Int)) (xs ++ [(s.get! i).toNat + 2000000])), _]
        rw [List.map_append]
        rfl
    | false =>
      rw [hq] at br
      have hk := key_plain hq
      rw [hk] at h1
      generalize Utf8.decode s i = d at *
      obtain ⟨r, w⟩ := d
      simp only at hd h1 br
      conv => whnf
      refine ⟨_, br, ?_⟩
      rintro _ _ ⟨rfl, rfl⟩
      conv => whnf
      refine ⟨⟨Nat.one_pos, by show ((runes xs).length + 1) * (4 + 1) ≤ _; rw [hl]; omega⟩, ?_⟩
      conv => whnf
      refine ⟨s.size + 4 - (i + w), [(0, st s), (3, .row 2), (7, .ptr 1 [])], [2, 1], by omega, ⟨rfl, rfl, rfl, trivial⟩, ?_⟩
      conv => whnf
      refine ⟨i + w, xs ++ [r], ?_, ?_, by omega, rfl, rfl, ?_⟩
      · rw [List.append_assoc]; exact h1
      · rw [List.length_append]; show xs.length + 1 ≤ _; omega
      · show _ = [Blk.row 21 1 (List.map (fun (k : Nat) => D.int .i32 (k : Int)) (xs ++ [r])), _]
        rw [List.map_append]
        rfl
  · have h4 := of_decide_eq_false h4
    rw [keysAt_ge (by omega), List.append_nil] at h1
    conv => whnf
    rw [h1]
    exact ⟨rfl, rfl⟩
end Go.Proofs.YtefcpmnhhmpmnaaDoor
