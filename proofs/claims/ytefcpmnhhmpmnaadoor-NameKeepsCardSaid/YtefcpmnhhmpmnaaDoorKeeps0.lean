/- Right names: what NameKeeps says of them, with no program in sight. -/
import Derived.Test.YtefcpmnhhmpmnaaDoorND
namespace Go.Proofs.YtefcpmnhhmpmnaaDoor
open Go.Ab Go.RowKit

theorem foldAt_B (s : ByteArray) : foldAt s 0 = foldB s.data.toList := by
  unfold foldAt foldB; rw [keysAt_keysL, List.drop_zero]
theorem baL_list (l : List UInt8) : (baL l).data.toList = l := List.toList_toArray
theorem baL_back (s : ByteArray) : baL s.data.toList = s := by cases s; rfl
theorem fold_twice (s : ByteArray) : foldAt (baL (foldAt s 0)) 0 = foldAt s 0 := by
  rw [foldAt_B, foldAt_B, baL_list, foldB_twice]

theorem bytesK_len : ∀ l : List Nat, (bytesK l).length ≤ 4 * l.length
  | [] => Nat.le_refl _
  | k :: l => by
    rw [bytesK_cons, List.length_append, List.length_cons]
    have := bytesK_len l
    have := encK_len' (k := k)
    omega
theorem foldAt_len (s : ByteArray) : (foldAt s 0).length ≤ 4 * s.size := by
  unfold foldAt
  have h1 := bytesK_len ((keysAt s 0).map foldK)
  have h2 := keysAt_length s 0
  rw [List.length_map] at h1
  omega

theorem okR_plain {f : Bool} {k : Nat} (h : okR f (k : Int) = true) : foldK k = k ∧ k < 2000000 ∧ ¬ k < 32 ∧ k ≠ 127 := by
  have hs : smallI (k : Int) ∨ (48 ≤ k ∧ k ≤ 57) := by
    unfold okR at h
    simp only [Bool.or_eq_true, Bool.and_eq_true, decide_eq_true_eq] at h
    rcases h with h | ⟨_, h⟩
    · exact .inl h
    · exact .inr (by omega)
  unfold smallI at hs
  refine ⟨?_, by omega, by omega, by omega⟩
  unfold foldK
  rw [if_neg]
  intro hc
  have := capK_iff.1 hc
  omega

theorem goR_mem : ∀ l n, goR l n = true → ∀ k ∈ l, foldK k = k ∧ k < 2000000
  | [], _, _, _, hk => by cases hk
  | a :: l, n, h, k, hk => by
    rw [goR_cons, Bool.and_eq_true] at h
    rcases List.mem_cons.1 hk with rfl | hk
    · have := okR_plain h.1; exact ⟨this.1, this.2.1⟩
    · exact goR_mem l (n + 1) h.2 k hk
theorem goR_len : ∀ l n, goR l n = true → 1 ≤ n + l.length ∧ n + l.length ≤ 12
  | [], n, h => by
    unfold goR at h
    simp only [Bool.and_eq_true, decide_eq_true_eq] at h
    rw [List.length_nil]; omega
  | a :: l, n, h => by
    rw [goR_cons, Bool.and_eq_true] at h
    have := goR_len l (n + 1) h.2
    rw [List.length_cons]; omega
theorem goR_goS : ∀ l n, goR l n = true → goS l n = true
  | [], n, h => by
    have := goR_len [] n h
    unfold goS
    exact decide_eq_true (by rw [List.length_nil] at this; omega)
  | a :: l, n, h => by
    rw [goR_cons, Bool.and_eq_true] at h
    have hp := okR_plain h.1
    obtain ⟨C, hC⟩ : ∃ C : Nat, C = 2000000 := ⟨_, rfl⟩
    rw [goS_cons]
    rw [← hC] at hp ⊢
    rw [decide_eq_false hp.2.2.1, decide_eq_false hp.2.2.2, decide_eq_false (by omega), goR_goS l (n + 1) h.2]
    rfl
theorem goR_pre : ∀ p l n, p <+: l → goR l n = true → 1 ≤ n + p.length → goR p n = true
  | [], l, n, _, h, h1 => by
    have := goR_len l n h
    rw [List.length_nil] at h1
    unfold goR
    rw [decide_eq_true (by omega), decide_eq_true (by omega)]
    rfl
  | a :: p, [], n, hp, _, _ => by cases hp with | intro z hz => cases hz
  | a :: p, b :: l, n, hp, h, _ => by
    obtain ⟨rfl, hq⟩ := List.cons_prefix_cons.1 hp
    rw [goR_cons, Bool.and_eq_true] at h ⊢
    exact ⟨h.1, goR_pre p l (n + 1) hq h.2 (by omega)⟩

theorem right_fold {s : ByteArray} (h : rightT s = true) : baL (foldAt s 0) = s := by
  have hm := goR_mem _ _ h
  rw [foldAt_B, foldB_id, baL_back]
  intro k hk
  refine (hm k ?_).1
  rw [keysAt_keysL, List.drop_zero]; exact hk
theorem right_says {s : ByteArray} (h : rightT s = true) : saysT s = true := goR_goS _ _ h
theorem right_size {s : ByteArray} (h : rightT s = true) : 1 ≤ s.size := by
  have := (goR_len _ _ h).1
  have := keysAt_length s 0
  omega
theorem strN_pos {l : List Nat} {k : Nat} (h : k ∈ l) (hk : 2000000 ≤ k) : 0 < strN l :=
  List.length_pos_of_mem (List.mem_filter.2 ⟨h, decide_eq_true hk⟩)
theorem right_cut {s : ByteArray} {c : Nat} (h : rightT s = true) (h1 : 1 ≤ c) (h2 : c ≤ s.size) : 0 < strN (keysAt (s.extract 0 c) 0) ∨ rightT (s.extract 0 c) = true := by
  have hm := goR_mem _ _ h
  have hk : keysAt s 0 = keysL s.data.toList := by rw [keysAt_keysL, List.drop_zero]
  have hp : (s.extract 0 c).data.toList = s.data.toList.take c := by
    rw [ByteArray.data_extract, Array.toList_extract]; simp [List.extract_eq_take_drop]
  have hkp : keysAt (s.extract 0 c) 0 = keysL (s.data.toList.take c) := by rw [keysAt_keysL, List.drop_zero, hp]
  rw [hk] at hm
  rcases keys_cut s.data.toList (fun k q => (hm k q).2) (s.data.toList.take c) (List.take_prefix _ _) with ⟨k, g1, g2⟩ | g
  · left; rw [hkp]; exact strN_pos g1 g2
  · right
    unfold rightT at h ⊢
    rw [hk] at h
    rw [hkp]
    refine goR_pre _ _ 0 g h ?_
    have hne : s.data.toList.take c ≠ [] := by
      intro e
      have := congrArg List.length e
      rw [List.length_take, Array.length_toList, List.length_nil] at this
      have hs : s.data.size = s.size := rfl
      omega
    rw [keysL_ne hne, List.length_cons]
    omega
end Go.Proofs.YtefcpmnhhmpmnaaDoor
