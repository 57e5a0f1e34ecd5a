/- A text quoted, the model's. -/
import Derived.Test.YtefcpmnhhmpmnaaDoorNB
namespace Go.Proofs.YtefcpmnhhmpmnaaDoor
open Go.Ab Go.RowKit

theorem keysAt_small (s : ByteArray) : ∀ i, ∀ k ∈ keysAt s i, k < 3000000 := by
  intro i
  induction h : s.size - i using Nat.strongRecOn generalizing i with
  | _ n ih =>
    intro k hk
    by_cases hi : i < s.size
    · have hp := key_pos s i
      rw [keysAt_lt hi] at hk
      rcases List.mem_cons.1 hk with rfl | hk
      · exact key_lt s i
      · exact ih (s.size - (i + (key s i).2)) (by omega) _ rfl k hk
    · rw [keysAt_ge hi] at hk; cases hk
theorem qK_str {k : Nat} (c1 : ¬ (k = 34 ∨ k = 92)) (c2 : ¬ (32 ≤ k ∧ k ≤ 126)) (c3 : 2000000 ≤ k) : qK k = [92, 120] ++ hexL (k - 2000000) ++ [59] := by
  unfold qK; rw [if_neg c1, if_neg c2, if_pos c3]
theorem sizes {a b : List UInt8} (h : a.length + b.length ≤ 1000000000) : (baL a).size + (baL b).size ≤ 9223372036854775807 := by
  rw [show (baL a).size = a.length from List.size_toArray, show (baL b).size = b.length from List.size_toArray]
  omega

theorem rquote_c {s : ByteArray} (hm : s.size < 10000000) : CallR cx 23 [st s] [] fun r S => r = st (baL (34 :: quoteAt s 0)) ∧ S = [] := by
  have nu := numbers_c (s := s) (by omega)
  have hL := keysAt_length s 0
  have hq : 34 :: quoteAt s 0 = 34 :: ((keysAt s 0).flatMap qK ++ [34]) := rfl
  have hk3 := keysAt_small s 0
  rw [hq]
  generalize keysAt s 0 = L at *
  have hlen : (ints L).length = L.length := List.length_map _
  refine callR_of (R := R1) cx_ok Tryd.func23 (by kernel_rfl) rfl ?_
  conv => whnf
  refine ⟨_, nu, ?_⟩
  rintro _ _ ⟨rfl, rfl⟩
  conv => whnf
  refine .inl ⟨fun m l S => ∃ (j : Nat) (xs : List UInt8), xs ++ (L.drop j).flatMap qK = 34 :: L.flatMap qK ∧ xs.length ≤ 1 + 16 * j ∧ j ≤ L.length ∧ m = L.length - j ∧
      l = [(3, st (baL xs)), (7, .d (.sl 1 (ints L))), (8, i64 (((ints L).length : Nat) : Int)), (9, i64 (j : Int))] ∧ S = [],
    ⟨_, _, ⟨0, [34], rfl, Nat.le_refl _, Nat.zero_le _, rfl, rfl, rfl⟩, ⟨rfl, rfl, rfl, rfl, trivial⟩⟩, ?_⟩
  rintro _ _ _ ⟨j, xs, h1, h2, hj, rfl, rfl, rfl⟩
  have hxs : (baL xs).size = xs.length := List.size_toArray
  conv => whnf
  refine brec (fun h4 => ?_) (fun h4 => ?_)
  · have h4 := of_decide_eq_true h4
    rw [hlen] at h4
    have hlt : j < L.length := by omega
    conv => whnf
    refine ⟨⟨by omega, by rw [hlen]; omega⟩, ?_⟩
    rw [ints_getD hlt]
    rw [List.drop_eq_getElem_cons hlt, List.flatMap_cons] at h1
    have hk := hk3 _ (List.getElem_mem hlt)
    have hql := qK_len hk
    generalize L[j]'hlt = k at *
    generalize hK : (k : Int) = K at *
    have e3 : IntKind.i64.wrap ((j : Int) + 1) = ((j + 1 : Nat) : Int) := by rw [w64 (by omega)]; omega
    obtain ⟨C, hC⟩ : ∃ C : Int, C = 2000000 := ⟨_, rfl⟩
    rw [← hC]
    conv => whnf
    have hp6 : 3000000 ≤ 16 ^ (5 + 1) := by decide
    have hw : k < 128 → (List.replicate 1 (D.int IntKind.u8 0)).set 0 (D.int IntKind.u8 (IntKind.u8.wrap K)) = D.bytes (baL [UInt8.ofNat k]) := fun h => by
      rw [bytes_baL, ← hK, wrap8n, List.map_cons, List.map_nil, u8nat]; rfl
    by_cases c : k = 34 ∨ k = 92
    · have hq : qK k = [92] ++ [UInt8.ofNat k] := by unfold qK; rw [if_pos c]; rfl
      rw [hq] at h1 hql
      by_cases c1 : K = 34
      · refine brT (beq_iff_eq.2 c1) ?_
        conv => whnf
        refine ⟨sizes (b := [92]) (by show _ + 1 ≤ _; omega), ?_⟩
        rw [show (⟨#[92]⟩ : ByteArray) = baL [92] from rfl, ← baL_append]
        conv => whnf
        refine ⟨baL [UInt8.ofNat k], hw (by omega), ?_⟩
        conv => whnf
        refine ⟨sizes (by rw [List.length_append]; show _ + 1 + 1 ≤ _; omega), ?_⟩
        rw [← baL_append, List.append_assoc]
        conv => whnf
        exact ⟨_, _, 0, (by omega : L.length - (j + 1) < L.length - j), ⟨j + 1, xs ++ ([92] ++ [UInt8.ofNat k]), by rw [List.append_assoc]; exact h1, by rw [List.length_append]; omega, by omega, rfl, rfl, rfl⟩,
          ⟨rfl, rfl, rfl, congrArg (fun z => some (i64 z)) e3, trivial⟩, rfl⟩
      · refine brF (beq_eq_false_iff_ne.2 c1) ?_
        conv => whnf
        refine brT (beq_iff_eq.2 (by omega)) ?_
        conv => whnf
        refine ⟨sizes (b := [92]) (by show _ + 1 ≤ _; omega), ?_⟩
        rw [show (⟨#[92]⟩ : ByteArray) = baL [92] from rfl, ← baL_append]
        conv => whnf
        refine ⟨baL [UInt8.ofNat k], hw (by omega), ?_⟩
        conv => whnf
        refine ⟨sizes (by rw [List.length_append]; show _ + 1 + 1 ≤ _; omega), ?_⟩
        rw [← baL_append, List.append_assoc]
        conv => whnf
        exact ⟨_, _, 0, (by omega : L.length - (j + 1) < L.length - j), ⟨j + 1, xs ++ ([92] ++ [UInt8.ofNat k]), by rw [List.append_assoc]; exact h1, by rw [List.length_append]; omega, by omega, rfl, rfl, rfl⟩,
          ⟨rfl, rfl, rfl, congrArg (fun z => some (i64 z)) e3, trivial⟩, rfl⟩
    · refine brF (beq_eq_false_iff_ne.2 (by omega)) ?_
      conv => whnf
      refine brF (beq_eq_false_iff_ne.2 (by omega)) ?_
      conv => whnf
      by_cases c2 : 32 ≤ K
      · refine brT (decide_eq_true c2) ?_
        conv => whnf
        by_cases c3 : K ≤ 126
        · have hq : qK k = [UInt8.ofNat k] := by unfold qK; rw [if_neg c, if_pos (by omega)]
          rw [hq] at h1 hql
          refine brT (decide_eq_true c3) ?_
          conv => whnf
          refine ⟨baL [UInt8.ofNat k], hw (by omega), ?_⟩
          conv => whnf
          refine ⟨sizes (by show _ + 1 ≤ _; omega), ?_⟩
          rw [← baL_append]
          conv => whnf
          exact ⟨_, _, 0, (by omega : L.length - (j + 1) < L.length - j), ⟨j + 1, xs ++ [UInt8.ofNat k], by rw [List.append_assoc]; exact h1, by rw [List.length_append]; omega, by omega, rfl, rfl, rfl⟩,
            ⟨rfl, rfl, rfl, congrArg (fun z => some (i64 z)) e3, trivial⟩, rfl⟩
        · refine brF (decide_eq_false c3) ?_
          conv => whnf
          have c2' : ¬ (32 ≤ k ∧ k ≤ 126) := by omega
          by_cases c4 : 2000000 ≤ k
          · have hq := qK_str c c2' c4
            rw [hq] at h1 hql
            have hx := hex_c (u := k - 2000000) (by omega)
            have hl6 := hexL_len (u := k - 2000000) 5 (Nat.lt_of_le_of_lt (Nat.sub_le ..) (Nat.lt_of_lt_of_le hk hp6))
            have ew : IntKind.i64.wrap (K - C) = ((k - 2000000 : Nat) : Int) := by rw [w64 (by omega)]; omega
            refine brT (decide_eq_true (by omega)) ?_
            conv => whnf
            refine ⟨sizes (b := [92, 120]) (by show _ + 2 ≤ _; omega), ?_⟩
            rw [show (⟨#[92, 120]⟩ : ByteArray) = baL [92, 120] from rfl, ← baL_append]
            conv => whnf
            rw [ew]
            refine ⟨_, hx, ?_⟩
            rintro _ _ ⟨rfl, rfl⟩
            conv => whnf
            refine ⟨sizes (by rw [List.length_append]; show _ + 2 + _ ≤ _; omega), ?_⟩
            rw [← baL_append]
            conv => whnf
            refine ⟨sizes (b := [59]) (by rw [List.length_append, List.length_append]; show _ + 2 + _ + 1 ≤ _; omega), ?_⟩
            rw [show (⟨#[59]⟩ : ByteArray) = baL [59] from rfl, ← baL_append, show xs ++ [92, 120] ++ hexL (k - 2000000) ++ [59] = xs ++ ([92, 120] ++ hexL (k - 2000000) ++ [59]) by rw [List.append_assoc, List.append_assoc, List.append_assoc]]
            conv => whnf
            exact ⟨_, _, 0, (by omega : L.length - (j + 1) < L.length - j), ⟨j + 1, xs ++ ([92, 120] ++ hexL (k - 2000000) ++ [59]), by rw [List.append_assoc]; exact h1, by rw [List.length_append]; omega, by omega, rfl, rfl, rfl⟩,
              ⟨rfl, rfl, rfl, congrArg (fun z => some (i64 z)) e3, trivial⟩, rfl⟩
          · have hq := qK_other c c2' (by omega)
            rw [hq] at h1 hql
            have hx := hex_c (u := k) hk
            have hl6 := hexL_len (u := k) 5 (Nat.lt_of_lt_of_le hk hp6)
            rw [hK] at hx
            refine brF (decide_eq_false (by omega)) ?_
            conv => whnf
            refine ⟨sizes (b := [92, 117]) (by show _ + 2 ≤ _; omega), ?_⟩
            rw [show (⟨#[92, 117]⟩ : ByteArray) = baL [92, 117] from rfl, ← baL_append]
            conv => whnf
            refine ⟨_, hx, ?_⟩
            rintro _ _ ⟨rfl, rfl⟩
            conv => whnf
            refine ⟨sizes (by rw [List.length_append]; show _ + 2 + _ ≤ _; omega), ?_⟩
            rw [← baL_append]
            conv => whnf
            refine ⟨sizes (b := [59]) (by rw [List.length_append, List.length_append]; show _ + 2 + _ + 1 ≤ _; omega), ?_⟩
            rw [show (⟨#[59]⟩ : ByteArray) = baL [59] from rfl, ← baL_append, show xs ++ [92, 117] ++ hexL (k) ++ [59] = xs ++ ([92, 117] ++ hexL (k) ++ [59]) by rw [List.append_assoc, List.append_assoc, List.append_assoc]]
            conv => whnf
            exact ⟨_, _, 0, (by omega : L.length - (j + 1) < L.length - j), ⟨j + 1, xs ++ ([92, 117] ++ hexL (k) ++ [59]), by rw [List.append_assoc]; exact h1, by rw [List.length_append]; omega, by omega, rfl, rfl, rfl⟩,
              ⟨rfl, rfl, rfl, congrArg (fun z => some (i64 z)) e3, trivial⟩, rfl⟩
      · refine brF (decide_eq_false c2) ?_
        conv => whnf
        have c2' : ¬ (32 ≤ k ∧ k ≤ 126) := by omega
        by_cases c4 : 2000000 ≤ k
        · have hq := qK_str c c2' c4
          rw [hq] at h1 hql
          have hx := hex_c (u := k - 2000000) (by omega)
          have hl6 := hexL_len (u := k - 2000000) 5 (Nat.lt_of_le_of_lt (Nat.sub_le ..) (Nat.lt_of_lt_of_le hk hp6))
          have ew : IntKind.i64.wrap (K - C) = ((k - 2000000 : Nat) : Int) := by rw [w64 (by omega)]; omega
          refine brT (decide_eq_true (by omega)) ?_
          conv => whnf
          refine ⟨sizes (b := [92, 120]) (by show _ + 2 ≤ _; omega), ?_⟩
          rw [show (⟨#[92, 120]⟩ : ByteArray) = baL [92, 120] from rfl, ← baL_append]
          conv => whnf
          rw [ew]
          refine ⟨_, hx, ?_⟩
          rintro _ _ ⟨rfl, rfl⟩
          conv => whnf
          refine ⟨sizes (by rw [List.length_append]; show _ + 2 + _ ≤ _; omega), ?_⟩
          rw [← baL_append]
          conv => whnf
          refine ⟨sizes (b := [59]) (by rw [List.length_append, List.length_append]; show _ + 2 + _ + 1 ≤ _; omega), ?_⟩
          rw [show (⟨#[59]⟩ : ByteArray) = baL [59] from rfl, ← baL_append, show xs ++ [92, 120] ++ hexL (k - 2000000) ++ [59] = xs ++ ([92, 120] ++ hexL (k - 2000000) ++ [59]) by rw [List.append_assoc, List.append_assoc, List.append_assoc]]
          conv => whnf
          exact ⟨_, _, 0, (by omega : L.length - (j + 1) < L.length - j), ⟨j + 1, xs ++ ([92, 120] ++ hexL (k - 2000000) ++ [59]), by rw [List.append_assoc]; exact h1, by rw [List.length_append]; omega, by omega, rfl, rfl, rfl⟩,
            ⟨rfl, rfl, rfl, congrArg (fun z => some (i64 z)) e3, trivial⟩, rfl⟩
        · have hq := qK_other c c2' (by omega)
          rw [hq] at h1 hql
          have hx := hex_c (u := k) hk
          have hl6 := hexL_len (u := k) 5 (Nat.lt_of_lt_of_le hk hp6)
          rw [hK] at hx
          refine brF (decide_eq_false (by omega)) ?_
          conv => whnf
          refine ⟨sizes (b := [92, 117]) (by show _ + 2 ≤ _; omega), ?_⟩
          rw [show (⟨#[92, 117]⟩ : ByteArray) = baL [92, 117] from rfl, ← baL_append]
          conv => whnf
          refine ⟨_, hx, ?_⟩
          rintro _ _ ⟨rfl, rfl⟩
          conv => whnf
          refine ⟨sizes (by rw [List.length_append]; show _ + 2 + _ ≤ _; omega), ?_⟩
          rw [← baL_append]
          conv => whnf
          refine ⟨sizes (b := [59]) (by rw [List.length_append, List.length_append]; show _ + 2 + _ + 1 ≤ _; omega), ?_⟩
          rw [show (⟨#[59]⟩ : ByteArray) = baL [59] from rfl, ← baL_append, show xs ++ [92, 117] ++ hexL (k) ++ [59] = xs ++ ([92, 117] ++ hexL (k) ++ [59]) by rw [List.append_assoc, List.append_assoc, List.append_assoc]]
          conv => whnf
          exact ⟨_, _, 0, (by omega : L.length - (j + 1) < L.length - j), ⟨j + 1, xs ++ ([92, 117] ++ hexL (k) ++ [59]), by rw [List.append_assoc]; exact h1, by rw [List.length_append]; omega, by omega, rfl, rfl, rfl⟩,
            ⟨rfl, rfl, rfl, congrArg (fun z => some (i64 z)) e3, trivial⟩, rfl⟩
  · have h4 := of_decide_eq_false h4
    rw [hlen] at h4
    obtain rfl : j = L.length := by omega
    rw [List.drop_length, List.flatMap_nil, List.append_nil] at h1
    conv => whnf
    refine ⟨sizes (b := [34]) (by show _ + 1 ≤ _; omega), ?_⟩
    rw [show (⟨#[34]⟩ : ByteArray) = baL [34] from rfl, ← baL_append, h1]
    conv => whnf
    exact ⟨rfl, rfl⟩
end Go.Proofs.YtefcpmnhhmpmnaaDoor
