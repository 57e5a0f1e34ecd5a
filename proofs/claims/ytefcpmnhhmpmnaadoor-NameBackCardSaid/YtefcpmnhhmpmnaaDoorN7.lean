/- Names folded: the other one. -/
import Derived.Test.YtefcpmnhhmpmnaaDoorN6
namespace Go.Proofs.YtefcpmnhhmpmnaaDoor
open Go.Ab Go.RowKit

theorem extract_enc {s : ByteArray} {i : Nat} (hi : i < s.size) : s.extract i (i + (key s i).2) = baL (encK (key s i).1) := by
  have e : (s.extract i (i + (key s i).2)).data.toList = encK (key s i).1 := by
    rw [key_keyL]
    have e2 : (s.extract i (i + (keyL (s.data.toList.drop i)).2)).data.toList = (s.data.toList.drop i).take (keyL (s.data.toList.drop i)).2 := by
      rw [ByteArray.data_extract, Array.toList_extract]
      simp [List.extract_eq_take_drop]
    rw [e2]
    cases hl : s.data.toList.drop i with
    | nil => have := congrArg List.length hl; rw [List.length_drop, Array.length_toList, List.length_nil] at this; exact absurd hi (by show ¬ i < s.data.size; omega)
    | cons b t =>
      rcases keyL_cases b t with ⟨u, k, r, h1, h2, h3⟩ | ⟨_, h3⟩
      · rw [h3, h2, List.take_left]; exact (encK_val h1).symm
      · rw [h3, encK_stray]; rfl
  cases h : s.extract i (i + (key s i).2) with
  | mk d =>
    rw [h] at e
    show _ = (⟨(encK (key s i).1).toArray⟩ : ByteArray)
    rw [← e]

theorem key_fits {s : ByteArray} {i : Nat} (hi : i < s.size) : i + (key s i).2 ≤ s.size := by
  rw [key_keyL]
  have hlen : (s.data.toList.drop i).length = s.size - i := by rw [List.length_drop, Array.length_toList]; rfl
  cases hl : s.data.toList.drop i with
  | nil => rw [hl] at hlen; have : (0 : Nat) = s.size - i := hlen; omega
  | cons b t =>
    rw [hl] at hlen
    rcases keyL_cases b t with ⟨u, k, r, h1, h2, h3⟩ | ⟨_, h3⟩
    · rw [h3]; rw [h2, List.length_append] at hlen; show i + u.length ≤ _; omega
    · rw [h3]; show i + 1 ≤ _; omega

theorem rfold_c {s : ByteArray} (hm : s.size < 100000000) : CallR cx 18 [st s] [] fun r S => r = st (baL (foldAt s 0)) ∧ S = [] := by
  refine callR_of (R := R1) cx_ok Tryd.func18 (by kernel_rfl) rfl ?_
  conv => whnf
  refine .inr ⟨5, 1, ?_⟩
  conv => whnf
  refine .inr ⟨fun m l S => ∃ (i : Nat) (xs : List UInt8), xs ++ foldAt s i = foldAt s 0 ∧ xs.length ≤ 4 * i ∧ i ≤ s.size + 3 ∧ m = s.size + 4 - i ∧
      l = [(0, st s), (3, .row 0), (4, i64 (i : Int))] ∧ S = [.row 5 1 (D.bytes (baL xs))],
    ⟨_, _, ⟨0, [], rfl, Nat.le_refl _, by omega, rfl, rfl, rfl⟩, ⟨rfl, rfl, rfl, trivial⟩⟩, ?_⟩
  rintro _ _ _ ⟨i, xs, h1, h2, h3, rfl, rfl, rfl⟩
  conv => whnf
  refine brec (fun h4 => ?_) (fun h4 => ?_)
  · have hi : i < s.size := by have := of_decide_eq_true h4; omega
    have on := one_c (s := s) (x := (i : Int)) rfl hi (by omega)
    have ex := extract_enc hi
    rw [foldAt_lt hi, ← key_two] at h1
    have hp := key_pos s i
    have hfit := key_fits hi
    have hf := key_four s i
    have hlt := key_lt s i
    generalize key s i = kk at *
    obtain ⟨k, n⟩ := kk
    simp only at h1 hp hf hlt ex on hfit
    generalize hK : (k : Int) = K at *
    generalize hN : (n : Int) = N at *
    conv => whnf
    refine ⟨_, on, ?_⟩
    rintro _ _ ⟨rfl, rfl⟩
    have hl : (D.bytes (baL xs)).length = xs.length := by rw [bytes_baL, List.length_map]
    have e9 : IntKind.i64.wrap ((i : Int) + N) = ((i + n : Nat) : Int) := by rw [w64 (by omega)]; omega
    obtain ⟨ys, hys⟩ : ∃ ys, ys = encK (foldK k) := ⟨_, rfl⟩
    have hyl : ys.length ≤ 4 := by rw [hys]; exact encK_len'
    rw [← hys] at h1
    have fin : ∃ (j : Nat) (zs : List UInt8), zs ++ foldAt s j = foldAt s 0 ∧ zs.length ≤ 4 * j ∧ j ≤ s.size + 3 ∧ s.size + 4 - (i + n) = s.size + 4 - j ∧
      [(0, st s), (3, AV.row 0), (4, i64 ((i + n : Nat) : Int))] = [(0, st s), (3, .row 0), (4, i64 (j : Int))] ∧ [Blk.row 5 1 (D.bytes (baL xs) ++ D.bytes (baL ys))] = [.row 5 1 (D.bytes (baL zs))] :=
      ⟨i + n, xs ++ ys, by rw [List.append_assoc]; exact h1, by rw [List.length_append]; omega, by omega, rfl, rfl, by rw [baL_append, bytes_append]⟩
    have hne : ∀ h : capK k = false, ys = encK k := fun h => by rw [hys]; unfold foldK; rw [if_neg (by rw [h]; decide)]
    have hca : ∀ h : capK k = true, ys = encK (k + 32) := fun h => by rw [hys]; unfold foldK; rw [if_pos h]
    have hci := capK_iff (k := k)
    have ncap : ∀ h : ¬ ((65 ≤ k ∧ k ≤ 90) ∨ (913 ≤ k ∧ k ≤ 937 ∧ k ≠ 930)), capK k = false := fun h => by cases e : capK k with
      | false => rfl
      | true => exact absurd (hci.1 e) h
    generalize hxs : D.bytes (baL xs) = XS at *
    have last : ∀ h : capK k = false, D.bytes (s.extract i (i + n)) = D.bytes (baL ys) := fun h => by rw [ex, hne h]
    have e3 : ((i : Int)).toNat = i := Int.toNat_natCast i
    have e4 : (((i + n : Nat) : Int)).toNat = i + n := Int.toNat_natCast _
    have hsz : (s.extract i (i + n)).size = n := by rw [ByteArray.size_extract]; omega
    conv => whnf
    by_cases c1 : 65 ≤ k
    · refine brT (decide_eq_true (by omega)) ?_
      conv => whnf
      by_cases c2 : k ≤ 90
      · refine brT (decide_eq_true (by omega)) ?_
        conv => whnf
        refine ⟨⟨Nat.succ_pos _, by show (XS.length + 1) * (1 + 1) ≤ _; omega⟩, ?_⟩
        conv => whnf
        refine ⟨s.size + 4 - (i + n), [(0, st s), (3, .row 1), (4, i64 ((i + n : Nat) : Int))], [1], by omega, ⟨rfl, rfl, congrArg (fun z => some (i64 z)) e9, trivial⟩, ?_⟩
        conv => whnf
        have hy : D.bytes (baL ys) = [.int .u8 (IntKind.u8.wrap (IntKind.i64.wrap (K + 32)))] := by
          rw [hca (hci.2 (.inl ⟨c1, c2⟩)), bytes_baL]
          unfold encK
          rw [if_neg (by omega), if_pos (by omega), w64 (by omega), show K + 32 = ((k + 32 : Nat) : Int) by omega, wrap8n, List.map_cons, List.map_nil, u8nat]
        rw [hy] at fin
        exact fin
      refine brF (decide_eq_false (by omega)) ?_
      conv => whnf
      by_cases c3 : 913 ≤ k
      · refine brT (decide_eq_true (by omega)) ?_
        conv => whnf
        by_cases c4 : k ≤ 937
        · refine brT (decide_eq_true (by omega)) ?_
          conv => whnf
          by_cases c5 : k = 930
          · refine brF (bne_eq_false_iff_eq.2 (by omega)) ?_
            conv => whnf
            refine ⟨⟨by omega, by rw [w64 (by omega)]; omega, by rw [w64 (by omega)]; omega⟩, ?_⟩
            rw [w64 (n := (i : Int) + N) (by omega), show (i : Int) + N = ((i + n : Nat) : Int) by omega, e3, e4]
            conv => whnf
            refine ⟨by rw [hsz]; omega, ?_⟩
            refine ⟨s.size + 4 - (i + n), [(0, st s), (3, .row 1), (4, i64 ((i + n : Nat) : Int))], [1], by omega, ⟨rfl, rfl, congrArg (fun z => some (i64 z)) e9, trivial⟩, ?_⟩
            conv => whnf
            rw [last (ncap (by omega))]
            exact fin
          · refine brT (bne_iff_ne.2 (by omega)) ?_
            conv => whnf
            rw [w64 (n := K + 32) (by omega)]
            obtain ⟨Q, hQ⟩ : ∃ Q, Q = K + 32 := ⟨_, rfl⟩
            rw [← hQ]
            refine ⟨by decide, ?_⟩
            conv => whnf
            refine ⟨by decide, ?_⟩
            conv => whnf
            refine ⟨⟨Nat.succ_pos _, by show (XS.length + 2) * (1 + 1) ≤ _; omega⟩, ?_⟩
            conv => whnf
            refine ⟨s.size + 4 - (i + n), [(0, st s), (3, .row 1), (4, i64 ((i + n : Nat) : Int))], [1], by omega, ⟨rfl, rfl, congrArg (fun z => some (i64 z)) e9, trivial⟩, ?_⟩
            conv => whnf
            have hy : D.bytes (baL ys) = [.int .u8 (IntKind.u8.wrap (IntKind.i64.wrap (192 + IntKind.i64.wrap (Q.tdiv 64)))), .int .u8 (IntKind.u8.wrap (IntKind.i64.wrap (128 + Q.tmod 64)))] := by
              have hQ' : Q = ((k + 32 : Nat) : Int) := by omega
              have t1 : Q.tdiv 64 = (((k + 32) / 64 : Nat) : Int) := by rw [hQ']; rfl
              have t2 : Q.tmod 64 = (((k + 32) % 64 : Nat) : Int) := by rw [hQ']; rfl
              rw [t1, t2, w64 (n := (((k + 32) / 64 : Nat) : Int)) (by omega), w64 (by omega), w64 (by omega), show (192 : Int) + (((k + 32) / 64 : Nat) : Int) = ((192 + (k + 32) / 64 : Nat) : Int) by omega, show (128 : Int) + (((k + 32) % 64 : Nat) : Int) = ((128 + (k + 32) % 64 : Nat) : Int) by omega]
              rw [hca (hci.2 (.inr ⟨c3, c4, c5⟩)), bytes_baL]
              unfold encK
              rw [if_neg (by omega), if_neg (by omega), if_pos (by omega), wrap8n, wrap8n, List.map_cons, List.map_cons, List.map_nil, u8nat, u8nat]
            rw [hy] at fin
            exact fin
        · refine brF (decide_eq_false (by omega)) ?_
          conv => whnf
          refine ⟨⟨by omega, by rw [w64 (by omega)]; omega, by rw [w64 (by omega)]; omega⟩, ?_⟩
          rw [w64 (n := (i : Int) + N) (by omega), show (i : Int) + N = ((i + n : Nat) : Int) by omega, e3, e4]
          conv => whnf
          refine ⟨by rw [hsz]; omega, ?_⟩
          refine ⟨s.size + 4 - (i + n), [(0, st s), (3, .row 1), (4, i64 ((i + n : Nat) : Int))], [1], by omega, ⟨rfl, rfl, congrArg (fun z => some (i64 z)) e9, trivial⟩, ?_⟩
          conv => whnf
          rw [last (ncap (by omega))]
          exact fin
      · refine brF (decide_eq_false (by omega)) ?_
        conv => whnf
        refine ⟨⟨by omega, by rw [w64 (by omega)]; omega, by rw [w64 (by omega)]; omega⟩, ?_⟩
        rw [w64 (n := (i : Int) + N) (by omega), show (i : Int) + N = ((i + n : Nat) : Int) by omega, e3, e4]
        conv => whnf
        refine ⟨by rw [hsz]; omega, ?_⟩
        refine ⟨s.size + 4 - (i + n), [(0, st s), (3, .row 1), (4, i64 ((i + n : Nat) : Int))], [1], by omega, ⟨rfl, rfl, congrArg (fun z => some (i64 z)) e9, trivial⟩, ?_⟩
        conv => whnf
        rw [last (ncap (by omega))]
        exact fin
    · refine brF (decide_eq_false (by omega)) ?_
      conv => whnf
      refine brF (decide_eq_false (by omega)) ?_
      conv => whnf
      refine ⟨⟨by omega, by rw [w64 (by omega)]; omega, by rw [w64 (by omega)]; omega⟩, ?_⟩
      rw [w64 (n := (i : Int) + N) (by omega), show (i : Int) + N = ((i + n : Nat) : Int) by omega, e3, e4]
      conv => whnf
      refine ⟨by rw [hsz]; omega, ?_⟩
      refine ⟨s.size + 4 - (i + n), [(0, st s), (3, .row 1), (4, i64 ((i + n : Nat) : Int))], [1], by omega, ⟨rfl, rfl, congrArg (fun z => some (i64 z)) e9, trivial⟩, ?_⟩
      conv => whnf
      rw [last (ncap (by omega))]
      exact fin
  · have h4 := of_decide_eq_false h4
    rw [foldAt_ge (by omega), List.append_nil] at h1
    subst h1
    conv => whnf
    refine ⟨_, rfl, ?_⟩
    conv => whnf
    exact ⟨rfl, rfl⟩
end Go.Proofs.YtefcpmnhhmpmnaaDoor
