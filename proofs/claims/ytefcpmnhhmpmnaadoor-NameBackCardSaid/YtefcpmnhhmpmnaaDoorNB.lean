/- A text quoted. -/
import Derived.Test.YtefcpmnhhmpmnaaDoorNA
namespace Go.Proofs.YtefcpmnhhmpmnaaDoor
open Go.Ab Go.RowKit

/-- What stands for a number in a quoted text. -/
def qK (k : Nat) : List UInt8 :=
  if k = 34 ∨ k = 92 then [92, UInt8.ofNat k] else if 32 ≤ k ∧ k ≤ 126 then [UInt8.ofNat k]
  else if 2000000 ≤ k then [92, 120] ++ hexL (k - 2000000) ++ [59] else [92, 117] ++ hexL k ++ [59]
def quoteAt (s : ByteArray) (i : Nat) : List UInt8 := ((keysAt s i).flatMap qK) ++ [34]
theorem quoteAt_lt {s : ByteArray} {i : Nat} (h : i < s.size) : quoteAt s i = qK (key s i).1 ++ quoteAt s (i + (Utf8.decode s i).2) := by
  unfold quoteAt; rw [keysAt_lt h, List.flatMap_cons, key_two, List.append_assoc]
theorem quoteAt_ge {s : ByteArray} {i : Nat} (h : ¬ i < s.size) : quoteAt s i = [34] := by unfold quoteAt; rw [keysAt_ge h]; rfl

theorem quote_step {s : ByteArray} {i w : Nat} {xs ys : List UInt8} {z : D} (h1 : xs ++ (ys ++ quoteAt s (i + w)) = 34 :: quoteAt s 0) (h2 : xs.length ≤ 1 + 16 * i) (h3 : i < s.size) (hw : 1 ≤ w ∧ w ≤ 4) (hy : ys.length ≤ 16) :
    ∃ (j : Nat) (zs : List UInt8) (z' : D), zs ++ quoteAt s j = 34 :: quoteAt s 0 ∧ zs.length ≤ 1 + 16 * j ∧ j ≤ s.size + 3 ∧ s.size + 4 - (i + w) = s.size + 4 - j ∧
      [(0, st s), (3, AV.ptr 1 []), (8, AV.ptr 3 [])] = [(0, st s), (3, .ptr 1 []), (8, .ptr 3 [])] ∧ [Blk.sealed z, .tvar 44 (.agg [.ptr 1 [], .row 2]), Blk.row 5 1 (D.bytes (baL (xs ++ ys))), .iter s (i + w)] = [.sealed z', .tvar 44 (.agg [.ptr 1 [], .row 2]), .row 5 1 (D.bytes (baL zs)), .iter s j] :=
  ⟨i + w, xs ++ ys, z, by rw [List.append_assoc]; exact h1, by rw [List.length_append]; omega, by omega, rfl, rfl, rfl⟩

theorem qlen {a b : UInt8} {m : List UInt8} (h : m.length ≤ 6) : ([a, b] ++ m ++ [59]).length ≤ 16 := by
  rw [List.length_append, List.length_append]
  show 2 + _ + 1 ≤ 16
  omega

theorem qK_len {k : Nat} (h : k < 3000000) : (qK k).length ≤ 16 := by
  have hp : 3000000 ≤ 16 ^ (5 + 1) := by decide
  have l1 := hexL_len (u := k) 5 (Nat.lt_of_lt_of_le h hp)
  have l2 := hexL_len (u := k - 2000000) 5 (Nat.lt_of_le_of_lt (Nat.sub_le ..) (Nat.lt_of_lt_of_le h hp))
  unfold qK
  obtain ⟨C, hC⟩ : ∃ C : Nat, C = 2000000 := ⟨_, rfl⟩
  rw [← hC] at l2 ⊢
  by_cases c1 : k = 34 ∨ k = 92
  · rw [if_pos c1]; exact Nat.le_of_ble_eq_true rfl
  rw [if_neg c1]
  by_cases c2 : 32 ≤ k ∧ k ≤ 126
  · rw [if_pos c2]; exact Nat.le_of_ble_eq_true rfl
  rw [if_neg c2]
  by_cases c3 : C ≤ k
  · rw [if_pos c3]; exact qlen l2
  · rw [if_neg c3]; exact qlen l1

theorem qK_other {k : Nat} (c1 : ¬ (k = 34 ∨ k = 92)) (c2 : ¬ (32 ≤ k ∧ k ≤ 126)) (c3 : k < 2000000) : qK k = [92, 117] ++ hexL k ++ [59] := by
  unfold qK; rw [if_neg c1, if_neg c2, if_neg (by omega)]
theorem qK_stray {k : Nat} (h : k < 256) : qK (k + 2000000) = [92, 120] ++ hexL k ++ [59] := by
  unfold qK; rw [if_neg (by omega), if_neg (by omega), if_pos (by omega), Nat.add_sub_cancel]
theorem wrap64n (n : Nat) : IntKind.u64.wrap (n : Int) = ((n % 18446744073709551616 : Nat) : Int) := by simp [IntKind.wrap, IntKind.bits, IntKind.signed]

theorem esc_sizes {d : Array UInt8} {u : Nat} (hu : u < 3000000) (hd : d.size = 2) : (⟨d⟩ : ByteArray).size + (baL (hexL u)).size ≤ 9223372036854775807 ∧ ((⟨d⟩ : ByteArray) ++ baL (hexL u)).size + (⟨#[59]⟩ : ByteArray).size ≤ 9223372036854775807 := by
  have hp : 3000000 ≤ 16 ^ (5 + 1) := by decide
  have l1 := hexL_len (u := u) 5 (Nat.lt_of_lt_of_le hu hp)
  have e : (baL (hexL u)).size = (hexL u).length := List.size_toArray
  rw [ByteArray.size_append, e]
  show d.size + _ ≤ _ ∧ d.size + _ + 1 ≤ _
  omega
theorem esc_eq {a b : UInt8} {h : List UInt8} : (⟨#[a, b]⟩ : ByteArray) ++ baL h ++ (⟨#[59]⟩ : ByteArray) = baL ([a, b] ++ h ++ [59]) := by
  show baL [a, b] ++ baL h ++ baL [59] = _
  rw [← baL_append, ← baL_append]
theorem esc_len {a b : UInt8} {u : Nat} {s : ByteArray} (hu : u < 3000000) (h : s.size ≤ 1000000000) : s.size + (baL ([a, b] ++ hexL u ++ [59])).size ≤ 140737488355328 := by
  have hp : 3000000 ≤ 16 ^ (5 + 1) := by decide
  have l1 := hexL_len (u := u) 5 (Nat.lt_of_lt_of_le hu hp)
  have l2 := qlen (a := a) (b := b) l1
  have e : (baL ([a, b] ++ hexL u ++ [59])).size = ([a, b] ++ hexL u ++ [59]).length := List.size_toArray
  rw [e]
  omega

theorem quote_c {s : ByteArray} (hm : s.size < 10000000) : CallR cx 22 [st s] [] fun r S => r = st (baL (34 :: quoteAt s 0)) ∧ S = [] := by
  refine callR_of (R := R1) cx_ok Tryd.func22 (by kernel_rfl) rfl ?_
  conv => whnf
  refine ⟨_, writeByte_c (s := baL []) (b := 34) (.inl rfl) (by decide), ?_⟩
  rintro _ _ ⟨rfl, rfl⟩
  conv => whnf
  refine .inr ⟨fun m l S => ∃ (i : Nat) (xs : List UInt8) (z : D), xs ++ quoteAt s i = 34 :: quoteAt s 0 ∧ xs.length ≤ 1 + 16 * i ∧ i ≤ s.size + 3 ∧ m = s.size + 4 - i ∧
      l = [(0, st s), (3, .ptr 1 []), (8, .ptr 3 [])] ∧ S = [.sealed z, .tvar 44 (.agg [.ptr 1 [], .row 2]), .row 5 1 (D.bytes (baL xs)), .iter s i],
    ⟨_, _, ⟨0, [34], _, rfl, Nat.le_refl _, by omega, rfl, rfl, rfl⟩, ⟨rfl, rfl, rfl, trivial⟩⟩, ?_⟩
  rintro _ _ _ ⟨i, xs, z, h1, h2, h3, rfl, rfl, rfl⟩
  conv => whnf
  refine brec (fun h4 => ?_) (fun h4 => ?_)
  · have hi := of_decide_eq_true h4
    have br := broken_c (s := s) hi
    have hd := decode_range s i
    have hb := byteAt_range s i
    have hbe := byteAt_eq s i
    have ko := key_ok hi
    have hsk := stray_key s i
    have hsz : (baL xs).size ≤ 1000000000 := by show xs.toArray.size ≤ _; rw [List.size_toArray]; omega
    have hql := qK_len (key_lt s i)
    rw [quoteAt_lt hi] at h1
    generalize hr : ((Utf8.decode s i).1 : Int) = R at *
    conv => whnf
    by_cases c : R = 34 ∨ R = 92
    · have hst : stray s i = false := by
        cases e : stray s i with
        | false => rfl
        | true => rw [(key_stray e).2] at hr; exact absurd c (by rw [← hr]; decide)
      have hkp := key_plain hst
      rw [hkp] at ko h1 hql
      have hk : (Utf8.decode s i).1 = 34 ∨ (Utf8.decode s i).1 = 92 := by omega
      have ok1 := ko (by omega)
      have hq : qK (Utf8.decode s i).1 = [92] ++ encK (Utf8.decode s i).1 := by
        unfold qK encK
        rw [if_pos hk, if_neg (by omega), if_pos (by omega)]; rfl
      rw [hq] at h1 hql
      have hsz2 : (baL xs ++ baL [92]).size ≤ 1000000000 := by rw [← baL_append]; show (xs ++ [92]).toArray.size ≤ _; rw [List.size_toArray, List.length_append]; show _ + 1 ≤ _; omega
      have bytesA : baL xs ++ baL [92] ++ baL (encK (Utf8.decode s i).1) = baL (xs ++ ([92] ++ encK (Utf8.decode s i).1)) := by rw [← baL_append, ← baL_append, List.append_assoc]
      by_cases c1 : R = 34
      · refine brT (beq_iff_eq.2 c1) ?_
        conv => whnf
        refine ⟨_, writeByte_c (s := baL xs) (b := 92) (.inr rfl) hsz, ?_⟩
        rintro _ _ ⟨rfl, rfl⟩
        conv => whnf
        refine ⟨_, writeRune_x (s := baL xs ++ baL [92]) (k := (Utf8.decode s i).1) (.inr rfl) hr.symm ok1 hsz2, ?_⟩
        rintro _ _ ⟨⟨_, rfl⟩, rfl⟩
        conv => whnf
        rw [bytesA]
        refine ⟨s.size + 4 - (i + (Utf8.decode s i).2), [(0, st s), (3, .ptr 1 []), (8, .ptr 3 [])], [0, 1, 5, 3], by omega, ⟨rfl, rfl, rfl, trivial⟩, ?_⟩
        conv => whnf
        exact quote_step h1 h2 hi hd.2 hql
      · refine brF (beq_eq_false_iff_ne.2 c1) ?_
        conv => whnf
        refine brT (beq_iff_eq.2 (by omega)) ?_
        conv => whnf
        refine ⟨_, writeByte_c (s := baL xs) (b := 92) (.inr rfl) hsz, ?_⟩
        rintro _ _ ⟨rfl, rfl⟩
        conv => whnf
        refine ⟨_, writeRune_x (s := baL xs ++ baL [92]) (k := (Utf8.decode s i).1) (.inr rfl) hr.symm ok1 hsz2, ?_⟩
        rintro _ _ ⟨⟨_, rfl⟩, rfl⟩
        conv => whnf
        rw [bytesA]
        refine ⟨s.size + 4 - (i + (Utf8.decode s i).2), [(0, st s), (3, .ptr 1 []), (8, .ptr 3 [])], [0, 1, 5, 3], by omega, ⟨rfl, rfl, rfl, trivial⟩, ?_⟩
        conv => whnf
        exact quote_step h1 h2 hi hd.2 hql
    · refine brF (beq_eq_false_iff_ne.2 (by omega)) ?_
      conv => whnf
      refine brF (beq_eq_false_iff_ne.2 (by omega)) ?_
      conv => whnf
      by_cases c2 : 32 ≤ R
      · refine brT (decide_eq_true c2) ?_
        conv => whnf
        by_cases c3 : R ≤ 126
        · refine brT (decide_eq_true c3) ?_
          conv => whnf
          have hst : stray s i = false := by
            cases e : stray s i with
            | false => rfl
            | true => rw [(key_stray e).2] at hr; exact absurd c3 (by rw [← hr]; decide)
          have hkp := key_plain hst
          rw [hkp] at ko h1 hql
          have ok1 := ko (by omega)
          have hq : qK (Utf8.decode s i).1 = encK (Utf8.decode s i).1 := by
            unfold qK encK
            rw [if_neg (by omega), if_pos (by omega), if_neg (by omega), if_pos (by omega)]
          rw [hq] at h1 hql
          refine ⟨_, writeRune_x (s := baL xs) (k := (Utf8.decode s i).1) (.inr rfl) hr.symm ok1 hsz, ?_⟩
          rintro _ _ ⟨⟨_, rfl⟩, rfl⟩
          conv => whnf
          rw [← baL_append]
          refine ⟨s.size + 4 - (i + (Utf8.decode s i).2), [(0, st s), (3, .ptr 1 []), (8, .ptr 3 [])], [0, 1, 4, 3], by omega, ⟨rfl, rfl, rfl, trivial⟩, ?_⟩
          conv => whnf
          exact quote_step h1 h2 hi hd.2 hql
        refine brF (decide_eq_false c3) ?_
        conv => whnf
        refine ⟨_, br, ?_⟩
        rintro _ _ ⟨rfl, rfl⟩
        conv => whnf
        refine brec (fun h6 => ?_) (fun h6 => ?_)
        · have hks := key_stray h6
          rw [hks.1] at h1 hql
          have hq := qK_stray (k := (s.get! i).toNat) (by omega)
          rw [hq] at h1 hql
          have fu := formatUint_c (u := (s.get! i).toNat) (by omega)
          have ew : IntKind.u64.wrap ((s.get! i).toNat : Int) = ((s.get! i).toNat : Int) := by rw [wrap64n]; omega
          conv => whnf
          refine ⟨⟨by omega, by show (i : Int) < _; omega⟩, ?_⟩
          rw [Int.toNat_natCast, hbe]
          conv => whnf
          rw [ew]
          refine ⟨_, fu, ?_⟩
          rintro _ _ ⟨rfl, rfl⟩
          conv => whnf
          have es := esc_sizes (d := #[92, 120]) (u := (s.get! i).toNat) (by omega) rfl
          refine ⟨es.1, ?_⟩
          conv => whnf
          refine ⟨es.2, ?_⟩
          rw [esc_eq]
          conv => whnf
          refine ⟨_, writeString_c (s := baL xs) (.inr rfl) (esc_len (by omega) hsz), ?_⟩
          rintro _ _ ⟨rfl, rfl⟩
          conv => whnf
          rw [← baL_append]
          refine ⟨s.size + 4 - (i + (Utf8.decode s i).2), [(0, st s), (3, .ptr 1 []), (8, .ptr 3 [])], [0, 1, 4, 3], by omega, ⟨rfl, rfl, rfl, trivial⟩, ?_⟩
          conv => whnf
          exact quote_step h1 h2 hi hd.2 hql
        · have hkp := key_plain h6
          rw [hkp] at ko h1 hql
          have ok1 := ko (by omega)
          have hq := qK_other (k := (Utf8.decode s i).1) (by omega) (by omega) (by omega)
          rw [hq] at h1 hql
          have fu := formatUint_c (u := (Utf8.decode s i).1) (by omega)
          have ew : IntKind.u64.wrap R = R := by rw [← hr, wrap64n]; omega
          rw [hr] at fu
          conv => whnf
          rw [ew]
          refine ⟨_, fu, ?_⟩
          rintro _ _ ⟨rfl, rfl⟩
          conv => whnf
          have es := esc_sizes (d := #[92, 117]) (u := (Utf8.decode s i).1) (by omega) rfl
          refine ⟨es.1, ?_⟩
          conv => whnf
          refine ⟨es.2, ?_⟩
          rw [esc_eq]
          conv => whnf
          refine ⟨_, writeString_c (s := baL xs) (.inr rfl) (esc_len (by omega) hsz), ?_⟩
          rintro _ _ ⟨rfl, rfl⟩
          conv => whnf
          rw [← baL_append]
          refine ⟨s.size + 4 - (i + (Utf8.decode s i).2), [(0, st s), (3, .ptr 1 []), (8, .ptr 3 [])], [0, 1, 4, 3], by omega, ⟨rfl, rfl, rfl, trivial⟩, ?_⟩
          conv => whnf
          exact quote_step h1 h2 hi hd.2 hql
      · refine brF (decide_eq_false c2) ?_
        conv => whnf
        refine ⟨_, br, ?_⟩
        rintro _ _ ⟨rfl, rfl⟩
        conv => whnf
        refine brec (fun h6 => ?_) (fun h6 => ?_)
        · have hks := key_stray h6
          rw [hks.1] at h1 hql
          have hq := qK_stray (k := (s.get! i).toNat) (by omega)
          rw [hq] at h1 hql
          have fu := formatUint_c (u := (s.get! i).toNat) (by omega)
          have ew : IntKind.u64.wrap ((s.get! i).toNat : Int) = ((s.get! i).toNat : Int) := by rw [wrap64n]; omega
          conv => whnf
          refine ⟨⟨by omega, by show (i : Int) < _; omega⟩, ?_⟩
          rw [Int.toNat_natCast, hbe]
          conv => whnf
          rw [ew]
          refine ⟨_, fu, ?_⟩
          rintro _ _ ⟨rfl, rfl⟩
          conv => whnf
          have es := esc_sizes (d := #[92, 120]) (u := (s.get! i).toNat) (by omega) rfl
          refine ⟨es.1, ?_⟩
          conv => whnf
          refine ⟨es.2, ?_⟩
          rw [esc_eq]
          conv => whnf
          refine ⟨_, writeString_c (s := baL xs) (.inr rfl) (esc_len (by omega) hsz), ?_⟩
          rintro _ _ ⟨rfl, rfl⟩
          conv => whnf
          rw [← baL_append]
          refine ⟨s.size + 4 - (i + (Utf8.decode s i).2), [(0, st s), (3, .ptr 1 []), (8, .ptr 3 [])], [0, 1, 4, 3], by omega, ⟨rfl, rfl, rfl, trivial⟩, ?_⟩
          conv => whnf
          exact quote_step h1 h2 hi hd.2 hql
        · have hkp := key_plain h6
          rw [hkp] at ko h1 hql
          have ok1 := ko (by omega)
          have hq := qK_other (k := (Utf8.decode s i).1) (by omega) (by omega) (by omega)
          rw [hq] at h1 hql
          have fu := formatUint_c (u := (Utf8.decode s i).1) (by omega)
          have ew : IntKind.u64.wrap R = R := by rw [← hr, wrap64n]; omega
          rw [hr] at fu
          conv => whnf
          rw [ew]
          refine ⟨_, fu, ?_⟩
          rintro _ _ ⟨rfl, rfl⟩
          conv => whnf
          have es := esc_sizes (d := #[92, 117]) (u := (Utf8.decode s i).1) (by omega) rfl
          refine ⟨es.1, ?_⟩
          conv => whnf
          refine ⟨es.2, ?_⟩
          rw [esc_eq]
          conv => whnf
          refine ⟨_, writeString_c (s := baL xs) (.inr rfl) (esc_len (by omega) hsz), ?_⟩
          rintro _ _ ⟨rfl, rfl⟩
          conv => whnf
          rw [← baL_append]
          refine ⟨s.size + 4 - (i + (Utf8.decode s i).2), [(0, st s), (3, .ptr 1 []), (8, .ptr 3 [])], [0, 1, 4, 3], by omega, ⟨rfl, rfl, rfl, trivial⟩, ?_⟩
          conv => whnf
          exact quote_step h1 h2 hi hd.2 hql
  · have h4 := of_decide_eq_false h4
    rw [quoteAt_ge (by omega)] at h1
    have hsz : (baL xs).size ≤ 1000000000 := by show xs.toArray.size ≤ _; rw [List.size_toArray]; omega
    conv => whnf
    refine ⟨_, writeByte_c (s := baL xs) (b := 34) (.inr rfl) hsz, ?_⟩
    rintro _ _ ⟨rfl, rfl⟩
    conv => whnf
    refine ⟨_, string_c (s := baL xs ++ baL [34]) (.inr rfl), ?_⟩
    rintro _ _ ⟨rfl, rfl⟩
    conv => whnf
    rw [← baL_append, h1]
    exact ⟨rfl, rfl⟩
end Go.Proofs.YtefcpmnhhmpmnaaDoor
