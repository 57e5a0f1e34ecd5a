/- Payloads: what is written is read as it was; what is read is written so. Plain laws, no program. -/
import Derived.Test.YtboohfijacjhjaaDoorR6
namespace Go.Proofs.YtboohfijacjhjaaDoor
open Go.Ab

def bigL (n k : Nat) : List UInt8 := (List.range k).map fun i => UInt8.ofNat (n / 256 ^ (k - 1 - i))

theorem bigL_succ (n k : Nat) : bigL n (k + 1) = bigL (n / 256) k ++ [UInt8.ofNat n] := by
  unfold bigL
  rw [List.range_succ, List.map_append]
  congr 1
  · refine List.map_congr_left fun i hi => ?_
    have hi := List.mem_range.1 hi
    rw [Nat.div_div_eq_div_mul, ← Nat.pow_succ', show (k - 1 - i).succ = k + 1 - 1 - i by omega]
  · simp

theorem be_append (l : List UInt8) (b : UInt8) (a : Nat) : be (l ++ [b]) a = (be l a * 256 + b.toNat) % 18446744073709551616 := by
  unfold be; rw [List.foldl_append]; rfl

theorem pow_le8 {k : Nat} (h : k ≤ 8) : 256 ^ k ≤ 18446744073709551616 := Nat.pow_le_pow_right (n := 256) (by decide) h

theorem be_bigL : ∀ (k n : Nat), k ≤ 8 → be (bigL n k) 0 = n % 256 ^ k
  | 0, n, _ => by rw [Nat.pow_zero, Nat.mod_one]; rfl
  | k + 1, n, h => by
    rw [bigL_succ, be_append, be_bigL k _ (by omega), UInt8.toNat_ofNat']
    have h1 : n / 256 % 256 ^ k * 256 + n % 256 = n % 256 ^ (k + 1) := by
      rw [Nat.pow_succ, Nat.mul_comm (256 ^ k) 256, Nat.mod_mul]
      omega
    have h2 : n % 256 ^ (k + 1) < 256 ^ (k + 1) := Nat.mod_lt _ (Nat.pow_pos (by decide))
    have h3 := pow_le8 h
    rw [show (2 : Nat) ^ 8 = 256 from rfl, h1]
    exact Nat.mod_eq_of_lt (by omega)

theorem bigL_be : ∀ (k : Nat) (l : List UInt8), l.length = k → k ≤ 8 → bigL (be l 0) k = l
  | 0, l, hl, _ => by rw [List.eq_nil_of_length_eq_zero hl]; rfl
  | k + 1, l, hl, h => by
    have hne : l ≠ [] := by intro e; subst e; simp at hl
    have e := List.dropLast_concat_getLast hne
    have hd : l.dropLast.length = k := by rw [List.length_dropLast]; omega
    have hlt : be l.dropLast 0 < 256 ^ k := by have := be_pow l.dropLast (a := 0) (k := 0) (by decide); rw [Nat.zero_add, hd] at this; exact this
    have hp : 256 ^ k * 256 ≤ 18446744073709551616 := by rw [← Nat.pow_succ]; exact pow_le8 h
    have hb := (l.getLast hne).toNat_lt
    have e2 : be l 0 = be l.dropLast 0 * 256 + (l.getLast hne).toNat := by
      have q := be_append l.dropLast (l.getLast hne) 0
      rw [e] at q
      rw [q]
      exact Nat.mod_eq_of_lt (by omega)
    rw [bigL_succ, e2, show (be l.dropLast 0 * 256 + (l.getLast hne).toNat) / 256 = be l.dropLast 0 by omega, bigL_be k _ hd (by omega)]
    have e3 : UInt8.ofNat (be l.dropLast 0 * 256 + (l.getLast hne).toNat) = l.getLast hne := by
      apply UInt8.toNat_inj.1
      rw [UInt8.toNat_ofNat']
      omega
    rw [e3, e]

theorem bigB_list (n k : Nat) : (bigB n k).data.toList = bigL n k := by unfold bigB bigL; rw [List.toList_toArray]

theorem ba_ext {a b : ByteArray} (h : a.data.toList = b.data.toList) : a = b := by
  cases a; cases b; congr 1; exact Array.toList_inj.1 h

theorem be_bigB {n k : Nat} (hk : k ≤ 8) (hn : n < 256 ^ k) : be (bigB n k).data.toList 0 = n := by
  rw [bigB_list, be_bigL k n hk, Nat.mod_eq_of_lt hn]

theorem bigB_be {x : ByteArray} {k : Nat} (hx : x.size = k) (hk : k ≤ 8) : bigB (be x.data.toList 0) k = x := by
  apply ba_ext
  rw [bigB_list]
  exact bigL_be k _ (by rw [Array.length_toList]; exact hx) hk

-- Forward: a reader over what was written.
theorem got_app {x y : ByteArray} {n : Int} (h : n = (x.size : Int)) : (Rs.mk (x ++ y) 0).got n = x := by
  subst h
  show tkS (x ++ y) 0 _ = x
  unfold tkS
  rw [if_pos ⟨rfl, by rw [ByteArray.size_append]; omega⟩, Int.toNat_natCast]
  exact ByteArray.extract_append_eq_left rfl
theorem take_app {x y : ByteArray} {n : Int} (h : n = (x.size : Int)) : (Rs.mk (x ++ y) 0).take n = ⟨y, 0⟩ := by
  subst h
  unfold Rs.take tkR tkE
  rw [if_pos ⟨rfl, by rw [ByteArray.size_append]; omega⟩, if_pos rfl, if_pos (by rw [ByteArray.size_append]; omega), Int.toNat_natCast]
  congr 1
  exact ByteArray.extract_append_eq_right rfl (by rw [ByteArray.size_append])
theorem num_app {v k : Nat} {y : ByteArray} (hk : k ≤ 8) (hv : v < 256 ^ k) : (Rs.mk (bigB v k ++ y) 0).num (k : Int) = v := by
  unfold Rs.num; rw [got_app (by rw [bigB_size])]; exact be_bigB hk hv
theorem takeN_app {v k : Nat} {y : ByteArray} : (Rs.mk (bigB v k ++ y) 0).take (k : Int) = ⟨y, 0⟩ := take_app (by rw [bigB_size])

theorem txt_app {a y : ByteArray} {m : Int} (hm : (a.size : Int) ≤ m) (ha : a.size < 4294967296) : (Rs.mk (textB a ++ y) 0).txt m = a ∧ (Rs.mk (textB a ++ y) 0).txtR m = ⟨y, 0⟩ := by
  unfold textB
  rw [ByteArray.append_assoc]
  have h1 : (Rs.mk (bigB a.size 4 ++ (a ++ y)) 0).num 4 = a.size := num_app (k := 4) (by decide) ha
  have h2 : (Rs.mk (bigB a.size 4 ++ (a ++ y)) 0).take 4 = ⟨a ++ y, 0⟩ := takeN_app (k := 4)
  unfold Rs.txt Rs.txtR Rs.cntR Rs.cnt
  rw [h1, if_neg (by omega), if_neg (by omega), h2]
  exact ⟨got_app rfl, take_app rfl⟩

-- Backward: what was read.
theorem take_ok {r : Rs} {n : Int} (hn : 0 ≤ n) (h : (r.take n).e = 0) : r.e = 0 ∧ ((r.got n).size : Int) = n ∧ r.s = r.got n ++ (r.take n).s := by
  have h : tkE r.s r.e n = 0 := h
  have e0 : r.e = 0 := by
    unfold tkE at h
    split at h
    · assumption
    · exact h
  have hle : n ≤ r.s.size := by
    unfold tkE at h
    rw [if_pos e0] at h
    split at h
    · assumption
    · cases h
  have e1 : r.got n = r.s.extract 0 n.toNat := if_pos ⟨e0, hle⟩
  have e2 : (r.take n).s = r.s.extract n.toNat r.s.size := if_pos ⟨e0, hle⟩
  refine ⟨e0, ?_, ?_⟩
  · rw [e1, ByteArray.size_extract]; omega
  · rw [e1, e2, ByteArray.extract_append_extract, Nat.min_eq_left (Nat.zero_le _), Nat.max_eq_right (by omega), ByteArray.extract_zero_size]

theorem num_ok {r : Rs} {k : Nat} (hk : k ≤ 8) (h : (r.take (k : Int)).e = 0) : r.e = 0 ∧ r.s = bigB (r.num (k : Int)) k ++ (r.take (k : Int)).s := by
  obtain ⟨h1, h2, h3⟩ := take_ok (by omega) h
  refine ⟨h1, ?_⟩
  unfold Rs.num
  rw [bigB_be (by omega) hk]
  exact h3

theorem fail_no {r : Rs} {f : Int} (hf : f ≠ 0) : (r.fail f).e ≠ 0 := fail_bad r hf

theorem txt_ok {r : Rs} {m : Int} (h : (r.txtR m).e = 0) : r.e = 0 ∧ r.s = textB (r.txt m) ++ (r.txtR m).s := by
  unfold Rs.txtR at h
  obtain ⟨h1, h2, h3⟩ := take_ok (cnt_nonneg r m) h
  by_cases hc : (r.num 4 : Int) > m
  · have e : r.cntR m = (r.take 4).fail 5 := if_pos hc
    rw [e] at h1
    exact absurd h1 (fail_no (by decide))
  have e : r.cntR m = r.take 4 := if_neg hc
  have e' : r.cnt m = r.num 4 := if_neg hc
  rw [e] at h1
  obtain ⟨g1, g2⟩ := num_ok (k := 4) (by decide) h1
  refine ⟨g1, ?_⟩
  have e3 : (r.txt m).size = r.num 4 := by
    have : ((r.txt m).size : Int) = r.cnt m := h2
    rw [e'] at this
    omega
  have h3 : (r.cntR m).s = r.txt m ++ (r.txtR m).s := h3
  rw [e] at h3
  unfold textB
  rw [e3, ByteArray.append_assoc, ← h3]
  exact g2

-- Sizes of right names and texts.
theorem keys_many (s : ByteArray) : ∀ i, s.size - i ≤ 4 * (keysAt s i).length := by
  intro i
  induction h : s.size - i using Nat.strongRecOn generalizing i with
  | _ n ih =>
    by_cases hi : i < s.size
    · rw [keysAt_lt hi]
      have := key_pos s i
      have := key_four s i
      have := ih (s.size - (i + (key s i).2)) (by omega) _ rfl
      simp only [List.length_cons]
      omega
    · omega

theorem goR_len : ∀ (l : List Nat) (n : Nat), goR l n = true → n + l.length ≤ 12
  | [], n, h => by
    simp only [goR, Bool.and_eq_true, decide_eq_true_eq] at h
    simp only [List.length_nil]; omega
  | k :: l, n, h => by
    rw [goR_cons, Bool.and_eq_true] at h
    have := goR_len l (n + 1) h.2
    simp only [List.length_cons]; omega
theorem goS_len : ∀ (l : List Nat) (n : Nat), goS l n = true → n + l.length ≤ 64
  | [], n, h => by
    simp only [goS, decide_eq_true_eq] at h
    simp only [List.length_nil]; omega
  | k :: l, n, h => by
    rw [goS_cons, Bool.and_eq_true] at h
    have := goS_len l (n + 1) h.2
    simp only [List.length_cons]; omega
theorem right_size {s : ByteArray} (h : rightT s = true) : s.size ≤ 48 := by
  have := goR_len _ _ h
  have := keys_many s 0
  omega
theorem says_size {s : ByteArray} (h : saysT s = true) : s.size ≤ 256 := by
  have := goS_len _ _ h
  have := keys_many s 0
  omega

theorem one1 {k : Nat} (h : k < 256) (y : ByteArray) : (Rs.mk (bigB k 1 ++ y) 0).num 1 = k ∧ (Rs.mk (bigB k 1 ++ y) 0).take 1 = ⟨y, 0⟩ := ⟨num_app (k := 1) (by decide) h, takeN_app (k := 1)⟩
theorem one4 {k : Nat} (h : k < 4294967296) (y : ByteArray) : (Rs.mk (bigB k 4 ++ y) 0).num 4 = k ∧ (Rs.mk (bigB k 4 ++ y) 0).take 4 = ⟨y, 0⟩ := ⟨num_app (k := 4) (by decide) h, takeN_app (k := 4)⟩
theorem one8 {k : Nat} (h : k < 18446744073709551616) : (Rs.mk (bigB k 8) 0).num 8 = k ∧ (Rs.mk (bigB k 8) 0).take 8 = ⟨.empty, 0⟩ := by
  have a1 := num_app (k := 8) (y := .empty) (by decide) h
  have a2 := takeN_app (v := k) (k := 8) (y := .empty)
  rw [ByteArray.append_empty] at a1 a2
  exact ⟨a1, a2⟩

/-- What is written is read as it was. -/
theorem read_bytes {p : Pl} (hf : p.fit) (hr : p.right = true) : readP p.bytes = (p, 0) := by
  have key : readQ p.bytes = (p, ⟨.empty, 0⟩) → readP p.bytes = (p, 0) := by
    intro h
    unfold readP
    rw [h, if_pos (by rfl), if_pos hr]
  apply key
  unfold readQ
  cases p with
  | tr o a b n =>
    obtain ⟨⟨ho, ho'⟩, ⟨hn, hn'⟩, _, _⟩ := hf
    obtain ⟨O, rfl⟩ := Int.eq_ofNat_of_zero_le ho
    obtain ⟨M, rfl⟩ := Int.eq_ofNat_of_zero_le hn
    have hr : ((rightT a && rightT b) && decide ((M : Int) ≠ 0)) = true := hr
    simp only [Bool.and_eq_true] at hr
    have ha := right_size hr.1.1
    have hb := right_size hr.1.2
    show readB ((Rs.mk (bigB 1 1 ++ (((bigB (O : Int).toNat 4 ++ textB a) ++ textB b) ++ bigB (M : Int).toNat 8)) 0).num 1) _ = _
    rw [Int.toNat_natCast, Int.toNat_natCast]
    show readB ((Rs.mk (bigB 1 1 ++ (((bigB O 4 ++ textB a) ++ textB b) ++ bigB M 8)) 0).num 1) ((Rs.mk (bigB 1 1 ++ (((bigB O 4 ++ textB a) ++ textB b) ++ bigB M 8)) 0).take 1) = _
    rw [(one1 (by decide) _).1, (one1 (by decide) _).2]
    unfold readB
    rw [if_pos rfl, ByteArray.append_assoc, ByteArray.append_assoc, (one4 (by omega) _).1, (one4 (by omega) _).2, (txt_app (m := 48) (by omega) (by omega)).1, (txt_app (m := 48) (by omega) (by omega)).2, (txt_app (m := 48) (by omega) (by omega)).1, (txt_app (m := 48) (by omega) (by omega)).2,
      (one8 (by omega)).1, (one8 (by omega)).2]
  | sy a b =>
    have hr : (rightT a && saysT b) = true := hr
    simp only [Bool.and_eq_true] at hr
    have ha := right_size hr.1
    have hb := says_size hr.2
    show readB ((Rs.mk (bigB 2 1 ++ (textB a ++ textB b)) 0).num 1) ((Rs.mk (bigB 2 1 ++ (textB a ++ textB b)) 0).take 1) = _
    rw [(one1 (by decide) _).1, (one1 (by decide) _).2]
    unfold readB
    have t2 := txt_app (a := b) (y := .empty) (m := 256) (by omega) (by omega)
    rw [ByteArray.append_empty] at t2
    rw [if_neg (by decide), if_pos rfl, (txt_app (m := 48) (by omega) (by omega)).1, (txt_app (m := 48) (by omega) (by omega)).2, t2.1, t2.2]
  | de o a n =>
    obtain ⟨⟨ho, ho'⟩, ⟨hn, hn'⟩, _⟩ := hf
    obtain ⟨O, rfl⟩ := Int.eq_ofNat_of_zero_le ho
    obtain ⟨M, rfl⟩ := Int.eq_ofNat_of_zero_le hn
    have ha := right_size hr
    show readB ((Rs.mk (bigB 3 1 ++ ((bigB (O : Int).toNat 4 ++ textB a) ++ bigB (M : Int).toNat 8)) 0).num 1) _ = _
    rw [Int.toNat_natCast, Int.toNat_natCast]
    show readB ((Rs.mk (bigB 3 1 ++ ((bigB O 4 ++ textB a) ++ bigB M 8)) 0).num 1) ((Rs.mk (bigB 3 1 ++ ((bigB O 4 ++ textB a) ++ bigB M 8)) 0).take 1) = _
    rw [(one1 (by decide) _).1, (one1 (by decide) _).2]
    unfold readB
    rw [if_neg (by decide), if_neg (by decide), if_pos rfl, ByteArray.append_assoc, (one4 (by omega) _).1, (one4 (by omega) _).2, (txt_app (m := 48) (by omega) (by omega)).1, (txt_app (m := 48) (by omega) (by omega)).2,
      (one8 (by omega)).1, (one8 (by omega)).2]
  | no | nu => cases hr

theorem out_ok {r : Rs} (h : r.out = 0) : r.e = 0 ∧ r.s = .empty := by
  unfold Rs.out at h
  split at h
  · split at h
    · exact ⟨by assumption, by assumption⟩
    · cases h
  · exact absurd h (by assumption)

/-- What is read is written so. -/
theorem bytes_read {s : ByteArray} (h : (readP s).2 = 0) : (readP s).1.right = true ∧ (readP s).1.bytes = s := by
  unfold readP at h ⊢
  by_cases h1 : (readQ s).2.out = 0
  · rw [if_pos h1] at h ⊢
    by_cases h2 : (readQ s).1.right = true
    · rw [if_pos h2] at h ⊢
      refine ⟨h2, ?_⟩
      obtain ⟨e1, e2⟩ := out_ok h1
      clear h h1
      unfold readQ at *
      show (readB _ _).1.bytes = s
      have hs : ((Rs.mk s 0).take 1).e = 0 → s = bigB ((Rs.mk s 0).num 1) 1 ++ ((Rs.mk s 0).take 1).s := fun h => (num_ok (k := 1) (by decide) h).2
      generalize (Rs.mk s 0).num 1 = t at *
      generalize (Rs.mk s 0).take 1 = r at *
      unfold readB at *
      split at e1
      · rename_i ht
        rw [if_pos ht] at e2 ⊢
        obtain ⟨a1, a2⟩ := num_ok (k := 8) (by decide) e1
        obtain ⟨b1, b2⟩ := txt_ok a1
        obtain ⟨c1, c2⟩ := txt_ok b1
        obtain ⟨d1, d2⟩ := num_ok (k := 4) (by decide) c1
        have e2 : ((((r.take 4).txtR 48).txtR 48).take 8).s = .empty := e2
        have a2 : (((r.take 4).txtR 48).txtR 48).s = bigB ((((r.take 4).txtR 48).txtR 48).num 8) 8 ++ ((((r.take 4).txtR 48).txtR 48).take 8).s := a2
        rw [e2, ByteArray.append_empty] at a2
        have d2 : r.s = bigB (r.num 4) 4 ++ (r.take 4).s := d2
        rw [hs d1, d2, c2, b2, a2, ht]
        show bigB 1 1 ++ (((bigB ((r.num 4 : Nat) : Int).toNat 4 ++ _) ++ _) ++ bigB (((((r.take 4).txtR 48).txtR 48).num 8 : Nat) : Int).toNat 8) = _
        rw [Int.toNat_natCast, Int.toNat_natCast, ByteArray.append_assoc, ByteArray.append_assoc]
      · rename_i ht
        rw [if_neg ht] at e2 ⊢
        split at e1
        · rename_i ht
          rw [if_pos ht] at e2 ⊢
          obtain ⟨b1, b2⟩ := txt_ok e1
          obtain ⟨c1, c2⟩ := txt_ok b1
          have e2 : ((r.txtR 48).txtR 256).s = .empty := e2
          rw [e2, ByteArray.append_empty] at b2
          rw [hs c1, c2, b2, ht]
          rfl
        · rename_i ht
          rw [if_neg ht] at e2 ⊢
          split at e1
          · rename_i ht
            rw [if_pos ht] at e2 ⊢
            obtain ⟨a1, a2⟩ := num_ok (k := 8) (by decide) e1
            obtain ⟨c1, c2⟩ := txt_ok a1
            obtain ⟨d1, d2⟩ := num_ok (k := 4) (by decide) c1
            have e2 : (((r.take 4).txtR 48).take 8).s = .empty := e2
            have a2 : ((r.take 4).txtR 48).s = bigB (((r.take 4).txtR 48).num 8) 8 ++ (((r.take 4).txtR 48).take 8).s := a2
            rw [e2, ByteArray.append_empty] at a2
            have d2 : r.s = bigB (r.num 4) 4 ++ (r.take 4).s := d2
            rw [hs d1, d2, c2, a2, ht]
            show bigB 3 1 ++ ((bigB ((r.num 4 : Nat) : Int).toNat 4 ++ _) ++ bigB ((((r.take 4).txtR 48).num 8 : Nat) : Int).toNat 8) = _
            rw [Int.toNat_natCast, Int.toNat_natCast, ByteArray.append_assoc]
          · exact absurd e1 (fail_no (by decide))
    · rw [if_neg h2] at h
      cases h
  · rw [if_neg h1] at h
    exact absurd h h1
end Go.Proofs.YtboohfijacjhjaaDoor
