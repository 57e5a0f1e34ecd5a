/- Names folded. -/
import Derived.Test.YtefcpmnhhmpmnaaDoorN5
namespace Go.Proofs.YtefcpmnhhmpmnaaDoor
open Go.Ab Go.RowKit

def foldAt (s : ByteArray) (i : Nat) : List UInt8 := bytesK ((keysAt s i).map foldK)
theorem foldAt_lt {s : ByteArray} {i : Nat} (h : i < s.size) : foldAt s i = encK (foldK (key s i).1) ++ foldAt s (i + (Utf8.decode s i).2) := by
  unfold foldAt; rw [keysAt_lt h, List.map_cons, bytesK_cons, key_two]
theorem foldAt_ge {s : ByteArray} {i : Nat} (h : ¬ i < s.size) : foldAt s i = [] := by unfold foldAt; rw [keysAt_ge h]; rfl
theorem baL_append (a b : List UInt8) : baL (a ++ b) = baL a ++ baL b := by
  cases h : baL a ++ baL b with
  | mk d =>
    have : (baL a ++ baL b).data.toList = a ++ b := by
      simp
    rw [h] at this
    show (⟨(a ++ b).toArray⟩ : ByteArray) = ⟨d⟩
    rw [← this]

theorem writeRune_x {p : AV} {s : ByteArray} {x : Int} {k : Nat} (hp : p = .d .nilP ∨ p = .ptr 0 []) (hx : x = (k : Int)) (h : okRune k) (hb : s.size ≤ 1000000000) : CallR cx 30 [.ptr 0 [], .d (.int .i32 x)] (bd p s) fun r S =>
    (∃ n, r = .tup [i64 n, .d .nilI]) ∧ S = bdN s (baL (encK k)) := by
  subst hx
  exact (writeRune_c hp h hb).mono fun _ _ h => ⟨⟨_, h.1⟩, h.2⟩

theorem key_ok {s : ByteArray} {i : Nat} (hi : i < s.size) (h : (key s i).1 < 2000000) : okRune (key s i).1 := by
  rw [key_keyL] at h ⊢
  cases hl : s.data.toList.drop i with
  | nil => have := congrArg List.length hl; rw [List.length_drop, Array.length_toList, List.length_nil] at this; exact absurd hi (by show ¬ i < s.data.size; omega)
  | cons b t =>
    rw [hl] at h
    rcases keyL_cases b t with ⟨u, k, r, h1, _, h3⟩ | ⟨_, h3⟩
    · rw [h3]; exact h1.ok
    · rw [h3] at h; exact absurd h (by simp)

theorem encK_len' {k : Nat} : (encK k).length ≤ 4 := by
  unfold encK
  repeat' split
  all_goals simp

/-- One step of the builder's loop in Fold. -/
theorem fold_step {s : ByteArray} {i w : Nat} {xs ys : List UInt8} (h1 : xs ++ (ys ++ foldAt s (i + w)) = foldAt s 0) (h2 : xs.length ≤ 4 * i) (h3 : i < s.size) (hw : 1 ≤ w ∧ w ≤ 4) (hy : ys.length ≤ 4) :
    ∃ (j : Nat) (zs : List UInt8) (p : AV), (p = .d .nilP ∨ p = .ptr 1 []) ∧ zs ++ foldAt s j = foldAt s 0 ∧ zs.length ≤ 4 * j ∧ j ≤ s.size + 3 ∧ s.size + 4 - (i + w) = s.size + 4 - j ∧
      [(0, st s), (3, AV.ptr 1 []), (7, AV.ptr 2 [])] = [(0, st s), (3, .ptr 1 []), (7, .ptr 2 [])] ∧ [Blk.row 5 1 (D.bytes (baL xs ++ baL ys)), .tvar 44 (.agg [.ptr 1 [], .row 0]), .iter s (i + w)] = [.row 5 1 (D.bytes (baL zs)), .tvar 44 (.agg [p, .row 0]), .iter s j] :=
  ⟨i + w, xs ++ ys, .ptr 1 [], .inr rfl, by rw [List.append_assoc]; exact h1, by rw [List.length_append]; omega, by omega, rfl, rfl, by rw [baL_append]⟩

theorem capK_lt {k : Nat} (h : capK k = true) : k < 1000 := by have := capK_iff.1 h; omega

theorem fold_c {s : ByteArray} (hm : s.size < 100000000) : CallR cx 17 [st s] [] fun r S => r = st (baL (foldAt s 0)) ∧ S = [] := by
  refine callR_of (R := R1) cx_ok Tryd.func17 (by kernel_rfl) rfl ?_
  conv => whnf
  refine .inr ⟨fun m l S => ∃ (i : Nat) (xs : List UInt8) (p : AV), (p = .d .nilP ∨ p = .ptr 1 []) ∧ xs ++ foldAt s i = foldAt s 0 ∧ xs.length ≤ 4 * i ∧ i ≤ s.size + 3 ∧ m = s.size + 4 - i ∧
      l = [(0, st s), (3, .ptr 1 []), (7, .ptr 2 [])] ∧ S = [.row 5 1 (D.bytes (baL xs)), .tvar 44 (.agg [p, .row 0]), .iter s i],
    ⟨_, _, ⟨0, [], _, .inl rfl, rfl, Nat.le_refl _, by omega, rfl, rfl, rfl⟩, ⟨rfl, rfl, rfl, trivial⟩⟩, ?_⟩
  rintro _ _ _ ⟨i, xs, p, hp, h1, h2, h3, rfl, rfl, rfl⟩
  rcases hp with rfl | rfl <;>
  · conv => whnf
    refine brec (fun h4 => ?_) (fun h4 => ?_)
    · have hi := of_decide_eq_true h4
      have br := broken_c (s := s) hi
      have hd := decode_range s i
      have hb := byteAt_range s i
      have hbe := byteAt_eq s i
      have cc := capital_c (k := (Utf8.decode s i).1) (by omega)
      have ko := key_ok hi
      have hsk := stray_key s i
      have hsz : (baL xs).size ≤ 1000000000 := by show xs.toArray.size ≤ _; rw [List.size_toArray]; omega
      rw [foldAt_lt hi] at h1
      generalize hr : ((Utf8.decode s i).1 : Int) = R at *
      conv => whnf
      refine ⟨_, cc, ?_⟩
      rintro _ _ ⟨rfl, rfl⟩
      conv => whnf
      refine brec (fun h5 => ?_) (fun h5 => ?_)
      · have hl := capK_lt h5
        have hst : stray s i = false := by
          cases e : stray s i with
          | false => rfl
          | true => rw [(key_stray e).2] at hl; exact absurd hl (by decide)
        have hkp := key_plain hst
        rw [hkp] at ko h1
        have hf : foldK (Utf8.decode s i).1 = (Utf8.decode s i).1 + 32 := by unfold foldK; rw [if_pos h5]
        have ok1 := foldK_ok (ko (by omega))
        rw [hf] at h1 ok1
        conv => whnf
        refine ⟨_, writeRune_x (s := baL xs) (k := (Utf8.decode s i).1 + 32) ?_ (by rw [w32 (by omega)]; omega) ok1 hsz, ?_⟩
        · first | exact .inl rfl | exact .inr rfl
        rintro _ _ ⟨⟨_, rfl⟩, rfl⟩
        conv => whnf
        refine ⟨s.size + 4 - (i + (Utf8.decode s i).2), [(0, st s), (3, .ptr 1 []), (7, .ptr 2 [])], [3, 1, 2], by omega, ⟨rfl, rfl, rfl, trivial⟩, ?_⟩
        conv => whnf
        exact fold_step h1 h2 hi hd.2 encK_len'
      · have hf : foldK (Utf8.decode s i).1 = (Utf8.decode s i).1 := by unfold foldK; rw [if_neg (by rw [h5]; decide)]
        conv => whnf
        refine ⟨_, br, ?_⟩
        rintro _ _ ⟨rfl, rfl⟩
        conv => whnf
        refine brec (fun h6 => ?_) (fun h6 => ?_)
        · have hks := key_stray h6
          rw [hks.1, foldK_stray (by omega), encK_stray] at h1
          conv => whnf
          refine ⟨⟨by omega, by show (i : Int) < _; omega⟩, ?_⟩
          rw [Int.toNat_natCast, hbe]
          conv => whnf
          refine ⟨_, writeByte_c (s := baL xs) (b := s.get! i) ?_ hsz, ?_⟩
          · first | exact .inl rfl | exact .inr rfl
          rintro _ _ ⟨rfl, rfl⟩
          conv => whnf
          refine ⟨s.size + 4 - (i + (Utf8.decode s i).2), [(0, st s), (3, .ptr 1 []), (7, .ptr 2 [])], [3, 1, 2], by omega, ⟨rfl, rfl, rfl, trivial⟩, ?_⟩
          conv => whnf
          exact fold_step h1 h2 hi hd.2 (by simp)
        · have hkp := key_plain h6
          rw [hkp] at ko h1
          rw [hf] at h1
          conv => whnf
          refine ⟨_, writeRune_x (s := baL xs) (k := (Utf8.decode s i).1) ?_ hr.symm (ko (by omega)) hsz, ?_⟩
          · first | exact .inl rfl | exact .inr rfl
          rintro _ _ ⟨⟨_, rfl⟩, rfl⟩
          conv => whnf
          refine ⟨s.size + 4 - (i + (Utf8.decode s i).2), [(0, st s), (3, .ptr 1 []), (7, .ptr 2 [])], [3, 1, 2], by omega, ⟨rfl, rfl, rfl, trivial⟩, ?_⟩
          conv => whnf
          exact fold_step h1 h2 hi hd.2 encK_len'
    · have h4 := of_decide_eq_false h4
      rw [foldAt_ge (by omega), List.append_nil] at h1
      subst h1
      conv => whnf
      refine ⟨_, string_c (s := baL (foldAt s 0)) ?_, ?_⟩
      · first | exact .inl rfl | exact .inr rfl
      rintro _ _ ⟨rfl, rfl⟩
      conv => whnf
      exact ⟨rfl, rfl⟩
end Go.Proofs.YtefcpmnhhmpmnaaDoor
