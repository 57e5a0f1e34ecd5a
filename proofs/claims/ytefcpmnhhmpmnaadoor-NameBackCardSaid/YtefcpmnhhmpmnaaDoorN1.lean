/- Texts as runes: what a rune's bytes are, that they are found again, that texts without capitals stay so. Plain laws, no program. -/
import Derived.Test.YtefcpmnhhmpmnaaDoorU6
namespace Go.Proofs.YtefcpmnhhmpmnaaDoor
open Go.Ab

/-- The rune at the front of bytes. -/
def keyL (l : List UInt8) : Nat × Nat := keyN l.length (l.getD 0 0).toNat (l.getD 1 0).toNat (l.getD 2 0).toNat (l.getD 3 0).toNat

theorem key_keyL (s : ByteArray) (i : Nat) : key s i = keyL (s.data.toList.drop i) := by
  have e : ∀ k, (s.data.toList.drop i).getD k 0 = s.get! (i + k) := fun k => by
    rw [← getD_get!, List.getD_eq_getElem?_getD, List.getD_eq_getElem?_getD, List.getElem?_drop]
  have hl : (s.data.toList.drop i).length = s.size - i := by rw [List.length_drop, Array.length_toList]; rfl
  unfold key keyL
  rw [hl, e, e, e, e]
  rfl

/-- A rune's bytes. -/
inductive Val : List UInt8 → Nat → Prop
  | one {b : UInt8} : b.toNat < 128 → Val [b] b.toNat
  | two {b0 b1 : UInt8} : 194 ≤ b0.toNat ∧ b0.toNat ≤ 223 → 128 ≤ b1.toNat ∧ b1.toNat ≤ 191 → Val [b0, b1] (b0.toNat % 32 * 64 + b1.toNat % 64)
  | three {b0 b1 b2 : UInt8} : 224 ≤ b0.toNat ∧ b0.toNat ≤ 239 → 128 ≤ b1.toNat ∧ b1.toNat ≤ 191 → 128 ≤ b2.toNat ∧ b2.toNat ≤ 191 → (b0.toNat = 224 → 160 ≤ b1.toNat) → (b0.toNat = 237 → b1.toNat ≤ 159) →
      Val [b0, b1, b2] (b0.toNat % 16 * 4096 + b1.toNat % 64 * 64 + b2.toNat % 64)
  | four {b0 b1 b2 b3 : UInt8} : 240 ≤ b0.toNat ∧ b0.toNat ≤ 244 → 128 ≤ b1.toNat ∧ b1.toNat ≤ 191 → 128 ≤ b2.toNat ∧ b2.toNat ≤ 191 → 128 ≤ b3.toNat ∧ b3.toNat ≤ 191 → (b0.toNat = 240 → 144 ≤ b1.toNat) → (b0.toNat = 244 → b1.toNat ≤ 143) →
      Val [b0, b1, b2, b3] (b0.toNat % 8 * 262144 + b1.toNat % 64 * 4096 + b2.toNat % 64 * 64 + b3.toNat % 64)

theorem Val.len {u k} (h : Val u k) : 1 ≤ u.length := by cases h <;> simp
theorem Val.lt {u k} (h : Val u k) : k < 1114112 := by cases h <;> omega

/-- Bytes that begin with a rune's. -/
theorem keyL_val {u k} (h : Val u k) (r : List UInt8) : keyL (u ++ r) = (k, u.length) := by
  unfold keyL
  cases h with
  | one h => exact keyN_good (dec_1 h) (.inr (by omega))
  | two h0 h1 => exact keyN_good (dec_2 h0 ⟨by simp, h1⟩) (.inl (by simp))
  | three h0 h1 h2 h3 h4 => exact keyN_good (dec_3 h0 ⟨by simp, h1⟩ ⟨by simp, h2⟩ h3 h4) (.inl (by simp))
  | four h0 h1 h2 h3 h4 h5 => exact keyN_good (dec_4 h0 ⟨by simp, h1⟩ ⟨by simp, h2⟩ ⟨by simp, h3⟩ h4 h5) (.inl (by simp))

/-- Bytes that begin with a stray. -/
theorem keyL_stray {b : UInt8} {t : List UInt8} (h : ∀ u k, Val u k → ¬ u <+: b :: t) : keyL (b :: t) = (b.toNat + 2000000, 1) := by
  unfold keyL
  have hb := b.toNat_lt
  have n1 : ¬ b.toNat < 128 := fun hl => h _ _ (.one hl) ⟨t, rfl⟩
  refine keyN_bad (dec_bad hb (UInt8.toNat_lt _) (UInt8.toNat_lt _) (UInt8.toNat_lt _) ?_)
  show (128 ≤ b.toNat ∧ b.toNat ≤ 193) ∨ _
  match t, h with
  | [], h => simp only [List.length_cons, List.length_nil, List.getD_cons_zero]; omega
  | [b1], h =>
    have n2 : ¬ ((194 ≤ b.toNat ∧ b.toNat ≤ 223) ∧ (128 ≤ b1.toNat ∧ b1.toNat ≤ 191)) := fun ⟨h0, h1⟩ => h _ _ (.two (b0 := b) (b1 := b1) h0 h1) ⟨[], rfl⟩
    simp only [List.length_cons, List.length_nil, List.getD_cons_zero, List.getD_cons_succ]
    omega
  | [b1, b2], h =>
    have n2 : ¬ ((194 ≤ b.toNat ∧ b.toNat ≤ 223) ∧ (128 ≤ b1.toNat ∧ b1.toNat ≤ 191)) := fun ⟨h0, h1⟩ => h _ _ (.two (b0 := b) (b1 := b1) h0 h1) ⟨[b2], rfl⟩
    have n3 : ¬ ((224 ≤ b.toNat ∧ b.toNat ≤ 239) ∧ (128 ≤ b1.toNat ∧ b1.toNat ≤ 191) ∧ (128 ≤ b2.toNat ∧ b2.toNat ≤ 191) ∧ (¬ b.toNat = 224 ∨ 160 ≤ b1.toNat) ∧ (¬ b.toNat = 237 ∨ b1.toNat ≤ 159)) := fun ⟨h0, h1, h2, h3, h4⟩ => h _ _ (.three (b0 := b) (b1 := b1) (b2 := b2) h0 h1 h2 (by omega) (by omega)) ⟨[], rfl⟩
    simp only [List.length_cons, List.length_nil, List.getD_cons_zero, List.getD_cons_succ]
    omega
  | b1 :: b2 :: b3 :: t, h =>
    have n2 : ¬ ((194 ≤ b.toNat ∧ b.toNat ≤ 223) ∧ (128 ≤ b1.toNat ∧ b1.toNat ≤ 191)) := fun ⟨h0, h1⟩ => h _ _ (.two (b0 := b) (b1 := b1) h0 h1) ⟨b2 :: b3 :: t, rfl⟩
    have n3 : ¬ ((224 ≤ b.toNat ∧ b.toNat ≤ 239) ∧ (128 ≤ b1.toNat ∧ b1.toNat ≤ 191) ∧ (128 ≤ b2.toNat ∧ b2.toNat ≤ 191) ∧ (¬ b.toNat = 224 ∨ 160 ≤ b1.toNat) ∧ (¬ b.toNat = 237 ∨ b1.toNat ≤ 159)) := fun ⟨h0, h1, h2, h3, h4⟩ => h _ _ (.three (b0 := b) (b1 := b1) (b2 := b2) h0 h1 h2 (by omega) (by omega)) ⟨b3 :: t, rfl⟩
    have n4 : ¬ ((240 ≤ b.toNat ∧ b.toNat ≤ 244) ∧ (128 ≤ b1.toNat ∧ b1.toNat ≤ 191) ∧ (128 ≤ b2.toNat ∧ b2.toNat ≤ 191) ∧ (128 ≤ b3.toNat ∧ b3.toNat ≤ 191) ∧ (¬ b.toNat = 240 ∨ 144 ≤ b1.toNat) ∧ (¬ b.toNat = 244 ∨ b1.toNat ≤ 143)) := fun ⟨h0, h1, h2, h3, h4, h5⟩ => h _ _ (.four (b0 := b) (b1 := b1) (b2 := b2) (b3 := b3) h0 h1 h2 h3 (by omega) (by omega)) ⟨t, rfl⟩
    simp only [List.length_cons, List.getD_cons_zero, List.getD_cons_succ]
    omega

/-- Bytes begin with a rune's or with a stray. -/
theorem keyL_cases (b : UInt8) (t : List UInt8) : (∃ u k r, Val u k ∧ b :: t = u ++ r ∧ keyL (b :: t) = (k, u.length)) ∨ ((∀ u k, Val u k → ¬ u <+: b :: t) ∧ keyL (b :: t) = (b.toNat + 2000000, 1)) := by
  by_cases h : ∃ u k, Val u k ∧ u <+: b :: t
  · obtain ⟨u, k, h1, r, h2⟩ := h
    exact .inl ⟨u, k, r, h1, h2.symm, by rw [← h2]; exact keyL_val h1 r⟩
  · have h' : ∀ u k, Val u k → ¬ u <+: b :: t := fun u k h1 h2 => h ⟨u, k, h1, h2⟩
    exact .inr ⟨h', keyL_stray h'⟩

theorem keyL_pos {l : List UInt8} (h : l ≠ []) : 1 ≤ (keyL l).2 := by
  cases l with
  | nil => exact absurd rfl h
  | cons b t =>
    rcases keyL_cases b t with ⟨u, k, r, h1, _, h3⟩ | ⟨_, h3⟩
    · rw [h3]; exact h1.len
    · rw [h3]; exact Nat.le_refl _

def keysL (l : List UInt8) : List Nat := if _h : l = [] then [] else (keyL l).1 :: keysL (l.drop (keyL l).2)
termination_by l.length
decreasing_by
  have := keyL_pos _h
  have : 0 < l.length := List.length_pos_iff.2 _h
  rw [List.length_drop]
  omega

theorem keysL_ne {l : List UInt8} (h : l ≠ []) : keysL l = (keyL l).1 :: keysL (l.drop (keyL l).2) := by rw [keysL, dif_neg h]
theorem keysL_nil : keysL [] = [] := by rw [keysL, dif_pos rfl]
theorem keysL_val {u k} (h : Val u k) (r : List UInt8) : keysL (u ++ r) = k :: keysL r := by
  have hl := h.len
  have hne : u ++ r ≠ [] := by intro e; have := congrArg List.length e; rw [List.length_append, List.length_nil] at this; omega
  rw [keysL, dif_neg hne, keyL_val h r]
  simp
theorem keysL_stray {b : UInt8} {t : List UInt8} (h : ∀ u k, Val u k → ¬ u <+: b :: t) : keysL (b :: t) = (b.toNat + 2000000) :: keysL t := by
  rw [keysL, dif_neg (by simp), keyL_stray h]
  simp

theorem keysAt_keysL (s : ByteArray) : ∀ i, keysAt s i = keysL (s.data.toList.drop i) := by
  intro i
  have hl : s.data.toList.length = s.size := Array.length_toList
  induction h : s.size - i using Nat.strongRecOn generalizing i with
  | _ n ih =>
    by_cases hi : i < s.size
    · have hne : s.data.toList.drop i ≠ [] := by intro e; have := congrArg List.length e; rw [List.length_drop, List.length_nil] at this; omega
      have hp := key_pos s i
      rw [keysAt_lt hi, ih (s.size - (i + (key s i).2)) (by omega) _ rfl, keysL_ne hne, ← key_keyL, List.drop_drop]
    · rw [keysAt_ge hi, List.drop_eq_nil_of_le (by omega), keysL_nil]

/-- By the bytes' parts. -/
theorem bytesInd {P : List UInt8 → Prop} (h0 : P []) (h1 : ∀ u k r, Val u k → P r → P (u ++ r)) (h2 : ∀ b t, (∀ u k, Val u k → ¬ u <+: b :: t) → P t → P (b :: t)) : ∀ l, P l := by
  intro l
  induction h : l.length using Nat.strongRecOn generalizing l with
  | _ n ih =>
    cases l with
    | nil => exact h0
    | cons b t =>
      rcases keyL_cases b t with ⟨u, k, r, h3, h4, _⟩ | ⟨h3, _⟩
      · rw [h4]
        have hl := h3.len
        have := congrArg List.length h4
        rw [List.length_append] at this
        exact h1 u k r h3 (ih r.length (by omega) r rfl)
      · exact h2 b t h3 (ih t.length (by rw [← h]; simp) t rfl)

/-- A key's bytes. -/
def encK (k : Nat) : List UInt8 :=
  if 2000000 ≤ k then [UInt8.ofNat (k - 2000000)] else if k < 128 then [UInt8.ofNat k]
  else if k < 2048 then [UInt8.ofNat (192 + k / 64), UInt8.ofNat (128 + k % 64)]
  else if k < 65536 then [UInt8.ofNat (224 + k / 4096), UInt8.ofNat (128 + k / 64 % 64), UInt8.ofNat (128 + k % 64)]
  else [UInt8.ofNat (240 + k / 262144), UInt8.ofNat (128 + k / 4096 % 64), UInt8.ofNat (128 + k / 64 % 64), UInt8.ofNat (128 + k % 64)]

theorem u8_of {b : UInt8} {n : Nat} (h : n % 256 = b.toNat) : UInt8.ofNat n = b := by
  apply UInt8.toNat_inj.1
  rw [UInt8.toNat_ofNat']
  exact h

theorem encK_val {u k} (h : Val u k) : encK k = u := by
  have hk := h.lt
  unfold encK
  rw [if_neg (by omega)]
  cases h with
  | @one b h => rw [if_pos h, u8_of (b := b) (by omega)]
  | @two b0 b1 h0 h1 => rw [if_neg (by omega), if_pos (by omega), u8_of (b := b0) (by omega), u8_of (b := b1) (by omega)]
  | @three b0 b1 b2 h0 h1 h2 h3 h4 => rw [if_neg (by omega), if_neg (by omega), if_pos (by omega), u8_of (b := b0) (by omega), u8_of (b := b1) (by omega), u8_of (b := b2) (by omega)]
  | @four b0 b1 b2 b3 h0 h1 h2 h3 h4 h5 =>
    rw [if_neg (by omega), if_neg (by omega), if_neg (by omega), u8_of (b := b0) (by omega), u8_of (b := b1) (by omega), u8_of (b := b2) (by omega), u8_of (b := b3) (by omega)]

theorem encK_stray (b : UInt8) : encK (b.toNat + 2000000) = [b] := by
  unfold encK
  rw [if_pos (by omega), u8_of (b := b) (by have := b.toNat_lt; omega)]

/-- What is no surrogate and not too great is a rune. -/
def okRune (k : Nat) : Prop := k < 55296 ∨ (57343 < k ∧ k < 1114112)

theorem nat_u8 {n : Nat} (h : n < 256) : (UInt8.ofNat n).toNat = n := by rw [UInt8.toNat_ofNat']; omega

theorem val_enc {k : Nat} (h : okRune k) : Val (encK k) k := by
  unfold okRune at h
  unfold encK
  rw [if_neg (by omega)]
  split
  · rename_i h1
    have := Val.one (b := UInt8.ofNat k) (by rw [nat_u8 (by omega)]; exact h1)
    rwa [nat_u8 (by omega)] at this
  split
  · have := Val.two (b0 := UInt8.ofNat (192 + k / 64)) (b1 := UInt8.ofNat (128 + k % 64)) (by rw [nat_u8 (by omega)]; omega) (by rw [nat_u8 (by omega)]; omega)
    rw [nat_u8 (by omega), nat_u8 (by omega)] at this
    rwa [show (192 + k / 64) % 32 * 64 + (128 + k % 64) % 64 = k by omega] at this
  split
  · have := Val.three (b0 := UInt8.ofNat (224 + k / 4096)) (b1 := UInt8.ofNat (128 + k / 64 % 64)) (b2 := UInt8.ofNat (128 + k % 64)) (by rw [nat_u8 (by omega)]; omega) (by rw [nat_u8 (by omega)]; omega) (by rw [nat_u8 (by omega)]; omega)
      (by rw [nat_u8 (by omega), nat_u8 (by omega)]; omega) (by rw [nat_u8 (by omega), nat_u8 (by omega)]; omega)
    rw [nat_u8 (by omega), nat_u8 (by omega), nat_u8 (by omega)] at this
    rwa [show (224 + k / 4096) % 16 * 4096 + (128 + k / 64 % 64) % 64 * 64 + (128 + k % 64) % 64 = k by omega] at this
  · have := Val.four (b0 := UInt8.ofNat (240 + k / 262144)) (b1 := UInt8.ofNat (128 + k / 4096 % 64)) (b2 := UInt8.ofNat (128 + k / 64 % 64)) (b3 := UInt8.ofNat (128 + k % 64)) (by rw [nat_u8 (by omega)]; omega) (by rw [nat_u8 (by omega)]; omega) (by rw [nat_u8 (by omega)]; omega) (by rw [nat_u8 (by omega)]; omega)
      (by rw [nat_u8 (by omega), nat_u8 (by omega)]; omega) (by rw [nat_u8 (by omega), nat_u8 (by omega)]; omega)
    rw [nat_u8 (by omega), nat_u8 (by omega), nat_u8 (by omega), nat_u8 (by omega)] at this
    rwa [show (240 + k / 262144) % 8 * 262144 + (128 + k / 4096 % 64) % 64 * 4096 + (128 + k / 64 % 64) % 64 * 64 + (128 + k % 64) % 64 = k by omega] at this

theorem Val.ok {u k} (h : Val u k) : okRune k := by unfold okRune; cases h <;> omega

def bytesK (ks : List Nat) : List UInt8 := ks.flatMap encK
theorem bytesK_cons (k : Nat) (l : List Nat) : bytesK (k :: l) = encK k ++ bytesK l := by unfold bytesK; rw [List.flatMap_cons]

theorem bytes_keys : ∀ l, bytesK (keysL l) = l := by
  refine bytesInd (by rw [keysL_nil]; rfl) (fun u k r h ih => ?_) (fun b t h ih => ?_)
  · rw [keysL_val h, bytesK_cons, encK_val h, ih]
  · rw [keysL_stray h, bytesK_cons, encK_stray, ih]; rfl

theorem keysL_inj {a b : List UInt8} (h : keysL a = keysL b) : a = b := by rw [← bytes_keys a, h, bytes_keys b]

theorem keysAt_inj {a b : ByteArray} : keysAt a 0 = keysAt b 0 ↔ a = b := by
  refine ⟨fun h => ?_, fun h => by rw [h]⟩
  rw [keysAt_keysL, keysAt_keysL] at h
  have := keysL_inj h
  rw [List.drop_zero, List.drop_zero] at this
  cases a; cases b; congr 1; exact Array.toList_inj.1 this

-- Capitals.
def capK (k : Nat) : Bool := (decide (65 ≤ k) && decide (k ≤ 90)) || ((decide (913 ≤ k) && decide (k ≤ 937)) && decide (k ≠ 930))
def foldK (k : Nat) : Nat := if capK k then k + 32 else k

theorem capK_iff {k : Nat} : capK k = true ↔ (65 ≤ k ∧ k ≤ 90) ∨ (913 ≤ k ∧ k ≤ 937 ∧ k ≠ 930) := by
  unfold capK
  simp only [Bool.or_eq_true, Bool.and_eq_true, decide_eq_true_eq]
  omega

theorem foldK_ok {k : Nat} (h : okRune k) : okRune (foldK k) := by
  unfold foldK okRune at *
  split
  · rename_i hc; have := capK_iff.1 hc; omega
  · exact h
theorem foldK_twice (k : Nat) : foldK (foldK k) = foldK k := by
  have : capK (foldK k) = false := by
    cases e : capK (foldK k) with
    | false => rfl
    | true =>
      have h1 := capK_iff.1 e
      unfold foldK at h1
      split at h1
      · rename_i hc; have := capK_iff.1 hc; omega
      · rename_i hc; exact absurd (capK_iff.2 h1) hc
  unfold foldK at this ⊢
  rw [if_neg (by rw [this]; decide)]
theorem foldK_stray {k : Nat} (h : 2000000 ≤ k) : foldK k = k := by
  unfold foldK
  rw [if_neg]
  intro hc
  have := capK_iff.1 hc
  omega

def foldB (l : List UInt8) : List UInt8 := bytesK ((keysL l).map foldK)

theorem foldB_nil : foldB [] = [] := by unfold foldB; rw [keysL_nil]; rfl
theorem foldB_val {u k} (h : Val u k) (r : List UInt8) : foldB (u ++ r) = encK (foldK k) ++ foldB r := by
  unfold foldB; rw [keysL_val h, List.map_cons, bytesK_cons]
theorem foldB_stray {b : UInt8} {t : List UInt8} (h : ∀ u k, Val u k → ¬ u <+: b :: t) : foldB (b :: t) = b :: foldB t := by
  unfold foldB; rw [keysL_stray h, List.map_cons, bytesK_cons, foldK_stray (by omega), encK_stray]; rfl

/-- A byte that goes on. -/
def contB (b : UInt8) : Prop := 128 ≤ b.toNat ∧ b.toNat ≤ 191

theorem Val.head {u k} (h : Val u k) : ∃ b t, u = b :: t ∧ ¬ contB b ∧ ∀ x ∈ t, contB x := by
  cases h with
  | @one b h => exact ⟨b, [], rfl, by unfold contB; omega, by simp⟩
  | @two b0 b1 h0 h1 => exact ⟨b0, [b1], rfl, by unfold contB; omega, fun x hx => by simp at hx; subst hx; exact h1⟩
  | @three b0 b1 b2 h0 h1 h2 => exact ⟨b0, [b1, b2], rfl, by unfold contB; omega, fun x hx => by simp at hx; rcases hx with rfl | rfl; exact h1; exact h2⟩
  | @four b0 b1 b2 b3 h0 h1 h2 h3 => exact ⟨b0, [b1, b2, b3], rfl, by unfold contB; omega, fun x hx => by simp at hx; rcases hx with rfl | rfl | rfl; exact h1; exact h2; exact h3⟩

theorem cont_prefix : ∀ (c : List UInt8) (t : List UInt8), (∀ x ∈ c, contB x) → c <+: foldB t → c <+: t
  | [], t, _, _ => List.nil_prefix
  | x :: c, [], _, hp => by rw [foldB_nil] at hp; exact hp
  | x :: c, b :: t, hc, hp => by
    rcases keyL_cases b t with ⟨u, k, r, h1, h2, _⟩ | ⟨h1, _⟩
    · rw [h2, foldB_val h1] at hp
      obtain ⟨b', t', e, hn, _⟩ := (val_enc (foldK_ok h1.ok)).head
      rw [e] at hp
      obtain ⟨z, hz⟩ := hp
      simp only [List.cons_append, List.cons.injEq] at hz
      exact absurd (hz.1 ▸ hc x (by simp)) hn
    · rw [foldB_stray h1] at hp
      obtain ⟨z, hz⟩ := hp
      simp only [List.cons_append, List.cons.injEq] at hz
      obtain ⟨z', hz'⟩ := cont_prefix c t (fun y hy => hc y (by simp [hy])) ⟨z, hz.2⟩
      exact ⟨z', by rw [hz.1, List.cons_append, hz']⟩

theorem keys_fold : ∀ l, keysL (foldB l) = (keysL l).map foldK := by
  refine bytesInd (by rw [foldB_nil, keysL_nil]; rfl) (fun u k r h ih => ?_) (fun b t h ih => ?_)
  · rw [foldB_val h, keysL_val (val_enc (foldK_ok h.ok)), ih, keysL_val h, List.map_cons]
  · rw [foldB_stray h, keysL_stray h, List.map_cons, foldK_stray (by omega), ← ih]
    refine keysL_stray fun u k hv hp => ?_
    obtain ⟨b', t', e, hn, hc⟩ := hv.head
    subst e
    obtain ⟨z, hz⟩ := hp
    simp only [List.cons_append, List.cons.injEq] at hz
    obtain ⟨rfl, hz⟩ := hz
    obtain ⟨z', hz'⟩ := cont_prefix t' t hc ⟨z, hz⟩
    exact h _ _ hv ⟨z', by rw [List.cons_append, hz']⟩

theorem foldB_twice (l : List UInt8) : foldB (foldB l) = foldB l := by
  show bytesK ((keysL (foldB l)).map foldK) = bytesK ((keysL l).map foldK)
  rw [keys_fold, List.map_map]
  congr 1
  refine List.map_congr_left fun k _ => foldK_twice k

theorem foldB_id {l : List UInt8} (h : ∀ k ∈ keysL l, foldK k = k) : foldB l = l := by
  unfold foldB
  rw [List.map_congr_left (g := id) h, List.map_id, bytes_keys]

/-- A text that is cut off: its runes are the first ones, or there is a stray. -/
theorem keys_cut : ∀ l, (∀ k ∈ keysL l, k < 2000000) → ∀ p, p <+: l → (∃ k ∈ keysL p, 2000000 ≤ k) ∨ keysL p <+: keysL l := by
  refine bytesInd (fun _ p hp => ?_) (fun u k r h ih hl p hp => ?_) (fun b t h ih hl p hp => ?_)
  · rw [List.prefix_nil.1 hp]; exact .inr (List.prefix_refl _)
  · rw [keysL_val h] at hl ⊢
    cases p with
    | nil => rw [keysL_nil]; exact .inr List.nil_prefix
    | cons b t =>
      rcases keyL_cases b t with ⟨u', k', r', h1, h2, _⟩ | ⟨h1, h2⟩
      · have hu : u' <+: u ++ r := List.IsPrefix.trans ⟨r', h2.symm⟩ hp
        obtain ⟨z, hz⟩ := hu
        have e1 := keyL_val h r
        rw [← hz, keyL_val h1 z] at e1
        simp only [Prod.mk.injEq] at e1
        have eu : u' = u := by
          have := congrArg (List.take u.length) hz
          rw [List.take_left, ← e1.2, List.take_left] at this
          exact this
        subst eu
        rw [h2] at hp ⊢
        rw [keysL_val h1, e1.1]
        have hp' : r' <+: r := (List.prefix_append_right_inj _).1 hp
        rcases ih (fun k hk => hl k (by simp [hk])) r' hp' with ⟨q, q1, q2⟩ | q
        · exact .inl ⟨q, by simp [q1], q2⟩
        · exact .inr ((List.prefix_cons_inj _).2 q)
      · refine .inl ⟨b.toNat + 2000000, ?_, by omega⟩
        rw [keysL_stray h1]; simp
  · rw [keysL_stray h] at hl
    have := hl (b.toNat + 2000000) (by simp)
    omega

-- Which stands first.
def ordL : List Nat → List Nat → Int
  | [], [] => 0
  | [], _ :: _ => -1
  | _ :: _, [] => 1
  | a :: x, b :: y => if a < b then -1 else if b < a then 1 else ordL x y

theorem ordL_turn : ∀ x y, ordL x y = - ordL y x
  | [], [] => rfl
  | [], _ :: _ => rfl
  | _ :: _, [] => rfl
  | a :: x, b :: y => by
    simp only [ordL]
    by_cases h1 : a < b
    · rw [if_pos h1, if_neg (by omega), if_pos h1]
    · by_cases h2 : b < a
      · rw [if_neg h1, if_pos h2, if_pos h2]; rfl
      · rw [if_neg h1, if_neg h2, if_neg h2, if_neg h1]; exact ordL_turn x y

theorem ordL_zero : ∀ x y, ordL x y = 0 ↔ x = y
  | [], [] => ⟨fun _ => rfl, fun _ => rfl⟩
  | [], _ :: _ => ⟨fun h => (by cases h), fun h => (by cases h)⟩
  | _ :: _, [] => ⟨fun h => (by cases h), fun h => (by cases h)⟩
  | a :: x, b :: y => by
    simp only [ordL]
    by_cases h1 : a < b
    · rw [if_pos h1]; exact ⟨fun h => (by cases h), fun h => (by cases h; omega)⟩
    · by_cases h2 : b < a
      · rw [if_neg h1, if_pos h2]; exact ⟨fun h => (by cases h), fun h => (by cases h; omega)⟩
      · rw [if_neg h1, if_neg h2, ordL_zero x y]
        have : a = b := by omega
        subst this
        simp

theorem ordL_goes : ∀ x y z, ordL x y ≤ 0 → ordL y z ≤ 0 → ordL x z ≤ 0
  | [], _, [], _, _ => by simp [ordL]
  | [], _, _ :: _, _, _ => by simp [ordL]
  | _ :: _, [], _, h, _ => by simp [ordL] at h
  | _ :: _, _ :: _, [], _, h => by simp [ordL] at h
  | a :: x, b :: y, c :: z, h, g => by
    simp only [ordL] at h g ⊢
    by_cases h1 : a < b
    · by_cases g1 : b < c
      · rw [if_pos (by omega)]; decide
      · rw [if_neg g1] at g
        by_cases g2 : c < b
        · rw [if_pos g2] at g; exact absurd g (by decide)
        · rw [if_pos (by omega)]; decide
    · rw [if_neg h1] at h
      by_cases h2 : b < a
      · rw [if_pos h2] at h; exact absurd h (by decide)
      · rw [if_neg h2] at h
        have : a = b := by omega
        subst this
        by_cases g1 : a < c
        · rw [if_pos g1]; decide
        · rw [if_neg g1] at g ⊢
          by_cases g2 : c < a
          · rw [if_pos g2] at g; exact absurd g (by decide)
          · rw [if_neg g2] at g ⊢
            exact ordL_goes x y z h g
end Go.Proofs.YtefcpmnhhmpmnaaDoor
