/- Numerals and the numbers that they are, in plain Lean. -/
import Derived.Test.YtmmgdbcppmabaaaDoorFC
set_option linter.unusedVariables false
namespace Go.Proofs.YtmmgdbcppmabaaaDoor
open Go.Lib

def decB (n : Nat) : ByteArray := ⟨(decDigits n).toArray⟩
def isDg (c : UInt8) : Prop := 48 ≤ c.toNat ∧ c.toNat ≤ 57
instance (c : UInt8) : Decidable (isDg c) := inferInstanceAs (Decidable (_ ∧ _))
def valD (a : Nat) (l : List UInt8) : Nat := l.foldl (fun a c => a * 10 + (c.toNat - 48)) a
/-- The same in words of 64 bits. -/
def valW (a : Nat) (l : List UInt8) : Nat := l.foldl (fun a c => (a * 10 + (c.toNat - 48)) % 18446744073709551616) a

theorem valD_le : ∀ (l : List UInt8) (a : Nat), a ≤ valD a l
  | [], a => Nat.le_refl _
  | c :: l, a => Nat.le_trans (by omega) (valD_le l (a * 10 + (c.toNat - 48)))

theorem parse_ok : ∀ (l : List UInt8) (a : Nat), (∀ c ∈ l, isDg c) → valD a l ≤ 18446744073709551615 → parseUintM 18446744073709551615 a l = .ok (valD a l)
  | [], a, _, _ => rfl
  | c :: l, a, h, hv => by
    have hc := h c List.mem_cons_self
    have h1 : a * 10 + (c.toNat - 48) ≤ valD a (c :: l) := valD_le l _
    rw [parseUintM, if_pos (show 48 ≤ c.toNat ∧ c.toNat ≤ 57 from hc), if_neg (by omega), if_neg (by omega)]
    exact parse_ok l _ (fun d hd => h d (List.mem_cons_of_mem _ hd)) hv

theorem ofNat_dg {n : Nat} (h : n < 10) : (UInt8.ofNat (48 + n)).toNat = 48 + n := by
  rw [UInt8.toNat_ofNat']; omega

theorem dec_dg (u : Nat) : ∀ c ∈ decDigits u, isDg c := by
  induction u using Nat.strongRecOn with
  | _ u ih =>
    rw [decDigits]
    split
    · rename_i h
      intro c hc
      simp only [List.mem_singleton] at hc
      subst hc
      unfold isDg
      rw [ofNat_dg h]; omega
    · rename_i h
      intro c hc
      rcases List.mem_append.1 hc with hc | hc
      · exact ih (u / 10) (by omega) c hc
      · simp only [List.mem_singleton] at hc
        subst hc
        unfold isDg
        rw [ofNat_dg (by omega)]; omega

theorem dec_val (u : Nat) : valD 0 (decDigits u) = u := by
  induction u using Nat.strongRecOn with
  | _ u ih =>
    rw [decDigits]
    split
    · rename_i h
      show 0 * 10 + ((UInt8.ofNat (48 + u)).toNat - 48) = u
      rw [ofNat_dg h]; omega
    · rename_i h
      unfold valD
      rw [List.foldl_append]
      have := ih (u / 10) (by omega)
      unfold valD at this
      rw [this]
      show u / 10 * 10 + ((UInt8.ofNat (48 + u % 10)).toNat - 48) = u
      rw [ofNat_dg (by omega)]; omega

theorem valW_mod : ∀ (l : List UInt8) (a : Nat), valW (a % 18446744073709551616) l = valD a l % 18446744073709551616
  | [], a => rfl
  | c :: l, a => by
    show valW ((a % 18446744073709551616 * 10 + (c.toNat - 48)) % 18446744073709551616) l = valD (a * 10 + (c.toNat - 48)) l % 18446744073709551616
    rw [show (a % 18446744073709551616 * 10 + (c.toNat - 48)) % 18446744073709551616 = (a * 10 + (c.toNat - 48)) % 18446744073709551616 by omega]
    exact valW_mod l _

theorem valW_lt : ∀ (l : List UInt8) (a : Nat), a < 18446744073709551616 → valW a l < 18446744073709551616
  | [], a, h => h
  | c :: l, a, h => valW_lt l _ (Nat.mod_lt _ (by decide))

theorem dec_ne (u : Nat) : decDigits u ≠ [] := by
  intro h
  have := congrArg List.length h
  rw [decDigits_length] at this
  have := nDigits_pos u
  simp at *
  omega

theorem parse_dec {u : Nat} (h : u < 18446744073709551616) : parseUintB 64 (decDigits u) = .ok u := by
  unfold parseUintB
  rw [if_neg (dec_ne u)]
  have := parse_ok (decDigits u) 0 (dec_dg u) (by rw [dec_val]; omega)
  rw [dec_val] at this
  exact this

/-- The document's Read. -/
def rreadP (s : ByteArray) : Nat × Bool :=
  if s.size = 0 ∨ 20 < s.size then (0, false) else if ∀ c ∈ s.data.toList, isDg c then (if decB (valW 0 s.data.toList) = s then (valW 0 s.data.toList, true) else (0, false)) else (0, false)

theorem dec_len {u : Nat} (h : u < 18446744073709551616) : 1 ≤ (decDigits u).length ∧ (decDigits u).length ≤ 20 := by
  rw [decDigits_length]
  refine ⟨nDigits_pos u, ?_⟩
  by_cases hu : 1 ≤ u
  · have := numDigits_eq u hu h
    split at this <;> omega
  · have : u = 0 := by omega
    subst this
    rw [nDigits_small (by decide)]
    decide

theorem read_eq (s : ByteArray) : readP s = rreadP s := by
  by_cases he : ∃ u, u < 18446744073709551616 ∧ decB u = s
  · obtain ⟨u, hu, rfl⟩ := he
    have hl := dec_len hu
    have hd : (decB u).data.toList = decDigits u := by simp [decB]
    have hs : (decB u).size = (decDigits u).length := by simp [decB, ByteArray.size]
    have hw : valW 0 (decDigits u) = u := by
      have := valW_mod (decDigits u) 0
      rw [dec_val] at this
      simpa [Nat.mod_eq_of_lt hu] using this
    unfold readP rreadP
    rw [hd, parse_dec hu, if_neg (by omega), if_pos (dec_dg u), hw, if_pos rfl]
    simp only
    exact if_pos rfl
  · have h1 : readP s = (0, false) := by
      unfold readP
      rcases h : parseUintB 64 s.data.toList with u | _ | _
      · simp only
        rw [if_neg]
        exact fun e => he ⟨u, by have := parseUintB_le h; omega, e⟩
      · rfl
      · rfl
    have h2 : rreadP s = (0, false) := by
      unfold rreadP
      split
      · rfl
      · split
        · rw [if_neg]
          exact fun e => he ⟨_, valW_lt _ _ (by decide), e⟩
        · rfl
    rw [h1, h2]

theorem read_dec {u : Nat} (h : u < 18446744073709551616) : readP (decB u) = (u, true) := by
  have hd : (decB u).data.toList = decDigits u := by simp [decB]
  unfold readP
  rw [hd, parse_dec h]
  simp only
  exact if_pos rfl
end Go.Proofs.YtmmgdbcppmabaaaDoor
