/- Amounts' texts: the document's Read; the law AmountTexts. -/
import Derived.Test.YtmmgdbcppmabaaaDoorFD
set_option linter.unusedVariables false
namespace Go.Proofs.YtmmgdbcppmabaaaDoor
open Go.Ab
variable [Errs]

omit [Errs] in
theorem w64 {n : Int} (h : -9223372036854775808 ≤ n ∧ n < 9223372036854775808) : IntKind.i64.wrap n = n := by rw [IntKind.wrap_i64]; omega

/-- How a text is a number, byte by byte. -/
def byteOf (s : ByteArray) (j : Nat) : UInt8 := s.data.toList.getD j 0
omit [Errs] in
theorem byteAt_of (s : ByteArray) (j : Nat) : byteAt s j = ((byteOf s j).toNat : Int) := rfl

omit [Errs] in
theorem stepW {n c : Nat} (h : 48 ≤ c ∧ c ≤ 57) (hn : n < 18446744073709551616) : IntKind.u64.wrap (IntKind.u64.wrap ((n : Int) * 10) + IntKind.u64.wrap (IntKind.u8.wrap ((c : Int) - 48))) = (((n * 10 + (c - 48)) % 18446744073709551616 : Nat) : Int) := by
  simp only [IntKind.wrap_u64, IntKind.wrap_u8]
  omega

omit [Errs] in
theorem valW_snoc (l : List UInt8) (c : UInt8) (a : Nat) : valW a (l ++ [c]) = (valW a l * 10 + (c.toNat - 48)) % 18446744073709551616 := by
  unfold valW
  rw [List.foldl_append]
  rfl

theorem rread_c {s : ByteArray} (hs : s.size ≤ 200) : CallR cx 6 [st s] [] fun r S => r = .tup [u64 ((rreadP s).1 : Int), bo (rreadP s).2] ∧ S = [] := by
  have hsz : s.data.toList.length = s.size := Array.length_toList
  refine callR_of (R := R1) cx_ok Tryd.func6 (by kernel_rfl) rfl ?_
  conv => whnf
  by_cases h0 : s.size = 0 ∨ 20 < s.size
  · have e : rreadP s = (0, false) := by unfold rreadP; rw [if_pos h0]
    rw [e]
    refine brec (fun g => ?_) (fun g => ?_)
    · conv => whnf
      exact ⟨rfl, rfl⟩
    · have g := ne_of_beq_false g
      conv => whnf
      refine brT (decide_eq_true (by show (s.size : Int) > 20; omega)) ?_
      conv => whnf
      exact ⟨rfl, rfl⟩
  refine brF (beq_eq_false_iff_ne.2 (by omega)) ?_
  conv => whnf
  refine brF (decide_eq_false (by show ¬ (s.size : Int) > 20; omega)) ?_
  conv => whnf
  refine .inl ⟨fun p L S => ∃ j : Nat, j ≤ s.size ∧ p = s.size - j ∧ (∀ i, i < j → isDg (byteOf s i)) ∧
      L = [(0, st s), (4, u64 ((valW 0 (s.data.toList.take j) : Nat) : Int)), (5, i64 (j : Int))] ∧ S = [],
    ⟨_, _, ⟨0, Nat.zero_le _, rfl, fun i h => absurd h (Nat.not_lt_zero i), rfl, rfl⟩, ⟨rfl, rfl, rfl, trivial⟩⟩, ?_⟩
  rintro p _ _ ⟨j, hj, rfl, hd, rfl, rfl⟩
  have hv := valW_lt (s.data.toList.take j) 0 (by decide)
  conv => whnf
  refine brec (fun g => ?_) (fun g => ?_)
  · have g := of_decide_eq_true g
    have hlt : j < s.size := by omega
    have hjj : 0 ≤ (j : Int) ∧ (j : Int) < (s.size : Int) := ⟨by omega, by omega⟩
    have enot : ¬ isDg (byteOf s j) → rreadP s = (0, false) := by
      intro hn
      unfold rreadP
      rw [if_neg h0, if_neg]
      intro h
      apply hn
      unfold byteOf
      rw [List.getD_eq_getElem?_getD, List.getElem?_eq_getElem (by omega)]
      exact h _ (List.getElem_mem _)
    conv => whnf
    refine ⟨hjj, ?_⟩
    conv => whnf
    rw [Int.toNat_natCast, byteAt_of]
    generalize hc : byteOf s j = c at enot
    by_cases hcd : isDg c
    case neg =>
      rw [enot hcd]
      unfold isDg at hcd
      refine brec (fun k => ?_) (fun k => ?_)
      · conv => whnf
        exact ⟨rfl, rfl⟩
      · have k := of_decide_eq_false k
        conv => whnf
        refine ⟨hjj, ?_⟩
        conv => whnf
        rw [Int.toNat_natCast, byteAt_of, hc]
        refine brT (decide_eq_true (by show (c.toNat : Int) > 57; omega)) ?_
        conv => whnf
        exact ⟨rfl, rfl⟩
    obtain ⟨c1, c2⟩ := hcd
    refine brF (decide_eq_false (by show ¬ (c.toNat : Int) < 48; omega)) ?_
    conv => whnf
    refine ⟨hjj, ?_⟩
    conv => whnf
    rw [Int.toNat_natCast, byteAt_of, hc]
    refine brF (decide_eq_false (by show ¬ (c.toNat : Int) > 57; omega)) ?_
    conv => whnf
    refine ⟨hjj, ?_⟩
    conv => whnf
    rw [Int.toNat_natCast, byteAt_of, hc]
    have e3 : IntKind.i64.wrap ((j : Int) + 1) = ((j + 1 : Nat) : Int) := by rw [w64 (by omega)]; omega
    have et : s.data.toList.take (j + 1) = s.data.toList.take j ++ [c] := by
      rw [List.take_add_one, List.getElem?_eq_getElem (by omega), ← hc]
      unfold byteOf
      rw [List.getD_eq_getElem?_getD, List.getElem?_eq_getElem (by omega)]
      rfl
    refine ⟨_, _, 0, (by omega : s.size - (j + 1) < s.size - j), ⟨j + 1, by omega, rfl, ?_, rfl, rfl⟩, ⟨rfl, ?_, congrArg (fun z => some (i64 z)) e3, trivial⟩, rfl⟩
    · intro i hi
      by_cases e : i = j
      · subst e; rw [hc]; exact ⟨c1, c2⟩
      · exact hd i (by omega)
    · rw [et, valW_snoc]
      exact congrArg (fun z => some (u64 z)) (stepW ⟨c1, c2⟩ hv)
  · have g := of_decide_eq_false g
    obtain rfl : j = s.size := by omega
    rw [List.take_of_length_le (by omega)] at hv ⊢
    have tx := rtext_c hv
    have hall : ∀ c ∈ s.data.toList, isDg c := by
      intro c hc
      obtain ⟨i, hi, rfl⟩ := List.getElem_of_mem hc
      have := hd i (by omega)
      unfold byteOf at this
      rw [List.getD_eq_getElem?_getD, List.getElem?_eq_getElem hi] at this
      exact this
    unfold rreadP
    rw [if_neg h0, if_pos hall]
    conv => whnf
    refine ⟨_, tx, ?_⟩
    rintro _ _ ⟨rfl, rfl⟩
    conv => whnf
    by_cases e : decB (valW 0 s.data.toList) = s
    · rw [if_pos e]
      refine brF (by rw [decide_eq_true e]; rfl) ?_
      conv => whnf
      exact ⟨rfl, rfl⟩
    · rw [if_neg e]
      refine brT (by rw [decide_eq_false e]; rfl) ?_
      conv => whnf
      exact ⟨rfl, rfl⟩

omit [Errs] in
theorem dec_size {n : Nat} (h : n < 18446744073709551616) : (decB n).size ≤ 200 := by
  have := (dec_len h).2
  have e : (decB n).size = (Lib.decDigits n).length := by simp [decB, ByteArray.size]
  omega

theorem texts_c {n : Nat} {s : ByteArray} (hn : n < 18446744073709551616) : CallR cx 3 [u64 (n : Int), st s] [] fun r S => r = bo true ∧ S = [] := by
  by_cases hs : 200 < s.size
  · refine callR_of (R := R1) cx_ok Tryd.func3 (by kernel_rfl) rfl ?_
    conv => whnf
    refine ⟨_, awake_c, ?_⟩
    rintro _ _ ⟨rfl, rfl⟩
    conv => whnf
    refine brT (decide_eq_true (by show (s.size : Int) > 200; omega)) ?_
    conv => whnf
    refine ⟨_, awake_c, ?_⟩
    rintro _ _ ⟨rfl, rfl⟩
    conv => whnf
    exact ⟨rfl, rfl⟩
  have tx := text_c hn
  have rx := rtext_c hn
  have rd := read_c (s := s) (by omega)
  have rr := rread_c (s := s) (by omega)
  have rb := read_c (s := decB n) (dec_size hn)
  rw [read_dec hn] at rb
  rw [← read_eq s] at rr
  generalize (readP s).1 = v at *
  generalize (readP s).2 = q at *
  generalize decB n = B at *
  refine callR_of (R := R1) cx_ok Tryd.func3 (by kernel_rfl) rfl ?_
  conv => whnf
  refine ⟨_, awake_c, ?_⟩
  rintro _ _ ⟨rfl, rfl⟩
  conv => whnf
  refine brF (decide_eq_false (by show ¬ (s.size : Int) > 200; omega)) ?_
  conv => whnf
  refine ⟨_, rd, ?_⟩
  rintro _ _ ⟨rfl, rfl⟩
  conv => whnf
  refine ⟨_, rr, ?_⟩
  rintro _ _ ⟨rfl, rfl⟩
  conv => whnf
  refine ⟨_, tx, ?_⟩
  rintro _ _ ⟨rfl, rfl⟩
  conv => whnf
  refine ⟨_, rb, ?_⟩
  rintro _ _ ⟨rfl, rfl⟩
  conv => whnf
  refine ⟨_, awake_c, ?_⟩
  rintro _ _ ⟨rfl, rfl⟩
  conv => whnf
  refine ⟨_, tx, ?_⟩
  rintro _ _ ⟨rfl, rfl⟩
  conv => whnf
  refine ⟨_, rx, ?_⟩
  rintro _ _ ⟨rfl, rfl⟩
  conv => whnf
  refine brT (decide_eq_true rfl) ?_
  conv => whnf
  refine brT (beq_self_eq_true _) ?_
  conv => whnf
  refine brT (beq_self_eq_true _) ?_
  conv => whnf
  exact ⟨congrArg bo (beq_self_eq_true _), rfl⟩

theorem amountTexts_c (ys : List D) (hy : Ty.hass [.int .u64, .str] ys) : CallR cx 3 (ys.map AV.d) [] fun r S => r = .d (.bool true) ∧ S = [] := by
  obtain ⟨_, _, rfl, ⟨n, rfl, wn⟩, _, _, rfl, ⟨s, rfl, _⟩, rfl⟩ := hy
  have h := U.of_wf wn
  obtain ⟨m, rfl⟩ : ∃ m : Nat, n = m := ⟨n.toNat, by have := h.1; omega⟩
  exact texts_c (by have := h.2; omega)
end Go.Proofs.YtmmgdbcppmabaaaDoor
