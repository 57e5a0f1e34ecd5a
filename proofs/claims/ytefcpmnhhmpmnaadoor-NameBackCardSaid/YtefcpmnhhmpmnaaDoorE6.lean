/- name.Unquote. -/
import Derived.Test.YtefcpmnhhmpmnaaDoorE5
set_option linter.unusedVariables false
namespace Go.Proofs.YtefcpmnhhmpmnaaDoor
open Go.Ab Go.RowKit
variable [Errs]

/-- The text that stands between the quotes. -/
def decE : Nat → List UInt8 → Option (List UInt8)
  | _, [] => some []
  | 0, _ :: _ => none
  | m + 1, a :: t => if a = 92 then match escP t with
      | none => none
      | some (x, r) => (decE m r).map (x ++ ·)
    else (decE m t).map (a :: ·)
/-- What is told of a text that stood between quotes. -/
def unqT (t : List UInt8) : Option (List UInt8) → AV
  | none => .tup [st (baL []), bo false]
  | some u => if 34 :: quoteAt (baL u) 0 = t then .tup [st (baL u), bo true] else .tup [st (baL []), bo false]
def candP (t : List UInt8) : Option (List UInt8) :=
  if (preT t).2 = true ∧ (sufT (preT t).1).2 = true then decE (sufT (preT t).1).1.length (sufT (preT t).1).1 else none

omit [Errs] in
theorem enc_len (n : Int) : (Utf8.encode n).data.toList.length ≤ 4 := by
  unfold Utf8.encode
  simp only
  generalize (if Utf8.valid n then n.toNat else Utf8.runeError) = c
  by_cases h1 : c < 128
  · rw [if_pos h1]; exact Nat.le_of_ble_eq_true rfl
  rw [if_neg h1]
  by_cases h2 : c < 2048
  · rw [if_pos h2]; exact Nat.le_of_ble_eq_true rfl
  rw [if_neg h2]
  by_cases h3 : c < 65536
  · rw [if_pos h3]; exact Nat.le_of_ble_eq_true rfl
  rw [if_neg h3]; exact Nat.le_of_ble_eq_true rfl
omit [Errs] in
theorem escP_len {t x r : List UInt8} (h : escP t = some (x, r)) : x.length ≤ 4 ∧ r.length < t.length := by
  cases t with
  | nil => cases h
  | cons a t =>
    rw [escP_cons] at h
    split at h
    · cases h; exact ⟨by show 1 ≤ 4; decide, Nat.lt_succ_self _⟩
    · split at h
      · cases h
      · rename_i d r' hc
        have := cutL_len hc
        split at h
        · split at h
          · cases h; exact ⟨by show 1 ≤ 4; decide, by simp only [List.length_cons]; omega⟩
          · split at h
            · obtain ⟨h5, h6⟩ := Prod.mk.inj (Option.some.inj h); rw [← h5, ← h6]; exact ⟨enc_len _, by simp only [List.length_cons]; omega⟩
            · cases h
        · cases h
omit [Errs] in
theorem decE_esc {m : Nat} {t : List UInt8} : decE (m + 1) (92 :: t) = match escP t with
      | none => none
      | some (x, r) => (decE m r).map (x ++ ·) := by
  show (if (92 : UInt8) = 92 then _ else _) = _
  rw [if_pos rfl]
omit [Errs] in
theorem decE_one {m : Nat} {a : UInt8} {t : List UInt8} (h : a ≠ 92) : decE (m + 1) (a :: t) = (decE m t).map (a :: ·) := by
  show (if a = 92 then _ else _) = _
  rw [if_neg h]
omit [Errs] in
theorem map_app {acc x : List UInt8} {o : Option (List UInt8)} : (o.map (x ++ ·)).map (acc ++ ·) = o.map ((acc ++ x) ++ ·) := by cases o <;> simp
omit [Errs] in
theorem map_cons {acc : List UInt8} {a : UInt8} {o : Option (List UInt8)} : (o.map (a :: ·)).map (acc ++ ·) = o.map ((acc ++ [a]) ++ ·) := by cases o <;> simp

theorem unq_c {t : List UInt8} (ht : t.length ≤ 100000) : CallR cxE 20 [st (baL t)] [] fun r S => r = unqT t (candP t) ∧ S = [] := by
  have p1 := pre_c (l := t) (by omega)
  have l1 : (preT t).1.length ≤ t.length := by
    cases t with
    | nil => exact Nat.le_refl _
    | cons a t => rw [show preT (a :: t) = if a = 34 then (t, true) else (a :: t, false) from rfl]; split <;> simp
  have p2 := suf_c (l := (preT t).1) (by omega)
  have l2 : (sufT (preT t).1).1.length ≤ (preT t).1.length := by unfold sufT; split <;> simp
  unfold candP
  generalize preT t = q at *
  obtain ⟨q1, qb⟩ := q
  simp only at *
  generalize sufT q1 = v at *
  obtain ⟨v1, vb⟩ := v
  simp only at *
  cases qb with
  | false =>
    have e : unqT t (if false = true ∧ vb = true then decE v1.length v1 else none) = .tup [st (baL []), bo false] := by rw [if_neg (by simp)]; rfl
    rw [e]
    generalize baL t = s at *
    refine callR_of (R := R1) cxE_ok Tryd.func20 (by kernel_rfl) rfl ?_
    conv => whnf
    refine ⟨_, p1, ?_⟩
    rintro _ _ ⟨rfl, rfl⟩
    conv => whnf
    refine ⟨_, p2, ?_⟩
    rintro _ _ ⟨rfl, rfl⟩
    conv => whnf
    exact ⟨rfl, rfl⟩
  | true =>
  cases vb with
  | false =>
    have e : unqT t (if true = true ∧ false = true then decE v1.length v1 else none) = .tup [st (baL []), bo false] := by rw [if_neg (by simp)]; rfl
    rw [e]
    generalize baL t = s at *
    refine callR_of (R := R1) cxE_ok Tryd.func20 (by kernel_rfl) rfl ?_
    conv => whnf
    refine ⟨_, p1, ?_⟩
    rintro _ _ ⟨rfl, rfl⟩
    conv => whnf
    refine ⟨_, p2, ?_⟩
    rintro _ _ ⟨rfl, rfl⟩
    conv => whnf
    exact ⟨rfl, rfl⟩
  | true =>
  rw [if_pos ⟨rfl, rfl⟩]
  generalize hR : decE v1.length v1 = R
  have hR0 : (decE v1.length v1).map (([] : List UInt8) ++ ·) = R := by rw [hR]; cases R <;> simp
  generalize hs : baL t = s at *
  refine callR_of (R := R1) cxE_ok Tryd.func20 (by kernel_rfl) rfl ?_
  conv => whnf
  refine ⟨_, p1, ?_⟩
  rintro _ _ ⟨rfl, rfl⟩
  conv => whnf
  refine ⟨_, p2, ?_⟩
  rintro _ _ ⟨rfl, rfl⟩
  conv => whnf
  refine .inr ⟨fun m l S => ∃ (k : Nat) (rest acc : List UInt8) (p : AV), (p = .d .nilP ∨ p = .ptr 1 []) ∧ (decE k rest).map (acc ++ ·) = R ∧ rest.length ≤ k ∧ acc.length + 4 * rest.length ≤ 400000 ∧ m = rest.length ∧
      l = [(0, st s), (4, st (baL rest)), (7, .ptr 1 [])] ∧ S = [.row 5 1 (D.bytes (baL acc)), .tvar 44 (.agg [p, .row 0])],
    ⟨_, _, ⟨v1.length, v1, [], _, .inl rfl, hR0, Nat.le_refl _, by simp only [List.length_nil]; omega, rfl, rfl, rfl⟩, ⟨rfl, rfl, rfl, trivial⟩⟩, ?_⟩
  rintro _ _ _ ⟨k, rest, acc, p, hp, h1, h2, h3, rfl, rfl, rfl⟩
  have hsz : (baL acc).size ≤ 400000 := by rw [baL_size]; omega
  rcases hp with rfl | rfl
  all_goals
    cases rest with
    | nil =>
      have e : R = some acc := by
        rw [← h1]
        cases k <;> simp [decE]
      rw [e]
      have qc := lift (quote_c (s := baL acc) (by omega))
      have es : (baL (34 :: quoteAt (baL acc) 0) = s) ↔ 34 :: quoteAt (baL acc) 0 = t := by
        rw [← hs]
        exact ⟨fun h => by have := congrArg (fun z : ByteArray => z.data.toList) h; simpa [baL] using this, fun h => by rw [h]⟩
      conv => whnf
      refine ⟨_, lift (string_c (s := baL acc) ?_), ?_⟩
      · first | exact .inl rfl | exact .inr rfl
      rintro _ _ ⟨rfl, rfl⟩
      conv => whnf
      refine ⟨_, qc, ?_⟩
      rintro _ _ ⟨rfl, rfl⟩
      unfold unqT
      by_cases hq : 34 :: quoteAt (baL acc) 0 = t
      · simp only
        rw [if_pos hq]
        have eq1 : (!decide (baL (34 :: quoteAt (baL acc) 0) = s)) = false := by rw [decide_eq_true (es.2 hq), Bool.not_true]
        conv => whnf
        refine brF eq1 ?_
        conv => whnf
        refine ⟨_, lift (string_c (s := baL acc) ?_), ?_⟩
        · first | exact .inl rfl | exact .inr rfl
        rintro _ _ ⟨rfl, rfl⟩
        conv => whnf
        exact ⟨rfl, rfl⟩
      · simp only
        rw [if_neg hq]
        have eq1 : (!decide (baL (34 :: quoteAt (baL acc) 0) = s)) = true := by rw [decide_eq_false (fun h => hq (es.1 h)), Bool.not_false]
        conv => whnf
        refine brT eq1 ?_
        conv => whnf
        exact ⟨rfl, rfl⟩
    | cons a rest =>
      have hz : (baL (a :: rest)).size = rest.length + 1 := by rw [baL_size]; rfl
      have hne : baL (a :: rest) ≠ (⟨#[]⟩ : ByteArray) := fun h => by
        have := congrArg ByteArray.size h
        rw [hz] at this
        exact absurd this (by show ¬ rest.length + 1 = 0; omega)
      have eq0 : (!decide (baL (a :: rest) = (⟨#[]⟩ : ByteArray))) = true := by rw [decide_eq_false hne, Bool.not_false]
      have e0 : (baL (a :: rest)).extract 0 1 = baL [a] := baL_ext
      have e1 : (baL (a :: rest)).extract 1 (baL (a :: rest)).size = baL rest := by rw [baL_ext, hz]; simp
      have el : baL [a] = (⟨#[92]⟩ : ByteArray) ↔ a = 92 :=
        ⟨fun h => by have := congrArg (fun z : ByteArray => z.data.toList) h; simpa [baL] using this, fun h => by subst h; rfl⟩
      simp only [List.length_cons] at h2 h3
      obtain ⟨k, rfl⟩ : ∃ m, k = m + 1 := ⟨k - 1, by omega⟩
      have ec := escape_c (l := rest) (by omega)
      have hy : (baL [a]).size = 1 := rfl
      have ea : baL (acc ++ [a]) = baL acc ++ baL [a] := baL_append _ _
      generalize baL (a :: rest) = z at *
      generalize baL [a] = y at *
      conv => whnf
      refine brT eq0 ?_
      conv => whnf
      refine ⟨⟨by decide, by decide, by omega⟩, ?_⟩
      conv => whnf
      refine ⟨⟨by decide, by omega, Int.le_refl _⟩, ?_⟩
      conv => whnf
      by_cases ha : a = 92
      · refine brT (decide_eq_true ?_) ?_
        · exact (congrArg (fun q : ByteArray => q = (⟨#[92]⟩ : ByteArray)) e0).mpr (el.2 ha)
        subst ha
        rw [decE_esc] at h1
        conv => whnf
        rw [show z.extract (Int.toNat 1) ((z.size : Int)).toNat = baL rest from e1]
        cases hE : escP rest with
        | none =>
          have et : escT rest = .tup [st (baL []), st (baL []), bo false] := by unfold escT; rw [hE]
          rw [et] at ec
          rw [hE] at h1
          simp only [Option.map_none] at h1
          refine ⟨_, ec, ?_⟩
          rintro _ _ ⟨rfl, rfl⟩
          rw [← h1]
          conv => whnf
          exact ⟨rfl, rfl⟩
        | some w =>
          obtain ⟨x, r⟩ := w
          have et : escT rest = .tup [st (baL x), st (baL r), bo true] := by unfold escT; rw [hE]
          have hl := escP_len hE
          rw [et] at ec
          rw [hE] at h1
          simp only [map_app] at h1
          refine ⟨_, ec, ?_⟩
          rintro _ _ ⟨rfl, rfl⟩
          conv => whnf
          refine ⟨_, lift (writeString_c (s := baL acc) (t := baL x) ?_ (by rw [baL_size x]; omega)), ?_⟩
          · first | exact .inl rfl | exact .inr rfl
          rintro _ _ ⟨rfl, rfl⟩
          conv => whnf
          refine ⟨r.length, [(0, st s), (4, st (baL r)), (7, .ptr 1 [])], [2, 1], by simp only [List.length_cons]; omega, ⟨rfl, rfl, rfl, trivial⟩, ?_⟩
          conv => whnf
          exact ⟨k, r, acc ++ x, .ptr 1 [], .inr rfl, h1, by omega, by rw [List.length_append]; omega, rfl, rfl, by rw [baL_append]⟩
      · refine brF (decide_eq_false ?_) ?_
        · exact fun h => ha (el.1 (by rw [← e0]; exact h))
        rw [decE_one ha, map_cons] at h1
        conv => whnf
        rw [show z.extract (Int.toNat 0) (Int.toNat 1) = y from e0, show z.extract (Int.toNat 1) ((z.size : Int)).toNat = baL rest from e1]
        refine ⟨_, lift (writeString_c (s := baL acc) (t := y) ?_ (by omega)), ?_⟩
        · first | exact .inl rfl | exact .inr rfl
        rintro _ _ ⟨rfl, rfl⟩
        conv => whnf
        refine ⟨rest.length, [(0, st s), (4, st (baL rest)), (7, .ptr 1 [])], [2, 1], by simp only [List.length_cons]; omega, ⟨rfl, rfl, rfl, trivial⟩, ?_⟩
        conv => whnf
        exact ⟨k, rest, acc ++ [a], .ptr 1 [], .inr rfl, h1, by omega, by rw [List.length_append]; simp only [List.length_cons, List.length_nil]; omega, rfl, rfl, by rw [ea]⟩
end Go.Proofs.YtefcpmnhhmpmnaaDoor
