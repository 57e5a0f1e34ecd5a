/- name.escape. -/
import Derived.Test.YtefcpmnhhmpmnaaDoorE4
set_option linter.unusedVariables false
namespace Go.Proofs.YtefcpmnhhmpmnaaDoor
open Go.Ab Go.RowKit
variable [Errs]

/-- What an escape tells, and what is behind it. -/
def escP : List UInt8 → Option (List UInt8 × List UInt8)
  | [] => none
  | a :: t => if a = 34 ∨ a = 92 then some ([a], t) else match cutL 59 t with
    | none => none
    | some (d, r) => match parP d with
      | .ok n => if a = 120 ∧ n ≤ 255 then some ([UInt8.ofNat n], r) else if a = 117 ∧ n ≤ 1114111 then some ((Utf8.encode (n : Int)).data.toList, r) else none
      | _ => none
omit [Errs] in
theorem escP_cons (a : UInt8) (t : List UInt8) : escP (a :: t) = if a = 34 ∨ a = 92 then some ([a], t) else match cutL 59 t with
    | none => none
    | some (d, r) => match parP d with
      | .ok n => if a = 120 ∧ n ≤ 255 then some ([UInt8.ofNat n], r) else if a = 117 ∧ n ≤ 1114111 then some ((Utf8.encode (n : Int)).data.toList, r) else none
      | _ => none := rfl
def escT (l : List UInt8) : AV := match escP l with
  | some (x, r) => .tup [st (baL x), st (baL r), bo true]
  | none => .tup [st (baL []), st (baL []), bo false]

theorem esc_q {s : ByteArray} (hs : 1 ≤ s.size) (hne : s ≠ ⟨#[]⟩) (ha : byteAt s (Int.toNat 0) = 34 ∨ byteAt s (Int.toNat 0) = 92) :
    CallR cxE 36 [st s] [] fun x S => x = .tup [st (s.extract 0 1), st (s.extract 1 s.size), bo true] ∧ S = [] := by
  generalize hb : byteAt s (Int.toNat 0) = b at *
  refine callR_of (R := R1) cxE_ok Tryd.func36 (by kernel_rfl) rfl ?_
  conv => whnf
  refine brF (decide_eq_false hne) ?_
  conv => whnf
  refine ⟨⟨by decide, by omega⟩, ?_⟩
  conv => whnf
  rw [hb]
  rcases ha with rfl | rfl
  · conv => whnf
    refine ⟨by kernel_rfl, ?_⟩
    conv => whnf
    refine ⟨⟨by decide, by decide, by omega⟩, ?_⟩
    conv => whnf
    refine ⟨⟨by decide, by omega, by omega⟩, ?_⟩
    conv => whnf
    refine ⟨by kernel_rfl, ?_⟩
    conv => whnf
    exact ⟨rfl, rfl⟩
  · conv => whnf
    refine ⟨⟨by decide, by omega⟩, ?_⟩
    conv => whnf
    rw [hb]
    conv => whnf
    refine ⟨by kernel_rfl, ?_⟩
    conv => whnf
    refine ⟨⟨by decide, by decide, by omega⟩, ?_⟩
    conv => whnf
    refine ⟨⟨by decide, by omega, by omega⟩, ?_⟩
    conv => whnf
    refine ⟨by kernel_rfl, ?_⟩
    conv => whnf
    exact ⟨rfl, rfl⟩

set_option maxRecDepth 20000 in
/-- The way to the number. -/
theorem esc_x {s d r t u : ByteArray} {ok : Bool} {n : Nat} {E : D} {res : Bool} (hs : 1 ≤ s.size) (hne : s ≠ ⟨#[]⟩) (h1 : byteAt s (Int.toNat 0) ≠ 34) (h2 : byteAt s (Int.toNat 0) ≠ 92)
    (ct : CallR cxE 47 [st (s.extract 1 s.size), st ⟨#[59]⟩] [] fun x S => x = .tup [st d, st r, bo ok] ∧ S = [])
    (pu : CallR cxE 48 [st d, i64 16, i64 32] [] fun x S => x = .tup [u64 (n : Int), .d E] ∧ S = [])
    (hE : E = .nilI ∨ ∃ t x, E = .iface t x)
    (hr : (ok = true ∧ E = .nilI ∧ ((byteAt s (Int.toNat 0) = 120 ∧ n ≤ 255 ∧ t = ⟨#[UInt8.ofNat n]⟩) ∨ (byteAt s (Int.toNat 0) = 117 ∧ n ≤ 1114111 ∧ t = Utf8.encode (n : Int))) ∧ u = r ∧ res = true) ∨
      (¬ (ok = true ∧ E = .nilI ∧ ((byteAt s (Int.toNat 0) = 120 ∧ n ≤ 255) ∨ (byteAt s (Int.toNat 0) = 117 ∧ n ≤ 1114111))) ∧ t = ⟨#[]⟩ ∧ u = ⟨#[]⟩ ∧ res = false)) :
    CallR cxE 36 [st s] [] fun x S => x = .tup [st t, st u, bo res] ∧ S = [] := by
  generalize hb : byteAt s (Int.toNat 0) = b at *
  refine callR_of (R := R1) cxE_ok Tryd.func36 (by kernel_rfl) rfl ?_
  conv => whnf
  refine brF (decide_eq_false hne) ?_
  conv => whnf
  refine ⟨⟨by decide, by omega⟩, ?_⟩
  conv => whnf
  rw [hb]
  refine brF (beq_eq_false_iff_ne.2 h1) ?_
  conv => whnf
  refine ⟨⟨by decide, by omega⟩, ?_⟩
  conv => whnf
  rw [hb]
  refine brF (beq_eq_false_iff_ne.2 h2) ?_
  conv => whnf
  refine ⟨⟨by decide, by omega, by omega⟩, ?_⟩
  conv => whnf
  refine ⟨_, ct, ?_⟩
  rintro _ _ ⟨rfl, rfl⟩
  conv => whnf
  refine ⟨_, pu, ?_⟩
  rintro _ _ ⟨rfl, rfl⟩
  cases ok with
  | false =>
    obtain ⟨rfl, rfl, rfl⟩ : t = ⟨#[]⟩ ∧ u = ⟨#[]⟩ ∧ res = false := by
      rcases hr with ⟨h, _⟩ | ⟨_, h⟩
      · cases h
      · exact h
    conv => whnf
    exact ⟨rfl, rfl⟩
  | true =>
  rcases hE with rfl | ⟨T, x, rfl⟩
  case inr =>
    obtain ⟨rfl, rfl, rfl⟩ : t = ⟨#[]⟩ ∧ u = ⟨#[]⟩ ∧ res = false := by
      rcases hr with ⟨_, h, _⟩ | ⟨_, h⟩
      · cases h
      · exact h
    conv => whnf
    exact ⟨rfl, rfl⟩
  conv => whnf
  refine ⟨⟨by decide, by omega⟩, ?_⟩
  conv => whnf
  rw [hb]
  by_cases k1 : b = 120
  · refine brT (beq_iff_eq.2 k1) ?_
    conv => whnf
    by_cases k2 : n ≤ 255
    · refine brT (decide_eq_true (by omega)) ?_
      obtain ⟨rfl, rfl, rfl⟩ : t = ⟨#[UInt8.ofNat n]⟩ ∧ u = r ∧ res = true := by
        rcases hr with ⟨_, _, h, h3⟩ | ⟨h, _⟩
        · rcases h with ⟨_, _, h⟩ | ⟨h, _⟩
          · exact ⟨h, h3⟩
          · omega
        · exact absurd ⟨rfl, rfl, .inl ⟨k1, k2⟩⟩ h
      conv => whnf
      refine ⟨⟨#[UInt8.ofNat n]⟩, ?_, ?_⟩
      · show [D.int .u8 (IntKind.u8.wrap (n : Int))] = [D.int .u8 (((UInt8.ofNat n).toNat : Nat) : Int)]
        rw [w8 (by omega), UInt8.toNat_ofNat', Nat.mod_eq_of_lt (by omega)]
      conv => whnf
      exact ⟨rfl, rfl⟩
    · refine brF (decide_eq_false (by omega)) ?_
      obtain ⟨rfl, rfl, rfl⟩ : t = ⟨#[]⟩ ∧ u = ⟨#[]⟩ ∧ res = false := by
        rcases hr with ⟨_, _, h, h3⟩ | ⟨_, h⟩
        · rcases h with ⟨_, h, _⟩ | ⟨h, _⟩
          · exact absurd h k2
          · omega
        · exact h
      conv => whnf
      refine ⟨⟨by decide, by omega⟩, ?_⟩
      conv => whnf
      rw [hb]
      refine brF (beq_eq_false_iff_ne.2 (by omega)) ?_
      conv => whnf
      exact ⟨rfl, rfl⟩
  · refine brF (beq_eq_false_iff_ne.2 k1) ?_
    conv => whnf
    refine ⟨⟨by decide, by omega⟩, ?_⟩
    conv => whnf
    rw [hb]
    by_cases k3 : b = 117
    · refine brT (beq_iff_eq.2 k3) ?_
      conv => whnf
      obtain ⟨C, hC⟩ : ∃ C : Int, C = 1114111 := ⟨_, rfl⟩
      rw [← hC]
      refine brec (fun k4 => ?_) (fun k4 => ?_)
      · have k2 : n ≤ 1114111 := Int.ofNat_le.1 (by have := of_decide_eq_true k4; rw [hC] at this; exact this)
        obtain ⟨h5, h6, h7⟩ : t = Utf8.encode (n : Int) ∧ u = r ∧ res = true := by
          rcases hr with ⟨_, _, h, h3⟩ | ⟨h, _⟩
          · rcases h with ⟨h, _⟩ | ⟨_, _, h⟩
            · exact absurd h k1
            · exact ⟨h, h3⟩
          · exact absurd ⟨rfl, rfl, .inr ⟨k3, k2⟩⟩ h
        rw [h5, h6, h7]
        have ew : IntKind.i32.wrap (n : Int) = (n : Int) := by simp [IntKind.wrap, IntKind.bits, IntKind.signed]; omega
        generalize (n : Int) = N at *
        conv => whnf
        rw [ew]
        exact ⟨rfl, rfl⟩
      · have k2 : ¬ n ≤ 1114111 := fun h => of_decide_eq_false k4 (by rw [hC]; exact Int.ofNat_le.2 h)
        obtain ⟨rfl, rfl, rfl⟩ : t = ⟨#[]⟩ ∧ u = ⟨#[]⟩ ∧ res = false := by
          rcases hr with ⟨_, _, h, h3⟩ | ⟨_, h⟩
          · rcases h with ⟨h, _⟩ | ⟨_, h, _⟩
            · exact absurd h k1
            · exact absurd h k2
          · exact h
        conv => whnf
        exact ⟨rfl, rfl⟩
    · refine brF (beq_eq_false_iff_ne.2 k3) ?_
      obtain ⟨rfl, rfl, rfl⟩ : t = ⟨#[]⟩ ∧ u = ⟨#[]⟩ ∧ res = false := by
        rcases hr with ⟨_, _, h, h3⟩ | ⟨_, h⟩
        · rcases h with ⟨h, _⟩ | ⟨h, _⟩
          · exact absurd h k1
          · exact absurd h k3
        · exact h
      conv => whnf
      exact ⟨rfl, rfl⟩

theorem esc_0 : CallR cxE 36 [st ⟨#[]⟩] [] fun x S => x = .tup [st ⟨#[]⟩, st ⟨#[]⟩, bo false] ∧ S = [] := by
  refine callR_of (R := R1) cxE_ok Tryd.func36 (by kernel_rfl) rfl ?_
  conv => whnf
  exact ⟨rfl, rfl⟩

omit [Errs] in
theorem cutL_len {c : UInt8} : ∀ {l x y : List UInt8}, cutL c l = some (x, y) → x.length + y.length + 1 = l.length
  | [], _, _, h => by cases h
  | a :: l, x, y, h => by
    unfold cutL at h
    by_cases e : a = c
    · rw [if_pos e] at h; cases h; simp
    · rw [if_neg e] at h
      split at h
      · rename_i p q hq
        cases h
        have := cutL_len hq
        simp only [List.length_cons]; omega
      · cases h
theorem PU.E_shape (s : ByteArray) (P : PU) : P.E s = .nilI ∨ ∃ t x, P.E s = .iface t x := by
  cases P
  · exact .inl rfl
  · exact .inr ⟨_, _, rfl⟩
  · exact .inr ⟨_, _, rfl⟩
omit [Errs] in
theorem toL (s : ByteArray) : baL s.data.toList = s := by
  show (⟨s.data.toList.toArray⟩ : ByteArray) = s
  simp

theorem escape_c {l : List UInt8} (hl : l.length ≤ 100000000) : CallR cxE 36 [st (baL l)] [] fun x S => x = escT l ∧ S = [] := by
  cases l with
  | nil => exact esc_0
  | cons a t =>
    have hz : (baL (a :: t)).size = t.length + 1 := by rw [baL_size]; rfl
    have hne : baL (a :: t) ≠ (⟨#[]⟩ : ByteArray) := fun h => by
      have := congrArg ByteArray.size h
      rw [hz] at this
      exact absurd this (by show ¬ t.length + 1 = 0; omega)
    have hb : byteAt (baL (a :: t)) (Int.toNat 0) = (a.toNat : Int) := by rw [byteAt_eq]; rfl
    have e0 : (baL (a :: t)).extract 0 1 = baL [a] := by rw [baL_ext]; rfl
    have e1 : (baL (a :: t)).extract 1 (baL (a :: t)).size = baL t := by rw [baL_ext, hz]; simp
    have hN : ∀ k : UInt8, (a.toNat : Int) = (k.toNat : Int) ↔ a = k := fun k => ⟨fun h => UInt8.toNat_inj.1 (by omega), fun h => by rw [h]⟩
    by_cases q : a = 34 ∨ a = 92
    · have h := esc_q (s := baL (a :: t)) (by omega) hne (by rw [hb]; exact q.imp (hN 34).2 (hN 92).2)
      rw [e0, e1] at h
      have et : escT (a :: t) = .tup [st (baL [a]), st (baL t), bo true] := by
        unfold escT; rw [escP_cons, if_pos q]
      rw [et]
      exact h
    · have q1 : a ≠ 34 := fun h => q (.inl h)
      have q2 : a ≠ 92 := fun h => q (.inr h)
      have ct := cut59_c (l := t) (by simp at hl; omega)
      rw [← e1] at ct
      have n1 : byteAt (baL (a :: t)) (Int.toNat 0) ≠ 34 := by rw [hb]; exact fun h => q1 ((hN 34).1 h)
      have n2 : byteAt (baL (a :: t)) (Int.toNat 0) ≠ 92 := by rw [hb]; exact fun h => q2 ((hN 92).1 h)
      have h120 : byteAt (baL (a :: t)) (Int.toNat 0) = 120 ↔ a = 120 := by rw [hb]; exact hN 120
      have h117 : byteAt (baL (a :: t)) (Int.toNat 0) = 117 ↔ a = 117 := by rw [hb]; exact hN 117
      rcases hc : cutL 59 t with _ | ⟨d, r⟩
      · have ec : cutT 59 t = (t, [], false) := by unfold cutT; rw [hc]
        rw [ec] at ct
        have et : escT (a :: t) = .tup [st ⟨#[]⟩, st ⟨#[]⟩, bo false] := by
          unfold escT; rw [escP_cons, if_neg q, hc]
        rw [et]
        exact esc_x (by omega) hne n1 n2 ct (parseUint_c (l := t) (by simp at hl; omega)) (PU.E_shape _ _) (.inr ⟨fun h => (Bool.noConfusion h.1), rfl, rfl, rfl⟩)
      · have ec : cutT 59 t = (d, r, true) := by unfold cutT; rw [hc]
        rw [ec] at ct
        have hlen := cutL_len hc
        have hp := parseUint_c (l := d) (by simp at hl; omega)
        have et : escT (a :: t) = match (match parP d with
          | .ok n => if a = 120 ∧ n ≤ 255 then some ([UInt8.ofNat n], r) else if a = 117 ∧ n ≤ 1114111 then some ((Utf8.encode (n : Int)).data.toList, r) else none
          | _ => none : Option (List UInt8 × List UInt8)) with
          | some (x, r) => .tup [st (baL x), st (baL r), bo true]
          | none => .tup [st (baL []), st (baL []), bo false] := by
          unfold escT; rw [escP_cons, if_neg q, hc]
        rw [et]
        have no : ∀ {E : D} {n : Nat}, ¬ (true = true ∧ E = .nilI ∧ ((a = 120 ∧ n ≤ 255) ∨ (a = 117 ∧ n ≤ 1114111))) → (¬ (true = true ∧ E = .nilI ∧ ((byteAt (baL (a :: t)) (Int.toNat 0) = 120 ∧ n ≤ 255) ∨ (byteAt (baL (a :: t)) (Int.toNat 0) = 117 ∧ n ≤ 1114111)))) := fun h => by rw [h120, h117]; exact h
        cases hP : parP d with
        | ok n =>
          rw [hP] at hp
          simp only
          by_cases c1 : a = 120 ∧ n ≤ 255
          · rw [if_pos c1]
            exact esc_x (by omega) hne n1 n2 ct hp (.inl rfl) (.inl ⟨rfl, rfl, .inl ⟨h120.2 c1.1, c1.2, rfl⟩, rfl, rfl⟩)
          · rw [if_neg c1]
            by_cases c2 : a = 117 ∧ n ≤ 1114111
            · rw [if_pos c2]
              simp only
              rw [toL]
              exact esc_x (by omega) hne n1 n2 ct hp (.inl rfl) (.inl ⟨rfl, rfl, .inr ⟨h117.2 c2.1, c2.2, rfl⟩, rfl, rfl⟩)
            · rw [if_neg c2]
              exact esc_x (by omega) hne n1 n2 ct hp (.inl rfl) (.inr ⟨no fun h => h.2.2.elim c1 c2, rfl, rfl, rfl⟩)
        | bad =>
          rw [hP] at hp
          exact esc_x (by omega) hne n1 n2 ct hp (PU.E_shape _ _) (.inr ⟨no (fun h => by have h := h.2.1; unfold PU.E at h; cases h), rfl, rfl, rfl⟩)
        | far =>
          rw [hP] at hp
          exact esc_x (by omega) hne n1 n2 ct hp (PU.E_shape _ _) (.inr ⟨no (fun h => by have h := h.2.1; unfold PU.E at h; cases h), rfl, rfl, rfl⟩)
end Go.Proofs.YtefcpmnhhmpmnaaDoor
