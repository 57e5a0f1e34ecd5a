/- The law NameBack. -/
import Derived.Test.YtefcpmnhhmpmnaaDoorEC
set_option linter.unusedVariables false
namespace Go.Proofs.YtefcpmnhhmpmnaaDoor
open Go.Ab Go.RowKit
variable [Errs]

theorem nb_no {s t : ByteArray} (h : 2000 < s.size ∨ 2000 < t.size) : CallR cxE 8 [st s, st t] [] fun r S => r = bo true ∧ S = [] := by
  refine callR_of (R := R1) cxE_ok Tryd.func8 (by kernel_rfl) rfl ?_
  conv => whnf
  refine ⟨_, lift awake_c, ?_⟩
  rintro _ _ ⟨rfl, rfl⟩
  conv => whnf
  by_cases h1 : 2000 < s.size
  · refine brT (decide_eq_true (by show (2000 : Int) < _; omega)) ?_
    conv => whnf
    refine ⟨_, lift awake_c, ?_⟩
    rintro _ _ ⟨rfl, rfl⟩
    conv => whnf
    exact ⟨rfl, rfl⟩
  · refine brF (decide_eq_false (by show ¬ (2000 : Int) < _; omega)) ?_
    conv => whnf
    refine brT (decide_eq_true (by show (2000 : Int) < _; omega)) ?_
    conv => whnf
    refine ⟨_, lift awake_c, ?_⟩
    rintro _ _ ⟨rfl, rfl⟩
    conv => whnf
    exact ⟨rfl, rfl⟩

theorem nb_yes {s t Q Q2 A : ByteArray} {B : Bool} (h1 : s.size ≤ 2000) (h2 : t.size ≤ 2000) (hQ : Q.size ≤ 100000)
    (hp : ∀ j, j < Q.size → 32 ≤ byteAt Q j ∧ byteAt Q j ≤ 126)
    (q1 : CallR cxE 22 [st s] [] fun r S => r = st Q ∧ S = [])
    (q2 : CallR cxE 22 [st t] [] fun r S => r = st Q2 ∧ S = [])
    (u1 : CallR cxE 20 [st Q] [] fun r S => r = .tup [st s, bo true] ∧ S = [])
    (u2 : CallR cxE 20 [st t] [] fun r S => r = .tup [st A, bo B] ∧ S = [])
    (qa : B = true → CallR cxE 22 [st A] [] fun r S => r = st t ∧ S = [])
    (hi : Q = Q2 ↔ s = t) :
    CallR cxE 8 [st s, st t] [] fun r S => r = bo true ∧ S = [] := by
  refine callR_of (R := R1) cxE_ok Tryd.func8 (by kernel_rfl) rfl ?_
  conv => whnf
  refine ⟨_, lift awake_c, ?_⟩
  rintro _ _ ⟨rfl, rfl⟩
  conv => whnf
  refine brF (decide_eq_false (by show ¬ (2000 : Int) < _; omega)) ?_
  conv => whnf
  refine brF (decide_eq_false (by show ¬ (2000 : Int) < _; omega)) ?_
  conv => whnf
  refine ⟨_, q1, ?_⟩
  rintro _ _ ⟨rfl, rfl⟩
  conv => whnf
  refine ⟨_, u1, ?_⟩
  rintro _ _ ⟨rfl, rfl⟩
  conv => whnf
  refine .inl ⟨fun m L S => ∃ j : Nat, j ≤ Q.size ∧ m = Q.size - j ∧
      L = [(0, st s), (1, st t), (5, st Q), (6, st s), (7, bo true), (30, i64 (Q.size : Int)), (31, i64 (j : Int))] ∧ S = [],
    ⟨_, _, ⟨0, Nat.zero_le _, rfl, rfl, rfl⟩, ⟨rfl, rfl, rfl, rfl, rfl, rfl, rfl, trivial⟩⟩, ?_⟩
  rintro _ _ _ ⟨j, hj, rfl, rfl, rfl⟩
  conv => whnf
  refine brec (fun c => ?_) (fun c => ?_)
  · have hlt : j < Q.size := by have := of_decide_eq_true c; omega
    have hb := hp j hlt
    have ej : ((j : Int)).toNat = j := Int.toNat_natCast j
    have nj : IntKind.i64.wrap ((j : Int) + 1) = ((j + 1 : Nat) : Int) := by rw [w64 (by omega)]; omega
    conv => whnf
    refine ⟨⟨by omega, by show (j : Int) < _; omega⟩, ?_⟩
    conv => whnf
    rw [ej]
    refine brF (decide_eq_false (by omega)) ?_
    conv => whnf
    refine ⟨⟨by omega, by show (j : Int) < _; omega⟩, ?_⟩
    conv => whnf
    rw [ej]
    refine brF (decide_eq_false (by omega)) ?_
    conv => whnf
    rw [nj]
    exact ⟨_, _, 0, (by omega : Q.size - (j + 1) < Q.size - j), ⟨j + 1, by omega, rfl, rfl, rfl⟩, ⟨rfl, rfl, rfl, rfl, rfl, rfl, rfl, trivial⟩, rfl⟩
  conv => whnf
  refine ⟨_, u2, ?_⟩
  rintro _ _ ⟨rfl, rfl⟩
  have fin : (decide (Q = Q2) == decide (s = t)) = true := by
    by_cases e : s = t
    · rw [decide_eq_true e, decide_eq_true (hi.2 e)]; rfl
    · rw [decide_eq_false e, decide_eq_false (fun h => e (hi.1 h))]; rfl
  cases B with
  | false =>
    conv => whnf
    refine ⟨_, lift awake_c, ?_⟩
    rintro _ _ ⟨rfl, rfl⟩
    conv => whnf
    refine brT (decide_eq_true rfl) ?_
    conv => whnf
    refine ⟨_, q1, ?_⟩
    rintro _ _ ⟨rfl, rfl⟩
    conv => whnf
    refine ⟨_, q2, ?_⟩
    rintro _ _ ⟨rfl, rfl⟩
    conv => whnf
    exact ⟨congrArg bo fin, rfl⟩
  | true =>
    conv => whnf
    refine ⟨_, lift awake_c, ?_⟩
    rintro _ _ ⟨rfl, rfl⟩
    conv => whnf
    refine brT (decide_eq_true rfl) ?_
    conv => whnf
    refine ⟨_, qa rfl, ?_⟩
    rintro _ _ ⟨rfl, rfl⟩
    conv => whnf
    refine brT (decide_eq_true rfl) ?_
    conv => whnf
    refine ⟨_, q1, ?_⟩
    rintro _ _ ⟨rfl, rfl⟩
    conv => whnf
    refine ⟨_, q2, ?_⟩
    rintro _ _ ⟨rfl, rfl⟩
    conv => whnf
    exact ⟨congrArg bo fin, rfl⟩

omit [Errs] in
theorem qK_plain {k : Nat} (hk : okKey k) : ∀ c ∈ qK k, 32 ≤ c.toNat ∧ c.toNat ≤ 126 := by
  have hx := fun u => hexL_all (P := fun x => 32 ≤ x.toNat ∧ x.toNat ≤ 126) (fun d => (dig_fact d).2.2.2) u
  have esc : ∀ {a b : UInt8} {u : Nat}, (32 ≤ a.toNat ∧ a.toNat ≤ 126) → (32 ≤ b.toNat ∧ b.toNat ≤ 126) → ∀ c ∈ [a, b] ++ hexL u ++ [59], 32 ≤ c.toNat ∧ c.toNat ≤ 126 := by
    intro a b u ha hb c hc
    rcases List.mem_append.1 hc with hc | hc
    · rcases List.mem_append.1 hc with hc | hc
      · rcases List.mem_cons.1 hc with rfl | hc
        · exact ha
        · rw [List.mem_singleton] at hc; subst hc; exact hb
      · exact hx u c hc
    · rw [List.mem_singleton] at hc; subst hc; decide
  by_cases c1 : k = 34 ∨ k = 92
  · rcases c1 with rfl | rfl <;> (unfold qK; rw [if_pos (by decide)]; decide)
  by_cases c2 : 32 ≤ k ∧ k ≤ 126
  · unfold qK
    rw [if_neg c1, if_pos c2]
    intro c hc
    rw [List.mem_singleton] at hc
    subst hc
    rw [UInt8.toNat_ofNat']
    omega
  rcases hk with hk | ⟨b, rfl⟩
  · rw [qK_other c1 c2 (by unfold okRune at hk; omega)]
    exact esc (by decide) (by decide)
  · rw [qK_stray (b.toNat_lt)]
    exact esc (by decide) (by decide)
omit [Errs] in
theorem qB_plain : ∀ l : List UInt8, ∀ c ∈ qB l, 32 ≤ c.toNat ∧ c.toNat ≤ 126 := by
  refine bytesInd ?_ (fun u k r h ih c hc => ?_) (fun b t h ih c hc => ?_)
  · rw [qB_nil]; intro c hc; cases hc
  · rw [qB_val h] at hc
    rcases List.mem_append.1 hc with hc | hc
    · exact qK_plain (.inl h.ok) c hc
    · exact ih c hc
  · rw [qB_stray h] at hc
    rcases List.mem_append.1 hc with hc | hc
    · exact qK_plain (.inr ⟨b, rfl⟩) c hc
    · exact ih c hc
omit [Errs] in
theorem qB_len : ∀ l : List UInt8, (qB l).length ≤ 16 * l.length := by
  refine bytesInd ?_ (fun u k r h ih => ?_) (fun b t h ih => ?_)
  · rw [qB_nil]; exact Nat.le_refl _
  · have := qK_len (k := k) (by have := h.lt; omega)
    have := h.len
    rw [qB_val h, List.length_append, List.length_append]; omega
  · have := qK_len (k := b.toNat + 2000000) (by have := b.toNat_lt; omega)
    rw [qB_stray h, List.length_append, List.length_cons]; omega
omit [Errs] in
theorem qK_pos (k : Nat) : 1 ≤ (qK k).length := by
  unfold qK
  obtain ⟨C, hC⟩ : ∃ C : Nat, C = 2000000 := ⟨_, rfl⟩
  rw [← hC]
  by_cases c1 : k = 34 ∨ k = 92
  · rw [if_pos c1]; exact Nat.le_of_ble_eq_true rfl
  rw [if_neg c1]
  by_cases c2 : 32 ≤ k ∧ k ≤ 126
  · rw [if_pos c2]; exact Nat.le_refl _
  rw [if_neg c2]
  by_cases c3 : C ≤ k
  · rw [if_pos c3, List.length_append, List.length_append]; show 1 ≤ 2 + _ + 1; omega
  · rw [if_neg c3, List.length_append, List.length_append]; show 1 ≤ 2 + _ + 1; omega
omit [Errs] in
theorem qB_long : ∀ l : List UInt8, l.length ≤ 4 * (qB l).length := by
  refine bytesInd (Nat.zero_le _) (fun u k r h ih => ?_) (fun b t h ih => ?_)
  · have h1 := encK_len h.lt
    rw [encK_val h] at h1
    have := qK_pos k
    rw [qB_val h, List.length_append, List.length_append]; omega
  · have := qK_pos (b.toNat + 2000000)
    rw [qB_stray h, List.length_append, List.length_cons]; omega
omit [Errs] in
theorem quB_plain (l : List UInt8) : ∀ c ∈ quB l, 32 ≤ c.toNat ∧ c.toNat ≤ 126 := by
  intro c hc
  rcases List.mem_cons.1 hc with rfl | hc
  · decide
  · rcases List.mem_append.1 hc with hc | hc
    · exact qB_plain l c hc
    · rw [List.mem_singleton] at hc; subst hc; decide
omit [Errs] in
theorem baL_inj {a b : List UInt8} (h : baL a = baL b) : a = b := by
  have := congrArg (fun z : ByteArray => z.data.toList) h
  simpa [baL] using this

theorem nameBack_c (ys : List D) (hy : Ty.hass [.str, .str] ys) : CallR cxE 8 (ys.map AV.d) [] fun r S => r = .d (.bool true) ∧ S = [] := by
  obtain ⟨_, _, rfl, ⟨s, rfl, _⟩, _, _, rfl, ⟨t, rfl, _⟩, rfl⟩ := hy
  by_cases h : 2000 < s.size ∨ 2000 < t.size
  · exact nb_no h
  obtain ⟨l, rfl, hl⟩ := bl_of s
  obtain ⟨m, rfl, hm⟩ := bl_of t
  have zl : (quB l).length ≤ 50000 := by have := qB_len l; show (qB l ++ [34]).length + 1 ≤ _; rw [List.length_append]; show (qB l).length + 1 + 1 ≤ _; omega
  have u1 := unq_c (t := quB l) (by omega)
  rw [candP_qu, unq_qu] at u1
  have q1 := lift (quote_c (s := baL l) (by omega))
  have q2 := lift (quote_c (s := baL m) (by omega))
  rw [quB_eq] at q1 q2
  have u2 := unq_c (t := m) (by omega)
  have hp : ∀ j, j < (baL (quB l)).size → 32 ≤ byteAt (baL (quB l)) j ∧ byteAt (baL (quB l)) j ≤ 126 := by
    intro j hj
    rw [baL_size] at hj
    rw [byteAt_baL hj]
    have := quB_plain l _ (List.getElem_mem hj)
    omega
  have hi : baL (quB l) = baL (quB m) ↔ baL l = baL m := ⟨fun h => by rw [quB_inj (baL_inj h)], fun h => by rw [baL_inj h]⟩
  by_cases hu : ∃ u, quB u = m
  · obtain ⟨u, rfl⟩ := hu
    rw [candP_qu, unq_qu] at u2
    have hz := qB_long u
    have hm' : (qB u).length ≤ 2000 := by
      have e : (quB u).length = (qB u).length + 2 := by show (qB u ++ [34]).length + 1 = _; rw [List.length_append]; rfl
      omega
    have qa := lift (quote_c (s := baL u) (by rw [baL_size]; omega))
    rw [quB_eq] at qa
    exact nb_yes (by omega) (by omega) (by rw [baL_size]; omega) hp q1 q2 u1 u2 (fun _ => qa) hi
  · have hu : ∀ u, quB u ≠ m := fun u e => hu ⟨u, e⟩
    rw [unq_none hu] at u2
    exact nb_yes (by omega) (by omega) (by rw [baL_size]; omega) hp q1 q2 u1 u2 (fun h => Bool.noConfusion h) hi
end Go.Proofs.YtefcpmnhhmpmnaaDoor
