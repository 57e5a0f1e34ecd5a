/- The law 'AmountBack' returns true, for any four numbers of 64 bits. -/
import Derived.Test.YtmmgdbcppmabaaaSplits
namespace Go.Proofs.Ytmmgdbcppmabaaa
open Go.Ab

theorem part_facts (n p w : Nat) : (w ≤ p → part n p w = n) ∧ (p = 0 → 0 < w → part n p w = 0) := by
  unfold part
  refine ⟨fun h => by rw [if_pos h], fun h h0 => ?_⟩
  subst h
  rw [if_neg (by omega), Nat.mul_zero, Nat.zero_div]

theorem split_i {a p w : Int} (ka : U a) (kp : U p) (kw : U w) : ∃ q r : Int, (0 ≤ q ∧ q ≤ a ∧ r = a - q ∧ (w ≤ p → q = a) ∧ (p = 0 → 0 < w → q = 0)) ∧
    CallR cx 9 [u64 a, u64 p, u64 w] [] fun x S => x = .tup [u64 q, u64 r] ∧ S = [] := by
  obtain ⟨a1, a2⟩ := ka
  obtain ⟨p1, p2⟩ := kp
  obtain ⟨w1, w2⟩ := kw
  obtain ⟨a, rfl⟩ := Int.eq_ofNat_of_zero_le a1
  obtain ⟨p, rfl⟩ := Int.eq_ofNat_of_zero_le p1
  obtain ⟨w, rfl⟩ := Int.eq_ofNat_of_zero_le w1
  have hle := part_le a p w
  obtain ⟨f1, f2⟩ := part_facts a p w
  refine ⟨_, _, ⟨?_, ?_, ?_, ?_, ?_⟩, split_c (by omega) (by omega) (by omega)⟩ <;> omega

theorem back_end {a p w q r : Int} (ka : U a) (f : 0 ≤ q ∧ q ≤ a ∧ r = a - q ∧ (w ≤ p → q = a) ∧ (p = 0 → 0 < w → q = 0)) : IntKind.u64.wrap (q + r) = a := by
  obtain ⟨a1, a2⟩ := ka
  rw [wrapU ⟨by omega, by omega⟩]; omega

theorem eq_of_bne_false' {a b : Int} (h : (a != b) = false) : a = b := by simpa using h

theorem amountBack_c (ys : List D) (hy : Ty.hass [.int .u64, .int .u64, .int .u64, .int .u64] ys) : CallR cx 5 (ys.map AV.d) [] fun r S => r = .d (.bool true) ∧ S = [] := by
  obtain ⟨_, _, rfl, ⟨a, rfl, ka⟩, _, _, rfl, ⟨b, rfl, kb⟩, _, _, rfl, ⟨p, rfl, kp⟩, _, _, rfl, ⟨w, rfl, kw⟩, rfl⟩ := hy
  have Ua := U.of_wf ka
  have Ub := U.of_wf kb
  have Uw := U.of_wf kw
  obtain ⟨q, r, F, Sp⟩ := split_i Ua (U.of_wf kp) Uw
  have F0 := back_end Ua F
  clear ka kb kp kw
  have A := add_c Ua Ub
  have key : ∀ x e : Int, CallR cx 11 [u64 a, u64 b] [] (fun r S => r = .tup [u64 x, i64 e] ∧ S = []) → (e = 0 → CallR cx 13 [u64 x, u64 b] [] (fun r S => r = .tup [u64 a, i64 0] ∧ S = [])) →
      CallR cx 5 ([.int .u64 a, .int .u64 b, .int .u64 p, .int .u64 w].map AV.d) [] fun r S => r = .d (.bool true) ∧ S = [] := by
    intro x e A B
    refine callR_of (R := R1) cx_ok Try.func5 (by kernel_rfl) rfl ?_
    conv => whnf
    refine ⟨_, awake_c, ?_⟩
    rintro _ _ ⟨rfl, rfl⟩
    conv => whnf
    refine ⟨_, A, ?_⟩
    rintro _ _ ⟨rfl, rfl⟩
    conv => whnf
    refine brec (fun h => ?_) (fun h => ?_)
    · conv => whnf
      refine ⟨_, B (eq_of_beq h), ?_⟩
      rintro _ _ ⟨rfl, rfl⟩
      conv => whnf
      refine brec (fun h => absurd h (by simp)) (fun _ => ?_)
      conv => whnf
      refine ⟨_, Sp, ?_⟩
      rintro _ _ ⟨rfl, rfl⟩
      show (WP _ _ _ _ _ _ _ _ : Prop)
      show (WOps _ _ _ _ _ _ _ _ _ : Prop)
      conv => whnf
      refine ⟨_, awake_c, ?_⟩
      rintro _ _ ⟨rfl, rfl⟩
      show (WOps _ _ _ _ _ _ _ _ _ : Prop)
      conv => whnf
      refine brec (fun _ => ?_) (fun h => absurd F0 (ne_of_beq_false h))
      conv => whnf
      refine brec (fun _ => ?_) (fun h => absurd F.2.1 (of_decide_eq_false h))
      conv => whnf
      refine brec (fun h1 => ?_) (fun h1 => ?_)
      · conv => whnf
        refine brec (fun h2 => ?_) (fun h2 => ?_)
        · conv => whnf
          exact ⟨rfl, rfl⟩
        · have h2 : p = 0 := eq_of_bne_false' h2
          conv => whnf
          refine brec (fun h3 => absurd (eq_of_beq h3) (by have := of_decide_eq_true h1; omega)) (fun h3 => ?_)
          conv => whnf
          have e := F.2.2.2.2 h2 (by have := of_decide_eq_true h1; omega)
          refine ⟨?_, rfl⟩
          rw [e]
          rfl
      · have h1 := of_decide_eq_false h1
        have e := F.2.2.2.1 (by omega)
        conv => whnf
        refine brec (fun _ => ?_) (fun h => absurd e (ne_of_beq_false h))
        conv => whnf
        refine brec (fun _ => ?_) (fun h => absurd (by omega : r = 0) (ne_of_beq_false h))
        conv => whnf
        refine brec (fun h2 => ?_) (fun h2 => ?_)
        · conv => whnf
          exact ⟨rfl, rfl⟩
        · have h2 : p = 0 := eq_of_bne_false' h2
          conv => whnf
          refine brec (fun h3 => ?_) (fun h3 => absurd (by have := Uw.1; omega : w = 0) (ne_of_beq_false h3))
          conv => whnf
          exact ⟨rfl, rfl⟩
    · conv => whnf
      refine ⟨_, Sp, ?_⟩
      rintro _ _ ⟨rfl, rfl⟩
      show (WP _ _ _ _ _ _ _ _ : Prop)
      show (WOps _ _ _ _ _ _ _ _ _ : Prop)
      conv => whnf
      refine ⟨_, awake_c, ?_⟩
      rintro _ _ ⟨rfl, rfl⟩
      show (WOps _ _ _ _ _ _ _ _ _ : Prop)
      conv => whnf
      refine brec (fun _ => ?_) (fun h => absurd F0 (ne_of_beq_false h))
      conv => whnf
      refine brec (fun _ => ?_) (fun h => absurd F.2.1 (of_decide_eq_false h))
      conv => whnf
      refine brec (fun h1 => ?_) (fun h1 => ?_)
      · conv => whnf
        refine brec (fun h2 => ?_) (fun h2 => ?_)
        · conv => whnf
          exact ⟨rfl, rfl⟩
        · have h2 : p = 0 := eq_of_bne_false' h2
          conv => whnf
          refine brec (fun h3 => absurd (eq_of_beq h3) (by have := of_decide_eq_true h1; omega)) (fun h3 => ?_)
          conv => whnf
          have e := F.2.2.2.2 h2 (by have := of_decide_eq_true h1; omega)
          refine ⟨?_, rfl⟩
          rw [e]
          rfl
      · have h1 := of_decide_eq_false h1
        have e := F.2.2.2.1 (by omega)
        conv => whnf
        refine brec (fun _ => ?_) (fun h => absurd e (ne_of_beq_false h))
        conv => whnf
        refine brec (fun _ => ?_) (fun h => absurd (by omega : r = 0) (ne_of_beq_false h))
        conv => whnf
        refine brec (fun h2 => ?_) (fun h2 => ?_)
        · conv => whnf
          exact ⟨rfl, rfl⟩
        · have h2 : p = 0 := eq_of_bne_false' h2
          conv => whnf
          refine brec (fun h3 => ?_) (fun h3 => absurd (by have := Uw.1; omega : w = 0) (ne_of_beq_false h3))
          conv => whnf
          exact ⟨rfl, rfl⟩
  by_cases g : a + b < 18446744073709551616
  · rw [if_pos g, if_pos g] at A
    refine key _ _ A fun _ => ?_
    have B := sub_c (a := a + b) (b := b) ⟨by have := Ua.1; have := Ub.1; omega, g⟩ Ub
    have g2 : ¬ (a + b < b) := by have := Ua.1; omega
    rw [if_neg g2, if_neg g2] at B
    have e : a + b - b = a := by omega
    rw [e] at B
    exact B
  · rw [if_neg g, if_neg g] at A
    exact key _ _ A fun h => absurd h (by decide)
end Go.Proofs.Ytmmgdbcppmabaaa
