/- The law 'AmountOrder' returns true, for any three wide numbers. -/
import Derived.Test.YtmmgdbcppmabaaaWid1
namespace Go.Proofs.Ytmmgdbcppmabaaa
open Go.Ab

theorem wless_asymm {ah al bh bl : Int} (h : wless ah al bh bl = true) : wless bh bl ah al = false := by
  unfold wless at *
  have h := of_decide_eq_true h
  exact decide_eq_false (by omega)

theorem wd_deq {ah al bh bl : Int} (a2 : U al) (b2 : U bl) : deq (wd ah al) (wd bh bl) = (!(wless ah al bh bl) && !(wless bh bl ah al)) := by
  obtain ⟨a2, a2'⟩ := a2
  obtain ⟨b2, b2'⟩ := b2
  unfold wless
  by_cases e : ah = bh ∧ al = bl
  · obtain ⟨rfl, rfl⟩ := e
    simp [deq]
  · have : ¬ wd ah al = wd bh bl := by simpa using e
    simp only [deq, this, decide_false]
    by_cases h : ah * 18446744073709551616 + al < bh * 18446744073709551616 + bl
    · simp [h]
    · have : bh * 18446744073709551616 + bl < ah * 18446744073709551616 + al := by omega
      simp [this]

theorem wsum_nonneg {ah al bh bl : Int} (a1 : U ah) (a2 : U al) (b1 : U bh) (b2 : U bl) : 0 ≤ wsum ah al bh bl := by
  have := a1.1; have := a2.1; have := b1.1; have := b2.1
  unfold wsum; omega

theorem eq_of_bne_false {a b : Int} (h : (a != b) = false) : a = b := by simpa using h

theorem order_rest {ah al bh bl ch cl : Int} (a1 : U ah) (a2 : U al) (b1 : U bh) (b2 : U bl) (c1 : U ch) (c2 : U cl) (h1 : wover (wsum ah al ch cl) = 0) (h2 : wover (wsum bh bl ch cl) = 0) :
    wless (whigh (wsum ah al ch cl)) (wlow (wsum ah al ch cl)) (whigh (wsum bh bl ch cl)) (wlow (wsum bh bl ch cl)) = wless ah al bh bl := by
  obtain ⟨a1, a1'⟩ := a1
  obtain ⟨a2, a2'⟩ := a2
  obtain ⟨b1, b1'⟩ := b1
  obtain ⟨b2, b2'⟩ := b2
  obtain ⟨c1, c1'⟩ := c1
  obtain ⟨c2, c2'⟩ := c2
  have k1 : wsum ah al ch cl < 340282366920938463463374607431768211456 := by unfold wover at h1; split at h1 <;> first | assumption | (exact absurd h1 (by decide))
  have k2 : wsum bh bl ch cl < 340282366920938463463374607431768211456 := by unfold wover at h2; split at h2 <;> first | assumption | (exact absurd h2 (by decide))
  unfold wless whigh wlow
  rw [if_pos k1, if_pos k1, if_pos k2, if_pos k2]
  unfold wsum
  congr 1
  simp only [eq_iff_iff]
  constructor <;> intro <;> omega

set_option maxHeartbeats 4000000 in
theorem amountOrder_c (ys : List D) (hy : Ty.hass [.st [.int .u64, .int .u64], .st [.int .u64, .int .u64], .st [.int .u64, .int .u64]] ys) : CallR cx 6 (ys.map AV.d) [] fun r S => r = .d (.bool true) ∧ S = [] := by
  obtain ⟨_, _, rfl, ⟨_, rfl, _, _, rfl, ⟨ah, rfl, a1⟩, _, _, rfl, ⟨al, rfl, a2⟩, rfl⟩, _, _, rfl, ⟨_, rfl, _, _, rfl, ⟨bh, rfl, b1⟩, _, _, rfl, ⟨bl, rfl, b2⟩, rfl⟩, _, _, rfl, ⟨_, rfl, _, _, rfl, ⟨ch, rfl, c1⟩, _, _, rfl, ⟨cl, rfl, c2⟩, rfl⟩, rfl⟩ := hy
  have a1 := U.of_wf a1
  have a2 := U.of_wf a2
  have b1 := U.of_wf b1
  have b2 := U.of_wf b2
  have c1 := U.of_wf c1
  have c2 := U.of_wf c2
  refine callR_of (R := R1) cx_ok Try.func6 (by kernel_rfl) rfl ?_
  conv => whnf
  refine ⟨_, awake_c, ?_⟩
  rintro _ _ ⟨rfl, rfl⟩
  conv => whnf
  refine ⟨by kernel_rfl, ?_⟩
  conv => whnf
  have e := wd_deq (ah := ah) (bh := bh) a2 b2
  have l1 := less_c a1 a2 b1 b2
  have l2 := less_c b1 b2 a1 a2
  have side : (∃ T : Ty, T.fitE cx.tt 35 = true ∧ Nat.blt T.depth 9999 = true ∧ T.is (wd ah al) ∧ T.is (wd bh bl)) :=
    ⟨.st [.int .u64, .int .u64], by kernel_rfl, by kernel_rfl, ⟨_, rfl, _, _, rfl, ⟨_, rfl⟩, _, _, rfl, ⟨_, rfl⟩, rfl⟩, ⟨_, rfl, _, _, rfl, ⟨_, rfl⟩, _, _, rfl, ⟨_, rfl⟩, rfl⟩⟩
  have rest := order_rest a1 a2 b1 b2 c1 c2
  rcases h : wless ah al bh bl <;> rcases g : wless bh bl ah al <;> rw [h, g] at e <;> rw [h] at l1 <;> rw [g] at l2
  case true.true => exact absurd (wless_asymm h) (by simp [g])
  all_goals
    refine ⟨_, l1, ?_⟩
    conv => whnf
    first
      | (refine ⟨_, l2, ?_⟩
         conv => whnf)
      | skip
    refine ⟨side, ?_⟩
    conv => whnf
    refine ⟨_, l1, ?_⟩
    conv => whnf
    first
      | (refine ⟨_, l2, ?_⟩
         conv => whnf)
      | skip
    refine ⟨by kernel_rfl, ?_⟩
    conv => whnf
    refine brec (fun h => absurd h (by simp [e])) (fun _ => ?_)
    conv => whnf
    refine ⟨_, wadd_c a1 a2 c1 c2, ?_⟩
    rintro _ _ ⟨rfl, rfl⟩
    conv => whnf
    refine ⟨_, wadd_c b1 b2 c1 c2, ?_⟩
    rintro _ _ ⟨rfl, rfl⟩
    conv => whnf
    refine ⟨by kernel_rfl, ?_⟩
    conv => whnf
    refine ⟨_, awake_c, ?_⟩
    conv => whnf
    refine brec (fun k1 => ?_) (fun k1 => ?_)
    · conv => whnf
      refine ⟨by kernel_rfl, ?_⟩
      conv => whnf
      refine ⟨?_, rfl⟩
      simp [pack, k1]
    · conv => whnf
      refine brec (fun k2 => ?_) (fun k2 => ?_)
      · conv => whnf
        refine ⟨by kernel_rfl, ?_⟩
        conv => whnf
        refine ⟨?_, rfl⟩
        simp [pack, k2]
      · conv => whnf
        have k1 := eq_of_bne_false k1
        have k2 := eq_of_bne_false k2
        refine ⟨_, less_c (U_high _ (wsum_nonneg a1 a2 c1 c2)) (U_low _ (wsum_nonneg a1 a2 c1 c2)) (U_high _ (wsum_nonneg b1 b2 c1 c2)) (U_low _ (wsum_nonneg b1 b2 c1 c2)), ?_⟩
        conv => whnf
        refine ⟨_, l1, ?_⟩
        conv => whnf
        refine ⟨by kernel_rfl, ?_⟩
        conv => whnf
        have rest := rest k1 k2
        rw [h] at rest
        refine ⟨?_, rfl⟩
        simp [pack, rest, k2]
end Go.Proofs.Ytmmgdbcppmabaaa
