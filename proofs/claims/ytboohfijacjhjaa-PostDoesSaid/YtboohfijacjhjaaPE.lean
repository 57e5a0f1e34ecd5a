/- Posts: as the document's lists; few; the same. -/
import Derived.Test.YtboohfijacjhjaaPD
set_option linter.unusedVariables false
namespace Go.Proofs.Ytboohfijacjhjaa
open Go.Ab Go.RowKit

theorem take_getD {H : List D} {j : Nat} (h : j < H.length) : H.take (j + 1) = H.take j ++ [H.getD j .nilP] := by
  rw [List.take_add_one, List.getD_eq_getElem?_getD, List.getElem?_eq_getElem h]
  rfl

theorem pto_c {H : List D} (hl : H.length ≤ 100000) (hh : ∀ j, j < H.length → ∃ t b, H.getD j .nilP = .agg [.int .u32 t, .str b]) : CallR cx 9 [.d (po H)] [] fun r S => r = .d (.sl 2 H) ∧ S = [] := by
  refine callR_of (R := R1) cx_ok Try.func9 (by kernel_rfl) rfl ?_
  conv => whnf
  refine .inl ?_
  conv => whnf
  refine .inr ⟨58, 2, ?_⟩
  conv => whnf
  refine .inr ⟨fun p L S => ∃ j : Nat, j ≤ H.length ∧ p = H.length - j ∧
      L = [(3, .row 1), (7, .d (.sl 2 H)), (8, i64 (H.length : Int)), (9, i64 (j : Int))] ∧ S = [.var (.d (po H)), .row 58 2 (H.take j)],
    ⟨_, _, ⟨0, Nat.zero_le _, rfl, rfl, rfl⟩, ⟨rfl, rfl, rfl, rfl, trivial⟩⟩, ?_⟩
  rintro p _ _ ⟨j, hj, rfl, rfl, rfl⟩
  conv => whnf
  refine brec (fun g => ?_) (fun g => ?_)
  · have g := of_decide_eq_true g
    conv => whnf
    have hlt : j < H.length := by omega
    obtain ⟨t, b, hg⟩ := hh j hlt
    have htk := take_getD hlt
    rw [hg] at htk
    have e3 : IntKind.i64.wrap ((j : Int) + 1) = ((j + 1 : Nat) : Int) := by rw [w64 (by omega)]; omega
    have hlen : (H.take j).length = j := by rw [List.length_take]; omega
    refine ⟨⟨by omega, by omega⟩, ?_⟩
    conv => whnf
    rw [Int.toNat_natCast, hg]
    conv => whnf
    refine ⟨⟨Nat.succ_pos _, by show ((H.take j).length + 1) * (24 + 1) ≤ _; omega⟩, ?_⟩
    conv => whnf
    rw [e3]
    refine ⟨H.length - (j + 1), [(3, .row 3), (7, .d (.sl 2 H)), (8, i64 (H.length : Int)), (9, i64 ((j + 1 : Nat) : Int))], [0, 3], by omega, ⟨rfl, rfl, rfl, rfl, trivial⟩, ?_⟩
    conv => whnf
    refine ⟨j + 1, by omega, rfl, rfl, ?_⟩
    rw [htk]
    rfl
  · have g := of_decide_eq_false g
    obtain rfl : j = H.length := by omega
    rw [List.take_length]
    conv => whnf
    exact ⟨rfl, rfl⟩

theorem its_at {l : List It} : ∀ j, j < (its l).length → ∃ t b, (its l).getD j .nilP = .agg [.int .u32 t, .str b] := fun j hj => by
  rw [its_len] at hj
  rw [its_getD hj]
  exact ⟨_, _, rfl⟩

theorem to_c {l : List It} (hl : l.length ≤ 100000) : CallR cx 9 [.d (pod l)] [] fun r S => r = .d (.sl 2 (its l)) ∧ S = [] := pto_c (by rw [its_len]; exact hl) its_at

theorem sideIt {t u : Int} {a b : ByteArray} : ∃ T : Ty, T.fitE cx.tt 58 = true ∧ Nat.blt T.depth 9999 = true ∧ T.is (.agg [.int .u32 t, .str a]) ∧ T.is (.agg [.int .u32 u, .str b]) :=
  ⟨.st [.int .u32, .str], by kernel_rfl, by kernel_rfl, ⟨_, rfl, _, _, rfl, ⟨_, rfl⟩, _, _, rfl, ⟨_, rfl⟩, rfl⟩, ⟨_, rfl, _, _, rfl, ⟨_, rfl⟩, _, _, rfl, ⟨_, rfl⟩, rfl⟩⟩

theorem lsame_i {H : List D} (hl : H.length ≤ 100000) (hh : ∀ j, j < H.length → ∃ t b, H.getD j .nilP = .agg [.int .u32 t, .str b]) : CallR cx 21 [.d (.sl 2 H), .d (.sl 2 H)] [] fun r S => r = bo true ∧ S = [] := by
  refine callR_of (R := R1) cx_ok Try.func21 (by kernel_rfl) rfl ?_
  conv => whnf
  refine brF (bne_self_eq_false' _) ?_
  conv => whnf
  refine .inl ⟨fun p L S => ∃ j : Nat, j ≤ H.length ∧ p = H.length - j ∧
      L = [(0, .d (.sl 2 H)), (1, .d (.sl 2 H)), (12, i64 (H.length : Int)), (13, i64 (j : Int))] ∧ S = [],
    ⟨_, _, ⟨0, Nat.zero_le _, rfl, rfl, rfl⟩, ⟨rfl, rfl, rfl, rfl, trivial⟩⟩, ?_⟩
  rintro p _ _ ⟨j, hj, rfl, rfl, rfl⟩
  conv => whnf
  refine brec (fun g => ?_) (fun g => ?_)
  · have g := of_decide_eq_true g
    have hlt : j < H.length := by omega
    obtain ⟨t, b, hg⟩ := hh j hlt
    have e3 : IntKind.i64.wrap ((j : Int) + 1) = ((j + 1 : Nat) : Int) := by rw [w64 (by omega)]; omega
    conv => whnf
    refine ⟨by kernel_rfl, ?_⟩
    conv => whnf
    refine ⟨⟨by omega, by omega⟩, ?_⟩
    rw [Int.toNat_natCast, hg]
    conv => whnf
    refine ⟨⟨by omega, by omega⟩, ?_⟩
    rw [Int.toNat_natCast, hg]
    conv => whnf
    refine ⟨sideIt, ?_⟩
    have hd : deq (D.agg [.int .u32 t, .str b]) (.agg [.int .u32 t, .str b]) = true := (deq_iff (P := True) ⟨fun _ => trivial, fun _ => rfl⟩).trans rfl
    rw [hd]
    conv => whnf
    refine ⟨by kernel_rfl, ?_⟩
    conv => whnf
    exact ⟨_, _, 0, (by omega : H.length - (j + 1) < H.length - j), ⟨j + 1, by omega, rfl, rfl, rfl⟩, ⟨rfl, rfl, rfl, congrArg (fun z => some (i64 z)) e3, trivial⟩, rfl⟩
  · conv => whnf
    exact ⟨rfl, rfl⟩

theorem plsame_c {l : List It} (hl : l.length ≤ 100000) : CallR cx 21 [.d (.sl 2 (its l)), .d (.sl 2 (its l))] [] fun r S => r = bo true ∧ S = [] := lsame_i (by rw [its_len]; exact hl) its_at

theorem pfew_i {H : List D} (hh : ∀ j, j < H.length → ∃ t b, H.getD j .nilP = .agg [.int .u32 t, .str b]) : CallR cx 7 [.d (po H)] [] fun r S => ∃ b, r = bo b ∧ (b = true → H.length ≤ 260) ∧ S = [] := by
  refine callR_of (R := R1) cx_ok Try.func7 (by kernel_rfl) rfl ?_
  conv => whnf
  refine .inr ⟨fun p L S => ∃ j : Nat, j ≤ H.length ∧ p = H.length - j ∧ (0 < j → H.length ≤ 260) ∧
      L = [(1, .ptr 0 []), (6, .d (.sl 2 H)), (7, i64 (H.length : Int)), (8, i64 (j : Int))] ∧ S = [.var (.d (po H))],
    ⟨_, _, ⟨0, Nat.zero_le _, rfl, fun h => absurd h (Nat.lt_irrefl 0), rfl, rfl⟩, ⟨rfl, rfl, rfl, rfl, trivial⟩⟩, ?_⟩
  rintro p _ _ ⟨j, hj, rfl, h0, rfl, rfl⟩
  conv => whnf
  refine brec (fun g => ?_) (fun g => ?_)
  · have g := of_decide_eq_true g
    have hlt : j < H.length := by omega
    obtain ⟨t, b, hg⟩ := hh j hlt
    have e3 : IntKind.i64.wrap ((j : Int) + 1) = ((j + 1 : Nat) : Int) := by rw [w64 (by omega)]; omega
    conv => whnf
    refine ⟨⟨by omega, by omega⟩, ?_⟩
    conv => whnf
    rw [Int.toNat_natCast, hg]
    conv => whnf
    refine brec (fun g2 => ?_) (fun g2 => ?_)
    · conv => whnf
      exact ⟨false, rfl, (fun h => nomatch h), rfl⟩
    · have g2 := of_decide_eq_false g2
      conv => whnf
      refine brec (fun g3 => ?_) (fun g3 => ?_)
      · conv => whnf
        exact ⟨false, rfl, (fun h => nomatch h), rfl⟩
      · conv => whnf
        rw [e3]
        refine ⟨H.length - (j + 1), [(1, .ptr 0 []), (6, .d (.sl 2 H)), (7, i64 (H.length : Int)), (8, i64 ((j + 1 : Nat) : Int))], [0], by omega, ⟨rfl, rfl, rfl, rfl, trivial⟩, ?_⟩
        conv => whnf
        exact ⟨j + 1, by omega, rfl, fun _ => by omega, rfl, rfl⟩
  · have g := of_decide_eq_false g
    conv => whnf
    exact ⟨true, rfl, (fun _ => by omega), rfl⟩

theorem few_c {l : List It} : CallR cx 7 [.d (pod l)] [] fun r S => ∃ b, r = bo b ∧ (b = true → l.length ≤ 260) ∧ S = [] :=
  (pfew_i its_at).mono fun r S ⟨b, h1, h2, h3⟩ => ⟨b, h1, fun h => by rw [← its_len]; exact h2 h, h3⟩
end Go.Proofs.Ytboohfijacjhjaa
