/- Posts: more of the document's walks. -/
import Derived.Test.YtboohfijacjhjaaPH
set_option linter.unusedVariables false
namespace Go.Proofs.Ytboohfijacjhjaa
open Go.Ab Go.RowKit

theorem rtwice_no {H : List D} {i : Int} (hn : ¬ (0 ≤ i ∧ i < (H.length : Int))) : CallR cx 18 [.d (.sl 2 H), i64 i] [] fun r S => r = .tup [.d (.sl 2 H), i64 2] ∧ S = [] := by
  refine callR_of (R := R1) cx_ok Try.func18 (by kernel_rfl) rfl ?_
  conv => whnf
  refine .inl ?_
  conv => whnf
  refine brec (fun h => ?_) (fun h => ?_)
  · conv => whnf
    exact ⟨rfl, rfl⟩
  · have h := of_decide_eq_false h
    conv => whnf
    refine brT (decide_eq_true (by omega)) ?_
    conv => whnf
    exact ⟨rfl, rfl⟩

theorem rtwice_full {H : List D} {i : Int} (hn : 0 ≤ i ∧ i < (H.length : Int)) (hl : 256 ≤ H.length) : CallR cx 18 [.d (.sl 2 H), i64 i] [] fun r S => r = .tup [.d (.sl 2 H), i64 6] ∧ S = [] := by
  refine callR_of (R := R1) cx_ok Try.func18 (by kernel_rfl) rfl ?_
  conv => whnf
  refine .inl ?_
  conv => whnf
  refine brF (decide_eq_false (by omega)) ?_
  conv => whnf
  refine brF (decide_eq_false (by omega)) ?_
  conv => whnf
  refine brT (decide_eq_true (by omega)) ?_
  conv => whnf
  exact ⟨rfl, rfl⟩

theorem rtwice_ok {H : List D} {i : Int} (hn : 0 ≤ i ∧ i < (H.length : Int)) (hl : ¬ 256 ≤ H.length) (hh : Itm H) : CallR cx 18 [.d (.sl 2 H), i64 i] [] fun r S => r = .tup [.d (.sl 2 (Pl.dupF .nilP H i H.length)), i64 0] ∧ S = [] := by
  refine callR_of (R := R1) cx_ok Try.func18 (by kernel_rfl) rfl ?_
  conv => whnf
  refine .inl ?_
  conv => whnf
  refine brF (decide_eq_false (by omega)) ?_
  conv => whnf
  refine brF (decide_eq_false (by omega)) ?_
  conv => whnf
  refine brF (decide_eq_false (by omega)) ?_
  conv => whnf
  refine .inr ⟨58, 2, ?_⟩
  conv => whnf
  refine .inr ⟨fun p L S => ∃ j : Nat, j ≤ H.length ∧ p = H.length - j ∧
      L = [(0, .d (.sl 2 H)), (1, i64 i), (6, .row 0), (22, i64 (H.length : Int)), (23, i64 (j : Int))] ∧
      S = [.row 58 2 (Pl.dupF .nilP H i j)],
    ⟨_, _, ⟨0, Nat.zero_le _, rfl, rfl, rfl⟩, ⟨rfl, rfl, rfl, rfl, rfl, trivial⟩⟩, ?_⟩
  rintro p _ _ ⟨j, hj, rfl, rfl, rfl⟩
  conv => whnf
  refine brec (fun g => ?_) (fun g => ?_)
  · have g := of_decide_eq_true g
    have hlt : j < H.length := by omega
    obtain ⟨t, b, hg⟩ := hh j hlt
    have e3 := e3 hlt (by omega)
    have hlen := dupF_len .nilP (H := H) (i := i) (n := j)
    conv => whnf
    refine ⟨⟨by omega, by omega⟩, ?_⟩
    conv => whnf
    rw [Int.toNat_natCast, hg]
    conv => whnf
    refine ⟨⟨Nat.succ_pos _, by show ((Pl.dupF .nilP H i j).length + 1) * (24 + 1) ≤ _; omega⟩, ?_⟩
    conv => whnf
    refine brec (fun k => ?_) (fun k => ?_)
    · have k : (j : Int) = i := by simpa using k
      conv => whnf
      refine ⟨⟨by omega, by omega⟩, ?_⟩
      conv => whnf
      rw [Int.toNat_natCast, hg]
      conv => whnf
      refine ⟨⟨Nat.succ_pos _, by rw [List.length_append]; show ((Pl.dupF .nilP H i j).length + 1 + 1) * (24 + 1) ≤ _; omega⟩, ?_⟩
      conv => whnf
      rw [e3]
      refine ⟨H.length - (j + 1), [(0, .d (.sl 2 H)), (1, i64 i), (6, .row 2), (22, i64 (H.length : Int)), (23, i64 ((j + 1 : Nat) : Int))], [2], by omega, ⟨rfl, rfl, rfl, rfl, rfl, trivial⟩, ?_⟩
      conv => whnf
      refine ⟨j + 1, by omega, rfl, rfl, ?_⟩
      rw [Pl.dupF, if_pos k, hg]
      first | done | rfl
    · have k : ¬ (j : Int) = i := by simpa using k
      conv => whnf
      rw [e3]
      refine ⟨H.length - (j + 1), [(0, .d (.sl 2 H)), (1, i64 i), (6, .row 1), (22, i64 (H.length : Int)), (23, i64 ((j + 1 : Nat) : Int))], [1], by omega, ⟨rfl, rfl, rfl, rfl, rfl, trivial⟩, ?_⟩
      conv => whnf
      refine ⟨j + 1, by omega, rfl, rfl, ?_⟩
      rw [Pl.dupF, if_neg k, hg]
      first | done | rfl
  · have g := of_decide_eq_false g
    obtain rfl : j = H.length := by omega
    conv => whnf
    exact ⟨rfl, rfl⟩

def swF (H : List D) (i k : Int) (j : Nat) : D := if (j : Int) = i then H.getD k.toNat .nilP else if (j : Int) = k then H.getD i.toNat .nilP else H.getD j .nilP

theorem rswap_no {H : List D} {i k : Int} (hn : ¬ ((0 ≤ i ∧ i < (H.length : Int)) ∧ (0 ≤ k ∧ k < (H.length : Int)))) : CallR cx 20 [.d (.sl 2 H), i64 i, i64 k] [] fun r S => r = .tup [.d (.sl 2 H), bo false] ∧ S = [] := by
  refine callR_of (R := R1) cx_ok Try.func20 (by kernel_rfl) rfl ?_
  conv => whnf
  refine .inl ?_
  conv => whnf
  refine brec (fun h => ?_) (fun h => ?_)
  · conv => whnf
    exact ⟨rfl, rfl⟩
  have h := of_decide_eq_false h
  conv => whnf
  refine brec (fun h2 => ?_) (fun h2 => ?_)
  · conv => whnf
    exact ⟨rfl, rfl⟩
  have h2 := of_decide_eq_false h2
  conv => whnf
  refine brec (fun h3 => ?_) (fun h3 => ?_)
  · conv => whnf
    exact ⟨rfl, rfl⟩
  have h3 := of_decide_eq_false h3
  conv => whnf
  refine brT (decide_eq_true (by omega)) ?_
  conv => whnf
  exact ⟨rfl, rfl⟩

theorem rswap_ok {H : List D} {i k : Int} (hi : 0 ≤ i ∧ i < (H.length : Int)) (hk : 0 ≤ k ∧ k < (H.length : Int)) (hl : H.length ≤ 100000) (hh : Itm H) : CallR cx 20 [.d (.sl 2 H), i64 i, i64 k] [] fun r S => r = .tup [.d (.sl 2 (Pl.mapF (swF H i k) H.length)), bo true] ∧ S = [] := by
  obtain ⟨ti, bi, gi⟩ := hh i.toNat (by omega)
  obtain ⟨tk, bk, gk⟩ := hh k.toNat (by omega)
  refine callR_of (R := R1) cx_ok Try.func20 (by kernel_rfl) rfl ?_
  conv => whnf
  refine .inl ?_
  conv => whnf
  refine brF (decide_eq_false (by omega)) ?_
  conv => whnf
  refine brF (decide_eq_false (by omega)) ?_
  conv => whnf
  refine brF (decide_eq_false (by omega)) ?_
  conv => whnf
  refine brF (decide_eq_false (by omega)) ?_
  conv => whnf
  refine .inr ⟨58, 2, ?_⟩
  conv => whnf
  refine .inr ⟨fun p L S => ∃ j : Nat, j ≤ H.length ∧ p = H.length - j ∧
      L = [(0, .d (.sl 2 H)), (1, i64 i), (2, i64 k), (8, .row 0), (31, i64 (H.length : Int)), (32, i64 (j : Int))] ∧
      S = [.row 58 2 (Pl.mapF (swF H i k) j)],
    ⟨_, _, ⟨0, Nat.zero_le _, rfl, rfl, rfl⟩, ⟨rfl, rfl, rfl, rfl, rfl, rfl, trivial⟩⟩, ?_⟩
  rintro p _ _ ⟨j, hj, rfl, rfl, rfl⟩
  conv => whnf
  refine brec (fun g => ?_) (fun g => ?_)
  · have g := of_decide_eq_true g
    have hlt : j < H.length := by omega
    obtain ⟨t, b, hg⟩ := hh j hlt
    have e3 := e3 hlt (by omega)
    have hlen := Pl.mapF_len (g := swF H i k) (n := j)
    conv => whnf
    refine ⟨⟨by omega, by omega⟩, ?_⟩
    conv => whnf
    rw [Int.toNat_natCast, hg]
    conv => whnf
    refine brec (fun q => ?_) (fun q => ?_)
    · have q : (j : Int) = i := by simpa using q
      conv => whnf
      refine ⟨hk, ?_⟩
      conv => whnf
      rw [gk]
      conv => whnf
      refine ⟨⟨Nat.succ_pos _, by show ((Pl.mapF (swF H i k) j).length + 1) * (24 + 1) ≤ _; omega⟩, ?_⟩
      conv => whnf
      rw [e3]
      refine ⟨H.length - (j + 1), [(0, .d (.sl 2 H)), (1, i64 i), (2, i64 k), (8, .row 2), (31, i64 (H.length : Int)), (32, i64 ((j + 1 : Nat) : Int))], [2], by omega, ⟨rfl, rfl, rfl, rfl, rfl, rfl, trivial⟩, ?_⟩
      conv => whnf
      refine ⟨j + 1, by omega, rfl, rfl, ?_⟩
      have : swF H i k j = .agg [.int .u32 tk, .str bk] := by unfold swF; rw [if_pos q, gk]
      rw [Pl.mapF, this]
      first | done | rfl
    · have q : ¬ (j : Int) = i := by simpa using q
      conv => whnf
      refine brec (fun q2 => ?_) (fun q2 => ?_)
      · have q2 : (j : Int) = k := by simpa using q2
        conv => whnf
        refine ⟨hi, ?_⟩
        conv => whnf
        rw [gi]
        conv => whnf
        refine ⟨⟨Nat.succ_pos _, by show ((Pl.mapF (swF H i k) j).length + 1) * (24 + 1) ≤ _; omega⟩, ?_⟩
        conv => whnf
        rw [e3]
        refine ⟨H.length - (j + 1), [(0, .d (.sl 2 H)), (1, i64 i), (2, i64 k), (8, .row 2), (31, i64 (H.length : Int)), (32, i64 ((j + 1 : Nat) : Int))], [2], by omega, ⟨rfl, rfl, rfl, rfl, rfl, rfl, trivial⟩, ?_⟩
        conv => whnf
        refine ⟨j + 1, by omega, rfl, rfl, ?_⟩
        have : swF H i k j = .agg [.int .u32 ti, .str bi] := by unfold swF; rw [if_neg q, if_pos q2, gi]
        rw [Pl.mapF, this]
        first | done | rfl
      · have q2 : ¬ (j : Int) = k := by simpa using q2
        conv => whnf
        refine ⟨⟨Nat.succ_pos _, by show ((Pl.mapF (swF H i k) j).length + 1) * (24 + 1) ≤ _; omega⟩, ?_⟩
        conv => whnf
        rw [e3]
        refine ⟨H.length - (j + 1), [(0, .d (.sl 2 H)), (1, i64 i), (2, i64 k), (8, .row 2), (31, i64 (H.length : Int)), (32, i64 ((j + 1 : Nat) : Int))], [2], by omega, ⟨rfl, rfl, rfl, rfl, rfl, rfl, trivial⟩, ?_⟩
        conv => whnf
        refine ⟨j + 1, by omega, rfl, rfl, ?_⟩
        have : swF H i k j = .agg [.int .u32 t, .str b] := by unfold swF; rw [if_neg q, if_neg q2, hg]
        rw [Pl.mapF, this]
        first | done | rfl
  · have g := of_decide_eq_false g
    obtain rfl : j = H.length := by omega
    conv => whnf
    exact ⟨rfl, rfl⟩

def toOf (x : D) : Int := match x with
  | .agg [.int _ t, _] => t
  | _ => 0
def forF (H : List D) (t : Int) : Nat → List D
  | 0 => []
  | j + 1 => if toOf (H.getD j .nilP) = t then forF H t j ++ [.int .i64 (j : Int)] else forF H t j
theorem forF_len {H : List D} {t : Int} : ∀ {n : Nat}, (forF H t n).length ≤ n
  | 0 => Nat.le_refl _
  | n + 1 => by
    rw [forF]
    have := forF_len (H := H) (t := t) (n := n)
    split
    · rw [List.length_append]; show _ + 1 ≤ _; omega
    · omega

theorem pfor_c {H : List D} {t : Int} (hl : H.length ≤ 100000) (hh : Itm H) : CallR cx 23 [.d (po H), u32' t] [] fun r S => r = .d (.sl 1 (forF H t H.length)) ∧ S = [] := by
  refine callR_of (R := R1) cx_ok Try.func23 (by kernel_rfl) rfl ?_
  conv => whnf
  refine .inl ?_
  conv => whnf
  refine .inr ⟨3, 1, ?_⟩
  conv => whnf
  refine .inr ⟨fun p L S => ∃ j : Nat, j ≤ H.length ∧ p = H.length - j ∧
      L = [(1, u32' t), (5, .row 1), (9, .d (.sl 2 H)), (10, i64 (H.length : Int)), (11, i64 (j : Int))] ∧
      S = [.var (.d (po H)), .row 3 1 (forF H t j)],
    ⟨_, _, ⟨0, Nat.zero_le _, rfl, rfl, rfl⟩, ⟨rfl, rfl, rfl, rfl, rfl, trivial⟩⟩, ?_⟩
  rintro p _ _ ⟨j, hj, rfl, rfl, rfl⟩
  conv => whnf
  refine brec (fun g => ?_) (fun g => ?_)
  · have g := of_decide_eq_true g
    have hlt : j < H.length := by omega
    obtain ⟨u, b, hg⟩ := hh j hlt
    have e3 := e3 hlt (by omega)
    have hlen := forF_len (H := H) (t := t) (n := j)
    have hu : toOf (H.getD j .nilP) = u := by rw [hg]; rfl
    conv => whnf
    refine ⟨⟨by omega, by omega⟩, ?_⟩
    conv => whnf
    rw [Int.toNat_natCast, hg]
    conv => whnf
    refine brec (fun q => ?_) (fun q => ?_)
    · have q : u = t := by simpa using q
      conv => whnf
      refine ⟨⟨Nat.succ_pos _, by show ((forF H t j).length + 1) * (8 + 1) ≤ _; omega⟩, ?_⟩
      conv => whnf
      rw [e3]
      refine ⟨H.length - (j + 1), [(1, u32' t), (5, .row 3), (9, .d (.sl 2 H)), (10, i64 (H.length : Int)), (11, i64 ((j + 1 : Nat) : Int))], [0, 3], by omega, ⟨rfl, rfl, rfl, rfl, rfl, trivial⟩, ?_⟩
      conv => whnf
      refine ⟨j + 1, by omega, rfl, rfl, ?_⟩
      rw [forF, if_pos (hu.trans q)]
      first | done | rfl
    · have q : ¬ u = t := by simpa using q
      conv => whnf
      rw [e3]
      refine ⟨H.length - (j + 1), [(1, u32' t), (5, .row 1), (9, .d (.sl 2 H)), (10, i64 (H.length : Int)), (11, i64 ((j + 1 : Nat) : Int))], [0, 1], by omega, ⟨rfl, rfl, rfl, rfl, rfl, trivial⟩, ?_⟩
      conv => whnf
      refine ⟨j + 1, by omega, rfl, rfl, ?_⟩
      rw [forF, if_neg (fun h => q (hu.symm.trans h))]
      first | done | rfl
  · have g := of_decide_eq_false g
    obtain rfl : j = H.length := by omega
    conv => whnf
    exact ⟨rfl, rfl⟩

theorem rfor_c {H : List D} {t : Int} (hl : H.length ≤ 100000) (hh : Itm H) : CallR cx 24 [.d (.sl 2 H), u32' t] [] fun r S => r = .d (.sl 1 (forF H t H.length)) ∧ S = [] := by
  refine callR_of (R := R1) cx_ok Try.func24 (by kernel_rfl) rfl ?_
  conv => whnf
  refine .inl ?_
  conv => whnf
  refine .inr ⟨3, 1, ?_⟩
  conv => whnf
  refine .inr ⟨fun p L S => ∃ j : Nat, j ≤ H.length ∧ p = H.length - j ∧
      L = [(0, .d (.sl 2 H)), (1, u32' t), (5, .row 0), (8, i64 (H.length : Int)), (9, i64 (j : Int))] ∧
      S = [.row 3 1 (forF H t j)],
    ⟨_, _, ⟨0, Nat.zero_le _, rfl, rfl, rfl⟩, ⟨rfl, rfl, rfl, rfl, rfl, trivial⟩⟩, ?_⟩
  rintro p _ _ ⟨j, hj, rfl, rfl, rfl⟩
  conv => whnf
  refine brec (fun g => ?_) (fun g => ?_)
  · have g := of_decide_eq_true g
    have hlt : j < H.length := by omega
    obtain ⟨u, b, hg⟩ := hh j hlt
    have e3 := e3 hlt (by omega)
    have hlen := forF_len (H := H) (t := t) (n := j)
    have hu : toOf (H.getD j .nilP) = u := by rw [hg]; rfl
    conv => whnf
    refine ⟨⟨by omega, by omega⟩, ?_⟩
    conv => whnf
    rw [Int.toNat_natCast, hg]
    conv => whnf
    refine brec (fun q => ?_) (fun q => ?_)
    · have q : u = t := by simpa using q
      conv => whnf
      refine ⟨⟨Nat.succ_pos _, by show ((forF H t j).length + 1) * (8 + 1) ≤ _; omega⟩, ?_⟩
      conv => whnf
      rw [e3]
      refine ⟨H.length - (j + 1), [(0, .d (.sl 2 H)), (1, u32' t), (5, .row 1), (8, i64 (H.length : Int)), (9, i64 ((j + 1 : Nat) : Int))], [1], by omega, ⟨rfl, rfl, rfl, rfl, rfl, trivial⟩, ?_⟩
      conv => whnf
      refine ⟨j + 1, by omega, rfl, rfl, ?_⟩
      rw [forF, if_pos (hu.trans q)]
      first | done | rfl
    · have q : ¬ u = t := by simpa using q
      conv => whnf
      rw [e3]
      refine ⟨H.length - (j + 1), [(0, .d (.sl 2 H)), (1, u32' t), (5, .row 0), (8, i64 (H.length : Int)), (9, i64 ((j + 1 : Nat) : Int))], [0], by omega, ⟨rfl, rfl, rfl, rfl, rfl, trivial⟩, ?_⟩
      conv => whnf
      refine ⟨j + 1, by omega, rfl, rfl, ?_⟩
      rw [forF, if_neg (fun h => q (hu.symm.trans h))]
      first | done | rfl
  · have g := of_decide_eq_false g
    obtain rfl : j = H.length := by omega
    conv => whnf
    exact ⟨rfl, rfl⟩

theorem isame_c {F : List D} (hl : F.length ≤ 100000) (hh : ∀ j, j < F.length → ∃ n, F.getD j .nilP = .int .i64 n) : CallR cx 22 [.d (.sl 1 F), .d (.sl 1 F)] [] fun r S => r = bo true ∧ S = [] := by
  refine callR_of (R := R1) cx_ok Try.func22 (by kernel_rfl) rfl ?_
  conv => whnf
  refine brF (bne_self_eq_false' _) ?_
  conv => whnf
  refine .inl ⟨fun p L S => ∃ j : Nat, j ≤ F.length ∧ p = F.length - j ∧
      L = [(0, .d (.sl 1 F)), (1, .d (.sl 1 F)), (12, i64 (F.length : Int)), (13, i64 (j : Int))] ∧ S = [],
    ⟨_, _, ⟨0, Nat.zero_le _, rfl, rfl, rfl⟩, ⟨rfl, rfl, rfl, rfl, trivial⟩⟩, ?_⟩
  rintro p _ _ ⟨j, hj, rfl, rfl, rfl⟩
  conv => whnf
  refine brec (fun g => ?_) (fun g => ?_)
  · have g := of_decide_eq_true g
    have hlt : j < F.length := by omega
    obtain ⟨n, hg⟩ := hh j hlt
    have e3 := e3 hlt (by omega)
    conv => whnf
    refine ⟨by kernel_rfl, ?_⟩
    conv => whnf
    refine ⟨⟨by omega, by omega⟩, ?_⟩
    conv => whnf
    rw [Int.toNat_natCast, hg]
    conv => whnf
    refine ⟨⟨by omega, by omega⟩, ?_⟩
    conv => whnf
    rw [Int.toNat_natCast, hg]
    conv => whnf
    refine ⟨by kernel_rfl, ?_⟩
    conv => whnf
    refine brF (bne_self_eq_false' _) ?_
    conv => whnf
    exact ⟨_, _, 0, (by omega : F.length - (j + 1) < F.length - j), ⟨j + 1, by omega, rfl, rfl, rfl⟩, ⟨rfl, rfl, rfl, congrArg (fun z => some (i64 z)) e3, trivial⟩, rfl⟩
  · conv => whnf
    exact ⟨rfl, rfl⟩

theorem forF_int {H : List D} {t : Int} : ∀ {n : Nat} (x : D), x ∈ forF H t n → ∃ m, x = .int .i64 m
  | 0, x, h => by simp [forF] at h
  | n + 1, x, h => by
    rw [forF] at h
    split at h
    · rcases List.mem_append.1 h with h | h
      · exact forF_int x h
      · simp at h; exact ⟨_, h⟩
    · exact forF_int x h

theorem rsnd_no {H : List D} {h e : Int} {f : Fd} {B : ByteArray} (he : e ≠ 0) (fb : CallR cx 32 [.d f.d] [] fun r S => r = .tup [st B, i64 e] ∧ S = []) :
    CallR cx 12 [.d (.sl 2 H), u32' h, .d f.d] [] fun r S => r = .tup [.d (.sl 2 H), i64 e] ∧ S = [] := by
  obtain ⟨tag, A, B', C, org, n, k, ⟨i1, p1, o1, t1⟩, ⟨h2, d2, d3, ⟨i2, p2, o2, t2⟩⟩, ⟨h3, d4, d5, ⟨i3, p3, o3, t3⟩⟩, ⟨h4, d6, w4, ⟨i4, p4, o4, t4⟩⟩, leaf, ix, br, ⟨l1, l2, l3, l4, l5, l6⟩⟩ := f
  refine callR_of (R := R2) cx_ok Try.func12 (by kernel_rfl) rfl ?_
  conv => whnf
  refine .inl ?_
  conv => whnf
  refine ⟨_, fb, ?_⟩
  rintro _ _ ⟨rfl, rfl⟩
  conv => whnf
  refine brT (bne_iff_ne.2 he) ?_
  conv => whnf
  exact ⟨rfl, rfl⟩

theorem rsnd_full {H : List D} {h : Int} {f : Fd} {B : ByteArray} (hl : 256 ≤ H.length) (fb : CallR cx 32 [.d f.d] [] fun r S => r = .tup [st B, i64 0] ∧ S = []) :
    CallR cx 12 [.d (.sl 2 H), u32' h, .d f.d] [] fun r S => r = .tup [.d (.sl 2 H), i64 6] ∧ S = [] := by
  obtain ⟨tag, A, B', C, org, n, k, ⟨i1, p1, o1, t1⟩, ⟨h2, d2, d3, ⟨i2, p2, o2, t2⟩⟩, ⟨h3, d4, d5, ⟨i3, p3, o3, t3⟩⟩, ⟨h4, d6, w4, ⟨i4, p4, o4, t4⟩⟩, leaf, ix, br, ⟨l1, l2, l3, l4, l5, l6⟩⟩ := f
  refine callR_of (R := R2) cx_ok Try.func12 (by kernel_rfl) rfl ?_
  conv => whnf
  refine .inl ?_
  conv => whnf
  refine ⟨_, fb, ?_⟩
  rintro _ _ ⟨rfl, rfl⟩
  conv => whnf
  refine brT (decide_eq_true (by omega)) ?_
  conv => whnf
  exact ⟨rfl, rfl⟩

theorem rsnd_ok {H : List D} {h : Int} {f : Fd} {B : ByteArray} (hl : ¬ 256 ≤ H.length) (fb : CallR cx 32 [.d f.d] [] fun r S => r = .tup [st B, i64 0] ∧ S = []) :
    CallR cx 12 [.d (.sl 2 H), u32' h, .d f.d] [] fun r S => r = .tup [.d (.sl 2 (H ++ [.agg [.int .u32 h, .str B]])), i64 0] ∧ S = [] := by
  obtain ⟨tag, A, B', C, org, n, k, ⟨i1, p1, o1, t1⟩, ⟨h2, d2, d3, ⟨i2, p2, o2, t2⟩⟩, ⟨h3, d4, d5, ⟨i3, p3, o3, t3⟩⟩, ⟨h4, d6, w4, ⟨i4, p4, o4, t4⟩⟩, leaf, ix, br, ⟨l1, l2, l3, l4, l5, l6⟩⟩ := f
  refine callR_of (R := R2) cx_ok Try.func12 (by kernel_rfl) rfl ?_
  conv => whnf
  refine .inl ?_
  conv => whnf
  refine ⟨_, fb, ?_⟩
  rintro _ _ ⟨rfl, rfl⟩
  conv => whnf
  refine brF (decide_eq_false (by omega)) ?_
  conv => whnf
  refine .inr ⟨58, 2, ?_⟩
  conv => whnf
  by_cases hz : H = []
  · subst hz
    refine .inr ⟨rfl, ?_⟩
    conv => whnf
    refine .inl ⟨⟨Nat.succ_pos _, by show (0 + 1) * (24 + 1) ≤ _; omega⟩, ?_⟩
    conv => whnf
    exact ⟨rfl, rfl⟩
  · have hz2 : 0 < H.length := List.length_pos_iff.2 hz
    refine .inl ⟨⟨hz2, by show (0 + H.length) * (24 + 1) ≤ _; omega⟩, ?_⟩
    conv => whnf
    refine .inl ⟨⟨Nat.succ_pos _, by show (([] ++ H).length + 1) * (24 + 1) ≤ _; rw [List.nil_append]; omega⟩, ?_⟩
    conv => whnf
    exact ⟨rfl, rfl⟩
end Go.Proofs.Ytboohfijacjhjaa
