/- Posts: the document's lists (plain), and its walks. -/
import Derived.Test.YtboohfijacjhjaaPG
import Derived.Test.YtboohfijacjhjaaAbW
set_option linter.unusedVariables false
namespace Go.Proofs.Ytboohfijacjhjaa
open Go.Ab Go.RowKit

namespace Pl
variable {α : Type} (d : α)
def keepF (H : List α) (i : Int) : Nat → List α
  | 0 => []
  | j + 1 => if (j : Int) = i then keepF H i j else keepF H i j ++ [H.getD j d]
def lastF (H : List α) (z : α) (i : Int) : Nat → α
  | 0 => z
  | j + 1 => if (j : Int) = i then H.getD j d else lastF H z i j
def dupF (H : List α) (i : Int) : Nat → List α
  | 0 => []
  | j + 1 => if (j : Int) = i then dupF H i j ++ [H.getD j d] ++ [H.getD j d] else dupF H i j ++ [H.getD j d]
def mapF (g : Nat → α) : Nat → List α
  | 0 => []
  | j + 1 => mapF g j ++ [g j]
theorem take_getD' {H : List α} {j : Nat} (h : j < H.length) : H.take (j + 1) = H.take j ++ [H.getD j d] := by
  rw [List.take_add_one, List.getD_eq_getElem?_getD, List.getElem?_eq_getElem h]
  rfl
theorem keepF_out {H : List α} {i : Int} : ∀ {n : Nat}, n ≤ H.length → ¬ (0 ≤ i ∧ i < n) → keepF d H i n = H.take n
  | 0, _, _ => by simp [keepF]
  | n + 1, h, hn => by
    rw [keepF, if_neg (by omega), keepF_out (by omega) (by omega), take_getD' d (by omega)]
theorem keepF_in {H : List α} {i : Nat} : ∀ {n : Nat}, n ≤ H.length → i < n → keepF d H (i : Int) n = H.take i ++ (H.take n).drop (i + 1)
  | n + 1, h, hn => by
    by_cases e : n = i
    · subst e
      rw [keepF, if_pos rfl, keepF_out d (by omega) (by omega), List.drop_eq_nil_of_le (by rw [List.length_take]; omega), List.append_nil]
    · rw [keepF, if_neg (by omega), keepF_in (by omega) (by omega), take_getD' d (by omega), List.drop_append_of_le_length (by rw [List.length_take]; omega), List.append_assoc]
theorem lastF_out {H : List α} {z : α} {i : Int} : ∀ {n : Nat}, ¬ (0 ≤ i ∧ i < n) → lastF d H z i n = z
  | 0, _ => rfl
  | n + 1, hn => by rw [lastF, if_neg (by omega), lastF_out (by omega)]
theorem lastF_in {H : List α} {z : α} {i : Nat} : ∀ {n : Nat}, i < n → lastF d H z (i : Int) n = H.getD i d
  | n + 1, hn => by
    by_cases e : n = i
    · subst e; rw [lastF, if_pos rfl]
    · rw [lastF, if_neg (by omega), lastF_in (by omega)]
theorem dupF_out {H : List α} {i : Int} : ∀ {n : Nat}, n ≤ H.length → ¬ (0 ≤ i ∧ i < n) → dupF d H i n = H.take n
  | 0, _, _ => by simp [dupF]
  | n + 1, h, hn => by
    rw [dupF, if_neg (by omega), dupF_out (by omega) (by omega), take_getD' d (by omega)]
theorem dupF_in {H : List α} {i : Nat} : ∀ {n : Nat}, n ≤ H.length → i < n → dupF d H (i : Int) n = H.take (i + 1) ++ H.getD i d :: (H.take n).drop (i + 1)
  | n + 1, h, hn => by
    by_cases e : n = i
    · subst e
      rw [dupF, if_pos rfl, dupF_out d (by omega) (by omega), ← take_getD' d (by omega), List.drop_eq_nil_of_le (by rw [List.length_take]; omega)]
    · rw [dupF, if_neg (by omega), dupF_in (by omega) (by omega), take_getD' d (j := n) (by omega), List.drop_append_of_le_length (by rw [List.length_take]; omega), List.append_assoc, List.cons_append]
theorem mapF_len {g : Nat → α} : ∀ {n : Nat}, (mapF g n).length = n
  | 0 => rfl
  | n + 1 => by rw [mapF, List.length_append, mapF_len]; rfl
theorem mapF_get {g : Nat → α} : ∀ {n j : Nat}, j < n → (mapF g n)[j]? = some (g j)
  | n + 1, j, h => by
    rw [mapF]
    by_cases e : j = n
    · subst e; rw [List.getElem?_append_right (by rw [mapF_len]; exact Nat.le_refl _), mapF_len, Nat.sub_self]; rfl
    · rw [List.getElem?_append_left (by rw [mapF_len]; omega), mapF_get (by omega)]
theorem swap_eq {H : List α} {i k : Nat} (hi : i < H.length) (hk : k < H.length) :
    mapF (fun j => if j = i then H.getD k d else if j = k then H.getD i d else H.getD j d) H.length = (H.set i (H.getD k d)).set k (H.getD i d) := by
  apply List.ext_getElem?
  intro j
  by_cases hj : j < H.length
  · rw [mapF_get hj, List.getElem?_set, List.getElem?_set]
    by_cases e : k = j
    · subst e
      rw [if_pos rfl (c := k = k), if_pos (show k < (H.set i (H.getD k d)).length by simpa using hj)]
      by_cases e2 : k = i
      · rw [if_pos e2, e2, if_pos rfl]
      · rw [if_neg e2, if_pos rfl]
    · rw [if_neg e]
      by_cases e2 : i = j
      · subst e2
        rw [if_pos rfl, if_pos rfl, if_pos hj]
      · rw [if_neg (Ne.symm e2), if_neg (Ne.symm e), if_neg e2, List.getD_eq_getElem?_getD, List.getElem?_eq_getElem hj]
        rfl
  · rw [List.getElem?_eq_none (by rw [mapF_len]; omega), List.getElem?_eq_none (by simp; omega)]
end Pl

def Itm (H : List D) : Prop := ∀ j, j < H.length → ∃ t b, H.getD j .nilP = .agg [.int .u32 t, .str b]
theorem e3 {j n : Nat} (h : j < n) (hl : n ≤ 100000) : IntKind.i64.wrap ((j : Int) + 1) = ((j + 1 : Nat) : Int) := by rw [w64 (by omega)]; omega

theorem keepF_len {α : Type} (d : α) {H : List α} {i : Int} : ∀ {n : Nat}, (Pl.keepF d H i n).length ≤ n
  | 0 => Nat.le_refl _
  | n + 1 => by
    rw [Pl.keepF]
    have := keepF_len d (H := H) (i := i) (n := n)
    split
    · omega
    · rw [List.length_append]; show _ + 1 ≤ _; omega
theorem dupF_len {α : Type} (d : α) {H : List α} {i : Int} : ∀ {n : Nat}, (Pl.dupF d H i n).length ≤ 2 * n
  | 0 => Nat.le_refl _
  | n + 1 => by
    rw [Pl.dupF]
    have := dupF_len d (H := H) (i := i) (n := n)
    split
    · rw [List.length_append, List.length_append]; show _ + 1 + 1 ≤ _; omega
    · rw [List.length_append]; show _ + 1 ≤ _; omega

theorem swp_ok {H : List D} {i j ti tj : Int} {bi bj : ByteArray} (hi : 0 ≤ i ∧ i < (H.length : Int)) (hj : 0 ≤ j ∧ j < (H.length : Int)) (cl : CL H)
    (gi : H.getD i.toNat .nilP = .agg [.int .u32 ti, .str bi]) (gj : H.getD j.toNat .nilP = .agg [.int .u32 tj, .str bj]) :
    CallR cx 19 [.d (po H), i64 i, i64 j] [] fun r S => r = .tup [.d (po ((H.set i.toNat (.agg [.int .u32 tj, .str bj])).set j.toNat (.agg [.int .u32 ti, .str bi]))), bo true] ∧ S = [] := by
  have th := there_c (H := H) (i := i)
  have th2 := there_c (H := H) (i := j)
  have e : (decide (0 ≤ i) && decide (i < (H.length : Int))) = true := by rw [← Bool.decide_and]; exact decide_eq_true hi
  have e2 : (decide (0 ≤ j) && decide (j < (H.length : Int))) = true := by rw [← Bool.decide_and]; exact decide_eq_true hj
  rw [e] at th
  rw [e2] at th2
  refine callR_of (R := R1) cx_ok Try.func19 (by kernel_rfl) rfl ?_
  conv => whnf
  refine ⟨_, th, ?_⟩
  rintro _ _ ⟨rfl, rfl⟩
  conv => whnf
  refine ⟨_, th2, ?_⟩
  rintro _ _ ⟨rfl, rfl⟩
  conv => whnf
  refine ⟨_, cl, ?_⟩
  rintro _ _ ⟨rfl, rfl⟩
  conv => whnf
  refine ⟨by kernel_rfl, ?_⟩
  conv => whnf
  refine ⟨hj, ?_⟩
  conv => whnf
  rw [gj]
  conv => whnf
  refine ⟨by omega, ?_⟩
  conv => whnf
  refine ⟨hi, ?_⟩
  conv => whnf
  rw [gi]
  conv => whnf
  refine ⟨by omega, ?_⟩
  conv => whnf
  refine ⟨hi, ?_⟩
  conv => whnf
  refine ⟨by omega, ?_⟩
  conv => whnf
  refine ⟨⟨hj.1, by rw [List.length_set]; exact hj.2⟩, ?_⟩
  conv => whnf
  refine ⟨by rw [List.length_set]; omega, ?_⟩
  conv => whnf
  refine ⟨by kernel_rfl, ?_⟩
  conv => whnf
  exact ⟨rfl, rfl⟩

theorem lastF_it {H : List D} {i : Int} (hh : Itm H) : ∀ {n : Nat}, n ≤ H.length → ∃ t b, Pl.lastF .nilP H it0.d i n = .agg [.int .u32 t, .str b]
  | 0, _ => ⟨_, _, rfl⟩
  | n + 1, h => by
    rw [Pl.lastF]
    split
    · exact hh n (by omega)
    · exact lastF_it hh (by omega)

theorem rtake_c {H : List D} {i : Int} (hl : H.length ≤ 100000) (hh : Itm H) :
    CallR cx 15 [.d (.sl 2 H), i64 i] [] fun r S => r = .tup [.d (.sl 2 (Pl.keepF .nilP H i H.length)), .d (Pl.lastF .nilP H it0.d i H.length), bo (decide (0 ≤ i ∧ i < (H.length : Int)))] ∧ S = [] := by
  refine callR_of (R := R1) cx_ok Try.func15 (by kernel_rfl) rfl ?_
  conv => whnf
  refine .inl ?_
  conv => whnf
  refine .inr ⟨58, 2, ?_⟩
  conv => whnf
  refine .inr ⟨fun p L S => ∃ j : Nat, j ≤ H.length ∧ p = H.length - j ∧
      L = [(0, .d (.sl 2 H)), (1, i64 i), (5, .ptr 0 []), (7, .row 1), (8, .ptr 2 []), (9, bo (decide (0 ≤ i ∧ i < (j : Int)))), (12, i64 (H.length : Int)), (13, i64 (j : Int))] ∧
      S = [.var (.d it0.d), .row 58 2 (Pl.keepF .nilP H i j), .var (.d (Pl.lastF .nilP H it0.d i j))],
    ⟨_, _, ⟨0, Nat.zero_le _, rfl, rfl, rfl⟩, ⟨rfl, rfl, rfl, rfl, rfl, congrArg (fun z => some (bo z)) (decide_eq_false (by omega)).symm, rfl, rfl, trivial⟩⟩, ?_⟩
  rintro p _ _ ⟨j, hj, rfl, rfl, rfl⟩
  obtain ⟨tx, bx, hx⟩ := lastF_it (i := i) hh hj
  rw [hx]
  conv => whnf
  refine brec (fun g => ?_) (fun g => ?_)
  · have g := of_decide_eq_true g
    have hlt : j < H.length := by omega
    obtain ⟨t, b, hg⟩ := hh j hlt
    have e3 := e3 hlt (by omega)
    have hlen := keepF_len .nilP (H := H) (i := i) (n := j)
    conv => whnf
    refine brec (fun k => ?_) (fun k => ?_)
    · have k : (j : Int) = i := by simpa using k
      conv => whnf
      refine ⟨⟨by omega, by omega⟩, ?_⟩
      conv => whnf
      rw [Int.toNat_natCast, hg]
      conv => whnf
      rw [e3]
      refine ⟨H.length - (j + 1), [(0, .d (.sl 2 H)), (1, i64 i), (5, .ptr 0 []), (7, .row 1), (8, .ptr 2 []), (9, bo true), (12, i64 (H.length : Int)), (13, i64 ((j + 1 : Nat) : Int))], [0, 1, 2], by omega, ⟨rfl, rfl, rfl, rfl, rfl, rfl, rfl, rfl, trivial⟩, ?_⟩
      conv => whnf
      refine ⟨j + 1, by omega, rfl, ?_, ?_⟩
      · rw [decide_eq_true (show 0 ≤ i ∧ i < ((j + 1 : Nat) : Int) by omega)]
        rfl
      · rw [Pl.keepF, if_pos k, Pl.lastF, if_pos k, hg]
    · have k : ¬ (j : Int) = i := by simpa using k
      conv => whnf
      refine ⟨⟨by omega, by omega⟩, ?_⟩
      conv => whnf
      rw [Int.toNat_natCast, hg]
      conv => whnf
      refine ⟨⟨Nat.succ_pos _, by show ((Pl.keepF .nilP H i j).length + 1) * (24 + 1) ≤ _; omega⟩, ?_⟩
      conv => whnf
      rw [e3]
      refine ⟨H.length - (j + 1), [(0, .d (.sl 2 H)), (1, i64 i), (5, .ptr 0 []), (7, .row 3), (8, .ptr 2 []), (9, bo (decide (0 ≤ i ∧ i < (j : Int)))), (12, i64 (H.length : Int)), (13, i64 ((j + 1 : Nat) : Int))], [0, 3, 2], by omega, ⟨rfl, rfl, rfl, rfl, rfl, rfl, rfl, rfl, trivial⟩, ?_⟩
      conv => whnf
      refine ⟨j + 1, by omega, rfl, ?_, ?_⟩
      · rw [show decide (0 ≤ i ∧ i < ((j + 1 : Nat) : Int)) = decide (0 ≤ i ∧ i < (j : Int)) from decide_eq_decide.2 (by omega)]
        rfl
      · rw [Pl.keepF, if_neg k, Pl.lastF, if_neg k, hg, hx]
        rfl
  · have g := of_decide_eq_false g
    obtain rfl : j = H.length := by omega
    conv => whnf
    refine ⟨by kernel_rfl, ?_⟩
    conv => whnf
    refine ⟨by kernel_rfl, ?_⟩
    conv => whnf
    rw [hx]
    exact ⟨rfl, rfl⟩

end Go.Proofs.Ytboohfijacjhjaa
