/- One-time keys (layer 5) without a log: the word of a key. -/
import Derived.Test.YtghblnkplfajjaaDoorWA
set_option linter.unusedVariables false
namespace Go.Proofs.YtghblnkplfajjaaDoor
open Go.Ab

/-- Digests, and zeros behind them. -/
def arrG (n : Nat) (l : List ByteArray) : List D := dgs l ++ List.replicate (n - l.length) (dgD z32)
theorem arrG_set {n : Nat} {l : List ByteArray} {x : ByteArray} (h : l.length < n) : (arrG n l).set l.length (dgD x) = arrG n (l ++ [x]) := by
  unfold arrG dgs
  rw [List.set_append_right _ _ (by rw [List.length_map]; exact Nat.le_refl _), List.length_map, Nat.sub_self, List.map_append, List.length_append, List.append_assoc]
  congr 1
  rw [show n - l.length = (n - (l.length + 1)) + 1 by omega, List.replicate_succ]
  rfl
theorem arrG_len {n : Nat} {l : List ByteArray} (h : l.length ≤ n) : (arrG n l).length = n := by
  unfold arrG dgs
  rw [List.length_append, List.length_map, List.length_replicate]; omega
theorem arrG_new {n : Nat} {l : List ByteArray} (h : l.length < n) : (arrG n l).getD l.length .nilP = dgD z32 := by
  unfold arrG dgs
  rw [List.getD_eq_getElem?_getD, List.getElem?_append_right (by rw [List.length_map]; exact Nat.le_refl _), List.length_map, Nat.sub_self, List.getElem?_replicate, if_pos (by omega)]
  rfl
theorem arrG_full {n : Nat} {l : List ByteArray} (h : l.length = n) : arrG n l = dgs l := by
  unfold arrG; rw [h, Nat.sub_self]; exact List.append_nil _
theorem setP_dg {n j : Nat} {a b : ByteArray} {xs : List D} (h : xs.getD j .nilP = dgD a) : (AV.d (.arr n 32 xs)).setP ([] ++ [.ix j 32 n]) (.d (dgD b)) = some (.d (.arr n 32 (xs.set j (dgD b)))) := by
  unfold dgD at *
  simp only [List.nil_append, AV.setP, AV.getS, D.getS, Nat.beq_refl, Bool.and_true, h, AV.sizeR_eq, beqR_eq, AV.size, D.size, AV.isAgg, D.isAgg, AV.setS, beq_self_eq_true]

/-- A digest of zeros. -/
abbrev zD : D := .arr 32 1 (List.replicate 32 (.int .u8 0))
theorem zD_eq : dgD z32 = zD := by kernel_rfl

def pairP (l : List ByteArray) : ByteArray := dgL 3 [catB l]
theorem pairP_size (l : List ByteArray) : (pairP l).size = 32 := dgL_size _ _

set_option maxRecDepth 100000 in
theorem pair_c {l : List ByteArray} (hl : l.length = 64) (hf : ∀ b ∈ l, b.size = 32) : CallR cx 22 [.d .nilP, .d (.arr 64 32 (dgs l))] [] fun r S => r = .d (dgD (pairP l)) ∧ S = [] := by
  have hlen : (dgs l).length = 64 := by rw [← hl]; exact List.length_map _
  have hcs := cat_size hf
  have po := pofL_c (d := 3) (l := [catB l]) (by simp) (by simp only [inL, List.foldl, ByteArray.size_append, textB_size, hcs, hl, one_size]; omega)
  unfold pairP
  generalize dgL 3 [catB l] = Q at *
  refine callR_of (R := R1) cx_ok Tryd.func22 (by kernel_rfl) rfl ?_
  conv => whnf
  refine .inr ⟨fun m L S => ∃ (j : Nat) (p : AV), (p = .d .nilP ∨ p = .ptr 3 []) ∧ j ≤ 64 ∧ m = 64 - j ∧
      L = [(0, .d .nilP), (4, .ptr 1 []), (5, .ptr 3 []), (8, .d (.arr 64 32 (dgs l))), (9, i64 (j : Int))] ∧
      S = [.var (.d (.arr 64 32 (dgs l))), .var (.d zD), .row 5 1 (D.bytes (catB (l.take j))), .tvar 86 (.agg [p, .row 2])],
    ⟨_, _, ⟨0, .d .nilP, .inl rfl, Nat.zero_le _, rfl, rfl, rfl⟩, ⟨rfl, rfl, rfl, rfl, rfl, trivial⟩⟩, ?_⟩
  rintro _ _ _ ⟨j, p, hp, hj, rfl, rfl, rfl⟩
  have hc := cat_size (l := l.take j) (fun b hb => hf b (List.mem_of_mem_take hb))
  rw [List.length_take] at hc
  rcases hp with rfl | rfl
  all_goals
    conv => whnf
    refine brec (fun g => ?_) (fun g => ?_)
    · have g := of_decide_eq_true g
      have hlt : j < l.length := by omega
      conv => whnf
      refine ⟨⟨by omega, by omega⟩, ?_⟩
      rw [dgs_getD hlt]
      have hct := cat_take hlt
      have hsz := hf _ (List.getElem_mem hlt)
      generalize l[j]'hlt = b at *
      have e3 : IntKind.i64.wrap ((j : Int) + 1) = ((j + 1 : Nat) : Int) := by rw [w64 (by omega)]; omega
      generalize catB (l.take j) = C at *
      have wc := fun p hp => write_c (p := p) (s := C) (b := b) hp hsz (by omega)
      conv => whnf
      refine ⟨by kernel_rfl, ?_⟩
      conv => whnf
      refine ⟨by decide, ?_⟩
      conv => whnf
      first | refine ⟨_, wc (.d .nilP) (.inl rfl), ?_⟩ | refine ⟨_, wc (.ptr 0 []) (.inr rfl), ?_⟩
      rintro _ _ ⟨rfl, rfl⟩
      conv => whnf
      refine ⟨64 - (j + 1), [(0, .d .nilP), (4, .ptr 1 []), (5, .ptr 3 []), (8, .d (.arr 64 32 (dgs l))), (9, i64 ((j + 1 : Nat) : Int))], [0, 1, 5, 3], by omega, ⟨rfl, rfl, rfl, rfl, congrArg (fun z => some (i64 z)) e3, trivial⟩, ?_⟩
      conv => whnf
      exact ⟨j + 1, .ptr 3 [], .inr rfl, by omega, rfl, rfl, by rw [hct]⟩
    · have g := of_decide_eq_false g
      obtain rfl : j = 64 := by omega
      rw [show l.take 64 = l by rw [← hl]; exact List.take_length]
      have sc := fun p hp => string_c (p := p) (s := catB l) hp
      generalize catB l = C at *
      conv => whnf
      first | refine ⟨_, sc (.d .nilP) (.inl rfl), ?_⟩ | refine ⟨_, sc (.ptr 0 []) (.inr rfl), ?_⟩
      rintro _ _ ⟨rfl, rfl⟩
      conv => whnf
      refine ⟨_, po, ?_⟩
      rintro _ _ ⟨rfl, rfl⟩
      conv => whnf
      exact ⟨rfl, rfl⟩
end Go.Proofs.YtghblnkplfajjaaDoor
