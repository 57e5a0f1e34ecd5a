/- Calls: the law CallBack. -/
import Derived.Test.YtboohfijacjhjaaKB
import Derived.Test.YtboohfijacjhjaaKH
set_option linter.unusedVariables false
namespace Go.Proofs.Ytboohfijacjhjaa
open Go.Ab Go.RowKit

theorem Cl.tail_size {c : Cl} (h : c.fit) : c.tail.size ≤ 50000 := by
  have hx : ∀ {s : ByteArray}, tx s → s.size ≤ 1000 := fun h => h
  cases c with
  | pay a b n k g => obtain ⟨h1, h2, _, _, h3⟩ := h; have := sigB_size h3; have := hx h1; have := hx h2; simp only [Cl.tail, ByteArray.size_append, bigB_size, textB_size]; omega
  | send a o t b n k g => obtain ⟨h1, _, h2, h4, _, _, h3⟩ := h; have := sigB_size h3; have := hx h1; have := hx h2; have := hx h4; simp only [Cl.tail, ByteArray.size_append, bigB_size, textB_size]; omega
  | say a b k g => obtain ⟨h1, h2, _, h3⟩ := h; have := sigB_size h3; have := hx h1; have := hx h2; simp only [Cl.tail, ByteArray.size_append, bigB_size, textB_size]; omega
  | tell a b k g => obtain ⟨h1, h2, _, h3⟩ := h; have := sigB_size h3; have := hx h1; have := hx h2; simp only [Cl.tail, ByteArray.size_append, bigB_size, textB_size]; omega
  | submit u => have := upB_size h; simp only [Cl.tail, textB_size]; omega
  | improp u c => obtain ⟨h1, h2⟩ := h; have := upB_size h1; have := hx h2; simp only [Cl.tail, ByteArray.size_append, textB_size]; omega
  | double u v c => obtain ⟨h1, h3, h2⟩ := h; have := upB_size h1; have := upB_size h3; have := hx h2; simp only [Cl.tail, ByteArray.size_append, textB_size]; omega
  | accept u => have := upB_size h; simp only [Cl.tail, textB_size]; omega
  | doubled u v => obtain ⟨h1, h3⟩ := h; have := upB_size h1; have := upB_size h3; simp only [Cl.tail, ByteArray.size_append, textB_size]; omega
  | halt s => have := spB_size h; simp only [Cl.tail, textB_size]; omega
  | prove l i br => obtain ⟨h1, _, h3⟩ := h; have := dgsB_size h3; simp only [Cl.tail, ByteArray.size_append, bigB_size]; omega
  | process l => have := leB_size h; simp only [Cl.tail, textB_size]; omega
  | no => exact Nat.zero_le _
  | word => exact Nat.zero_le _

theorem Cl.cS_size {c : Cl} (h : c.fit) : c.cS.size < 100000 := by
  unfold Cl.cS
  split
  · have := Cl.tail_size h
    unfold Cl.bytes
    rw [ByteArray.size_append, bigB_size]
    omega
  · decide

def isNo (q : Cl × Int) : Prop := q.2 ≠ 0 → q.1 = .no
theorem fin_no (R : Rs) (c : Cl) (e : Int) : isNo (finC R c e) := by
  unfold isNo finC
  intro h
  split at h
  · rename_i h1
    rw [if_pos h1]
    split at h
    · exact absurd rfl h
    · rename_i h2; rw [if_neg h2]
  · rename_i h1; rw [if_neg h1]
theorem readC_no (s : ByteArray) : isNo (readC s) := by
  unfold readC
  simp only
  repeat' split
  all_goals first | exact fin_no _ _ _ | exact fun _ => rfl

theorem readC_fit (s : ByteArray) : (readC s).1.fit := by
  by_cases h : (readC s).2 = 0
  · exact (readC_ok h).1
  · rw [readC_no s h]
    trivial

theorem small_of {x : An} (h1 : okI x.sig.ix) (h2 : okI x.u.sig.ix) (h3 : okI x.v.sig.ix) (h4 : okI x.stop.sig.ix) (h5 : okI x.stop.wat) : x.cl.small := by
  have H : ∀ k, (x.clN k).small := by
    intro k
    match k with
    | 0 => exact ⟨h1, okI0⟩
    | 1 => exact ⟨h1, okI0⟩
    | 2 => exact ⟨h1, okI0⟩
    | 3 => exact ⟨h1, okI0⟩
    | 4 => exact ⟨h2, okI0⟩
    | 5 => exact ⟨h2, okI0⟩
    | 6 => exact ⟨h2, h3⟩
    | 7 => exact ⟨h2, okI0⟩
    | 8 => exact ⟨h2, h3⟩
    | 9 => exact ⟨h4, h5⟩
    | 10 => exact ⟨okI0, okI0⟩
    | 11 => exact ⟨okI0, okI0⟩
    | 12 => exact ⟨okI0, okI0⟩
    | k + 13 => exact ⟨okI0, okI0⟩
  exact H _

theorem cE_tag {c : Cl} (h : c.cE = 0) : 0 < c.tag := by
  cases c <;> first | (unfold Cl.tag; simp only; decide) | (exact absurd h (by unfold Cl.cE; simp only; decide))

theorem ok_cE {c : Cl} (h : c.ok) : c.cE = 0 := by
  cases c <;> first | rfl | exact if_pos h | exact h.elim

/-- What was written is read as itself. -/
theorem back_same {c : Cl} (h : c.fit) (hs : c.small) (he : c.cE = 0) (hr : (readC c.cS).2 = 0) : (decide (0 < c.tag) && decide (c = (readC c.cS).1)) = true := by
  have e : c.cS = c.bytes := if_pos he
  rw [e] at hr ⊢
  obtain ⟨g1, g2, g3, g4⟩ := readC_ok hr
  rw [decide_eq_true (cE_tag he), decide_eq_true (bytes_small h g1 (cE_tag he) g4.symm hs g3)]
  rfl

/-- What was read is written as it was. -/
theorem back_bytes {s : ByteArray} (hr : (readC s).2 = 0) : (readC s).1.cE = 0 ∧ (readC s).1.cS = s := by
  obtain ⟨g1, g2, g3, g4⟩ := readC_ok hr
  have e := ok_cE g2
  exact ⟨e, (if_pos e).trans g4⟩

theorem shr32 {n : Int} (h : -9223372036854775808 ≤ n ∧ n < 9223372036854775808) (g : n / 4294967296 = 0) : okI n := by unfold okI; omega

theorem shr0 {n : Int} (h : (n.fdiv ((2 : Int) ^ min (Int.toNat 32) IntKind.i64.bits) == 0) = true) : n / 4294967296 = 0 := by
  have e : ((2 : Int) ^ min (Int.toNat 32) IntKind.i64.bits) = 4294967296 := by decide
  rw [e, Int.fdiv_eq_ediv_of_nonneg _ (by decide)] at h
  exact eq_of_beq h
end Go.Proofs.Ytboohfijacjhjaa
