/- What is quoted is read again (plain). -/
import Derived.Test.YtefcpmnhhmpmnaaDoorE9
set_option linter.unusedVariables false
namespace Go.Proofs.YtefcpmnhhmpmnaaDoor
open Go.Ab Go.RowKit

def qB (l : List UInt8) : List UInt8 := (keysL l).flatMap qK
theorem quoteAt_qB (l : List UInt8) : quoteAt (baL l) 0 = qB l ++ [34] := by
  unfold quoteAt qB
  rw [keysAt_keysL, List.drop_zero]
theorem qB_nil : qB [] = [] := by unfold qB; rw [keysL_nil]; rfl
theorem qB_val {u k} (h : Val u k) (r : List UInt8) : qB (u ++ r) = qK k ++ qB r := by unfold qB; rw [keysL_val h, List.flatMap_cons]
theorem qB_stray {b : UInt8} {t : List UInt8} (h : ∀ u k, Val u k → ¬ u <+: b :: t) : qB (b :: t) = qK (b.toNat + 2000000) ++ qB t := by unfold qB; rw [keysL_stray h, List.flatMap_cons]

theorem dig_fact : ∀ d : Fin 16, dig d.val ≠ 59 ∧ hexV (dig d.val) = d.val ∧ digR (dig d.val) = some d.val ∧ 32 ≤ (dig d.val).toNat ∧ (dig d.val).toNat ≤ 126 := by decide
theorem hexL_all {P : UInt8 → Prop} (hP : ∀ d : Fin 16, P (dig d.val)) (u : Nat) : ∀ c ∈ hexL u, P c := by
  induction u using Nat.strongRecOn with
  | _ u ih =>
    by_cases h : u < 16
    · rw [hexL_lt h]
      intro c hc
      rw [List.mem_singleton] at hc
      subst hc
      exact hP ⟨u, h⟩
    · rw [hexL_ge h]
      intro c hc
      rcases List.mem_append.1 hc with hc | hc
      · exact ih (u / 16) (by omega) c hc
      · rw [List.mem_singleton] at hc
        subst hc
        exact hP ⟨u % 16, by omega⟩

theorem cutL_hit {c : UInt8} : ∀ {l w : List UInt8}, (∀ x ∈ l, x ≠ c) → cutL c (l ++ c :: w) = some (l, w)
  | [], w, _ => by show (if c = c then _ else _) = _; rw [if_pos rfl]
  | a :: l, w, h => by
    show (if a = c then _ else match cutL c (l ++ c :: w) with | some (x, y) => some (a :: x, y) | none => none) = _
    rw [if_neg (h a (List.mem_cons_self ..)), cutL_hit (fun x hx => h x (List.mem_cons_of_mem _ hx))]

theorem pu_app : ∀ (l : List UInt8) (c : UInt8) (n : Nat), pu (l ++ [c]) n = match pu l n with | .ok m => pu [c] m | .bad => .bad | .far => .far
  | [], c, n => rfl
  | a :: l, c, n => by
    show (if _ then PU.bad else if _ then PU.far else pu (l ++ [c]) _) = match (if _ then PU.bad else if _ then PU.far else pu l _ : PU) with | .ok m => pu [c] m | .bad => .bad | .far => .far
    by_cases h1 : 16 ≤ hexV a
    · rw [if_pos h1, if_pos h1]
    · rw [if_neg h1, if_neg h1]
      by_cases h2 : 4294967295 < 16 * n + hexV a
      · rw [if_pos h2, if_pos h2]
      · rw [if_neg h2, if_neg h2]
        exact pu_app l c _
theorem pu_one {c : UInt8} {n d : Nat} (hd : hexV c = d) (h : d < 16) (hn : 16 * n + d ≤ 4294967295) : pu [c] n = .ok (16 * n + d) := by
  show (if 16 ≤ hexV c then PU.bad else if 4294967295 < 16 * n + hexV c then PU.far else pu [] (16 * n + hexV c)) = _
  rw [hd, if_neg (by omega), if_neg (by omega)]
  rfl
theorem pu_hex (u : Nat) (hu : u ≤ 4294967295) : pu (hexL u) 0 = .ok u := by
  induction u using Nat.strongRecOn with
  | _ u ih =>
    by_cases h : u < 16
    · rw [hexL_lt h, pu_one (dig_fact ⟨u, h⟩).2.1 h (by simp only; omega)]
      simp
    · rw [hexL_ge h, pu_app, ih (u / 16) (by omega) (by omega)]
      simp only
      rw [pu_one (dig_fact ⟨u % 16, by omega⟩).2.1 (by simp only; omega) (by simp only; omega)]
      simp only
      congr 1
      omega
theorem parP_hex {u : Nat} (hu : u ≤ 4294967295) : parP (hexL u) = .ok u := by
  have h := hexL_pos u
  have e := pu_hex u hu
  cases hl : hexL u with
  | nil => rw [hl] at h; exact absurd h (by decide)
  | cons a l => rw [hl] at e; exact e

/-- What so many digits are. -/
def valR (l : List UInt8) (n : Nat) : Nat := l.foldl (fun n c => 16 * n + (digR c).getD 0) n
theorem valR_hex (u : Nat) : valR (hexL u) 0 = u := by
  induction u using Nat.strongRecOn with
  | _ u ih =>
    by_cases h : u < 16
    · rw [hexL_lt h]
      show 16 * 0 + (digR (dig u)).getD 0 = u
      rw [(dig_fact ⟨u, h⟩).2.2.1]
      simp
    · rw [hexL_ge h]
      unfold valR at ih ⊢
      rw [List.foldl_append, ih (u / 16) (by omega)]
      show 16 * (u / 16) + (digR (dig (u % 16))).getD 0 = u
      rw [(dig_fact ⟨u % 16, by omega⟩).2.2.1]
      show 16 * (u / 16) + u % 16 = u
      omega
theorem hexR_run {c : UInt8} {w : List UInt8} : ∀ (l : List UInt8) (n k : Nat), (∀ x ∈ l, x ≠ 59 ∧ ∃ d, digR x = some d) → l.length + k ≤ 7 → hexR (l ++ 59 :: c :: w) n k = some (valR l n, l.length + k, 59 :: c :: w)
  | [], n, k, _, _ => by
    rw [List.nil_append, hexR_step, if_neg (fun h => h.1 rfl), List.length_nil, Nat.zero_add]
    rfl
  | a :: l, n, k, h, hk => by
    simp only [List.length_cons] at hk
    obtain ⟨h1, d, h2⟩ := h a (List.mem_cons_self ..)
    have ih := hexR_run (c := c) (w := w) l (16 * n + d) (k + 1) (fun x hx => h x (List.mem_cons_of_mem _ hx)) (by omega)
    have e : ∃ b v, l ++ 59 :: c :: w = b :: v := by cases l with
      | nil => exact ⟨_, _, rfl⟩
      | cons b v => exact ⟨_, _, rfl⟩
    obtain ⟨b, v, e⟩ := e
    rw [List.cons_append, e, hexR_step, if_pos ⟨h1, by omega⟩, h2]
    simp only
    rw [← e, ih]
    have e2 : valR (a :: l) n = valR l (16 * n + d) := by unfold valR; rw [List.foldl_cons, h2]; rfl
    rw [e2, List.length_cons]
    congr 3
    omega
end Go.Proofs.YtefcpmnhhmpmnaaDoor
