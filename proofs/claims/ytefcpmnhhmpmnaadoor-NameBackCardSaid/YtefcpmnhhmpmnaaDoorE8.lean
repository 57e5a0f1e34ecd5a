/- The document's Unquote. -/
import Derived.Test.YtefcpmnhhmpmnaaDoorE7
set_option linter.unusedVariables false
namespace Go.Proofs.YtefcpmnhhmpmnaaDoor
open Go.Ab Go.RowKit
variable [Errs]

/-- A digit of sixteen. -/
def digR (a : UInt8) : Option Nat := if 48 ≤ a.toNat ∧ a.toNat ≤ 57 then some (a.toNat - 48) else if 97 ≤ a.toNat ∧ a.toNat ≤ 102 then some (a.toNat - 87) else none
def hexR : List UInt8 → Nat → Nat → Option (Nat × Nat × List UInt8)
  | [], n, k => some (n, k, [])
  | [a], n, k => some (n, k, [a])
  | a :: b :: w, n, k => if a ≠ 59 ∧ k < 7 then match digR a with
      | none => none
      | some d => hexR (b :: w) (16 * n + d) (k + 1)
    else some (n, k, a :: b :: w)
/-- What stands behind a number. -/
def tailR (m : Nat) (rec' : List UInt8 → Option (List UInt8)) (b : UInt8) : Option (Nat × Nat × List UInt8) → Option (List UInt8)
  | none => none
  | some (n, k, w) => match w with
    | _ :: c :: w => if k = 0 ∨ 6 < k then none else if b = 120 ∧ n ≤ 255 then (rec' (c :: w)).map (UInt8.ofNat n :: ·)
      else if b = 117 ∧ n ≤ 1114111 then (rec' (c :: w)).map (encK n ++ ·) else none
    | _ => none
def decR : Nat → List UInt8 → Option (List UInt8)
  | _, [] => some []
  | _, [_] => some []
  | 0, _ :: _ :: _ => none
  | m + 1, a :: b :: w => if a ≠ 92 then (decR m (b :: w)).map (a :: ·) else if b = 34 ∨ b = 92 then (decR m w).map (b :: ·)
    else tailR m (decR m) b (hexR w 0 0)
def candR (t : List UInt8) : Option (List UInt8) := if 2 ≤ t.length ∧ t.head? = some 34 ∧ t.getLast? = some 34 then decR t.length (t.drop 1) else none

omit [Errs] in
theorem byteAt_baL {t : List UInt8} {j : Nat} (h : j < t.length) : byteAt (baL t) j = (((t[j]'h).toNat : Nat) : Int) := by
  unfold byteAt
  show (((t.toArray.toList.getD j 0).toNat : Nat) : Int) = _
  rw [List.toList_toArray, List.getD_eq_getElem?_getD, List.getElem?_eq_getElem h]
  rfl
omit [Errs] in
theorem drop2 {t : List UInt8} {i : Nat} (h : i + 1 < t.length) : t.drop i = t[i]'(by omega) :: t[i + 1]'h :: t.drop (i + 2) := by
  rw [List.drop_eq_getElem_cons (by omega), List.drop_eq_getElem_cons (by omega)]

/-- The first test. -/
theorem runq_no {t : List UInt8} (ht : t.length ≤ 100000) (h : ¬ (2 ≤ t.length ∧ t.head? = some 34 ∧ t.getLast? = some 34)) :
    CallR cxE 21 [st (baL t)] [] fun r S => r = .tup [st (baL []), bo false] ∧ S = [] := by
  have hz := baL_size t
  have el : IntKind.i64.wrap (((baL t).size : Int) - 1) = (t.length : Int) - 1 := by rw [hz, w64 (by omega)]
  refine callR_of (R := R1) cxE_ok Tryd.func21 (by kernel_rfl) rfl ?_
  by_cases h1 : 2 ≤ t.length
  case neg =>
    generalize baL t = s at *
    conv => whnf
    refine brT (decide_eq_true (by omega)) ?_
    conv => whnf
    exact ⟨rfl, rfl⟩
  have b0 := byteAt_baL (t := t) (j := 0) (by omega)
  have b1 := byteAt_baL (t := t) (j := t.length - 1) (by omega)
  have g0 : t.head? = some (t[0]'(by omega)) := by rw [List.head?_eq_getElem?, List.getElem?_eq_getElem]
  have g1 : t.getLast? = some (t[t.length - 1]'(by omega)) := by rw [List.getLast?_eq_getElem?, List.getElem?_eq_getElem]
  rw [g0, g1] at h
  generalize t[0]'(by omega) = x at *
  generalize t[t.length - 1]'(by omega) = y at *
  have hx : (x.toNat : Int) = 34 ↔ x = 34 := ⟨fun h => UInt8.toNat_inj.1 (by show x.toNat = 34; omega), fun h => by rw [h]; rfl⟩
  have hy : (y.toNat : Int) = 34 ↔ y = 34 := ⟨fun h => UInt8.toNat_inj.1 (by show y.toNat = 34; omega), fun h => by rw [h]; rfl⟩
  rw [← b0] at hx
  rw [← b1] at hy
  generalize baL t = s at *
  conv => whnf
  refine brF (decide_eq_false (by omega)) ?_
  conv => whnf
  refine ⟨⟨by decide, by omega⟩, ?_⟩
  conv => whnf
  by_cases c0 : x = 34
  · refine brF (bne_eq_false_iff_eq.2 (hx.2 c0)) ?_
    conv => whnf
    rw [el]
    have e3 : ((t.length : Int) - 1).toNat = t.length - 1 := by omega
    refine ⟨⟨by omega, by omega⟩, ?_⟩
    conv => whnf
    rw [e3]
    have c1 : y ≠ 34 := fun h' => h ⟨h1, by rw [c0], by rw [h']⟩
    refine brT (bne_iff_ne.2 (fun k => c1 (hy.1 k))) ?_
    conv => whnf
    exact ⟨rfl, rfl⟩
  · refine brT (bne_iff_ne.2 (fun k => c0 (hx.1 k))) ?_
    conv => whnf
    exact ⟨rfl, rfl⟩
end Go.Proofs.YtefcpmnhhmpmnaaDoor
