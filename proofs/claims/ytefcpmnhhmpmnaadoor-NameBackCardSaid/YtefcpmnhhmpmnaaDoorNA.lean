/- Numbers in sixteens, the model's; a text quoted. -/
import Derived.Test.YtefcpmnhhmpmnaaDoorN9
namespace Go.Proofs.YtefcpmnhhmpmnaaDoor
open Go.Ab Go.RowKit

abbrev digs16 : ByteArray := ⟨#[48, 49, 50, 51, 52, 53, 54, 55, 56, 57, 97, 98, 99, 100, 101, 102]⟩
theorem digs_ext : ∀ q : Fin 16, digs16.extract q.val (q.val + 1) = baL [dig q.val] := by decide +kernel

theorem hex_c {u : Nat} (hu : u < 3000000) : CallR cx 40 [i64 (u : Int)] [] fun r S => r = st (baL (hexL u)) ∧ S = [] := by
  have tm : ∀ v : Nat, (v : Int).tmod 16 = ((v % 16 : Nat) : Int) := fun _ => rfl
  have td : ∀ v : Nat, (v : Int).tdiv 16 = ((v / 16 : Nat) : Int) := fun _ => rfl
  have dd : ∀ d, d < 16 → digs16.extract d (d + 1) = baL [dig d] := fun d h => digs_ext ⟨d, h⟩
  refine callR_of (R := R1) cx_ok Tryd.func40 (by kernel_rfl) rfl ?_
  have hm := tm u
  have hd := dd (u % 16) (by omega)
  have e1 : IntKind.i64.wrap (((u % 16 : Nat) : Int) + 1) = ((u % 16 + 1 : Nat) : Int) := by rw [w64 (by omega)]; omega
  generalize hU : (u : Int) = U at *
  conv => whnf
  refine ⟨by decide, ?_⟩
  conv => whnf
  refine ⟨by decide, ?_⟩
  conv => whnf
  rw [hm, e1]
  refine ⟨⟨by omega, by omega, by show ((u % 16 + 1 : Nat) : Int) ≤ 16; omega⟩, ?_⟩
  rw [Int.toNat_natCast, Int.toNat_natCast, hd]
  conv => whnf
  refine .inl ⟨fun m l S => ∃ (v : Nat) (ts : List UInt8), ((v < 16 → ts = hexL u) ∧ (¬ v < 16 → hexL (v / 16) ++ ts = hexL u)) ∧ v ≤ u ∧ m = v ∧ l = [(0, i64 (v : Int)), (3, st (baL ts))] ∧ S = [],
    ⟨_, _, ⟨u, [dig (u % 16)], ⟨fun h => by rw [hexL_lt h, Nat.mod_eq_of_lt h], fun h => (hexL_ge h).symm⟩, Nat.le_refl _, rfl, rfl, rfl⟩, ⟨congrArg (fun z => some (i64 z)) hU.symm, rfl, trivial⟩⟩, ?_⟩
  rintro v _ _ ⟨_, ts, ⟨h1, h2⟩, h3, rfl, rfl, rfl⟩
  have hm := tm (v / 16)
  have hq := td v
  have hd := dd (v / 16 % 16) (by omega)
  have e1 : IntKind.i64.wrap (((v / 16 % 16 : Nat) : Int) + 1) = ((v / 16 % 16 + 1 : Nat) : Int) := by rw [w64 (by omega)]; omega
  have e2 : IntKind.i64.wrap ((v / 16 : Nat) : Int) = ((v / 16 : Nat) : Int) := w64 (by omega)
  generalize hV : (v : Int) = V at *
  conv => whnf
  by_cases c : v < 16
  · refine brF (decide_eq_false (by show ¬ V > 15; omega)) ?_
    conv => whnf
    rw [h1 c]
    exact ⟨rfl, rfl⟩
  · refine brT (decide_eq_true (by show V > 15; omega)) ?_
    conv => whnf
    refine ⟨by decide, ?_⟩
    rw [hq]
    conv => whnf
    rw [e2]
    refine ⟨by decide, ?_⟩
    conv => whnf
    refine ⟨by decide, ?_⟩
    conv => whnf
    rw [hm, e1]
    refine ⟨⟨by omega, by omega, by show ((v / 16 % 16 + 1 : Nat) : Int) ≤ 16; omega⟩, ?_⟩
    rw [Int.toNat_natCast, Int.toNat_natCast, hd]
    conv => whnf
    have h4 := h2 c
    have hz : ((v / 16 < 16 → dig (v / 16 % 16) :: ts = hexL u) ∧ (¬ v / 16 < 16 → hexL (v / 16 / 16) ++ (dig (v / 16 % 16) :: ts) = hexL u)) := by
      refine ⟨fun h => ?_, fun h => ?_⟩
      · rw [hexL_lt h] at h4; rw [← h4, Nat.mod_eq_of_lt h]; rfl
      · rw [hexL_ge h] at h4; rw [← h4, List.append_assoc]; rfl
    have ea : baL [dig (v / 16 % 16)] ++ baL ts = baL (dig (v / 16 % 16) :: ts) := (baL_append _ _).symm
    have hl := congrArg List.length h4
    rw [List.length_append] at hl
    have hl2 := hexL_len (u := u) 5 (by omega)
    have hb : (baL [dig (v / 16 % 16)]).size + (baL ts).size ≤ 9223372036854775807 := by
      rw [show (baL ts).size = ts.length from List.size_toArray]
      show 1 + _ ≤ _
      omega
    refine ⟨hb, ?_⟩
    conv => whnf
    exact ⟨v / 16, _, 0, by omega, ⟨v / 16, dig (v / 16 % 16) :: ts, hz, by omega, rfl, rfl, rfl⟩, ⟨rfl, congrArg (fun z => some (st z)) ea, trivial⟩, rfl⟩
end Go.Proofs.YtefcpmnhhmpmnaaDoor
