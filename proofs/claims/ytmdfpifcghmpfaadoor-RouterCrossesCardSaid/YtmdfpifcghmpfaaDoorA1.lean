/- Numbers of 64 bits: sums and differences. -/
import Derived.Test.YtmdfpifcghmpfaaDoorCx
namespace Go.Proofs.YtmdfpifcghmpfaaDoor
open Go.Ab

theorem add64 {S : List Blk} {x y z : Int} (hx : U x) (hy : U y) (hz : 0 ≤ z ∧ z ≤ 1) :
    CallR cx 57 [u64 x, u64 y, u64 z] S fun r S' => r = .tup [u64 ((x + y + z) % 18446744073709551616), u64 ((x + y + z) / 18446744073709551616)] ∧ S' = S :=
  add64_c Tryd.func57 (by kernel_rfl) (by kernel_rfl) (by kernel_rfl) (by kernel_rfl) hx.1 hy.1 hz

theorem add_c {a b : Int} (ha : U a) (hb : U b) : CallR cx 53 [u64 a, u64 b] [] fun r S =>
    r = .tup [u64 (if a + b < 18446744073709551616 then a + b else 0), i64 (if a + b < 18446744073709551616 then 0 else 10)] ∧ S = [] := by
  obtain ⟨ha1, ha2⟩ := ha
  obtain ⟨hb1, hb2⟩ := hb
  refine callR_of (R := R1) cx_ok Tryd.func53 (by kernel_rfl) rfl ?_
  conv => whnf
  refine ⟨_, add64 ⟨ha1, ha2⟩ ⟨hb1, hb2⟩ (by decide), ?_⟩
  rintro _ _ ⟨rfl, rfl⟩
  conv => whnf
  refine brec (fun h => ?_) (fun h => ?_)
  · conv => whnf
    have h := eq_of_beq h
    rw [if_pos (by omega), if_pos (by omega)]
    exact ⟨congrArg (fun z => AV.tup [u64 z, i64 0]) (by omega), rfl⟩
  · conv => whnf
    have h := ne_of_beq_false h
    rw [if_neg (by omega), if_neg (by omega)]
    exact ⟨rfl, rfl⟩

theorem radd_c {a b : Int} (ha : U a) (hb : U b) : CallR cx 112 [u64 a, u64 b] [] fun r S =>
    r = .tup [u64 (if a + b < 18446744073709551616 then a + b else 0), i64 (if a + b < 18446744073709551616 then 0 else 10)] ∧ S = [] := by
  obtain ⟨ha1, ha2⟩ := ha
  obtain ⟨hb1, hb2⟩ := hb
  refine callR_of (R := R1) cx_ok Tryd.func112 (by kernel_rfl) rfl ?_
  conv => whnf
  refine brec (fun h => ?_) (fun h => ?_)
  · conv => whnf
    have h := of_decide_eq_true h
    rw [wrap64] at h
    rw [if_neg (by omega), if_neg (by omega)]
    exact ⟨rfl, rfl⟩
  · conv => whnf
    have h := of_decide_eq_false h
    rw [wrap64] at h
    rw [if_pos (by omega), if_pos (by omega), wrap64]
    exact ⟨congrArg (fun z => AV.tup [u64 z, i64 0]) (by omega), rfl⟩

theorem sub_c {a b : Int} (ha : U a) (hb : U b) : CallR cx 55 [u64 a, u64 b] [] fun r S => r = .tup [u64 (if a < b then 0 else a - b), i64 (if a < b then 11 else 0)] ∧ S = [] := by
  obtain ⟨ha1, ha2⟩ := ha
  obtain ⟨hb1, hb2⟩ := hb
  refine callR_of (R := R1) cx_ok Tryd.func55 (by kernel_rfl) rfl ?_
  conv => whnf
  refine brec (fun h => ?_) (fun h => ?_)
  · conv => whnf
    have h := of_decide_eq_true h
    rw [if_pos h, if_pos h]
    exact ⟨rfl, rfl⟩
  · conv => whnf
    have h := of_decide_eq_false h
    rw [if_neg h, if_neg h, wrap64]
    exact ⟨congrArg (fun z => AV.tup [u64 z, i64 0]) (by omega), rfl⟩

end Go.Proofs.YtmdfpifcghmpfaaDoor
