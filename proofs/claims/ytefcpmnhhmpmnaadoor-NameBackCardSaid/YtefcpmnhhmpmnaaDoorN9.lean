/- Numbers in sixteens. -/
import Derived.Test.YtefcpmnhhmpmnaaDoorN8
namespace Go.Proofs.YtefcpmnhhmpmnaaDoor
open Go.Ab Go.RowKit

/-- A digit. -/
def dig (d : Nat) : UInt8 := if d < 10 then UInt8.ofNat (48 + d) else UInt8.ofNat (87 + d)
/-- A number in sixteens. -/
def hexL (u : Nat) : List UInt8 := if u < 16 then [dig u] else hexL (u / 16) ++ [dig (u % 16)]
termination_by u
decreasing_by omega
theorem hexL_lt {u : Nat} (h : u < 16) : hexL u = [dig u] := by rw [hexL, if_pos h]
theorem hexL_ge {u : Nat} (h : ¬ u < 16) : hexL u = hexL (u / 16) ++ [dig (u % 16)] := by rw [hexL, if_neg h]
theorem hexL_pos (u : Nat) : 1 ≤ (hexL u).length := by
  by_cases h : u < 16
  · rw [hexL_lt h]; exact Nat.le_refl _
  · rw [hexL_ge h, List.length_append]; show 1 ≤ _ + 1; omega
theorem hexL_len {u : Nat} : ∀ k, u < 16 ^ (k + 1) → (hexL u).length ≤ k + 1
  | 0, h => by rw [hexL_lt (by simpa using h)]; exact Nat.le_refl _
  | k + 1, h => by
    by_cases h1 : u < 16
    · rw [hexL_lt h1]; show 1 ≤ _; omega
    · rw [hexL_ge h1, List.length_append]
      have : u / 16 < 16 ^ (k + 1) := by rw [Nat.div_lt_iff_lt_mul (by decide)]; rw [Nat.pow_succ] at h; exact h
      have := hexL_len (u := u / 16) k this
      show _ + 1 ≤ _
      omega

abbrev digs : ByteArray := ⟨#[48, 49, 50, 51, 52, 53, 54, 55, 56, 57, 97, 98, 99, 100, 101, 102, 103, 104, 105, 106, 107, 108, 109, 110, 111, 112, 113, 114, 115, 116, 117, 118, 119, 120, 121, 122]⟩
theorem digs_at : ∀ q : Fin 16, byteAt digs q.val = ((dig q.val).toNat : Int) := by decide +kernel
theorem and15 (v : Nat) (h : v < 4294967296) : IntKind.u64.wrap ((BitVec.ofInt IntKind.u64.bits (v : Int) &&& BitVec.ofInt IntKind.u64.bits (IntKind.u64.wrap (IntKind.u64.wrap 16 - 1))).toNat : Int) = ((v % 16 : Nat) : Int) := by
  have e : (BitVec.ofInt IntKind.u64.bits (v : Int) &&& BitVec.ofInt IntKind.u64.bits (IntKind.u64.wrap (IntKind.u64.wrap 16 - 1))).toNat = v % 16 := by
    rw [BitVec.toNat_and]
    have e1 : (BitVec.ofInt IntKind.u64.bits (v : Int)).toNat = v := by
      rw [BitVec.toNat_ofInt]
      show ((v : Int) % (2 ^ 64 : Nat)).toNat = v
      omega
    have e2 : (BitVec.ofInt IntKind.u64.bits (IntKind.u64.wrap (IntKind.u64.wrap 16 - 1))).toNat = 2 ^ 4 - 1 := by decide
    rw [e1, e2, Nat.and_two_pow_sub_one_eq_mod]
  rw [e]
  simp [IntKind.wrap, IntKind.bits, IntKind.signed]
  omega

abbrev u8s (l : List UInt8) : List D := l.map fun b => D.int .u8 b.toNat
theorem setP_u8 {l : List UInt8} {j : Nat} {b : UInt8} {n : Nat} (h : j < l.length) : (AV.d (.arr n 1 (u8s l))).setP ([] ++ [.ix j 1 n]) (.d (.int .u8 (b.toNat : Int))) = some (.d (.arr n 1 (u8s (l.set j b)))) := by
  have e : (u8s l).getD j .nilP = .int .u8 ((l[j]'h).toNat : Int) := by
    rw [List.getD_eq_getElem?_getD, List.getElem?_map, List.getElem?_eq_getElem h]; rfl
  simp only [List.nil_append, AV.setP, AV.getS, D.getS, Nat.beq_refl, Bool.and_true, e, AV.isAgg, D.isAgg, AV.setS]
  unfold u8s
  rw [List.map_set]
  rfl

theorem drop_set_self {l : List UInt8} {j : Nat} {b : UInt8} (h : j < l.length) : (l.set j b).drop j = b :: l.drop (j + 1) := by
  rw [List.drop_eq_getElem_cons (by rw [List.length_set]; exact h), List.getElem_set_self, List.drop_set_of_lt (by omega)]

theorem fb_c {u : Nat} (hu : u < 3000000) : CallR cx 61 [.d (.sl 0 []), u64 (u : Int), i64 16, bo false, bo false] [] fun r S => r = .tup [.d (.sl 0 []), st (baL (hexL u))] ∧ S = [] := by
  have hle := hexL_len (u := u) 5 (by omega)
  generalize hU : (u : Int) = U
  refine callR_of (R := R1) cx_ok Tryd.func61 (by kernel_rfl) rfl ?_
  conv => whnf
  refine .inl ?_
  conv => whnf
  refine ⟨_, pow2_c, ?_⟩
  rintro _ _ ⟨rfl, rfl⟩
  conv => whnf
  refine ⟨_, tz_c, ?_⟩
  rintro _ _ ⟨rfl, rfl⟩
  conv => whnf
  refine .inl ⟨fun m l S => ∃ (v i : Nat) (xs : List UInt8) (ts : List UInt8), xs.length = 65 ∧ i + ts.length = 65 ∧ hexL v ++ ts = hexL u ∧ xs.drop i = ts ∧ v ≤ u ∧ m = v ∧
      l = [(1, u64 (v : Int)), (3, bo false), (4, bo false), (10, .d (.sl 0 [])), (12, .ptr 0 []), (13, i64 (i : Int)), (14, u64 (IntKind.u64.wrap 4)), (15, u64 (IntKind.u64.wrap 16)), (16, u64 (IntKind.u64.wrap (IntKind.u64.wrap 16 - 1)))] ∧ S = [.var (.d (.arr 65 1 (u8s xs)))],
    ⟨_, _, ⟨u, 65, List.replicate 65 0, [], List.length_replicate, rfl, List.append_nil _, rfl, Nat.le_refl _, rfl, rfl, rfl⟩, ⟨congrArg (fun z => some (u64 z)) hU.symm, rfl, rfl, rfl, rfl, rfl, rfl, rfl, rfl, trivial⟩⟩, ?_⟩
  rintro v _ _ ⟨_, i, xs, ts, h1, h2, h3, h4, h5, rfl, rfl, rfl⟩
  have hV := and15 v (by omega)
  have hlen := congrArg List.length h3
  rw [List.length_append] at hlen
  have hp := hexL_pos v
  have w16 : IntKind.u64.wrap 16 = 16 := by decide
  obtain ⟨j, hj⟩ : ∃ j : Nat, i = j + 1 := ⟨i - 1, by omega⟩
  subst hj
  have ei : IntKind.i64.wrap (((j + 1 : Nat) : Int) - 1) = (j : Int) := by rw [w64 (by omega)]; omega
  have dd : ∀ d, d < 16 → byteAt digs d = ((dig d).toNat : Int) := fun d h => digs_at ⟨d, h⟩
  by_cases c : v < 16
  · rw [hexL_lt c] at h3
    have hvd := dd v c
    generalize hVV : (v : Int) = V at *
    have hvn : V.toNat = v := by omega
    conv => whnf
    refine brF (decide_eq_false (by show ¬ V ≥ IntKind.u64.wrap 16; omega)) ?_
    conv => whnf
    refine ⟨⟨by omega, by show V < 36; omega⟩, ?_⟩
    rw [hvn, hvd, ei]
    refine ⟨⟨by omega, by omega⟩, ?_⟩
    conv => whnf
    rw [Int.toNat_natCast, show ({ k := TK.int IntKind.u8, size := 1, bytes := 1, zero := some (D.int IntKind.u8 0), eq := true, cmp := true } : TI).size = 1 from rfl, setP_u8 (by omega)]
    conv => whnf
    refine ⟨⟨by omega, by omega, by omega, by omega, by decide⟩, ?_⟩
    conv => whnf
    refine ⟨baL (dig v :: ts), ⟨?_, ?_⟩, ?_⟩
    · rw [Int.toNat_natCast, ← List.map_drop, drop_set_self (by omega), h4, List.take_of_length_le, bytes_baL]
      rw [List.length_map, List.length_cons]; omega
    · show ((65 : Nat) - (j : Int)).toNat = (dig v :: ts).toArray.size
      rw [List.size_toArray, List.length_cons]; omega
    conv => whnf
    rw [show dig v :: ts = hexL u from h3]
    exact ⟨rfl, rfl⟩
  · rw [hexL_ge c] at h3
    have hvd := dd (v % 16) (by omega)
    generalize hVV : (v : Int) = V at *
    conv => whnf
    refine brT (decide_eq_true (by show V ≥ IntKind.u64.wrap 16; omega)) ?_
    conv => whnf
    rw [hV, Int.toNat_natCast, hvd]
    refine ⟨⟨by omega, by show ((v % 16 : Nat) : Int) < 36; omega⟩, ?_⟩
    rw [ei]
    refine ⟨⟨by omega, by omega⟩, ?_⟩
    conv => whnf
    rw [Int.toNat_natCast, show ({ k := TK.int IntKind.u8, size := 1, bytes := 1, zero := some (D.int IntKind.u8 0), eq := true, cmp := true } : TI).size = 1 from rfl, setP_u8 (by omega)]
    conv => whnf
    refine ⟨by decide, ?_⟩
    conv => whnf
    have eV : V.fdiv (2 ^ min (IntKind.u64.wrap 4).toNat IntKind.u64.bits) = ((v / 16 : Nat) : Int) := by rw [← hVV]; exact fdiv_n v 4
    rw [eV]
    exact ⟨v / 16, _, 1, by omega, ⟨v / 16, j, xs.set j (dig (v % 16)), dig (v % 16) :: ts, by rw [List.length_set]; exact h1, by rw [List.length_cons]; omega, by rw [← h3, List.append_assoc]; rfl,
      by rw [drop_set_self (by omega), h4], by omega, rfl, rfl, rfl⟩, ⟨rfl, rfl, rfl, rfl, rfl, rfl, rfl, rfl, rfl, trivial⟩, rfl⟩

theorem fu_c {u : Nat} (hu : u < 3000000) : CallR cx 49 [u64 (u : Int), i64 16] [] fun r S => r = st (baL (hexL u)) ∧ S = [] := by
  have fb := fb_c hu
  generalize (u : Int) = U at *
  refine callR_of (R := R1) cx_ok Tryd.func49 (by kernel_rfl) rfl ?_
  conv => whnf
  refine ⟨_, fb, ?_⟩
  rintro _ _ ⟨rfl, rfl⟩
  conv => whnf
  exact ⟨rfl, rfl⟩
theorem formatUint_c {u : Nat} (hu : u < 3000000) : CallR cx 39 [u64 (u : Int), i64 16] [] fun r S => r = st (baL (hexL u)) ∧ S = [] := by
  have fb := fu_c hu
  generalize (u : Int) = U at *
  refine callR_of (R := R1) cx_ok Tryd.func39 (by kernel_rfl) rfl ?_
  conv => whnf
  refine ⟨_, fb, ?_⟩
  rintro _ _ ⟨rfl, rfl⟩
  conv => whnf
  exact ⟨rfl, rfl⟩
end Go.Proofs.YtefcpmnhhmpmnaaDoor
