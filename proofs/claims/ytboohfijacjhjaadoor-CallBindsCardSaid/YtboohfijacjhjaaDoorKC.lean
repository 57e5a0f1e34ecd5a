/- Readers of digests and signatures. -/
import Derived.Test.YtboohfijacjhjaaDoorP3
set_option linter.unusedVariables false
namespace Go.Proofs.YtboohfijacjhjaaDoor
open Go.Ab Go.RowKit

set_option maxRecDepth 10000 in
theorem z32_B : D.bytes z32 = List.replicate 32 (.int .u8 0) := by rfl

theorem got32 {r : Rs} : (r.got 32).size = 32 ∨ r.got 32 = .empty := by
  unfold Rs.got tkS
  split
  · rename_i h
    left
    rw [ByteArray.size_extract]
    omega
  · exact .inr rfl

theorem dig_bytes {t : ByteArray} (h : t.size = 32 ∨ t = .empty) : (List.replicate 32 (D.int .u8 0)).take 0 ++ ((D.bytes t).take 32 ++ (List.replicate 32 (D.int .u8 0)).drop (0 + Nat.min t.size 32)) = D.bytes (dgOf t) := by
  rcases h with h | rfl
  · have e : dgOf t = t := if_pos h
    rw [e, List.take_zero, List.nil_append, List.take_of_length_le (by rw [bytes_length]; omega), h]
    show D.bytes t ++ [] = _
    rw [List.append_nil]
  · have e : dgOf .empty = z32 := if_neg (by decide)
    rw [e, z32_B]
    rfl

theorem ndig_c {r : Rs} : CallR cx 90 [.ptr 0 []] [.var (.d r.d)] fun v S => v = .d (dgD r.dig) ∧ S = [.var (.d (r.take 32).d)] := by
  have tk := ntake_c (r := r) (n := 32) (by decide)
  have e := dig_bytes (got32 (r := r))
  unfold Rs.dig dgD
  generalize r.got 32 = t at *
  generalize (r.take 32).d = R at *
  generalize r.d = R0 at *
  refine callR_of (R := R1) cx_ok Tryd.func90 (by kernel_rfl) rfl ?_
  conv => whnf
  refine ⟨by kernel_rfl, ?_⟩
  conv => whnf
  refine ⟨by decide, ?_⟩
  conv => whnf
  refine ⟨_, _, tk, ?_⟩
  conv => whnf
  refine ⟨by kernel_rfl, ?_⟩
  conv => whnf
  refine ⟨?_, rfl⟩
  exact congrArg (fun z => AV.d (.arr 32 1 z)) e

abbrev u8s (l : List UInt8) : List D := l.map fun b => D.int .u8 b.toNat
theorem setP_u8 {l : List UInt8} {j : Nat} {b : UInt8} {n : Nat} (h : j < l.length) : (AV.d (.arr n 1 (u8s l))).setP ([] ++ [.ix j 1 n]) (.d (.int .u8 (b.toNat : Int))) = some (.d (.arr n 1 (u8s (l.set j b)))) := by
  have e : (u8s l).getD j .nilP = .int .u8 ((l[j]'h).toNat : Int) := by
    rw [List.getD_eq_getElem?_getD, List.getElem?_map, List.getElem?_eq_getElem h]; rfl
  simp only [List.nil_append, AV.setP, AV.getS, D.getS, Nat.beq_refl, Bool.and_true, e, AV.sizeR_eq, beqR_eq, AV.size, D.size, AV.isAgg, D.isAgg, AV.setS, beq_self_eq_true]
  unfold u8s
  rw [List.map_set]

/-- A digest with its first bytes laid. -/
def lay (t : ByteArray) (j : Nat) : List UInt8 := t.data.toList.take j ++ List.replicate (32 - j) 0

theorem lay_full {t : ByteArray} (h : t.size = 32 ∨ t = .empty) : u8s (lay t t.size) = D.bytes (dgOf t) := by
  unfold lay
  rcases h with h | rfl
  · have e : dgOf t = t := if_pos h
    rw [e, List.take_of_length_le (by rw [Array.length_toList]; exact Nat.le_refl _), h]
    show u8s (t.data.toList ++ []) = _
    rw [List.append_nil]
    rfl
  · have e : dgOf .empty = z32 := if_neg (by decide)
    rw [e, z32_B]
    rfl

theorem lay_0 {t : ByteArray} : List.replicate 32 (D.int .u8 0) = u8s (lay t 0) := by
  unfold lay
  rw [List.take_zero]
  rfl

theorem lay_set {t : ByteArray} {j : Nat} (h : j < t.data.toList.length) (h32 : j < 32) : (lay t j).set j (t.data.toList[j]'h) = lay t (j + 1) := by
  unfold lay
  have e1 : (t.data.toList.take j).length = j := by rw [List.length_take]; omega
  rw [List.set_append_right _ _ (by omega), e1, Nat.sub_self, List.take_add_one, List.getElem?_eq_getElem h]
  have e3 : List.replicate (32 - j) (0 : UInt8) = 0 :: List.replicate (32 - (j + 1)) 0 := by
    rw [show 32 - j = (32 - (j + 1)) + 1 by omega, List.replicate_succ]
  rw [e3, List.set_cons_zero]
  simp [List.append_assoc]

theorem lay_len {t : ByteArray} {j : Nat} (h : j ≤ t.data.toList.length) (h32 : j ≤ 32) : (lay t j).length = 32 := by
  unfold lay
  rw [List.length_append, List.length_take, List.length_replicate]
  omega

theorem rdigR_c {r : Rs} : CallR cx 97 [.ptr 0 []] [.var (.d r.d)] fun v S => v = .d (dgD r.dig) ∧ S = [.var (.d (r.take 32).d)] := by
  have tk := rd_rtake_c (r := r) (n := 32) (by decide)
  have h32 := got32 (r := r)
  have e := lay_full h32
  have hsz : (r.got 32).size ≤ 32 := by
    rcases h32 with h | h
    · omega
    · rw [h]; decide
  unfold Rs.dig dgD
  generalize r.got 32 = t at *
  generalize (r.take 32).d = R at *
  generalize r.d = R0 at *
  refine callR_of (R := R1) cx_ok Tryd.func97 (by kernel_rfl) rfl ?_
  conv => whnf
  refine ⟨_, tk, ?_⟩
  rintro _ _ ⟨rfl, rfl⟩
  conv => whnf
  refine .inl ⟨fun m L S => ∃ j : Nat, j ≤ t.size ∧ m = t.size - j ∧
      L = [(2, .ptr 1 []), (3, .ptr 2 []), (4, st t), (5, i64 (j : Int))] ∧ S = [.var (.d R), .var (.d (.arr 32 1 (List.replicate 32 (.int .u8 0)))), .var (.d (.arr 32 1 (u8s (lay t j))))],
    ⟨_, _, ⟨0, Nat.zero_le _, rfl, rfl, congrArg (fun z => [Blk.var (.d R), .var (.d (.arr 32 1 (List.replicate 32 (.int .u8 0)))), .var (.d (.arr 32 1 z))]) lay_0⟩, ⟨rfl, rfl, rfl, rfl, trivial⟩⟩, ?_⟩
  have htl : t.data.toList.length = t.size := Array.length_toList
  rintro _ _ _ ⟨j, hj, rfl, rfl, rfl⟩
  conv => whnf
  refine brec (fun h4 => ?_) (fun h4 => ?_)
  · have h4 := of_decide_eq_true h4
    have hlt : j < t.data.toList.length := by omega
    have hl := lay_len (t := t) (j := j) (by omega) (by omega)
    have hs := lay_set hlt (by omega : j < 32)
    have hb := list_getD hlt
    have e3 : IntKind.i64.wrap ((j : Int) + 1) = ((j + 1 : Nat) : Int) := by rw [w64 (by omega)]; omega
    conv => whnf
    refine ⟨⟨by omega, by omega⟩, ?_⟩
    rw [Int.toNat_natCast, hb]
    generalize t.data.toList[j]'hlt = b at *
    conv => whnf
    refine ⟨⟨by omega, by omega⟩, ?_⟩
    conv => whnf
    rw [Int.toNat_natCast, show ({ k := TK.int IntKind.u8, size := 1, bytes := 1, zero := some (D.int IntKind.u8 0), eq := true, cmp := true } : TI).size = 1 from rfl, setP_u8 (by omega), hs]
    conv => whnf
    exact ⟨_, _, 3, (by omega : t.size - (j + 1) < t.size - j), ⟨j + 1, by omega, rfl, rfl, rfl⟩,
      ⟨rfl, rfl, rfl, congrArg (fun z => some (i64 z)) e3, trivial⟩, rfl⟩
  · have h4 := of_decide_eq_false h4
    obtain rfl : j = t.size := by omega
    rw [e]
    conv => whnf
    exact ⟨rfl, rfl⟩

theorem ext_bytes {t : ByteArray} (h : 32 ≤ t.size) : (List.replicate 32 (D.int .u8 0)).take 0 ++ ((D.bytes t).take 32 ++ (List.replicate 32 (D.int .u8 0)).drop (0 + Nat.min t.size 32)) = D.bytes (t.extract 0 32) := by
  have e1 : Nat.min t.size 32 = 32 := Nat.min_eq_right h
  rw [e1, List.take_zero, List.nil_append, List.drop_of_length_le (by simp), List.append_nil]
  have e2 : t = t.extract 0 32 ++ t.extract 32 t.size := by
    rw [ByteArray.extract_append_extract, Nat.min_eq_left (by omega), Nat.max_eq_right (by omega), ByteArray.extract_zero_size]
  have e3 : (t.extract 0 32).size = 32 := by rw [ByteArray.size_extract]; omega
  conv => lhs; rw [e2]
  rw [bytes_append, List.take_left' (by rw [bytes_length]; exact e3)]

theorem ndgs_c {r : Rs} {m : Int} (h0 : 0 ≤ m) (hmm : m ≤ 100) (hm : r.s.size < 9223372036854775807) :
    CallR cx 92 [.ptr 0 [], i64 m] [.var (.d r.d)] fun v S => v = .d (.sl 32 (dgs (r.dgl m))) ∧ S = [.var (.d (r.dglR m).d)] := by
  have nc := ncount_c (r := r) h0 (by omega) hm
  have hc0 := cnt_nonneg r m
  have hcm : r.cnt m ≤ 100 := by unfold Rs.cnt; split <;> omega
  have nt := ntake_c (r := r.cntR m) (n := r.cnt m * 32) (by omega)
  have hsz : ∃ q, ((r.cntR m).got (r.cnt m * 32)).size = 32 * q ∧ q ≤ 100 := by
    unfold Rs.got tkS
    split
    · rename_i h
      exact ⟨(r.cnt m).toNat, by rw [ByteArray.size_extract]; omega, by omega⟩
    · exact ⟨0, rfl, by omega⟩
  unfold Rs.dgl Rs.dglR
  have ew : IntKind.i64.wrap (r.cnt m * 32) = r.cnt m * 32 := w64 (by omega)
  generalize r.cnt m = k at *
  generalize (r.cntR m).got (k * 32) = t at *
  generalize ((r.cntR m).take (k * 32)).d = R at *
  generalize (r.cntR m).d = R1' at *
  generalize r.d = R0 at *
  obtain ⟨q, hq, hq1⟩ := hsz
  have hch : chunk t = chunkN q t := by unfold chunk; rw [hq, Nat.mul_div_cancel_left _ (by decide)]
  rw [hch]
  refine callR_of (R := R1) cx_ok Tryd.func92 (by kernel_rfl) rfl ?_
  conv => whnf
  refine .inl ?_
  conv => whnf
  refine ⟨_, nc, ?_⟩
  rintro _ _ ⟨rfl, rfl⟩
  conv => whnf
  rw [ew]
  refine ⟨_, nt, ?_⟩
  rintro _ _ ⟨rfl, rfl⟩
  conv => whnf
  refine .inr ⟨43, 32, ?_⟩
  conv => whnf
  refine .inr ⟨fun p L S => ∃ (out : List ByteArray) (rest : ByteArray), rest.size = 32 * p ∧ out ++ chunkN p rest = chunkN q t ∧ out.length + p = q ∧
      L = [(6, st rest), (7, .row 1)] ∧ S = [.var (.d R), .row 43 32 (dgs out)],
    ⟨_, _, ⟨[], t, hq, rfl, by simp, rfl, rfl⟩, ⟨rfl, rfl, trivial⟩⟩, ?_⟩
  rintro p _ _ ⟨out, rest, h1, h2, h3, rfl, rfl⟩
  conv => whnf
  cases p with
  | zero =>
    have hr : rest = ⟨#[]⟩ := size0 (by omega)
    have ho : out = chunkN q t := by rw [← h2]; show out = out ++ []; rw [List.append_nil]
    refine brF ?_ ?_
    · rw [decide_eq_true hr]; rfl
    conv => whnf
    rw [ho]
    exact ⟨rfl, rfl⟩
  | succ p =>
    have hr : ¬ rest = ⟨#[]⟩ := fun e => by
      have : rest.size = 0 := by rw [e]; rfl
      omega
    have eb := ext_bytes (t := rest) (by omega)
    have hch2 : chunkN (p + 1) rest = rest.extract 0 32 :: chunkN p (rest.extract 32 rest.size) := rfl
    have hs2 : (rest.extract 32 rest.size).size = 32 * p := by rw [ByteArray.size_extract]; omega
    rw [hch2] at h2
    have hlo : (dgs out).length = out.length := List.length_map _
    have ea : dgs out ++ [dgD (rest.extract 0 32)] = dgs (out ++ [rest.extract 0 32]) := by unfold dgs; rw [List.map_append]; rfl
    refine brT ?_ ?_
    · rw [decide_eq_false hr]; rfl
    conv => whnf
    refine ⟨by decide, ?_⟩
    conv => whnf
    have eb2 : List.take (Int.toNat 0) (List.replicate 32 (D.int IntKind.u8 0)) ++ (List.take (((32 : Nat) : Int) - 0).toNat (D.bytes rest) ++ List.drop (Int.toNat 0 + rest.size.min (((32 : Nat) : Int) - 0).toNat) (List.replicate 32 (D.int IntKind.u8 0))) = D.bytes (rest.extract 0 32) := eb
    rw [eb2]
    generalize hY : D.bytes (rest.extract 0 32) = Y at *
    refine ⟨⟨Nat.succ_pos _, by show ((dgs out).length + 1) * (32 + 1) ≤ _; omega⟩, ?_⟩
    conv => whnf
    refine ⟨⟨by omega, by omega, by omega⟩, ?_⟩
    conv => whnf
    refine ⟨p, [(6, st (rest.extract 32 rest.size)), (7, .row 3)], [0, 3], by omega, ⟨rfl, rfl, trivial⟩, ?_⟩
    conv => whnf
    refine ⟨out ++ [rest.extract 0 32], rest.extract 32 rest.size, hs2, by rw [List.append_assoc]; exact h2, by rw [List.length_append, List.length_cons, List.length_nil]; omega, rfl, ?_⟩
    rw [← ea]
    unfold dgD
    rw [hY]
    rfl
end Go.Proofs.YtboohfijacjhjaaDoor
