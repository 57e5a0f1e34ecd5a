/- One-time keys (layer 5) without a log: what is revealed. -/
import Derived.Test.YtghblnkplfajjaaDoorWC
set_option linter.unusedVariables false
namespace Go.Proofs.YtghblnkplfajjaaDoor
open Go.Ab

/-- A digest's bit. -/
def bitP (d : ByteArray) (i : Nat) : Nat := (BitVec.ofInt 64 (IntKind.i64.wrap ((byteAt d (i / 8)).fdiv (2 ^ min (((7 - i % 8 : Nat) : Int)).toNat 8))) &&& BitVec.ofInt 64 1).toNat
theorem bitP_lt (d : ByteArray) (i : Nat) : bitP d i < 2 := by
  unfold bitP
  rw [BitVec.toNat_and, show (BitVec.ofInt 64 1).toNat = 1 by decide]
  have := Nat.and_le_right (n := (BitVec.ofInt 64 (IntKind.i64.wrap ((byteAt d (i / 8)).fdiv (2 ^ min (((7 - i % 8 : Nat) : Int)).toNat 8)))).toNat) (m := 1)
  omega

theorem bit_c {d : ByteArray} {i : Nat} (h : d.size = 32) (hi : i < 256) : CallR cx 47 [.d (dgD d), i64 (i : Int)] [] fun r S => r = i64 (bitP d i : Int) ∧ S = [] := by
  have eq : IntKind.i64.wrap (Int.tdiv (i : Int) 8) = ((i / 8 : Nat) : Int) := by
    rw [show Int.tdiv (i : Int) 8 = ((i / 8 : Nat) : Int) from rfl, w64 (by omega)]
  have er : IntKind.i64.wrap (7 - Int.tmod (i : Int) 8) = ((7 - i % 8 : Nat) : Int) := by
    rw [show Int.tmod (i : Int) 8 = ((i % 8 : Nat) : Int) from rfl, w64 (by omega)]; omega
  have hgd : (D.bytes d).getD (i / 8) .nilP = .int .u8 (byteAt d (i / 8)) := by
    have hl : i / 8 < d.data.toList.length := by rw [Array.length_toList]; show _ < d.size; omega
    unfold D.bytes byteAt
    rw [List.getD_eq_getElem?_getD, List.getElem?_map, List.getD_eq_getElem?_getD, List.getElem?_eq_getElem hl]
    rfl
  have hb := bitP_lt d i
  have hbe : bitP d i = (BitVec.ofInt 64 (IntKind.i64.wrap ((byteAt d (i / 8)).fdiv (2 ^ min (((7 - i % 8 : Nat) : Int)).toNat 8))) &&& BitVec.ofInt 64 1).toNat := rfl
  unfold dgD
  refine callR_of (R := R1) cx_ok Tryd.func47 (by kernel_rfl) rfl ?_
  conv => whnf
  refine brF (decide_eq_false (by omega)) ?_
  conv => whnf
  refine ⟨by decide, ?_⟩
  conv => whnf
  rw [eq]
  refine ⟨⟨by omega, by omega⟩, ?_⟩
  rw [Int.toNat_natCast]
  conv => whnf
  rw [hgd]
  conv => whnf
  refine ⟨by decide, ?_⟩
  conv => whnf
  rw [er]
  refine ⟨by omega, ?_⟩
  conv => whnf
  refine ⟨?_, rfl⟩
  refine congrArg i64 ?_
  refine Eq.trans (congrArg (fun z : Nat => IntKind.i64.wrap (z : Int)) hbe.symm) ?_
  exact w64 (by omega)

/-- What is revealed of a key, the other halves. -/
def partsP (s : ByteArray) (ix : Nat) (d : ByteArray) : Nat → List ByteArray
  | 0 => []
  | j + 1 => partsP s ix d j ++ [secP s ix j (bitP d j)]
def othersP (s : ByteArray) (ix : Nat) (d : ByteArray) : Nat → List ByteArray
  | 0 => []
  | j + 1 => othersP s ix d j ++ [pubP (secP s ix j (1 - bitP d j))]
theorem parts_len (s : ByteArray) (ix : Nat) (d : ByteArray) : ∀ n, (partsP s ix d n).length = n
  | 0 => rfl
  | n + 1 => by rw [partsP, List.length_append, parts_len s ix d n]; rfl
theorem parts_32 (s : ByteArray) (ix : Nat) (d : ByteArray) : ∀ n, ∀ b ∈ partsP s ix d n, b.size = 32
  | 0 => fun b h => absurd h (by simp [partsP])
  | n + 1 => fun b h => by
    rw [partsP, List.mem_append] at h
    rcases h with h | h
    · exact parts_32 s ix d n b h
    · rw [List.mem_singleton.1 h]; exact secP_size _ _ _ _
theorem others_len (s : ByteArray) (ix : Nat) (d : ByteArray) : ∀ n, (othersP s ix d n).length = n
  | 0 => rfl
  | n + 1 => by rw [othersP, List.length_append, others_len s ix d n]; rfl
theorem others_32 (s : ByteArray) (ix : Nat) (d : ByteArray) : ∀ n, ∀ b ∈ othersP s ix d n, b.size = 32
  | 0 => fun b h => absurd h (by simp [othersP])
  | n + 1 => fun b h => by
    rw [othersP, List.mem_append] at h
    rcases h with h | h
    · exact others_32 s ix d n b h
    · rw [List.mem_singleton.1 h]; exact pubP_size _
theorem dgs_snoc (l : List ByteArray) (b : ByteArray) : dgs (l ++ [b]) = dgs l ++ [dgD b] := by unfold dgs; rw [List.map_append]; rfl
theorem dgs_len (l : List ByteArray) : (dgs l).length = l.length := List.length_map _

set_option maxRecDepth 100000 in
theorem lsign_c {s d : ByteArray} {ix : Nat} (h : s.size = 32) (hd : d.size = 32) (hx : ix < 4294967296) :
    CallR cx 32 [.d .nilP, .d (dgD s), i64 (ix : Int), .d (dgD d)] [] fun r S => r = .tup [.d (.sl 32 (dgs (partsP s ix d 32))), .d (.sl 32 (dgs (othersP s ix d 32)))] ∧ S = [] := by
  have bc := fun (i : Nat) (hi : i < 256) => bit_c hd hi
  have sc := fun (i b : Nat) (hi : i < 256) (hb : b < 256) => secret_c (ix := ix) h hx hi hb
  refine callR_of (R := R1) cx_ok Tryd.func32 (by kernel_rfl) rfl ?_
  conv => whnf
  refine .inl ?_
  conv => whnf
  refine .inl ?_
  conv => whnf
  refine .inr ⟨23, 32, ?_⟩
  conv => whnf
  refine .inr ⟨23, 32, ?_⟩
  conv => whnf
  refine .inr ⟨fun m L S => ∃ j : Nat, j ≤ 32 ∧ m = 32 - j ∧
      L = [(0, .d .nilP), (2, i64 (ix : Int)), (5, .ptr 0 []), (7, .ptr 1 []), (10, .row 2), (11, .row 3), (14, i64 (j : Int))] ∧
      S = [.var (.d (dgD s)), .var (.d (dgD d)), .row 23 32 (dgs (partsP s ix d j)), .row 23 32 (dgs (othersP s ix d j))],
    ⟨_, _, ⟨0, Nat.zero_le _, rfl, rfl, rfl⟩, ⟨rfl, rfl, rfl, rfl, rfl, rfl, rfl, trivial⟩⟩, ?_⟩
  rintro _ _ _ ⟨j, hj, rfl, rfl, rfl⟩
  have e1 : dgs (partsP s ix d (j + 1)) = dgs (partsP s ix d j) ++ [dgD (secP s ix j (bitP d j))] := dgs_snoc _ _
  have e2 : dgs (othersP s ix d (j + 1)) = dgs (othersP s ix d j) ++ [dgD (pubP (secP s ix j (1 - bitP d j)))] := dgs_snoc _ _
  have l1 : (dgs (partsP s ix d j)).length = j := by rw [dgs_len, parts_len]
  have l2 : (dgs (othersP s ix d j)).length = j := by rw [dgs_len, others_len]
  have f1 : j = 32 → partsP s ix d j = partsP s ix d 32 := fun e => by rw [e]
  have f2 : j = 32 → othersP s ix d j = othersP s ix d 32 := fun e => by rw [e]
  generalize partsP s ix d j = P at *
  generalize othersP s ix d j = O at *
  conv => whnf
  refine brec (fun g => ?_) (fun g => ?_)
  · have g := of_decide_eq_true g
    have hlt : j < 32 := by omega
    have hb := bitP_lt d j
    have e3 : IntKind.i64.wrap ((j : Int) + 1) = ((j + 1 : Nat) : Int) := by rw [w64 (by omega)]; omega
    have e4 : IntKind.i64.wrap (1 - (bitP d j : Int)) = ((1 - bitP d j : Nat) : Int) := by rw [w64 (by omega)]; omega
    have bc := bc j (by omega)
    have s1 := sc j (bitP d j) (by omega) (by omega)
    have s2 := sc j (1 - bitP d j) (by omega) (by omega)
    have p2 := public_c (secP_size s ix j (1 - bitP d j))
    rw [← e4] at s2
    generalize pubP (secP s ix j (1 - bitP d j)) = A at *
    generalize secP s ix j (1 - bitP d j) = B at *
    generalize secP s ix j (bitP d j) = C at *
    generalize bitP d j = q at *
    conv => whnf
    refine ⟨_, bc, ?_⟩
    rintro _ _ ⟨rfl, rfl⟩
    conv => whnf
    refine ⟨_, s1, ?_⟩
    rintro _ _ ⟨rfl, rfl⟩
    conv => whnf
    refine ⟨⟨by simp, by rw [l1]; simp; omega⟩, ?_⟩
    conv => whnf
    refine ⟨_, s2, ?_⟩
    rintro _ _ ⟨rfl, rfl⟩
    conv => whnf
    refine ⟨_, p2, ?_⟩
    rintro _ _ ⟨rfl, rfl⟩
    conv => whnf
    refine ⟨⟨by simp, by rw [l2]; simp; omega⟩, ?_⟩
    conv => whnf
    refine ⟨32 - (j + 1), [(0, .d .nilP), (2, i64 (ix : Int)), (5, .ptr 0 []), (7, .ptr 1 []), (10, .row 4), (11, .row 5), (14, i64 ((j + 1 : Nat) : Int))], [0, 1, 4, 5], by omega, ⟨rfl, rfl, rfl, rfl, rfl, rfl, congrArg (fun z => some (i64 z)) e3, trivial⟩, ?_⟩
    conv => whnf
    exact ⟨j + 1, by omega, rfl, rfl, by rw [e1, e2]; rfl⟩
  · have g := of_decide_eq_false g
    obtain rfl : j = 32 := by omega
    rw [f1 rfl, f2 rfl]
    conv => whnf
    exact ⟨rfl, rfl⟩
end Go.Proofs.YtghblnkplfajjaaDoor
