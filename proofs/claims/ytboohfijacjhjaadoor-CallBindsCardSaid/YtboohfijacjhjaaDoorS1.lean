/- sha-256's schedule, in plain Lean; the program's. -/
import Derived.Test.YtboohfijacjhjaaDoorS0
set_option linter.unusedVariables false
namespace Go.Proofs.YtboohfijacjhjaaDoor
open Go.Ab

def sgA (x : W32) : W32 := rotr x 7 ^^^ rotr x 18 ^^^ x >>> 3
def sgB (x : W32) : W32 := rotr x 17 ^^^ rotr x 19 ^^^ x >>> 10
def nextW (b : Nat → W32) (l : List W32) (j : Nat) : W32 := if j < 16 then b j else l.getD (j - 16) 0 + sgA (l.getD (j - 15) 0) + l.getD (j - 7) 0 + sgB (l.getD (j - 2) 0)
def sched (b : Nat → W32) : Nat → List W32
  | 0 => []
  | j + 1 => sched b j ++ [nextW b (sched b j) j]
theorem sched_len (b : Nat → W32) : ∀ n, (sched b n).length = n
  | 0 => rfl
  | n + 1 => by rw [sched, List.length_append, sched_len b n]; rfl

/-- A text's byte. -/
def bt (s : ByteArray) (k : Nat) : Nat := (s.data.toList.getD k 0).toNat
theorem bt_lt (s : ByteArray) (k : Nat) : bt s k < 256 := (s.data.toList.getD k 0).toNat_lt
def wordB (s : ByteArray) (j : Nat) : W32 := BitVec.ofNat 32 (bt s (4 * j) * 16777216 + bt s (4 * j + 1) * 65536 + bt s (4 * j + 2) * 256 + bt s (4 * j + 3))

theorem bt_ext (s : ByteArray) (a b k : Nat) (h : a + k < b) (hb : b ≤ s.size) : bt (s.extract a b) k = bt s (a + k) := by
  unfold bt
  rw [ByteArray.data_extract, Array.toList_extract, List.extract_eq_take_drop, List.getD_eq_getElem?_getD, List.getD_eq_getElem?_getD, List.getElem?_take_of_lt (by omega), List.getElem?_drop]
theorem byteAt_bt (s : ByteArray) (k : Nat) : byteAt s k = ((bt s k : Nat) : Int) := rfl

/-- Words, and nothing behind them. -/
def arrW (n : Nat) (l : List W32) : List D := l.map wD ++ List.replicate (n - l.length) (.int .u32 0)
theorem arrW_get {n : Nat} {l : List W32} {i : Nat} (h : i < l.length) : (arrW n l).getD i .nilP = wD (l.getD i 0) := by
  unfold arrW
  rw [List.getD_eq_getElem?_getD, List.getElem?_append_left (by rw [List.length_map]; exact h), List.getElem?_map, List.getElem?_eq_getElem h, List.getD_eq_getElem?_getD, List.getElem?_eq_getElem h]
  rfl
theorem arrW_set {n : Nat} {l : List W32} {x : W32} (h : l.length < n) : (arrW n l).set l.length (wD x) = arrW n (l ++ [x]) := by
  unfold arrW
  rw [List.set_append_right _ _ (by rw [List.length_map]; exact Nat.le_refl _), List.length_map, Nat.sub_self, List.map_append, List.length_append, List.append_assoc]
  congr 1
  rw [show n - l.length = (n - (l.length + 1)) + 1 by omega, List.replicate_succ]
  rfl
theorem arrW_len {n : Nat} {l : List W32} (h : l.length ≤ n) : (arrW n l).length = n := by
  unfold arrW
  rw [List.length_append, List.length_map, List.length_replicate]; omega

theorem word_or (a b c d : Nat) (ha : a < 256) (hb : b < 256) (hc : c < 256) (hd : d < 256) :
    (BitVec.ofNat 32 a <<< 24 ||| BitVec.ofNat 32 b <<< 16 ||| BitVec.ofNat 32 c <<< 8 ||| BitVec.ofNat 32 d) = BitVec.ofNat 32 (a * 16777216 + b * 65536 + c * 256 + d) := by
  apply BitVec.eq_of_toNat_eq
  simp only [BitVec.toNat_or, BitVec.toNat_shiftLeft, BitVec.toNat_ofNat, Nat.shiftLeft_eq]
  rw [Nat.mod_eq_of_lt (a := a) (by omega), Nat.mod_eq_of_lt (a := b) (by omega), Nat.mod_eq_of_lt (a := c) (by omega), Nat.mod_eq_of_lt (a := d) (by omega)]
  rw [Nat.mod_eq_of_lt (a := a * 2 ^ 24) (by omega), Nat.mod_eq_of_lt (a := b * 2 ^ 16) (by omega), Nat.mod_eq_of_lt (a := c * 2 ^ 8) (by omega), Nat.mod_eq_of_lt (by omega)]
  have h1 : a * 2 ^ 24 ||| b * 2 ^ 16 = a * 2 ^ 24 + b * 2 ^ 16 := by
    rw [Nat.mul_comm a, ← Nat.two_pow_add_eq_or_of_lt (by omega)]
  have h2 : (a * 2 ^ 24 + b * 2 ^ 16) ||| c * 2 ^ 8 = a * 2 ^ 24 + b * 2 ^ 16 + c * 2 ^ 8 := by
    rw [show a * 2 ^ 24 + b * 2 ^ 16 = 2 ^ 16 * (a * 256 + b) by omega, ← Nat.two_pow_add_eq_or_of_lt (by omega)]
  have h3 : (a * 2 ^ 24 + b * 2 ^ 16 + c * 2 ^ 8) ||| d = a * 2 ^ 24 + b * 2 ^ 16 + c * 2 ^ 8 + d := by
    rw [show a * 2 ^ 24 + b * 2 ^ 16 + c * 2 ^ 8 = 2 ^ 8 * (a * 65536 + b * 256 + c) by omega, ← Nat.two_pow_add_eq_or_of_lt (by omega)]
  rw [h1, h2, h3]
theorem w_of {n : Nat} (h : n < 256) : IntKind.u32.wrap ((n : Nat) : Int) = wi (BitVec.ofNat 32 n) := by
  unfold wi
  rw [wrap_lt (by omega), BitVec.toNat_ofNat, Nat.mod_eq_of_lt (by omega)]

theorem setP_int {n j : Nat} {k : IntKind} {a b : Int} {xs : List D} (h : xs.getD j .nilP = .int k a) : (AV.d (.arr n 1 xs)).setP ([] ++ [.ix j 1 n]) (.d (.int k b)) = some (.d (.arr n 1 (xs.set j (.int k b)))) := by
  simp only [List.nil_append, AV.setP, AV.getS, D.getS, Nat.beq_refl, Bool.and_true, h, AV.sizeR_eq, beqR_eq, AV.size, D.size, AV.isAgg, D.isAgg, AV.setS, beq_self_eq_true]
theorem tiu : ({ k := TK.int IntKind.u32, size := 1, bytes := 4, zero := some (D.int IntKind.u32 0), eq := true, cmp := true } : TI).size = 1 := rfl
theorem arrW_new {n : Nat} {l : List W32} (h : l.length < n) : (arrW n l).getD l.length .nilP = .int .u32 0 := by
  unfold arrW
  rw [List.getD_eq_getElem?_getD, List.getElem?_append_right (by rw [List.length_map]; exact Nat.le_refl _), List.length_map, Nat.sub_self, List.getElem?_replicate, if_pos (by omega)]
  rfl

theorem psched_c {s : ByteArray} (hs : s.size = 64) : CallR cx 148 [st s] [] fun r S => r = .d (.arr 64 1 (arrW 64 (sched (wordB s) 64))) ∧ S = [] := by
  refine callR_of (R := R1) cx_ok Tryd.func148 (by kernel_rfl) rfl ?_
  conv => whnf
  refine .inl ⟨fun p L S => ∃ j : Nat, j ≤ 64 ∧ p = 64 - j ∧
      L = [(0, st s), (2, .ptr 0 []), (3, .ptr 1 []), (10, i64 (j : Int))] ∧ S = [.var (.d (.arr 64 1 (List.replicate 64 (.int .u32 0)))), .var (.d (.arr 64 1 (arrW 64 (sched (wordB s) j))))],
    ⟨_, _, ⟨0, Nat.zero_le _, rfl, rfl, rfl⟩, ⟨rfl, rfl, rfl, rfl, trivial⟩⟩, ?_⟩
  rintro p _ _ ⟨j, hj, rfl, rfl, rfl⟩
  have hlen := sched_len (wordB s) j
  generalize hl : sched (wordB s) j = l at hlen
  conv => whnf
  refine brec (fun g => ?_) (fun g => ?_)
  · have g := of_decide_eq_true g
    have hlt : j < 64 := by omega
    have e3 : IntKind.i64.wrap ((j : Int) + 1) = ((j + 1 : Nat) : Int) := by rw [w64 (by omega)]; omega
    have e4 : IntKind.i64.wrap (4 * (j : Int)) = ((4 * j : Nat) : Int) := by rw [w64 (by omega)]; omega
    have e44 : IntKind.i64.wrap (((4 * j : Nat) : Int) + 4) = ((4 * j + 4 : Nat) : Int) := by rw [w64 (by omega)]; omega
    conv => whnf
    refine brec (fun q => ?_) (fun q => ?_)
    · have q := of_decide_eq_true q
      conv => whnf
      rw [e4, e44]
      refine ⟨⟨by omega, by omega, by omega⟩, ?_⟩
      conv => whnf
      refine ⟨by kernel_rfl, ?_⟩
      conv => whnf
      rw [Int.toNat_natCast, Int.toNat_natCast]
      have hX1 : (s.extract (4 * j) (4 * j + 4)).size = 4 := by rw [ByteArray.size_extract]; omega
      have hX2 : ∀ k, k < 4 → bt (s.extract (4 * j) (4 * j + 4)) k = bt s (4 * j + k) := fun k hk => bt_ext s _ _ k (by omega) (by omega)
      generalize s.extract (4 * j) (4 * j + 4) = X at hX1 hX2
      refine ⟨⟨by decide, by omega⟩, ?_⟩
      conv => whnf
      refine ⟨by decide, ?_⟩
      conv => whnf
      refine ⟨⟨by decide, by omega⟩, ?_⟩
      conv => whnf
      refine ⟨by decide, ?_⟩
      conv => whnf
      refine ⟨⟨by decide, by omega⟩, ?_⟩
      conv => whnf
      refine ⟨by decide, ?_⟩
      conv => whnf
      refine ⟨⟨by decide, by omega⟩, ?_⟩
      conv => whnf
      refine ⟨⟨by omega, by omega⟩, ?_⟩
      conv => whnf
      rw [Int.toNat_natCast, tiu, setP_int (a := 0) (by rw [← hlen]; exact arrW_new (by omega))]
      conv => whnf
      refine ⟨by kernel_rfl, ?_⟩
      conv => whnf
      have hb : ∀ (k : Nat), k < 4 → IntKind.u32.wrap (byteAt X k) = wi (BitVec.ofNat 32 (bt s (4 * j + k))) := fun k hk => by
        rw [byteAt_bt, hX2 k hk]; exact w_of (bt_lt _ _)
      refine ⟨_, _, 2, (by omega : 64 - (j + 1) < 64 - j), ⟨j + 1, by omega, rfl, rfl, ?_⟩, ⟨rfl, rfl, rfl, congrArg (fun z => some (i64 z)) e3, trivial⟩, rfl⟩
      rw [sched, hl, ← arrW_set (by omega), hlen]
      refine congrArg (fun z => [Blk.var (.d (.arr 64 1 (List.replicate 64 (.int .u32 0)))), Blk.var (.d (.arr 64 1 ((arrW 64 l).set j (.int .u32 z))))]) ?_
      rw [show Int.toNat 0 = 0 from rfl, show Int.toNat 1 = 1 from rfl, show Int.toNat 2 = 2 from rfl, show Int.toNat 3 = 3 from rfl, hb 0 (by decide), hb 1 (by decide), hb 2 (by decide), hb 3 (by decide)]
      rw [w_shlI _ (m := 24) (k := 24) rfl (by decide), w_shlI _ (m := 16) (k := 16) rfl (by decide), w_shlI _ (m := 8) (k := 8) rfl (by decide), w_or, w_or, w_or, word_or _ _ _ _ (bt_lt _ _) (bt_lt _ _) (bt_lt _ _) (bt_lt _ _)]
      unfold nextW
      rw [if_pos (by omega)]
      rfl
    · have q := of_decide_eq_false q
      have hj16 : 16 ≤ j := by omega
      have e15 : IntKind.i64.wrap ((j : Int) - 15) = ((j - 15 : Nat) : Int) := by rw [w64 (by omega)]; omega
      have e02 : IntKind.i64.wrap ((j : Int) - 2) = ((j - 2 : Nat) : Int) := by rw [w64 (by omega)]; omega
      have e16 : IntKind.i64.wrap ((j : Int) - 16) = ((j - 16 : Nat) : Int) := by rw [w64 (by omega)]; omega
      have e07 : IntKind.i64.wrap ((j : Int) - 7) = ((j - 7 : Nat) : Int) := by rw [w64 (by omega)]; omega
      have hn : nextW (wordB s) l j = l.getD (j - 16) 0 + sgA (l.getD (j - 15) 0) + l.getD (j - 7) 0 + sgB (l.getD (j - 2) 0) := by unfold nextW; rw [if_neg (by omega)]
      have g15 := arrW_get (n := 64) (l := l) (i := j - 15) (by omega)
      have g02 := arrW_get (n := 64) (l := l) (i := j - 2) (by omega)
      have g16 := arrW_get (n := 64) (l := l) (i := j - 16) (by omega)
      have g07 := arrW_get (n := 64) (l := l) (i := j - 7) (by omega)
      unfold sgA sgB at hn
      generalize l.getD (j - 15) 0 = x15 at *
      generalize l.getD (j - 2) 0 = x02 at *
      generalize l.getD (j - 16) 0 = x16 at *
      generalize l.getD (j - 7) 0 = x07 at *
      conv => whnf
      refine ⟨by kernel_rfl, ?_⟩
      conv => whnf
      rw [e15]
      refine ⟨⟨by omega, by omega⟩, ?_⟩
      conv => whnf
      rw [Int.toNat_natCast, g15]
      conv => whnf
      rw [e02]
      refine ⟨⟨by omega, by omega⟩, ?_⟩
      conv => whnf
      rw [Int.toNat_natCast, g02]
      conv => whnf
      refine ⟨by kernel_rfl, ?_⟩
      conv => whnf
      refine ⟨_, rot_c (x := x15) (k := 7) (by decide) (by decide), ?_⟩
      rintro _ _ ⟨rfl, rfl⟩
      conv => whnf
      refine ⟨_, rot_c (x := x15) (k := 18) (by decide) (by decide), ?_⟩
      rintro _ _ ⟨rfl, rfl⟩
      conv => whnf
      refine ⟨by decide, ?_⟩
      conv => whnf
      refine ⟨_, rot_c (x := x02) (k := 17) (by decide) (by decide), ?_⟩
      rintro _ _ ⟨rfl, rfl⟩
      conv => whnf
      refine ⟨_, rot_c (x := x02) (k := 19) (by decide) (by decide), ?_⟩
      rintro _ _ ⟨rfl, rfl⟩
      conv => whnf
      refine ⟨by decide, ?_⟩
      conv => whnf
      refine ⟨by kernel_rfl, ?_⟩
      conv => whnf
      rw [e16]
      refine ⟨⟨by omega, by omega⟩, ?_⟩
      conv => whnf
      rw [Int.toNat_natCast, g16]
      conv => whnf
      rw [e07]
      refine ⟨⟨by omega, by omega⟩, ?_⟩
      conv => whnf
      rw [Int.toNat_natCast, g07]
      conv => whnf
      refine ⟨⟨by omega, by omega⟩, ?_⟩
      conv => whnf
      rw [Int.toNat_natCast, tiu, setP_int (a := 0) (by rw [← hlen]; exact arrW_new (by omega))]
      conv => whnf
      refine ⟨by kernel_rfl, ?_⟩
      conv => whnf
      refine ⟨_, _, 2, (by omega : 64 - (j + 1) < 64 - j), ⟨j + 1, by omega, rfl, rfl, ?_⟩, ⟨rfl, rfl, rfl, congrArg (fun z => some (i64 z)) e3, trivial⟩, rfl⟩
      rw [sched, hl, ← arrW_set (by omega), hlen, hn]
      refine congrArg (fun z => [Blk.var (.d (.arr 64 1 (List.replicate 64 (.int .u32 0)))), Blk.var (.d (.arr 64 1 ((arrW 64 l).set j (.int .u32 z))))]) ?_
      rw [w_xor, w_shrI _ (m := 3) (k := 3) rfl (by decide), w_xor, w_xor, w_shrI _ (m := 10) (k := 10) rfl (by decide), w_xor, w_add, w_add, w_add]
  · have g := of_decide_eq_false g
    obtain rfl : j = 64 := by omega
    subst hl
    conv => whnf
    exact ⟨rfl, rfl⟩
end Go.Proofs.YtboohfijacjhjaaDoor
