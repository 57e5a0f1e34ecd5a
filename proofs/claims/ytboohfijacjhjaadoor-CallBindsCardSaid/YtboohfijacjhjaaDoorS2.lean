/- sha-256's rounds, in plain Lean; the program's. -/
import Derived.Test.YtboohfijacjhjaaDoorS1
set_option linter.unusedVariables false
namespace Go.Proofs.YtboohfijacjhjaaDoor
open Go.Ab

structure H8 where
  a : W32
  b : W32
  c : W32
  d : W32
  e : W32
  f : W32
  g : W32
  h : W32
def H8.l (s : H8) : List D := [wD s.a, wD s.b, wD s.c, wD s.d, wD s.e, wD s.f, wD s.g, wD s.h]
abbrev H8.D (s : H8) : D := .arr 8 1 s.l
def rndT (s : H8) (k w : W32) : W32 := s.h + (rotr s.e 6 ^^^ rotr s.e 11 ^^^ rotr s.e 25) + ((s.e &&& s.f) ^^^ (~~~s.e &&& s.g)) + k + w
def rndQ (s : H8) : W32 := rotr s.a 2 ^^^ rotr s.a 13 ^^^ rotr s.a 22
def rndM (s : H8) : W32 := (s.a &&& s.b) ^^^ (s.a &&& s.c) ^^^ (s.b &&& s.c)
def rnd (s : H8) (k w : W32) : H8 := ⟨rndT s k w + rndQ s + rndM s, s.a, s.b, s.c, s.d + rndT s k w, s.e, s.f, s.g⟩
def rounds (K W : Nat → W32) : Nat → H8 → H8
  | 0, s => s
  | i + 1, s => rnd (rounds K W i s) (K i) (W i)
def coW (i : Nat) : W32 := BitVec.ofInt 32 (coL.getD i 0)
def H8.add (r h : H8) : H8 := ⟨r.a + h.a, r.b + h.b, r.c + h.c, r.d + h.d, r.e + h.e, r.f + h.f, r.g + h.g, r.h + h.h⟩
def blockP (h : H8) (s : ByteArray) : H8 := (rounds coW (fun i => (sched (wordB s) 64).getD i 0) 64 h).add h

theorem co_wi : ∀ i : Fin 64, wi (coW i.val) = coL.getD i.val 0 := by decide +kernel
theorem co_get {i : Nat} (h : i < 64) : (coL.map fun z => D.int .u32 z).getD i .nilP = wD (coW i) := by
  have := co_wi ⟨i, h⟩
  have hl : coL.length = 64 := by decide
  rw [List.getD_eq_getElem?_getD, List.getElem?_map, List.getElem?_eq_getElem (by omega)]
  simp only at this
  rw [List.getD_eq_getElem?_getD, List.getElem?_eq_getElem (by omega)] at this
  show D.int .u32 _ = D.int .u32 _
  rw [this]
  rfl

theorem pblock_no {h : H8} {s : ByteArray} (hs : s.size ≠ 64) : CallR cx 145 [.d h.D, st s] [] fun r S => r = .d h.D ∧ S = [] := by
  obtain ⟨a, b, c, d, e, f, g, k⟩ := h
  refine callR_of (R := R1) cx_ok Tryd.func145 (by kernel_rfl) rfl ?_
  conv => whnf
  refine brT (bne_iff_ne.2 (by omega)) ?_
  conv => whnf
  exact ⟨rfl, rfl⟩

/-- The first words with others added. -/
def addL (r h : H8) (j : Nat) : List D :=
  [wD (bif Nat.blt 0 j then r.a + h.a else r.a), wD (bif Nat.blt 1 j then r.b + h.b else r.b), wD (bif Nat.blt 2 j then r.c + h.c else r.c), wD (bif Nat.blt 3 j then r.d + h.d else r.d),
   wD (bif Nat.blt 4 j then r.e + h.e else r.e), wD (bif Nat.blt 5 j then r.f + h.f else r.f), wD (bif Nat.blt 6 j then r.g + h.g else r.g), wD (bif Nat.blt 7 j then r.h + h.h else r.h)]

theorem pblock_c {h : H8} {s : ByteArray} (hs : s.size = 64) : CallR cx 145 [.d h.D, st s] [] fun r S => r = .d (blockP h s).D ∧ S = [] := by
  have sc := psched_c hs
  have wl := sched_len (wordB s) 64
  unfold blockP
  generalize sched (wordB s) 64 = W at *
  obtain ⟨a0, b0, c0, d0, e0, f0, g0, k0⟩ := h
  refine callR_of (R := R1) cx_ok Tryd.func145 (by kernel_rfl) rfl ?_
  conv => whnf
  refine brF (by rw [hs]; rfl) ?_
  conv => whnf
  refine ⟨_, sc, ?_⟩
  rintro _ _ ⟨rfl, rfl⟩
  conv => whnf
  refine .inl ⟨fun p L S => ∃ (j : Nat) (r : H8), j ≤ 64 ∧ p = 64 - j ∧ r = rounds coW (fun i => W.getD i 0) j ⟨a0, b0, c0, d0, e0, f0, g0, k0⟩ ∧
      L = [(2, .ptr 0 []), (4, .ptr 1 []), (5, .ptr 2 []), (6, .ptr 3 []), (23, i64 (j : Int))] ∧ S = [.var (.d (H8.mk a0 b0 c0 d0 e0 f0 g0 k0).D), .var (.d (.arr 8 1 (List.replicate 8 (.int .u32 0)))), .var (.d (.arr 64 1 (arrW 64 W))), .var (.d r.D)],
    ⟨_, _, ⟨0, _, Nat.zero_le _, rfl, rfl, rfl, rfl⟩, ⟨rfl, rfl, rfl, rfl, rfl, trivial⟩⟩, ?_⟩
  rintro p _ _ ⟨j, r, hj, rfl, hr, rfl, rfl⟩
  conv => whnf
  refine brec (fun q => ?_) (fun q => ?_)
  · have q := of_decide_eq_true q
    have hlt : j < 64 := by omega
    have e3 : IntKind.i64.wrap ((j : Int) + 1) = ((j + 1 : Nat) : Int) := by rw [w64 (by omega)]; omega
    have gw := arrW_get (n := 64) (l := W) (i := j) (by omega)
    have gc := co_get hlt
    have hr1 : rounds coW (fun i => W.getD i 0) (j + 1) ⟨a0, b0, c0, d0, e0, f0, g0, k0⟩ = rnd r (coW j) (W.getD j 0) := by rw [hr]; rfl
    generalize W.getD j 0 = w at *
    generalize coW j = kk at *
    obtain ⟨a, b, c, d, e, f, g, k⟩ := r
    conv => whnf
    refine ⟨by kernel_rfl, ?_⟩
    conv => whnf
    refine ⟨by decide, ?_⟩
    conv => whnf
    refine ⟨by decide, ?_⟩
    conv => whnf
    refine ⟨by kernel_rfl, ?_⟩
    conv => whnf
    refine ⟨_, rot_c (x := e) (k := 6) (by decide) (by decide), ?_⟩
    rintro _ _ ⟨rfl, rfl⟩
    conv => whnf
    refine ⟨_, rot_c (x := e) (k := 11) (by decide) (by decide), ?_⟩
    rintro _ _ ⟨rfl, rfl⟩
    conv => whnf
    refine ⟨_, rot_c (x := e) (k := 25) (by decide) (by decide), ?_⟩
    rintro _ _ ⟨rfl, rfl⟩
    conv => whnf
    rw [w_xor, w_xor]
    refine ⟨by decide, ?_⟩
    conv => whnf
    refine ⟨by decide, ?_⟩
    conv => whnf
    rw [w_and, w_not, w_and, w_xor]
    refine ⟨by kernel_rfl, ?_⟩
    conv => whnf
    refine ⟨by decide, ?_⟩
    conv => whnf
    refine ⟨⟨by omega, by omega⟩, ?_⟩
    conv => whnf
    rw [Int.toNat_natCast, gc]
    conv => whnf
    refine ⟨⟨by omega, by omega⟩, ?_⟩
    conv => whnf
    rw [Int.toNat_natCast, gw]
    conv => whnf
    rw [w_add, w_add, w_add, w_add]
    refine ⟨by kernel_rfl, ?_⟩
    conv => whnf
    refine ⟨_, rot_c (x := a) (k := 2) (by decide) (by decide), ?_⟩
    rintro _ _ ⟨rfl, rfl⟩
    conv => whnf
    refine ⟨_, rot_c (x := a) (k := 13) (by decide) (by decide), ?_⟩
    rintro _ _ ⟨rfl, rfl⟩
    conv => whnf
    refine ⟨_, rot_c (x := a) (k := 22) (by decide) (by decide), ?_⟩
    rintro _ _ ⟨rfl, rfl⟩
    conv => whnf
    rw [w_xor, w_xor]
    refine ⟨by decide, ?_⟩
    conv => whnf
    refine ⟨by decide, ?_⟩
    conv => whnf
    refine ⟨by decide, ?_⟩
    conv => whnf
    refine ⟨by decide, ?_⟩
    conv => whnf
    rw [w_and, w_and, w_xor, w_and, w_xor]
    refine ⟨by kernel_rfl, ?_⟩
    conv => whnf
    refine ⟨by decide, ?_⟩
    conv => whnf
    refine ⟨by decide, ?_⟩
    conv => whnf
    refine ⟨(by decide : 7 ≤ 8), ?_⟩
    conv => whnf
    refine ⟨by kernel_rfl, ?_⟩
    conv => whnf
    refine ⟨by decide, ?_⟩
    conv => whnf
    rw [w_add]
    refine ⟨by decide, ?_⟩
    conv => whnf
    rw [w_add, w_add]
    refine ⟨by decide, ?_⟩
    conv => whnf
    refine ⟨_, _, 4, (by omega : 64 - (j + 1) < 64 - j), ⟨j + 1, _, by omega, rfl, hr1.symm, rfl, rfl⟩, ⟨rfl, rfl, rfl, rfl, congrArg (fun z => some (i64 z)) e3, trivial⟩, rfl⟩
  · have q := of_decide_eq_false q
    obtain rfl : j = 64 := by omega
    rw [← hr]
    clear hr
    obtain ⟨a, b, c, d, e, f, g, k⟩ := r
    conv => whnf
    refine .inl ⟨fun p L S => ∃ (j : Nat), j ≤ 8 ∧ p = 8 - j ∧
        L = [(2, .ptr 0 []), (4, .ptr 1 []), (6, .ptr 3 []), (100, i64 (j : Int))] ∧ S = [.var (.d (H8.mk a0 b0 c0 d0 e0 f0 g0 k0).D), .var (.d (.arr 8 1 (List.replicate 8 (.int .u32 0)))), .var (.d (.arr 64 1 (arrW 64 W))), .var (.d (.arr 8 1 (addL ⟨a, b, c, d, e, f, g, k⟩ ⟨a0, b0, c0, d0, e0, f0, g0, k0⟩ j)))],
      ⟨_, _, ⟨0, Nat.zero_le _, rfl, rfl, rfl⟩, ⟨rfl, rfl, rfl, rfl, trivial⟩⟩, ?_⟩
    rintro p _ _ ⟨j, hj, rfl, rfl, rfl⟩
    conv => whnf
    refine brec (fun q => ?_) (fun q => ?_)
    · have q := of_decide_eq_true q
      have h8 : j = 0 ∨ j = 1 ∨ j = 2 ∨ j = 3 ∨ j = 4 ∨ j = 5 ∨ j = 6 ∨ j = 7 := by omega
      rcases h8 with rfl | rfl | rfl | rfl | rfl | rfl | rfl | rfl
      · conv => whnf
        refine ⟨by kernel_rfl, ?_⟩
        conv => whnf
        refine ⟨by decide, ?_⟩
        conv => whnf
        refine ⟨by decide, ?_⟩
        conv => whnf
        refine ⟨by decide, ?_⟩
        conv => whnf
        refine ⟨by kernel_rfl, ?_⟩
        conv => whnf
        rw [w_add]
        exact ⟨_, _, 4, (by decide : 7 - 0 < 8 - 0), ⟨1, by decide, rfl, rfl, rfl⟩, ⟨rfl, rfl, rfl, rfl, trivial⟩, rfl⟩
      · conv => whnf
        refine ⟨by kernel_rfl, ?_⟩
        conv => whnf
        refine ⟨by decide, ?_⟩
        conv => whnf
        refine ⟨by decide, ?_⟩
        conv => whnf
        refine ⟨by decide, ?_⟩
        conv => whnf
        refine ⟨by kernel_rfl, ?_⟩
        conv => whnf
        rw [w_add]
        exact ⟨_, _, 4, (by decide : 7 - 1 < 8 - 1), ⟨2, by decide, rfl, rfl, rfl⟩, ⟨rfl, rfl, rfl, rfl, trivial⟩, rfl⟩
      · conv => whnf
        refine ⟨by kernel_rfl, ?_⟩
        conv => whnf
        refine ⟨by decide, ?_⟩
        conv => whnf
        refine ⟨by decide, ?_⟩
        conv => whnf
        refine ⟨by decide, ?_⟩
        conv => whnf
        refine ⟨by kernel_rfl, ?_⟩
        conv => whnf
        rw [w_add]
        exact ⟨_, _, 4, (by decide : 7 - 2 < 8 - 2), ⟨3, by decide, rfl, rfl, rfl⟩, ⟨rfl, rfl, rfl, rfl, trivial⟩, rfl⟩
      · conv => whnf
        refine ⟨by kernel_rfl, ?_⟩
        conv => whnf
        refine ⟨by decide, ?_⟩
        conv => whnf
        refine ⟨by decide, ?_⟩
        conv => whnf
        refine ⟨by decide, ?_⟩
        conv => whnf
        refine ⟨by kernel_rfl, ?_⟩
        conv => whnf
        rw [w_add]
        exact ⟨_, _, 4, (by decide : 7 - 3 < 8 - 3), ⟨4, by decide, rfl, rfl, rfl⟩, ⟨rfl, rfl, rfl, rfl, trivial⟩, rfl⟩
      · conv => whnf
        refine ⟨by kernel_rfl, ?_⟩
        conv => whnf
        refine ⟨by decide, ?_⟩
        conv => whnf
        refine ⟨by decide, ?_⟩
        conv => whnf
        refine ⟨by decide, ?_⟩
        conv => whnf
        refine ⟨by kernel_rfl, ?_⟩
        conv => whnf
        rw [w_add]
        exact ⟨_, _, 4, (by decide : 7 - 4 < 8 - 4), ⟨5, by decide, rfl, rfl, rfl⟩, ⟨rfl, rfl, rfl, rfl, trivial⟩, rfl⟩
      · conv => whnf
        refine ⟨by kernel_rfl, ?_⟩
        conv => whnf
        refine ⟨by decide, ?_⟩
        conv => whnf
        refine ⟨by decide, ?_⟩
        conv => whnf
        refine ⟨by decide, ?_⟩
        conv => whnf
        refine ⟨by kernel_rfl, ?_⟩
        conv => whnf
        rw [w_add]
        exact ⟨_, _, 4, (by decide : 7 - 5 < 8 - 5), ⟨6, by decide, rfl, rfl, rfl⟩, ⟨rfl, rfl, rfl, rfl, trivial⟩, rfl⟩
      · conv => whnf
        refine ⟨by kernel_rfl, ?_⟩
        conv => whnf
        refine ⟨by decide, ?_⟩
        conv => whnf
        refine ⟨by decide, ?_⟩
        conv => whnf
        refine ⟨by decide, ?_⟩
        conv => whnf
        refine ⟨by kernel_rfl, ?_⟩
        conv => whnf
        rw [w_add]
        exact ⟨_, _, 4, (by decide : 7 - 6 < 8 - 6), ⟨7, by decide, rfl, rfl, rfl⟩, ⟨rfl, rfl, rfl, rfl, trivial⟩, rfl⟩
      · conv => whnf
        refine ⟨by kernel_rfl, ?_⟩
        conv => whnf
        refine ⟨by decide, ?_⟩
        conv => whnf
        refine ⟨by decide, ?_⟩
        conv => whnf
        refine ⟨by decide, ?_⟩
        conv => whnf
        refine ⟨by kernel_rfl, ?_⟩
        conv => whnf
        rw [w_add]
        exact ⟨_, _, 4, (by decide : 7 - 7 < 8 - 7), ⟨8, by decide, rfl, rfl, rfl⟩, ⟨rfl, rfl, rfl, rfl, trivial⟩, rfl⟩
    · have q := of_decide_eq_false q
      obtain rfl : j = 8 := by omega
      conv => whnf
      exact ⟨rfl, rfl⟩
end Go.Proofs.YtboohfijacjhjaaDoor
