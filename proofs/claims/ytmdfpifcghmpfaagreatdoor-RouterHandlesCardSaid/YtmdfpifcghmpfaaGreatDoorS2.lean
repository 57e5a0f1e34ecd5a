/- What one statement needs of the texts, by slice.py. -/
import Derived.Test.YtmdfpifcghmpfaaGreatDoorS1
import Derived.Shelf.Spec.SlicesInsertGrow
import Derived.Shelf.SlicesE.Delete

/- Names: how many runes; a text's numbers. -/
namespace Go.Proofs.YtmdfpifcghmpfaaGreatDoor
open Go.Ab Go.RowKit

theorem w32 {n : Int} (h : -2147483648 ≤ n ∧ n < 2147483648) : IntKind.i32.wrap n = n := by
  simp [IntKind.wrap, IntKind.bits, IntKind.signed]; omega

abbrev runes (l : List Nat) : List D := l.map fun (k : Nat) => D.int .i32 (k : Int)

theorem keys_c {s : ByteArray} (hm : s.size < 1000000000) : CallR cx 97 [st s] [] fun r S => r = .d (.sl 1 (runes (keysAt s 0))) ∧ S = [] := by
  refine callR_of (R := R1) cx_ok Tryz.func97 (by kernel_rfl) rfl ?_
  conv => whnf
  refine .inl ?_
  conv => whnf
  refine .inr ⟨21, 1, ?_⟩
  conv => whnf
  refine .inr ⟨fun m l S => ∃ (i : Nat) (xs : List Nat), xs ++ keysAt s i = keysAt s 0 ∧ xs.length ≤ i ∧ i ≤ s.size + 3 ∧ m = s.size + 4 - i ∧
      l = [(0, st s), (3, .row 0), (7, .ptr 1 [])] ∧ S = [.row 21 1 (runes xs), .iter s i],
    ⟨_, _, ⟨0, [], rfl, Nat.le_refl _, by omega, rfl, rfl, rfl⟩, ⟨rfl, rfl, rfl, trivial⟩⟩, ?_⟩
  rintro _ _ _ ⟨i, xs, h1, h2, h3, rfl, rfl, rfl⟩
  conv => whnf
  refine brec (fun h4 => ?_) (fun h4 => ?_)
  · have hi := of_decide_eq_true h4
    have br := broken_c (s := s) hi
    have hd := decode_range s i
    have hb := byteAt_range s i
    have hbe := byteAt_eq s i
    have hl : (runes xs).length = xs.length := List.length_map _
    rw [keysAt_lt hi, key_two] at h1
    cases hq : stray s i with
    | true =>
      rw [hq] at br
      have hk := (key_stray hq).1
      rw [hk] at h1
      have hk2 : (key s i).2 = (Utf8.decode s i).2 := key_two
      rw [hk] at hk2
      generalize Utf8.decode s i = d at *
      obtain ⟨r, w⟩ := d
      simp only at hd h1 br hk2
      subst hk2
      generalize (r : Int) = R at *
      conv => whnf
      refine ⟨_, br, ?_⟩
      rintro _ _ ⟨rfl, rfl⟩
      conv => whnf
      refine ⟨⟨by omega, by show (i : Int) < _; omega⟩, ?_⟩
      conv => whnf
      refine ⟨⟨Nat.one_pos, by show ((runes xs).length + 1) * (4 + 1) ≤ _; rw [hl]; omega⟩, ?_⟩
      conv => whnf
      refine ⟨s.size + 4 - (i + 1), [(0, st s), (3, .row 2), (7, .ptr 1 [])], [2, 1], by omega, ⟨rfl, rfl, rfl, trivial⟩, ?_⟩
      conv => whnf
      refine ⟨i + 1, xs ++ [(s.get! i).toNat + 2000000], ?_, ?_, by omega, rfl, rfl, ?_⟩
      · rw [List.append_assoc]; exact h1
      · rw [List.length_append]; show xs.length + 1 ≤ _; omega
      · rw [Int.toNat_natCast, hbe, w32 (n := ((s.get! i).toNat : Int)) (by omega), w32 (by omega)]
        show _ = [Blk.row 21 1 (List.map (fun (k : Nat) => D.int .i32 (k : Int)) (xs ++ [(s.get! i).toNat + 2000000])), _]
        rw [List.map_append]
        rfl
    | false =>
      rw [hq] at br
      have hk := key_plain hq
      rw [hk] at h1
      generalize Utf8.decode s i = d at *
      obtain ⟨r, w⟩ := d
      simp only at hd h1 br
      conv => whnf
      refine ⟨_, br, ?_⟩
      rintro _ _ ⟨rfl, rfl⟩
      conv => whnf
      refine ⟨⟨Nat.one_pos, by show ((runes xs).length + 1) * (4 + 1) ≤ _; rw [hl]; omega⟩, ?_⟩
      conv => whnf
      refine ⟨s.size + 4 - (i + w), [(0, st s), (3, .row 2), (7, .ptr 1 [])], [2, 1], by omega, ⟨rfl, rfl, rfl, trivial⟩, ?_⟩
      conv => whnf
      refine ⟨i + w, xs ++ [r], ?_, ?_, by omega, rfl, rfl, ?_⟩
      · rw [List.append_assoc]; exact h1
      · rw [List.length_append]; show xs.length + 1 ≤ _; omega
      · show _ = [Blk.row 21 1 (List.map (fun (k : Nat) => D.int .i32 (k : Int)) (xs ++ [r])), _]
        rw [List.map_append]
        rfl
  · have h4 := of_decide_eq_false h4
    rw [keysAt_ge (by omega), List.append_nil] at h1
    conv => whnf
    rw [h1]
    exact ⟨rfl, rfl⟩
end Go.Proofs.YtmdfpifcghmpfaaGreatDoor

/- Names: which of two texts stands first, the program's and the document's (printed by gen/order.py). -/
namespace Go.Proofs.YtmdfpifcghmpfaaGreatDoor
open Go.Ab Go.RowKit

theorem runes_getD {l : List Nat} {j : Nat} (h : j < l.length) : (runes l).getD (j : Int).toNat .nilP = .int .i32 ((l[j]'h : Nat) : Int) := by
  rw [Int.toNat_natCast, List.getD_eq_getElem?_getD, List.getElem?_map, List.getElem?_eq_getElem h]
  rfl

theorem order_c {a b : ByteArray} (ha : a.size < 1000000000) (hb : b.size < 1000000000) : CallR cx 86 [st a, st b] [] fun r S => r = i64 (ordL (keysAt a 0) (keysAt b 0)) ∧ S = [] := by
  have k1 := keys_c ha
  have k2 := keys_c hb
  have l1 := keysAt_length a 0
  have l2 := keysAt_length b 0
  generalize keysAt a 0 = X at *
  generalize keysAt b 0 = Y at *
  have hX : (runes X).length = X.length := List.length_map _
  have hY : (runes Y).length = Y.length := List.length_map _
  obtain ⟨M, hM, m1, m2, m3⟩ : ∃ M : Nat, (if (((runes Y).length : Nat) : Int) < (((runes X).length : Nat) : Int) then (((runes Y).length : Nat) : Int) else (((runes X).length : Nat) : Int)) = (M : Int) ∧ M ≤ X.length ∧ M ≤ Y.length ∧ (M = X.length ∨ M = Y.length) := by
    by_cases h : Y.length < X.length
    · exact ⟨Y.length, by rw [if_pos (by omega), hY], by omega, by omega, .inr rfl⟩
    · exact ⟨X.length, by rw [if_neg (by omega), hX], by omega, by omega, .inl rfl⟩
  refine callR_of (R := R1) cx_ok Tryz.func86 (by kernel_rfl) rfl ?_
  conv => whnf
  refine ⟨_, k1, ?_⟩
  rintro _ _ ⟨rfl, rfl⟩
  conv => whnf
  refine ⟨_, k2, ?_⟩
  rintro _ _ ⟨rfl, rfl⟩
  conv => whnf
  refine .inl ⟨fun m l S => ∃ j : Nat, j ≤ X.length ∧ j ≤ Y.length ∧ ordL (X.drop j) (Y.drop j) = ordL X Y ∧ m = X.length - j ∧ l = [(5, .d (.sl 1 (runes X))), (6, .d (.sl 1 (runes Y))), (16, i64 (M : Int)), (17, i64 (j : Int))] ∧ S = [],
    ⟨_, _, ⟨0, Nat.zero_le _, Nat.zero_le _, rfl, rfl, rfl, rfl⟩, ⟨rfl, rfl, congrArg (fun z => some (i64 z)) hM, rfl, trivial⟩⟩, ?_⟩
  rintro _ _ _ ⟨j, hj1, hj2, h1, rfl, rfl, rfl⟩
  conv => whnf
  refine brec (fun h4 => ?_) (fun h4 => ?_)
  · have h4 := of_decide_eq_true h4
    have hlt1 : j < X.length := by omega
    have hlt2 : j < Y.length := by omega
    have e3 : IntKind.i64.wrap ((j : Int) + 1) = ((j + 1 : Nat) : Int) := by rw [w64 (by omega)]; omega
    rw [List.drop_eq_getElem_cons hlt1, List.drop_eq_getElem_cons hlt2] at h1
    have gx := runes_getD hlt1
    have gy := runes_getD hlt2
    generalize X[j]'hlt1 = x at *
    generalize Y[j]'hlt2 = y at *
    simp only [ordL] at h1
    generalize hx : (x : Int) = x' at *
    generalize hy : (y : Int) = y' at *
    conv => whnf
    refine ⟨by kernel_rfl, ?_⟩
    conv => whnf
    refine ⟨⟨by omega, by rw [hX]; omega⟩, ?_⟩
    rw [gx]
    conv => whnf
    refine ⟨⟨by omega, by rw [hY]; omega⟩, ?_⟩
    rw [gy]
    conv => whnf
    refine ⟨by kernel_rfl, ?_⟩
    conv => whnf
    by_cases c1 : x < y
    · rw [if_pos c1] at h1
      refine brT (decide_eq_true (by omega)) ?_
      conv => whnf
      rw [← h1]
      exact ⟨rfl, rfl⟩
    rw [if_neg c1] at h1
    refine brF (decide_eq_false (by omega)) ?_
    conv => whnf
    refine ⟨by kernel_rfl, ?_⟩
    conv => whnf
    refine ⟨⟨by omega, by rw [hX]; omega⟩, ?_⟩
    rw [gx]
    conv => whnf
    refine ⟨⟨by omega, by rw [hY]; omega⟩, ?_⟩
    rw [gy]
    conv => whnf
    refine ⟨by kernel_rfl, ?_⟩
    conv => whnf
    by_cases c2 : y < x
    · rw [if_pos c2] at h1
      refine brT (decide_eq_true (by omega)) ?_
      conv => whnf
      rw [← h1]
      exact ⟨rfl, rfl⟩
    rw [if_neg c2] at h1
    refine brF (decide_eq_false (by omega)) ?_
    conv => whnf
    exact ⟨_, _, 0, (by omega : X.length - (j + 1) < X.length - j), ⟨j + 1, by omega, by omega, h1, rfl, rfl, rfl⟩, ⟨rfl, rfl, rfl, congrArg (fun z => some (i64 z)) e3, trivial⟩, rfl⟩
  · have h4 := of_decide_eq_false h4
    conv => whnf
    by_cases c1 : X.length < Y.length
    · have e : ordL X Y = -1 := by
        rw [← h1, List.drop_eq_nil_of_le (by omega), List.drop_eq_getElem_cons (show j < Y.length by omega)]; rfl
      refine brT (decide_eq_true (by rw [hX, hY]; omega)) ?_
      conv => whnf
      rw [e]
      exact ⟨rfl, rfl⟩
    refine brF (decide_eq_false (by rw [hX, hY]; omega)) ?_
    conv => whnf
    by_cases c2 : Y.length < X.length
    · have e : ordL X Y = 1 := by
        rw [← h1, List.drop_eq_nil_of_le (show Y.length ≤ j by omega), List.drop_eq_getElem_cons (show j < X.length by omega)]; rfl
      refine brT (decide_eq_true (by rw [hX, hY]; omega)) ?_
      conv => whnf
      rw [e]
      exact ⟨rfl, rfl⟩
    refine brF (decide_eq_false (by rw [hX, hY]; omega)) ?_
    conv => whnf
    have e : ordL X Y = 0 := by
      rw [← h1, List.drop_eq_nil_of_le (by omega), List.drop_eq_nil_of_le (by omega)]; rfl
    rw [e]
    exact ⟨rfl, rfl⟩

theorem rorder_c {a b : ByteArray} (ha : a.size < 1000000000) (hb : b.size < 1000000000) : CallR cx 75 [st a, st b] [] fun r S => r = i64 (ordL (keysAt a 0) (keysAt b 0)) ∧ S = [] := by
  have k1 := numbers_c ha
  have k2 := numbers_c hb
  have l1 := keysAt_length a 0
  have l2 := keysAt_length b 0
  generalize keysAt a 0 = X at *
  generalize keysAt b 0 = Y at *
  have hX : (ints X).length = X.length := List.length_map _
  have hY : (ints Y).length = Y.length := List.length_map _
  refine callR_of (R := R1) cx_ok Tryz.func75 (by kernel_rfl) rfl ?_
  conv => whnf
  refine ⟨_, k1, ?_⟩
  rintro _ _ ⟨rfl, rfl⟩
  conv => whnf
  refine ⟨_, k2, ?_⟩
  rintro _ _ ⟨rfl, rfl⟩
  conv => whnf
  refine .inl ⟨fun m l S => ∃ j : Nat, j ≤ X.length ∧ j ≤ Y.length ∧ ordL (X.drop j) (Y.drop j) = ordL X Y ∧ m = X.length - j ∧ l = [(5, .d (.sl 1 (ints X))), (6, .d (.sl 1 (ints Y))), (7, i64 (j : Int))] ∧ S = [],
    ⟨_, _, ⟨0, Nat.zero_le _, Nat.zero_le _, rfl, rfl, rfl, rfl⟩, ⟨rfl, rfl, rfl, trivial⟩⟩, ?_⟩
  rintro _ _ _ ⟨j, hj1, hj2, h1, rfl, rfl, rfl⟩
  conv => whnf
  by_cases hlt1 : j < X.length
  case neg =>
    refine brF (decide_eq_false (by rw [hX]; omega)) ?_
    conv => whnf
    by_cases c1 : X.length < Y.length
    · have e : ordL X Y = -1 := by
        rw [← h1, List.drop_eq_nil_of_le (by omega), List.drop_eq_getElem_cons (show j < Y.length by omega)]; rfl
      refine brT (decide_eq_true (by rw [hX, hY]; omega)) ?_
      conv => whnf
      rw [e]
      exact ⟨rfl, rfl⟩
    refine brF (decide_eq_false (by rw [hX, hY]; omega)) ?_
    conv => whnf
    by_cases c2 : Y.length < X.length
    · have e : ordL X Y = 1 := by
        rw [← h1, List.drop_eq_nil_of_le (show Y.length ≤ j by omega), List.drop_eq_getElem_cons (show j < X.length by omega)]; rfl
      refine brT (decide_eq_true (by rw [hX, hY]; omega)) ?_
      conv => whnf
      rw [e]
      exact ⟨rfl, rfl⟩
    refine brF (decide_eq_false (by rw [hX, hY]; omega)) ?_
    conv => whnf
    have e : ordL X Y = 0 := by
      rw [← h1, List.drop_eq_nil_of_le (by omega), List.drop_eq_nil_of_le (by omega)]; rfl
    rw [e]
    exact ⟨rfl, rfl⟩
  refine brT (decide_eq_true (by rw [hX]; omega)) ?_
  conv => whnf
  by_cases hlt2 : j < Y.length
  case neg =>
    refine brF (decide_eq_false (by rw [hY]; omega)) ?_
    conv => whnf
    by_cases c1 : X.length < Y.length
    · have e : ordL X Y = -1 := by
        rw [← h1, List.drop_eq_nil_of_le (by omega), List.drop_eq_getElem_cons (show j < Y.length by omega)]; rfl
      refine brT (decide_eq_true (by rw [hX, hY]; omega)) ?_
      conv => whnf
      rw [e]
      exact ⟨rfl, rfl⟩
    refine brF (decide_eq_false (by rw [hX, hY]; omega)) ?_
    conv => whnf
    by_cases c2 : Y.length < X.length
    · have e : ordL X Y = 1 := by
        rw [← h1, List.drop_eq_nil_of_le (show Y.length ≤ j by omega), List.drop_eq_getElem_cons (show j < X.length by omega)]; rfl
      refine brT (decide_eq_true (by rw [hX, hY]; omega)) ?_
      conv => whnf
      rw [e]
      exact ⟨rfl, rfl⟩
    refine brF (decide_eq_false (by rw [hX, hY]; omega)) ?_
    conv => whnf
    have e : ordL X Y = 0 := by
      rw [← h1, List.drop_eq_nil_of_le (by omega), List.drop_eq_nil_of_le (by omega)]; rfl
    rw [e]
    exact ⟨rfl, rfl⟩
  case pos =>
    refine brT (decide_eq_true (by rw [hY]; omega)) ?_
    have e3 : IntKind.i64.wrap ((j : Int) + 1) = ((j + 1 : Nat) : Int) := by rw [w64 (by omega)]; omega
    rw [List.drop_eq_getElem_cons hlt1, List.drop_eq_getElem_cons hlt2] at h1
    have gx := ints_getD hlt1
    have gy := ints_getD hlt2
    generalize X[j]'hlt1 = x at *
    generalize Y[j]'hlt2 = y at *
    simp only [ordL] at h1
    generalize hx : (x : Int) = x' at *
    generalize hy : (y : Int) = y' at *
    conv => whnf
    refine ⟨by kernel_rfl, ?_⟩
    conv => whnf
    refine ⟨⟨by omega, by rw [hX]; omega⟩, ?_⟩
    rw [gx]
    conv => whnf
    refine ⟨⟨by omega, by rw [hY]; omega⟩, ?_⟩
    rw [gy]
    conv => whnf
    refine ⟨by kernel_rfl, ?_⟩
    conv => whnf
    by_cases c1 : x < y
    · rw [if_pos c1] at h1
      refine brT (decide_eq_true (by omega)) ?_
      conv => whnf
      rw [← h1]
      exact ⟨rfl, rfl⟩
    rw [if_neg c1] at h1
    refine brF (decide_eq_false (by omega)) ?_
    conv => whnf
    refine ⟨by kernel_rfl, ?_⟩
    conv => whnf
    refine ⟨⟨by omega, by rw [hX]; omega⟩, ?_⟩
    rw [gx]
    conv => whnf
    refine ⟨⟨by omega, by rw [hY]; omega⟩, ?_⟩
    rw [gy]
    conv => whnf
    refine ⟨by kernel_rfl, ?_⟩
    conv => whnf
    by_cases c2 : y < x
    · rw [if_pos c2] at h1
      refine brT (decide_eq_true (by omega)) ?_
      conv => whnf
      rw [← h1]
      exact ⟨rfl, rfl⟩
    rw [if_neg c2] at h1
    refine brF (decide_eq_false (by omega)) ?_
    conv => whnf
    exact ⟨_, _, 0, (by omega : X.length - (j + 1) < X.length - j), ⟨j + 1, by omega, by omega, h1, rfl, rfl, rfl⟩, ⟨rfl, rfl, congrArg (fun z => some (i64 z)) e3, trivial⟩, rfl⟩
end Go.Proofs.YtmdfpifcghmpfaaGreatDoor

/- slices.Insert of one value into a slice of one's own, of whatever elements: the runs (after the kit's text for strings, turned to elements of more cells). -/
set_option linter.unusedVariables false
set_option linter.unusedSimpArgs false
namespace Go.Proofs.YtmdfpifcghmpfaaGreatDoor
open Go.Shelf Go.RowKit Go.Lib

section
variable {P : Program} {ρ : Ren}

/-- What a program has where slices.Insert lies in it. -/
structure InsL (P : Program) (ρ : Ren) (size bytes : Nat) (z : Value) : Prop where
  mixed : P.follows .mixedOrders = true
  f22 : ∃ nm, P.funcs[ρ.f 22]? = some { Body2.n22 ρ with name := nm }
  ov : ∀ args w v w', (Extern.SlicesOverlaps.overlaps #[ρ.t 24, ρ.t 24] #[ρ.t 4] args).run P w = .ok v w' → (callFunc (ρ.f 29) args).run P w = .ok (.value v) w'
  t3 : P.underlying (ρ.t 3) = some (TypeDesc.int IntKind.i64)
  a3 : ∀ w, (isAgg (ρ.t 3)).run P w = .ok false w
  z3 : ∀ w, (Go.sizeOf (ρ.t 3)).run P w = .ok 1 w
  v3 : ∀ w, (zeroValue (ρ.t 3)).run P w = .ok (Value.int IntKind.i64 0) w
  t4 : P.underlying (ρ.t 4) = some (TypeDesc.bool)
  a4 : ∀ w, (isAgg (ρ.t 4)).run P w = .ok false w
  z4 : ∀ w, (Go.sizeOf (ρ.t 4)).run P w = .ok 1 w
  v4 : ∀ w, (zeroValue (ρ.t 4)).run P w = .ok (Value.bool false) w
  t24 : P.underlying (ρ.t 24) = some (TypeDesc.slice (ρ.t 9))
  a24 : ∀ w, (isAgg (ρ.t 24)).run P w = .ok false w
  z24 : ∀ w, (Go.sizeOf (ρ.t 24)).run P w = .ok 1 w
  v24 : ∀ w, (zeroValue (ρ.t 24)).run P w = .ok (Value.slice none 0 0) w
  z9 : ∀ w, (Go.sizeOf (ρ.t 9)).run P w = .ok size w
  i9 : ∃ i0, P.info? (ρ.t 9) = some i0 ∧ i0.zero = some z ∧ i0.size = size ∧ i0.bytes = bytes
  zs : z.cells.size = size
  s0 : 0 < size

/-- Of elements of more cells. -/
theorem run_copy_cellsK (w : World) (dT sT ty elem : TypeId) (size b o dLen dCap : Nat) (a : Addr) (sLen sCap : Nat) (cs : List Value)
    (hu : P.underlying dT = some (.slice elem)) (hs : (P.info? elem).map (·.size) = some size) (hn : cs.length = Nat.min sLen dLen * size)
    (hsrc : ∀ j v, cs[j]? = some v → w.cell? (a.add j) = some v) (hc : ∀ j, j < cs.length → (w.cell? ⟨b, o + j, none⟩).isSome = true) (hf : ∀ j, j < cs.length → w.frozen? ⟨b, o + j, none⟩ = false) (h1 : ∀ v ∈ cs, v.oneCell' = true) :
    (Builtin.copy_ #[dT, sT] ty #[.slice (some ⟨b, o, none⟩) dLen dCap, .slice (some a) sLen sCap]).run P w = .ok (goInt (Nat.min sLen dLen : Nat)) (w.setCells b o cs) := by
  have hl := run_loadCells_list (P := P) w a cs hsrc
  have hst := run_storeCells_cells (P := P) b o cs 0 w (by simpa using hc) (by simpa using hf) h1
  cases hq : P.info? elem with
  | none => simp [hq] at hs
  | some i =>
    have hi : i.size = size := by simpa [hq] using hs
    simp [Builtin.copy_, run_underlying hu, Builtin.lenOf, Builtin.firstCells, sizeOf, typeInfo, hq, hi, ← hn, hl, hst]

/-- Two slices in two blocks, the second of which is a row of one's own: whatever the first's block is. -/
theorem run_overlaps_own (w : World) (tS tR e : TypeId) (ht : P.underlying tS = some (.slice e)) (size : Nat) (hz : ∀ w, (Go.sizeOf e).run P w = .ok size w)
    (a b : Addr) (la ca lb cb : Nat) (hne : a.block ≠ b.block) (tA tB : TypeId) (kA kB : Nat)
    (hsa : w.shape? a.block = some (tA, kA)) (hsb : w.shape? b.block = some (tB, kB)) (hkA : kA ≠ 0)
    (hfa : w.frozen? b = false) (hfe : w.frozen? { block := b.block, off := kB } = false) :
    (Extern.SlicesOverlaps.overlaps #[tS, tS] #[tR] #[.slice (some a) la ca, .slice (some b) lb cb]).run P w = .ok (.bool false) w := by
  have hnb : (a.block != b.block) = true := by simpa using hne
  have hnb' : (a.block == b.block) = false := by simpa using hne
  change Sem.run P (α := Value) (do
    let some t := (#[tS, tS] : Array TypeId)[0]? | stuck "slices.overlaps: no parameter types"
    let .slice elem ← underlying t | stuck "slices.overlaps: slice type expected"
    let size ← sizeOf elem
    match (some a : Option Addr), (some b : Option Addr) with
    | some a, some b =>
      if la = 0 ∨ lb = 0 ∨ size = 0 then pure (Value.bool false)
      else if a.block != b.block && (← frozen a) && (← frozen b) then unsupported .addressObserved
      else do
        if a.block != b.block then do
          noView a; noView b
          if ← mayBeOne a b then return Value.bool ((← choose (.extern "sameAddr.stringBytes" 2)) == 1)
        pure (Value.bool (a.block == b.block && a.off < b.off + lb * size && b.off < a.off + la * size))
    | _, _ => pure (Value.bool false)) w = _
  by_cases h0 : la = 0 ∨ lb = 0 ∨ size = 0
  · simp [run_underlying ht, hz, h0]
  · cases kA with
    | zero => exact absurd rfl hkA
    | succ kA =>
      cases hqa : w.frozen? a <;> cases hqe : w.frozen? { block := a.block, off := kA + 1 } <;> simp [run_underlying ht, hz, h0, hnb, hnb', frozen, noView, viewAt, mayBeOne, stringish, shape, Sem.run, hsa, hsb, hfa, hfe, hqa, hqe]

set_option maxHeartbeats 4000000 in
set_option maxRecDepth 100000 in
/-- There is room, ahead of an element: in place. -/
theorem insert_shift {size bytes : Nat} {z : Value} (L : InsL P ρ size bytes z) (b n c i vb voff m vc : Nat) (cs vs : List Value) (w : World) (hi : i < n) (hm : 0 < m) (hroom : n + m ≤ c) (hc63 : c ≤ 9223372036854775807) (hvb : vb ≠ b)
    (hcl : cs.length = n * size) (hvl : vs.length = m * size)
    (hcs : ∀ j v, cs[j]? = some v → w.cell? ⟨b, j, none⟩ = some v) (hsp : ∀ j, j < (n + m) * size → (w.cell? ⟨b, j, none⟩).isSome = true) (hfz : ∀ j, w.frozen? ⟨b, j, none⟩ = false)
    (hvs : ∀ j v, vs[j]? = some v → w.cell? ⟨vb, voff + j, none⟩ = some v) (h1c : ∀ v ∈ cs, v.oneCell' = true) (h1v : ∀ v ∈ vs, v.oneCell' = true)
    (tA tB : TypeId) (kA kB : Nat) (hsa : w.shape? vb = some (tA, kA)) (hsb : w.shape? b = some (tB, kB)) (hkA : kA ≠ 0) :
    Calls P (ρ.f 22) #[.slice (some ⟨b, 0, none⟩) n c, .int .i64 i, .slice (some ⟨vb, voff, none⟩) m vc] w fun e w' =>
      e = .returned (.slice (some ⟨b, 0, none⟩) (n + m) c) ∧ w' = (w.drew.setCells b ((i + m) * size) (cs.drop (i * size))).setCells b (i * size) vs := by
  have t3 := L.t3; have a3 := L.a3; have z3 := L.z3; have v3 := L.v3; have t4 := L.t4; have a4 := L.a4; have z4 := L.z4; have v4 := L.v4; have z9 := L.z9; have t24 := L.t24; have a24 := L.a24; have z24 := L.z24; have v24 := L.v24
  have u3 := run_underlying L.t3; have u4 := run_underlying L.t4; have u24 := run_underlying L.t24
  obtain ⟨nm, FG⟩ := L.f22
  have hz1 : ¬ ((m : Int) = 0) := by omega
  have hz2 : ¬ ((i : Int) = (n : Int)) := by omega
  have hsz : (P.info? (ρ.t 9)).map (·.size) = some size := by
    obtain ⟨i0, hi0, h0, h1, h2⟩ := L.i9
    rw [hi0]; simp [h1]
  have hov : ∀ lb cb, (callFunc (ρ.f 29) #[.slice (some ⟨vb, voff, none⟩) m vc, .slice (some ⟨b, (i + m) * size, none⟩) lb cb]).run P w = .ok (.value (.bool false)) w := fun lb cb =>
    L.ov _ _ _ _ (run_overlaps_own w (ρ.t 24) (ρ.t 4) (ρ.t 9) L.t24 size L.z9 ⟨vb, voff, none⟩ ⟨b, (i + m) * size, none⟩ m vc lb cb hvb tA tB kA kB hsa hsb hkA (hfz _) (hfz _))
  have hdl : (cs.drop (i * size)).length = (n - i) * size := by rw [List.length_drop, hcl, Nat.sub_mul]
  have mixed := L.mixed
  have hw1 : IntKind.i64.wrap ((i : Int) + (m : Int)) = (i : Int) + (m : Int) := by rw [IntKind.wrap_i64]; omega
  have hb1 : (0 : Int) ≤ (i : Int) + (m : Int) := by omega
  have hin : i ≤ n := by omega
  have htn : ((i : Int) + (m : Int)).toNat = i + m := by omega
  have hb2 : ¬ (c = i + m) := by omega
  have hb3 : (i : Int) ≤ (n : Int) + (m : Int) := by omega
  have hb4 : ¬ (c = i) := by omega
  have hmin1 : Nat.min (n + m - i) (n + m - (i + m)) = n - i := by simp only [Nat.min_def]; split <;> omega
  have hmin2 : Nat.min m (n + m - i) = m := by simp only [Nat.min_def]; split <;> omega
  have hcut : (i + m) * size + (n - i) * size = (n + m) * size := by rw [← Nat.add_mul]; congr 1; omega
  have hcut2 : i * size + m * size ≤ (n + m) * size := by rw [← Nat.add_mul]; exact Nat.mul_le_mul_right _ (by omega)
  have hcp1 : ∀ ty dc sc, (Builtin.copy_ #[(ρ.t 24), (ρ.t 24)] ty #[.slice (some ⟨b, (i + m) * size, none⟩) (n + m - (i + m)) dc, .slice (some ⟨b, i * size, none⟩) (n + m - i) sc]).run P w.drew = .ok (goInt (n - i : Nat)) (w.drew.setCells b ((i + m) * size) (cs.drop (i * size))) := fun ty dc sc => by
    have h := run_copy_cellsK (P := P) w.drew (ρ.t 24) (ρ.t 24) ty (ρ.t 9) size b ((i + m) * size) (n + m - (i + m)) dc ⟨b, i * size, none⟩ (n + m - i) sc (cs.drop (i * size)) L.t24 hsz (by rw [hdl, hmin1])
      (fun j v hj => by rw [Addr.add_lit]; exact hcs (i * size + j) v (by rwa [List.getElem?_drop] at hj))
      (fun j hj => hsp _ (by omega)) (fun j hj => hfz _) (fun v hv => h1c v (List.mem_of_mem_drop hv))
    rw [hmin1] at h
    exact h
  obtain ⟨W1, hW1⟩ : ∃ W1, W1 = w.drew.setCells b ((i + m) * size) (cs.drop (i * size)) := ⟨_, rfl⟩
  have hsp1 : ∀ k, k < (n + m) * size → (W1.cell? ⟨b, k, none⟩).isSome = true := fun k hk => by
    rw [hW1]
    exact isSome_setCells b (cs.drop (i * size)) ((i + m) * size) w.drew (fun j hj => hsp _ (by rw [hdl] at hj; omega)) _ (hsp k hk)
  have hcp2 : ∀ (W : World), (∀ x, W.cell? x = W1.cell? x) → (∀ x, W.frozen? x = W1.frozen? x) → ∀ ty dc, (Builtin.copy_ #[(ρ.t 24), (ρ.t 24)] ty #[.slice (some ⟨b, i * size, none⟩) (n + m - i) dc, .slice (some ⟨vb, voff, none⟩) m vc]).run P W = .ok (goInt m) (W.setCells b (i * size) vs) := fun W hWc hWf ty dc => by
    have h := run_copy_cellsK (P := P) W (ρ.t 24) (ρ.t 24) ty (ρ.t 9) size b (i * size) (n + m - i) dc ⟨vb, voff, none⟩ m vc vs L.t24 hsz (by rw [hvl, hmin2])
      (fun j v hj => by
        rw [Addr.add_lit, hWc, hW1, World.cell?_setCells_out b _ _ _ _ (fun h _ => absurd h hvb)]
        exact hvs j v hj)
      (fun j hj => by rw [hWc]; exact hsp1 _ (by omega)) (fun j hj => by rw [hWf, hW1, World.frozen?_setCells]; exact hfz _) h1v
    rw [hmin2] at h
    exact h
  rw [← hW1] at hcp1
  clear hmin1 hmin2 hcut hcut2
  go_enter FG, Body2.n22_ntmps ρ
  go_wp2_with (simp only [hov])
  go_region_law_o (refine step_copy_runI rfl _ _ (ρ.t 24) (ρ.t 24) rfl _ _ (by simp [Act.eval, Act.put]) (by simp [Act.eval, Act.put]) (hcp1 _ _ _) ?_)
  go_wp2_with (at_builtin; refine wpList_copy_runI _ rfl _ _ (ρ.t 24) (ρ.t 24) rfl _ _ rfl rfl (hcp2 _ (fun _ => rfl) (fun _ => rfl) _ _) ?_)
  go_ret
  first | exact ⟨rfl, rfl⟩ | exact ⟨rfl, by rw [hW1]⟩

set_option maxHeartbeats 4000000 in
set_option maxRecDepth 100000 in
/-- At the end: what append gives. -/
theorem insert_end {size bytes : Nat} {z : Value} (L : InsL P ρ size bytes z) (a : Option Addr) (n c vb voff m vc : Nat) (w : World) (hm : 0 < m) (hnc : n ≤ c) (v' : Value) (w' : World)
    (hr : ∀ ty, (Builtin.append_ #[ρ.t 24, ρ.t 24] ty #[.slice a n c, .slice (some ⟨vb, voff, none⟩) m vc]).run P w = .ok v' w') :
    Calls P (ρ.f 22) #[.slice a n c, .int .i64 n, .slice (some ⟨vb, voff, none⟩) m vc] w fun e w1 => e = .returned v' ∧ w1 = w' := by
  have t3 := L.t3; have a3 := L.a3; have z3 := L.z3; have v3 := L.v3; have t4 := L.t4; have a4 := L.a4; have z4 := L.z4; have v4 := L.v4; have z9 := L.z9; have t24 := L.t24; have a24 := L.a24; have z24 := L.z24; have v24 := L.v24
  have u3 := run_underlying L.t3; have u4 := run_underlying L.t4; have u24 := run_underlying L.t24
  obtain ⟨nm, FG⟩ := L.f22
  have hz1 : ¬ ((m : Int) = 0) := by omega
  have mixed := L.mixed
  go_enter FG, Body2.n22_ntmps ρ
  go_wp2_with (at_builtin; refine Lib.wpList_append_run _ rfl _ _ _ _ rfl _ _ rfl rfl _ _ (hr _) ?_)
  all_goals
    go_ret
    exact ⟨rfl, rfl⟩

set_option maxHeartbeats 4000000 in
set_option maxRecDepth 100000 in
/-- No room, ahead of an element: a new row. -/
theorem insert_grow {size bytes : Nat} {z : Value} (L : InsL P ρ size bytes z) (b n c i vb voff m vc : Nat) (cs vs : List Value) (w : World) (hi : i < n) (hm : 0 < m) (hnc : n ≤ c) (hroom : c < n + m) (hbig : (n + m) * bytes ≤ 140737488355328) (h63 : n + m ≤ maxLen)
    (hcl : cs.length = n * size) (hvl : vs.length = m * size) (hbw : b < w.heap.size) (hvw : vb < w.heap.size)
    (hcs : ∀ j v, cs[j]? = some v → w.cell? ⟨b, j, none⟩ = some v)
    (hvs : ∀ j v, vs[j]? = some v → w.cell? ⟨vb, voff + j, none⟩ = some v) (h1c : ∀ v ∈ cs, v.oneCell' = true) (h1v : ∀ v ∈ vs, v.oneCell' = true) :
    Calls P (ρ.f 22) #[.slice (some ⟨b, 0, none⟩) n c, .int .i64 i, .slice (some ⟨vb, voff, none⟩) m vc] w fun e w' =>
      e = .returned (.slice (some ⟨w.heap.size, 0, none⟩) (n + m) (grownCap w (n + m) c (ρ.t 9))) ∧
      w' = (((w.alloc (.cells ((cs.take (i * size)).toArray ++ Builtin.zeroCells z.cells (n + m - i) ++ Builtin.zeroCells z.cells (grownCap w (n + m) c (ρ.t 9) - (n + m))) (ρ.t 9))).drew.setCells w.heap.size (i * size) vs).drew).setCells w.heap.size ((i + m) * size) (cs.drop (i * size)) := by
  have t3 := L.t3; have a3 := L.a3; have z3 := L.z3; have v3 := L.v3; have t4 := L.t4; have a4 := L.a4; have z4 := L.z4; have v4 := L.v4; have z9 := L.z9; have t24 := L.t24; have a24 := L.a24; have z24 := L.z24; have v24 := L.v24
  have u3 := run_underlying L.t3; have u4 := run_underlying L.t4; have u24 := run_underlying L.t24
  obtain ⟨nm, FG⟩ := L.f22
  obtain ⟨i0, hi0, hz0, hzs, hzb⟩ := L.i9
  have hz1 : ¬ ((m : Int) = 0) := by omega
  have hz2 : ¬ ((i : Int) = (n : Int)) := by omega
  have hz3 : (c : Int) < (n : Int) + (m : Int) := by omega
  have hm63 : maxLen ≤ 9223372036854775807 := by unfold maxLen; omega
  have hsz : (P.info? (ρ.t 9)).map (·.size) = some size := by rw [hi0]; simp [hzs]
  have mixed := L.mixed
  have hkk : (n : Int) + (m : Int) - (i : Int) = ((n + m - i : Nat) : Int) := by omega
  have hik : i + (n + m - i) = n + m := by omega
  have hik2 : i * size + (n + m - i) * size = (n + m) * size := by rw [← Nat.add_mul, hik]
  have hin2 : i * size ≤ n * size := Nat.mul_le_mul_right _ (by omega)
  have htl : (cs.take (i * size)).length = i * size := by rw [List.length_take]; omega
  have hold : (Builtin.firstCells i0.size i (.slice (some ⟨b, 0, none⟩) i c)).run P w.drew = .ok (cs.take (i * size)).toArray w.drew := by
    rw [hzs]
    exact run_firstCells_some w.drew size i ⟨b, 0, none⟩ i c (cs.take (i * size)) htl (fun j v hj => by
      rw [Addr.add_lit, Nat.zero_add]
      rw [List.getElem?_take] at hj
      split at hj
      · exact hcs j v hj
      · cases hj)
  have hle1 : (n + m - i) * bytes ≤ (n + m) * bytes := Nat.mul_le_mul_right _ (by omega)
  have hrz : ∀ ty, (Builtin.append_ #[(ρ.t 24), (ρ.t 3)] ty #[.slice (some ⟨b, 0, none⟩) i c, .int .i64 ((n : Int) + (m : Int) - (i : Int))]).run P w =
      .ok (.slice (some ⟨w.heap.size, 0, none⟩) (n + m) (grownCap w (n + m) c (ρ.t 9))) (w.drew.alloc (.cells ((cs.take (i * size)).toArray ++ Builtin.zeroCells z.cells (n + m - i) ++ Builtin.zeroCells z.cells (grownCap w (n + m) c (ρ.t 9) - (n + m))) (ρ.t 9))) := fun ty => by
    have h := Lib.run_append_grow_zeros w (ρ.t 24) (ρ.t 3) ty (ρ.t 9) i0 z .i64 .i64 L.t24 L.t3 hi0 hz0 (some ⟨b, 0, none⟩) i c (cs.take (i * size)) hold (n + m - i) (by omega) (by rw [hzs]; exact L.s0) (by omega) (by omega) (by rw [hzb]; omega) (by rw [hzb, hik]; exact growslice_fits hroom hbig)
    rw [hik] at h
    rw [hkk]
    exact h
  obtain ⟨G, hG⟩ : ∃ G, G = grownCap w (n + m) c (ρ.t 9) := ⟨_, rfl⟩
  obtain ⟨ROW, hROW⟩ : ∃ ROW : Array Value, ROW = (cs.take (i * size)).toArray ++ Builtin.zeroCells z.cells (n + m - i) ++ Builtin.zeroCells z.cells (G - (n + m)) := ⟨_, rfl⟩
  rw [← hG] at hrz ⊢
  rw [← hROW] at hrz ⊢
  have hRl : (n + m) * size ≤ ROW.size := by
    rw [hROW]
    simp only [Builtin.zeroCells, Array.size_append, List.size_toArray, Array.size_map, Array.size_range, htl, L.zs]
    omega
  obtain ⟨W1, hW1⟩ : ∃ W1, W1 = w.drew.alloc (.cells ROW (ρ.t 9)) := ⟨_, rfl⟩
  rw [← hW1] at hrz
  have hN : ∀ j, j < (n + m) * size → (W1.cell? ⟨w.heap.size, j, none⟩).isSome = true := fun j hj => by
    rw [hW1, World.cell?_alloc_at (w := w.drew) ROW _ w.heap.size j rfl, Array.getElem?_eq_getElem (by omega)]; rfl
  have hNf : ∀ j, W1.frozen? ⟨w.heap.size, j, none⟩ = false := fun j => by rw [hW1]; exact World.frozen?_alloc_at (w := w.drew) ROW _ w.heap.size j rfl
  have hOb : ∀ j v, w.cell? ⟨b, j, none⟩ = some v → W1.cell? ⟨b, j, none⟩ = some v := fun j v h => by rw [hW1, World.cell?_alloc_past (w := w.drew) _ b j hbw]; exact h
  have hOv : ∀ j v, w.cell? ⟨vb, j, none⟩ = some v → W1.cell? ⟨vb, j, none⟩ = some v := fun j v h => by rw [hW1, World.cell?_alloc_past (w := w.drew) _ vb j hvw]; exact h
  have hmin1 : Nat.min m (n + m - i) = m := by simp only [Nat.min_def]; split <;> omega
  have hmin2 : Nat.min (n - i) (n + m - (i + m)) = n - i := by simp only [Nat.min_def]; split <;> omega
  have hcut : (i + m) * size + (n - i) * size = (n + m) * size := by rw [← Nat.add_mul]; congr 1; omega
  have hcut2 : i * size + m * size ≤ (n + m) * size := by rw [← Nat.add_mul]; exact Nat.mul_le_mul_right _ (by omega)
  have hcpA : ∀ (W : World), (∀ x, W.cell? x = W1.cell? x) → (∀ x, W.frozen? x = W1.frozen? x) → ∀ ty dc, (Builtin.copy_ #[(ρ.t 24), (ρ.t 24)] ty #[.slice (some ⟨w.heap.size, i * size, none⟩) (n + m - i) dc, .slice (some ⟨vb, voff, none⟩) m vc]).run P W = .ok (goInt m) (W.setCells w.heap.size (i * size) vs) := fun W hWc hWf ty dc => by
    have h := run_copy_cellsK (P := P) W (ρ.t 24) (ρ.t 24) ty (ρ.t 9) size w.heap.size (i * size) (n + m - i) dc ⟨vb, voff, none⟩ m vc vs L.t24 hsz (by rw [hvl, hmin1])
      (fun j v hj => by rw [Addr.add_lit, hWc]; exact hOv _ v (hvs j v hj))
      (fun j hj => by rw [hWc]; exact hN _ (by omega)) (fun j hj => by rw [hWf]; exact hNf _) h1v
    rw [hmin1] at h
    exact h
  have hGn : n + m ≤ G := by rw [hG]; exact grownCap_ge w _ _ _
  have hG63 : G ≤ 9223372036854775807 := by
    have := grownCap_le_maxLen w (n + m) c (ρ.t 9) h63
    rw [← hG] at this
    omega
  have hGi : ¬ (G = i) := by omega
  have hGim : ¬ (G = i + m) := by omega
  have hci : ¬ (c = i) := by omega
  have hbN : b ≠ w.heap.size := by omega
  have hdl : (cs.drop (i * size)).length = (n - i) * size := by rw [List.length_drop, hcl, Nat.sub_mul]
  have hcpB : ∀ (W : World), (∀ x, W.cell? x = (W1.setCells w.heap.size (i * size) vs).cell? x) → (∀ x, W.frozen? x = (W1.setCells w.heap.size (i * size) vs).frozen? x) → ∀ ty dc sc, (Builtin.copy_ #[(ρ.t 24), (ρ.t 24)] ty #[.slice (some ⟨w.heap.size, (i + m) * size, none⟩) (n + m - (i + m)) dc, .slice (some ⟨b, i * size, none⟩) (n - i) sc]).run P W = .ok (goInt (n - i : Nat)) (W.setCells w.heap.size ((i + m) * size) (cs.drop (i * size))) := fun W hWc hWf ty dc sc => by
    have h := run_copy_cellsK (P := P) W (ρ.t 24) (ρ.t 24) ty (ρ.t 9) size w.heap.size ((i + m) * size) (n + m - (i + m)) dc ⟨b, i * size, none⟩ (n - i) sc (cs.drop (i * size)) L.t24 hsz (by rw [hdl, hmin2])
      (fun j v hj => by
        rw [Addr.add_lit, hWc, World.cell?_setCells_out _ _ _ _ _ (fun h _ => absurd h hbN)]
        exact hOb _ v (hcs (i * size + j) v (by rwa [List.getElem?_drop] at hj)))
      (fun j hj => by rw [hWc]; exact isSome_setCells w.heap.size vs (i * size) W1 (fun t ht => hN _ (by omega)) _ (hN _ (by omega)))
      (fun j hj => by rw [hWf, World.frozen?_setCells]; exact hNf _) (fun v hv => h1c v (List.mem_of_mem_drop hv))
    rw [hmin2] at h
    exact h
  subst hW1
  have hE1 : ∀ x, ((w.alloc (.cells ROW (ρ.t 9))).drew).cell? x = (w.drew.alloc (.cells ROW (ρ.t 9))).cell? x := fun x => rfl
  have hE2 : ∀ x, ((w.alloc (.cells ROW (ρ.t 9))).drew).frozen? x = (w.drew.alloc (.cells ROW (ρ.t 9))).frozen? x := fun x => rfl
  have hF1 : ∀ x, (((w.alloc (.cells ROW (ρ.t 9))).drew.setCells w.heap.size (i * size) vs).drew).cell? x = ((w.drew.alloc (.cells ROW (ρ.t 9))).setCells w.heap.size (i * size) vs).cell? x := fun x => rfl
  have hF2 : ∀ x, (((w.alloc (.cells ROW (ρ.t 9))).drew.setCells w.heap.size (i * size) vs).drew).frozen? x = ((w.drew.alloc (.cells ROW (ρ.t 9))).setCells w.heap.size (i * size) vs).frozen? x := fun x => rfl
  have hw1 : IntKind.i64.wrap ((i : Int) + (m : Int)) = (i : Int) + (m : Int) := by rw [IntKind.wrap_i64]; omega
  have hb1 : (0 : Int) ≤ (i : Int) + (m : Int) := by omega
  have hin : i ≤ n := by omega
  have htn : ((i : Int) + (m : Int)).toNat = i + m := by omega
  have hb3 : (i : Int) ≤ (n : Int) := by omega
  clear hkk hik hold hROW hG hRl hik2 hin2 htl hle1 hmin1 hmin2 hcut hcut2
  go_enter FG, Body2.n22_ntmps ρ
  go_wp2_with (first
    | (at_builtin; refine Lib.wpList_append_run _ rfl _ _ _ _ rfl _ _ rfl rfl _ _ (hrz _) ?_)
    | (at_builtin; refine wpList_copy_runI _ rfl _ _ (ρ.t 24) (ρ.t 24) rfl _ _ rfl rfl (hcpA _ hE1 hE2 _ _) ?_)
    | (at_builtin; refine wpList_copy_runI _ rfl _ _ (ρ.t 24) (ρ.t 24) rfl _ _ rfl rfl (hcpB _ (fun _ => rfl) (fun _ => rfl) _ _ _) ?_))
  go_region_law_o (refine step_copy_runI rfl _ _ (ρ.t 24) (ρ.t 24) rfl (.slice (some ⟨w.heap.size, (i + m) * size, none⟩) (n + m - (i + m)) (G - (i + m))) (.slice (some ⟨b, i * size, none⟩) (n - i) (c - i)) (by simp [Act.eval, Act.put]) (by simp [Act.eval, Act.put]) (hcpB _ hF1 hF2 (ρ.t 3) (G - (i + m)) (c - i)) ?_)
  go_wp2
  go_ret
  exact ⟨rfl, rfl⟩
end
end Go.Proofs.YtmdfpifcghmpfaaGreatDoor

/- slices.Insert of one value into a slice of one's own, in the own logic. -/
namespace Go.Proofs.YtmdfpifcghmpfaaGreatDoor
open Go.Shelf Go.RowKit Go.Lib Go.Ab

theorem setCells_row : ∀ (vs : List Value) (o : Nat) (w : World) (b : Nat) (cur : Array Value) (T : TypeId), w.heap[b]? = some (.cells cur T (0, 0)) → o + vs.length ≤ cur.size →
    (w.setCells b o vs).heap[b]? = some (.cells (cur.toList.take o ++ vs ++ cur.toList.drop (o + vs.length)).toArray T (0, 0)) ∧ (w.setCells b o vs).os = w.os ∧ (w.setCells b o vs).tape = w.tape ∧ (w.setCells b o vs).output = w.output ∧
      (w.setCells b o vs).heap.size = w.heap.size ∧ ∀ k, k ≠ b → (w.setCells b o vs).heap[k]? = w.heap[k]?
  | [], o, w, b, cur, T, h, hl => by
    refine ⟨?_, rfl, rfl, rfl, rfl, fun _ _ => rfl⟩
    simp only [World.setCells, List.append_nil, List.length_nil, Nat.add_zero, List.take_append_drop]
    rw [h]
  | v :: r, o, w, b, cur, T, h, hl => by
    have h1 : (w.setCell ⟨b, o, none⟩ v).heap[b]? = some (.cells (cur.setIfInBounds o v) T (0, 0)) := by
      simp only [World.setCell, Array.getElem?_modify, if_pos, h]
      rfl
    simp only [List.length_cons] at hl
    obtain ⟨g1, g2, g3, g4, g5, g6⟩ := setCells_row r (o + 1) (w.setCell ⟨b, o, none⟩ v) b _ T h1 (by simp; omega)
    refine ⟨?_, g2, g3, g4, by rw [World.setCells, g5]; simp [World.setCell], fun k hk => ?_⟩
    · rw [World.setCells, g1]
      congr 3
      have e := list_seg_step cur.toList o v r (by simp; omega)
      simpa [Array.toList_setIfInBounds, Nat.add_assoc] using e
    · rw [World.setCells, g6 k hk]
      simp [World.setCell, Array.getElem?_modify, Ne.symm hk]

/-- A slice of one's own in the place of another one, in its memory or in new memory. -/
theorem ownFor {c : Ctx} {μ : Nat → Value} {G : Nat → Nat → Prop} {w w' : World} {e e' : TypeId} {sz sz' : Nat} {xs ys : List D} {v' : Value} (st : St (base c [.own e sz xs] μ G w) [.own e sz xs] μ G w)
    (ho : w'.os = w.os) (ht : w'.tape = w.tape) (hp : w'.output = w.output) (hs : w.heap.size ≤ w'.heap.size) (hh : ∀ k, k < w.heap.size → bid (μ 0) ≠ some k → w'.heap[k]? = w.heap[k]?)
    (hv : ∀ n, bid v' = some n → w.heap.size ≤ n ∨ bid (μ 0) = some n) (hb : BlkOk (upd μ 1 v') 2 w' G v' (.own e' sz' ys)) :
    St (base c [.own e sz xs] μ G w) [.dead, .own e' sz' ys] (upd μ 1 v') G w' := by
  have hX : ∀ n, bid (μ 0) = some n → (base c [.own e sz xs] μ G w).X n := fun n hn => ⟨0, by simp [base], ⟨_, rfl, rfl⟩, hn⟩
  have hfree : ∀ n, bid (μ 0) = some n → ∀ o, ¬ G n o := fun n hn o => st.free 0 _ n rfl rfl hn o (Nat.zero_le _)
  have hcell : ∀ b o v, G b o → w.cell? ⟨b, o, none⟩ = some v → w'.cell? ⟨b, o, none⟩ = some v := fun b o v hg hc => by
    rw [cell?_heap (hh b (st.gv b o hg) (fun e => hfree b e o hg))]; exact hc
  have two : ∀ (i : Nat) (d : Blk), ([Blk.dead, .own e' sz' ys] : List Blk)[i]? = some d → d.live = true → i = 1 ∧ d = .own e' sz' ys := by
    intro i d hd hl
    match i, hd with
    | 0, hd => cases hd; cases hl
    | 1, hd => cases hd; exact ⟨rfl, rfl⟩
  have hu : upd μ 1 v' 1 = v' := by simp [upd]
  exact {
    blks := by
      intro i d hd
      match i, hd with
      | 0, hd => cases hd; trivial
      | 1, hd => cases hd; rw [hu]; exact hb
    apart := by
      intro i j b d hb hd hl hl' hij
      exact absurd ((two i b hb hl).1.trans (two j d hd hl').1.symm) hij
    free := by
      intro i d n hd hl hn o _ hg
      obtain ⟨rfl, rfl⟩ := two i d hd hl
      rw [hu] at hn
      rcases hv n hn with h | h
      · have := st.gv n o hg; omega
      · exact hfree n h o hg
    gv := fun b o hg => Nat.lt_of_lt_of_le (st.gv b o hg) hs
    k0 := by simp [base]
    keep := fun i hi => by simp [base] at hi; subst hi; simp [upd, base]
    g0 := fun _ _ h => h
    gn := fun _ _ h => .inl h
    new := by
      intro i d n hi hd hl hn
      obtain ⟨rfl, rfl⟩ := two i d hd hl
      rw [hu] at hn
      rcases hv n hn with h | h
      · exact .inl h
      · exact .inr (hX n h)
    os := ho
    tape := ht
    output := hp
    size := hs
    fr := fun k hk hx => hh k hk (fun e => hx (hX k e))
    lv := by
      intro i d hi hd hl
      obtain ⟨rfl, rfl⟩ := two i d hd hl
      simp [base] at hi
    glob := fun g x hg => (st.glob g x hg).mono (fun _ _ h => h) hcell
    gw := fun b o v h1 h2 => hcell b o v h1 h2 }

theorem shift_list (L cs vs : List Value) (A s N : Nat) (hA : A ≤ N) (hcs : cs.length = N) (hvs : vs.length = s) (hL : N + s ≤ L.length) (hpre : L.take A = cs.take A) :
    ((L.take (A + s) ++ cs.drop A ++ L.drop (A + s + (cs.drop A).length)).take A ++ vs ++ (L.take (A + s) ++ cs.drop A ++ L.drop (A + s + (cs.drop A).length)).drop (A + vs.length)).take (N + s) = cs.take A ++ (vs ++ cs.drop A) := by
  have hl : (L.take (A + s)).length = A + s := by rw [List.length_take]; omega
  have e1 : (L.take (A + s) ++ cs.drop A ++ L.drop (A + s + (cs.drop A).length)).take A = cs.take A := by
    rw [List.append_assoc, List.take_append_of_le_length (by omega), List.take_take, Nat.min_eq_left (by omega), hpre]
  have e2 : (L.take (A + s) ++ cs.drop A ++ L.drop (A + s + (cs.drop A).length)).drop (A + vs.length) = cs.drop A ++ L.drop (A + s + (cs.drop A).length) := by
    rw [List.append_assoc, List.drop_left' (by omega)]
  rw [e1, e2]
  have h3 : (cs.take A ++ vs ++ cs.drop A).length = N + s := by simp; omega
  rw [← List.append_assoc, List.take_left' h3, List.append_assoc]

theorem grow_list (R cs vs : List Value) (A s N : Nat) (hA : A ≤ N) (hcs : cs.length = N) (hvs : vs.length = s) (hpre : R.take A = cs.take A) :
    ((R.take A ++ vs ++ R.drop (A + vs.length)).take (A + s) ++ cs.drop A ++ (R.take A ++ vs ++ R.drop (A + vs.length)).drop (A + s + (cs.drop A).length)).take (N + s) = cs.take A ++ (vs ++ cs.drop A) := by
  have hl : (cs.take A ++ vs).length = A + s := by simp; omega
  have e1 : (R.take A ++ vs ++ R.drop (A + vs.length)).take (A + s) = cs.take A ++ vs := by
    rw [hpre, List.take_left' hl]
  rw [e1]
  have h3 : (cs.take A ++ vs ++ cs.drop A).length = N + s := by simp; omega
  rw [List.take_left' h3, List.append_assoc]

theorem VS.three {μ k w G x y z vals} (h : VS μ k w G [x, y, z] vals) : ∃ u v t, vals = [u, v, t] ∧ VA μ k w G x u ∧ VA μ k w G y v ∧ VA μ k w G z t := by
  cases h with
  | cons h1 h =>
  cases h with
  | cons h2 h =>
  cases h with
  | cons h3 h =>
  cases h
  exact ⟨_, _, _, rfl, h1, h2, h3⟩

theorem insert_c {ρ : Ren} {sz bytes : Nat} {z : Value} (L : InsL Tryz.prog ρ sz bytes z) {fn : Func} {xs : List D} {x : D} {e i : Nat} (he : ρ.t 9 = e) (hf : Tryz.prog.funcs[ρ.f 22]? = some fn) (hname : (fn.name == "runtime.NumGoroutine") = false) (hbd : fn.body.isSome = true)
    (hi : i ≤ xs.length) (hl : xs.length + 1 ≤ maxLen) (hbig : (xs.length + 1) * (bytes + 1) ≤ 140737488355328) :
    CallR cx (ρ.f 22) [.row 0, .d (.int .i64 i), .d (.sl sz [x])] [.own e sz xs] fun r S => r = .row 1 ∧ S = [.dead, .own e sz (xs.take i ++ x :: xs.drop i)] := by
  subst he
  refine callR_raw (c := cx) hf hname hbd fun μ G w vals st hv => ?_
  obtain ⟨v0, v1, v2, rfl, a0, a1, a2⟩ := VS.three hv
  obtain ⟨_, rfl⟩ := ca_row_inv a0
  obtain rfl := (VA.d_iff.1 a1).int_inv
  obtain ⟨cs, ho, hc, hs⟩ := st.blks 0 _ rfl
  have h1c := hc.oneCell
  have hcl : cs.length = xs.length * sz := D.eqLen hc hs
  have s0 := L.s0
  have hbig1 : (xs.length + 1) * bytes ≤ 140737488355328 := Nat.le_trans (Nat.mul_le_mul_left _ (by omega)) hbig
  rcases (VA.d_iff.1 a2).sl_inv with ⟨_, h⟩ | ⟨⟨vb, voff, sp⟩, vc, vs, rfl, g1, g2, g3, g4, g5, g6⟩
  · cases h
  obtain rfl : sp = none := g4.resolve_left (by simp)
  have hvl : vs.length = 1 * sz := D.eqLen g1 g2
  have h1v := g1.oneCell
  have hvs : ∀ j v, vs[j]? = some v → w.cell? ⟨vb, voff + j, none⟩ = some v := fun j v hj => (g3 j v hj).1
  have hG0 : G vb (voff + 0) := (g3 0 _ (List.getElem?_eq_getElem (by omega))).2
  have hvw : vb < w.heap.size := st.gv _ _ hG0
  have hvn : ∀ n, bid (μ 0) = some n → vb ≠ n := fun n hn e => by subst e; exact st.free 0 _ vb rfl rfl hn _ (Nat.zero_le _) hG0
  -- from the run to the store
  have fin : ∀ (v' : Value) (w' : World) (cs' : List Value), w'.os = w.os → w'.tape = w.tape → w'.output = w.output → w.heap.size ≤ w'.heap.size → (∀ k, k < w.heap.size → bid (μ 0) ≠ some k → w'.heap[k]? = w.heap[k]?) →
      (∀ n, bid v' = some n → w.heap.size ≤ n ∨ bid (μ 0) = some n) → w'.ownsRow 0 (ρ.t 9) sz v' (xs.length + 1) cs' → cs' = cs.take (i * sz) ++ (vs ++ cs.drop (i * sz)) →
      ∃ v r S' μ' G', Ending.returned v' = Ending.returned v ∧ (r = AV.row 1 ∧ S' = [Blk.dead, Blk.own (ρ.t 9) sz (xs.take i ++ x :: xs.drop i)]) ∧ St (base cx [.own (ρ.t 9) sz xs] μ G w) S' μ' G' w' ∧ RA μ' S'.length w' G' r v := by
    intro v' w' cs' k1 k2 k3 k4 k5 k6 k7 k8
    have hcell : ∀ b o v, G b o → w.cell? ⟨b, o, none⟩ = some v → w'.cell? ⟨b, o, none⟩ = some v := fun b o v hg hc => by
      rw [cell?_heap (k5 b (st.gv b o hg) (fun e => st.free 0 _ b rfl rfl e o (Nat.zero_le _) hg))]; exact hc
    have hsplit : xs = xs.take i ++ xs.drop i := (List.take_append_drop i xs).symm
    have hCL : CL w G (xs.take i ++ x :: xs.drop i) cs' := by
      rw [hsplit] at hc
      obtain ⟨p, q, hpq, c1, c2⟩ := CL.append_inv hc
      have hp : p.length = i * sz := by
        have := D.eqLen c1 (fun y hy => hs y (List.mem_of_mem_take hy))
        rw [this, List.length_take, Nat.min_eq_left hi]
      have e1 : cs.take (i * sz) = p := by rw [hpq, List.take_left' hp]
      have e2 : cs.drop (i * sz) = q := by rw [hpq, List.drop_left' hp]
      rw [k8, e1, e2]
      exact c1.append (CL.append (l := [x]) g1 c2)
    have hsz : ∀ y ∈ xs.take i ++ x :: xs.drop i, y.size = sz := by
      intro y hy
      rcases List.mem_append.1 hy with h | h
      · exact hs y (List.mem_of_mem_take h)
      · rcases List.mem_cons.1 h with rfl | h
        · exact g2 y (by simp)
        · exact hs y (List.mem_of_mem_drop h)
    have hlen : (xs.take i ++ x :: xs.drop i).length = xs.length + 1 := by simp; omega
    refine ⟨v', .row 1, _, upd μ 1 v', G, rfl, ⟨rfl, rfl⟩, ownFor st k1 k2 k3 k4 k5 k6 ⟨cs', by rw [hlen]; exact k7, hCL.mono (fun _ _ h => h) hcell, hsz⟩, ?_⟩
    have hsl : ∃ a l c, v' = .slice a l c := by
      rcases k7.2 with ⟨q, _⟩ | ⟨_, _, _, q, _⟩
      · exact ⟨_, _, _, q⟩
      · exact ⟨_, _, _, q⟩
    obtain ⟨a, l, c, rfl⟩ := hsl
    exact VA.ra (VA.of_single (.row (by show 1 < 2; omega) (by simp [upd]) .nil) rfl) (fun l e => by cases e)
  by_cases hin : i = xs.length
  · subst hin
    obtain ⟨i0, hi0, hz0, hzs, hzb⟩ := L.i9
    obtain ⟨v', w', hr, q1, q2, _⟩ := run_append_own (P := Tryz.prog) w 0 (ρ.t 24) (ρ.t 24) (ρ.t 9) i0 z sz bytes L.t24 hi0 hz0 hzs hzb L.zs s0 (μ 0) xs.length cs ho ⟨vb, voff, none⟩ 1 vc vs hvl (fun j u hj => by rw [Addr.add_lit]; exact hvs j u hj) h1v hl hbig1 (Nat.zero_le _)
    obtain ⟨v2, w2, hr2, _, _, _, k, q3, q4, _⟩ := run_append_row (P := Tryz.prog) (w := w) (ty := ρ.t 24) L.t24 hi0 hz0 hzs hzb L.zs (World.ownsRowF_of ho) (a := ⟨vb, voff, none⟩) (m := 1) (c := vc) hvl (fun j u hj => by rw [Addr.add_lit]; exact hvs j u hj) h1v (by omega) hbig
    rw [hr] at hr2
    injection hr2 with e1 e2
    subst e1; subst e2
    obtain ⟨a, c, hsl, hnc⟩ : ∃ a c, μ 0 = .slice a xs.length c ∧ xs.length ≤ c := by
      rcases ho.2 with ⟨q, q2⟩ | ⟨g, cap, cur, q, _, _, q3, _⟩
      · exact ⟨_, _, by rw [q, q2], by omega⟩
      · exact ⟨_, _, q, q3⟩
    have hbo : (μ 0).ownBlock = bid (μ 0) := by rw [hsl]; cases a <;> rfl
    rw [hsl] at hr
    have hcalls := insert_end L a xs.length c vb voff 1 vc w (by omega) hnc v' w' (fun ty => hr)
    rw [← hsl] at hcalls
    refine hcalls.mono ?_
    rintro e w1 ⟨rfl, rfl⟩
    refine fin v' w1 _ q2.os q2.tape q2.output q2.size (fun k hk hne => q2.block k hk (fun e => hne (by rw [← hbo]; exact e.symm))) (fun n hn => ?_) q1 (by rw [← hcl, List.take_length, List.drop_length, List.append_nil])
    rw [q3] at hn
    cases hn
    rcases q4 with q4 | q4
    · exact .inr q4
    · exact .inl q4
  · have hlt : i < xs.length := by omega
    have hislt : i * sz ≤ xs.length * sz := Nat.mul_le_mul_right _ (by omega)
    have hi1 : (i + 1) * sz = i * sz + sz := by rw [Nat.add_mul, Nat.one_mul]
    have hn1 : (xs.length + 1) * sz = xs.length * sz + sz := by rw [Nat.add_mul, Nat.one_mul]
    have hi2 : (i + 1) * sz ≤ xs.length * sz := Nat.mul_le_mul_right _ (by omega)
    rcases ho.2 with ⟨_, q⟩ | ⟨g, cap, cur, q1, _, q2, q3, q4, q5, q6⟩
    · omega
    have hbid : bid (μ 0) = some g := by rw [q1]; rfl
    have hgw : g < w.heap.size := (Array.getElem?_eq_some_iff.1 q2).1
    have hmx : maxLen ≤ 9223372036854775807 := by unfold maxLen; omega
    have hcur : ∀ j, w.cell? ⟨g, j, none⟩ = cur[j]? := fun j => by simp [World.cell?, q2]
    have hcs : ∀ j v, cs[j]? = some v → w.cell? ⟨g, j, none⟩ = some v := fun j v hj => by
      rw [hcur, ← Array.getElem?_toList]
      rw [← q6, List.getElem?_take] at hj
      split at hj
      · exact hj
      · cases hj
    have hdl : (cs.drop (i * sz)).length = xs.length * sz - i * sz := by rw [List.length_drop, hcl]
    have htk : cur.toList.take (i * sz) = cs.take (i * sz) := by rw [← q6, List.take_take, Nat.min_eq_left hislt]
    by_cases hroom : xs.length + 1 ≤ cap
    · have hcap : (xs.length + 1) * sz ≤ cur.size := by rw [q5]; exact Nat.mul_le_mul_right _ hroom
      rw [q1]
      have hsa : ∃ tA kA, w.shape? vb = some (tA, kA) ∧ kA ≠ 0 := by
        have h0 := hvs 0 _ (List.getElem?_eq_getElem (by omega))
        simp only [World.cell?] at h0
        split at h0
        · rename_i c1 e1 f1 hq
          refine ⟨e1, c1.size, by simp [World.shape?, hq], fun e => ?_⟩
          rw [Option.isSome_none, if_neg (by simp)] at h0
          have := (Array.getElem?_eq_some_iff.1 h0).1
          omega
        · cases h0
      obtain ⟨tA, kA, hsa, hkA⟩ := hsa
      refine (insert_shift L g xs.length cap i vb voff 1 vc cs vs w hlt (by omega) hroom (by omega) (hvn g hbid) hcl hvl hcs (fun j hj => by rw [hcur, Array.getElem?_eq_getElem (by omega)]; rfl) (fun j => by simp [World.frozen?, q2]) hvs h1c h1v tA (ρ.t 9) kA cur.size hsa (by simp [World.shape?, q2]) hkA).mono ?_
      rintro e w1 ⟨rfl, rfl⟩
      have hdr : w.drew.heap[g]? = some (.cells cur (ρ.t 9) (0, 0)) := q2
      obtain ⟨r1, r2, r3, r4, r5, r6⟩ := setCells_row (cs.drop (i * sz)) ((i + 1) * sz) w.drew g cur (ρ.t 9) hdr (by rw [hdl]; omega)
      obtain ⟨p1, p2, p3, p4, p5, p6⟩ := setCells_row vs (i * sz) _ g _ (ρ.t 9) r1 (by simp; omega)
      refine fin _ _ (cs.take (i * sz) ++ (vs ++ cs.drop (i * sz))) (by rw [p2, r2]; rfl) (by rw [p3, r3]; rfl) (by rw [p4, r4]; rfl) (by rw [p5, r5]; exact Nat.le_refl _) (fun k hk hne => ?_) (fun n hn => ?_) ⟨?_, .inr ⟨g, cap, _, rfl, Nat.zero_le _, p1, hroom, q4, ?_, ?_⟩⟩ rfl
      · rw [hbid] at hne
        have hkg : k ≠ g := fun e => hne (by rw [e])
        rw [p6 k hkg, r6 k hkg]
        rfl
      · exact .inr (by rw [hbid]; exact hn)
      · simp; omega
      · simp; omega
      · have := shift_list cur.toList cs vs (i * sz) sz (xs.length * sz) hislt hcl (by omega) (by simp; omega) htk
        rw [hn1, hi1, List.toList_toArray, List.toList_toArray]
        exact this
    · have hmx2 : (xs.length + 1) ≤ maxLen := hl
      rw [q1]
      refine (insert_grow L g xs.length cap i vb voff 1 vc cs vs w hlt (by omega) q3 (by omega) hbig1 hl hcl hvl hgw hvw hcs hvs h1c h1v).mono ?_
      rintro e w1 ⟨rfl, rfl⟩
      have hGn : xs.length + 1 ≤ grownCap w (xs.length + 1) cap (ρ.t 9) := grownCap_ge w _ _ _
      have hG63 : grownCap w (xs.length + 1) cap (ρ.t 9) ≤ maxLen := grownCap_le_maxLen w (xs.length + 1) cap (ρ.t 9) hl
      obtain ⟨Gc, hGc⟩ : ∃ Gc, Gc = grownCap w (xs.length + 1) cap (ρ.t 9) := ⟨_, rfl⟩
      rw [← hGc] at hGn hG63 ⊢
      obtain ⟨ROW, hROW⟩ : ∃ ROW : Array Value, ROW = (cs.take (i * sz)).toArray ++ Builtin.zeroCells z.cells (xs.length + 1 - i) ++ Builtin.zeroCells z.cells (Gc - (xs.length + 1)) := ⟨_, rfl⟩
      rw [← hROW]
      have htl : (cs.take (i * sz)).length = i * sz := by rw [List.length_take]; omega
      have hRs : ROW.size = Gc * sz := by
        rw [hROW]
        simp only [Builtin.zeroCells, Array.size_append, List.size_toArray, Array.size_map, Array.size_range, htl, L.zs]
        have e5 : i + (xs.length + 1 - i) + (Gc - (xs.length + 1)) = Gc := by omega
        rw [← Nat.add_mul, ← Nat.add_mul, e5]
      have hRt : ROW.toList.take (i * sz) = cs.take (i * sz) := by
        rw [hROW]
        simp only [Array.toList_append, List.append_assoc]
        rw [List.take_left' htl]
      have hRl : (xs.length + 1) * sz ≤ ROW.size := by rw [hRs]; exact Nat.mul_le_mul_right _ hGn
      have hal : (w.alloc (.cells ROW (ρ.t 9))).drew.heap[w.heap.size]? = some (.cells ROW (ρ.t 9) (0, 0)) := by
        show (w.heap.push _)[w.heap.size]? = _
        simp
      have hpast : ∀ k, k < w.heap.size → (w.alloc (.cells ROW (ρ.t 9))).drew.heap[k]? = w.heap[k]? := fun k hk => by
        show (w.heap.push _)[k]? = _
        rw [Array.getElem?_push, if_neg (by omega)]
      obtain ⟨r1, r2, r3, r4, r5, r6⟩ := setCells_row vs (i * sz) (w.alloc (.cells ROW (ρ.t 9))).drew w.heap.size ROW (ρ.t 9) hal (by omega)
      have r1' : (((w.alloc (.cells ROW (ρ.t 9))).drew.setCells w.heap.size (i * sz) vs).drew).heap[w.heap.size]? = _ := r1
      obtain ⟨p1, p2, p3, p4, p5, p6⟩ := setCells_row (cs.drop (i * sz)) ((i + 1) * sz) _ w.heap.size _ (ρ.t 9) r1' (by simp; omega)
      refine fin _ _ (cs.take (i * sz) ++ (vs ++ cs.drop (i * sz))) (by rw [p2]; exact r2) (by rw [p3]; exact r3) (by rw [p4]; exact r4) ?_ (fun k hk hne => ?_) (fun n hn => ?_) ⟨?_, .inr ⟨w.heap.size, Gc, _, rfl, Nat.zero_le _, p1, hGn, hG63, ?_, ?_⟩⟩ rfl
      · rw [p5]
        show w.heap.size ≤ ((w.alloc (.cells ROW (ρ.t 9))).drew.setCells w.heap.size (i * sz) vs).heap.size
        rw [r5]
        show w.heap.size ≤ (w.heap.push _).size
        simp
      · rw [p6 k (by omega)]
        show ((w.alloc (.cells ROW (ρ.t 9))).drew.setCells w.heap.size (i * sz) vs).heap[k]? = _
        rw [r6 k (by omega), hpast k hk]
      · cases hn; exact .inl (Nat.le_refl _)
      · simp; omega
      · simp; omega
      · have := grow_list ROW.toList cs vs (i * sz) sz (xs.length * sz) hislt hcl (by omega) hRt
        rw [hn1, hi1, List.toList_toArray, List.toList_toArray]
        exact this
end Go.Proofs.YtmdfpifcghmpfaaGreatDoor

/- slices.Delete of some elements of a slice of one's own, of whatever elements: the run (after the kit's text for elements of one cell). -/
set_option linter.unusedVariables false
set_option linter.unusedSimpArgs false
namespace Go.Proofs.YtmdfpifcghmpfaaGreatDoor
open Go.Shelf Go.RowKit Go.Lib

section
variable {P : Program} {ρ : Ren}

/-- What a program has where slices.Delete lies in it. -/
structure DelL (P : Program) (ρ : Ren) (size bytes : Nat) (z : Value) : Prop where
  mixed : P.follows .mixedOrders = true
  f45 : Bears P (ρ.f 45) (SlBodyN.n45 ρ)
  t3 : P.underlying (ρ.t 3) = some (TypeDesc.int IntKind.i64)
  a3 : ∀ w, (isAgg (ρ.t 3)).run P w = .ok false w
  z3 : ∀ w, (Go.sizeOf (ρ.t 3)).run P w = .ok 1 w
  v3 : ∀ w, (zeroValue (ρ.t 3)).run P w = .ok (Value.int IntKind.i64 0) w
  t4 : P.underlying (ρ.t 4) = some (TypeDesc.bool)
  a4 : ∀ w, (isAgg (ρ.t 4)).run P w = .ok false w
  z4 : ∀ w, (Go.sizeOf (ρ.t 4)).run P w = .ok 1 w
  v4 : ∀ w, (zeroValue (ρ.t 4)).run P w = .ok (Value.bool false) w
  t22 : P.underlying (ρ.t 22) = some (TypeDesc.slice (ρ.t 23))
  a22 : ∀ w, (isAgg (ρ.t 22)).run P w = .ok false w
  z22 : ∀ w, (Go.sizeOf (ρ.t 22)).run P w = .ok 1 w
  v22 : ∀ w, (zeroValue (ρ.t 22)).run P w = .ok (Value.slice none 0 0) w
  z23 : ∀ w, (Go.sizeOf (ρ.t 23)).run P w = .ok size w
  v23 : ∀ w, (zeroValue (ρ.t 23)).run P w = .ok z w
  i23 : ∃ i0, P.info? (ρ.t 23) = some i0 ∧ i0.zero = some z ∧ i0.size = size ∧ i0.bytes = bytes
  zs : z.cells.size = size
  zo : ∀ v ∈ z.cells.toList, v.oneCell' = true
  s0 : 0 < size

theorem zeroCells_one {cs : Array Value} {n : Nat} (h1 : ∀ v ∈ cs.toList, v.oneCell' = true) : ∀ v ∈ (Builtin.zeroCells cs n).toList, v.oneCell' = true := by
  intro v hv
  simp only [Builtin.zeroCells, Array.toList_map, Array.toList_range, List.mem_map, List.mem_range] at hv
  obtain ⟨i, hi, rfl⟩ := hv
  by_cases h0 : cs.size = 0
  · simp [h0] at hi
  · have : i % cs.size < cs.size := Nat.mod_lt _ (by omega)
    refine h1 _ ?_
    rw [getElem!_pos cs _ this]
    exact Array.getElem_mem_toList this

theorem run_clear_cells (w : World) (t e ty : TypeId) (z : Value) (ht : P.underlying t = some (.slice e)) (hv : ∀ w, (zeroValue e).run P w = .ok z w) (h1 : ∀ v ∈ z.cells.toList, v.oneCell' = true) (b o n c : Nat) (hn : 0 < n)
    (hc : ∀ j, j < n * z.cells.size → (w.cell? ⟨b, o + j, none⟩).isSome = true) (hf : ∀ j, j < n * z.cells.size → w.frozen? ⟨b, o + j, none⟩ = false) :
    (Builtin.clear_ #[t] ty #[.slice (some ⟨b, o, none⟩) n c]).run P w = .ok (.tuple #[]) (w.setCells b o (Builtin.zeroCells z.cells n).toList) := by
  have hl : (Builtin.zeroCells z.cells n).toList.length = n * z.cells.size := by simp [Builtin.zeroCells]
  have hst := run_storeCells_cells (P := P) b o (Builtin.zeroCells z.cells n).toList 0 w (by rw [hl]; simpa using hc) (by rw [hl]; simpa using hf) (zeroCells_one h1)
  simp only [Nat.add_zero] at hst
  obtain ⟨m, rfl⟩ : ∃ m, n = m + 1 := ⟨n - 1, by omega⟩
  simp [Builtin.clear_, run_underlying ht, hv, hst]

set_option maxHeartbeats 4000000 in
set_option maxRecDepth 1000000 in
theorem delete_run {size bytes : Nat} {z : Value} (L : DelL P ρ size bytes z) (blk n cap i j : Nat) (cs : List Value) (w : World) (hlt : i < j) (hj : j ≤ n) (hcap : n ≤ cap) (hm : cap ≤ 9223372036854775807) (hcl : cs.length = n * size)
    (hcs : ∀ j v, cs[j]? = some v → w.cell? ⟨blk, j, none⟩ = some v) (hfz : ∀ j, w.frozen? ⟨blk, j, none⟩ = false) (h1c : ∀ v ∈ cs, v.oneCell' = true) :
    Calls P (ρ.f 45) #[.slice (some ⟨blk, 0, none⟩) n cap, .int .i64 i, .int .i64 j] w fun e w' => e = .returned (.slice (some ⟨blk, 0, none⟩) (i + (n - j)) cap) ∧
      w' = (w.drew.setCells blk (0 + i * size) (cs.drop (j * size))).setCells blk (0 + (i + (n - j)) * size) (Builtin.zeroCells z.cells (n - (i + (n - j)))).toList := by
  have mixed := L.mixed; have t3 := L.t3; have a3 := L.a3; have z3 := L.z3; have v3 := L.v3; have t4 := L.t4; have a4 := L.a4; have z4 := L.z4; have v4 := L.v4; have t22 := L.t22; have a22 := L.a22; have z22 := L.z22; have v22 := L.v22; have z23 := L.z23
  obtain ⟨i0, hi0, _, hz1, _⟩ := L.i23
  obtain ⟨news, hnews⟩ : ∃ news, news = cs.drop (j * size) := ⟨_, rfl⟩
  have hjs : j * size ≤ n * size := Nat.mul_le_mul_right _ hj
  have his : i * size ≤ j * size := Nat.mul_le_mul_right _ (by omega)
  have hlen : news.length = (n - j) * size := by rw [hnews, List.length_drop, hcl, Nat.sub_mul]
  have hlen2 : (n - j) * size = n * size - j * size := Nat.sub_mul _ _ _
  have hget : ∀ t u, news[t]? = some u → w.cell? ⟨blk, j * size + t, none⟩ = some u := by
    intro t u hu
    rw [hnews, List.getElem?_drop] at hu
    exact hcs _ u hu
  have hsome : ∀ t, t < n * size → (w.cell? ⟨blk, t, none⟩).isSome = true := fun t ht => by rw [hcs t _ (List.getElem?_eq_getElem (by omega))]; rfl
  obtain ⟨A, hA, hsrc⟩ : ∃ A : Addr, (if cap = j then some (⟨blk, 0, none⟩ : Addr) else some ⟨blk, j * size, none⟩) = some A ∧ Hid (∀ t u, news[t]? = some u → w.drew.cell? (A.add t) = some u) := by
    by_cases h : cap = j
    · refine ⟨⟨blk, 0, none⟩, by simp [h], fun t u hu => ?_⟩
      have h0 : n - j = 0 := by omega
      rw [h0, Nat.zero_mul] at hlen
      rw [List.length_eq_zero_iff.1 hlen] at hu
      simp at hu
    · refine ⟨⟨blk, j * size, none⟩, by simp [h], fun t u hu => ?_⟩
      rw [Addr.add_lit]
      exact hget t u hu
  have s1 : Hid (news.length = (n - j) * size) := hlen
  have s2 : Hid (∀ u ∈ news, u.oneCell' = true) := by
    intro u hu
    rw [hnews] at hu
    exact h1c u (List.mem_of_mem_drop hu)
  have s3 : Hid (∀ t, t < news.length → (w.drew.cell? ⟨blk, 0 + i * size + t, none⟩).isSome = true ∧ w.drew.frozen? ⟨blk, 0 + i * size + t, none⟩ = false) := by
    intro t ht
    rw [hlen] at ht
    exact ⟨hsome _ (by omega), hfz _⟩
  obtain ⟨W1, hW1⟩ : ∃ W1, W1 = w.drew.setCells blk (0 + i * size) news := ⟨_, rfl⟩
  have hsome1 : ∀ t, t < n * size → (W1.cell? ⟨blk, t, none⟩).isSome = true := fun t ht => by
    rw [hW1]
    exact isSome_setCells blk news (0 + i * size) w.drew (fun q hq => hsome _ (by omega)) t (hsome t ht)
  have hcut : (i + (n - j)) * size + (n - (i + (n - j))) * size = n * size := by rw [← Nat.add_mul]; congr 1; omega
  have hcl2 : ∀ ty, (Builtin.clear_ #[ρ.t 22] ty #[.slice (some ⟨blk, (i + (n - j)) * size, none⟩) (n - (i + (n - j))) (cap - (i + (n - j)))]).run P W1 = .ok (.tuple #[]) (W1.setCells blk ((i + (n - j)) * size) (Builtin.zeroCells z.cells (n - (i + (n - j)))).toList) :=
    fun ty => run_clear_cells W1 _ _ ty z t22 L.v23 L.zo blk ((i + (n - j)) * size) _ _ (by omega) (fun t ht => by rw [L.zs] at ht; exact hsome1 _ (by omega)) (fun t ht => by rw [hW1, World.frozen?_setCells]; exact hfz _)
  have hW : Hid (W1 = w.drew.setCells blk (0 + i * size) news) := hW1
  have hic : i ≤ cap := by omega
  have hjc : j ≤ cap := by omega
  have h45 := L.f45
  rw [← hnews]
  clear hW1 hget hnews hlen hsome hsome1 hcut hlen2 hjs his hcs hfz
  obtain ⟨_, _, FG⟩ := h45
  go_enter FG, SlBodyN.n45_ntmps ρ
  go_wp2_with fail
  go_region_law_o (refine step_append_room rfl (.tmp 22) (.tmp 25) (ρ.t 22) rfl (ρ.t 23) i0 size t22 hi0 hz1 blk 0 i cap (by simp [Act.eval, Act.put]) A (n - j) (cap - j) news (by simp [Act.eval, Act.put]) s1.out hsrc.out s2.out (by omega) s3.out ?_; rw [← hW.out])
  go_wp2
  all_goals
    go_ret
    refine ⟨rfl, ?_⟩
    rw [Nat.zero_add, Nat.zero_add, hW.out, Nat.zero_add]
    first
      | rfl
      | (rename_i hx
         have hz : z.cells = #[z] := by
           cases z <;> first | rfl | exact (hx _ rfl).elim
         rw [hz])
end

open Go.Ab

theorem del_list (L cs Z : List Value) (A D N : Nat) (hA : A ≤ D) (hD : D ≤ N) (hcs : cs.length = N) (hL : N ≤ L.length) (hpre : L.take A = cs.take A) :
    ((L.take A ++ cs.drop D ++ L.drop (A + (cs.drop D).length)).take (A + (N - D)) ++ Z ++ (L.take A ++ cs.drop D ++ L.drop (A + (cs.drop D).length)).drop (A + (N - D) + Z.length)).take (A + (N - D)) = cs.take A ++ cs.drop D := by
  have hl : (cs.take A ++ cs.drop D).length = A + (N - D) := by simp; omega
  have e1 : (L.take A ++ cs.drop D ++ L.drop (A + (cs.drop D).length)).take (A + (N - D)) = cs.take A ++ cs.drop D := by
    rw [hpre, List.take_left' hl]
  rw [e1, List.append_assoc, List.take_left' hl]

theorem delete_c {ρ : Ren} {sz bytes : Nat} {z : Value} (L : DelL Tryz.prog ρ sz bytes z) {fn : Func} {xs : List D} {e i : Nat} (he : ρ.t 23 = e) (hf : Tryz.prog.funcs[ρ.f 45]? = some fn) (hname : (fn.name == "runtime.NumGoroutine") = false) (hbd : fn.body.isSome = true)
    (hi : i < xs.length) :
    CallR cx (ρ.f 45) [.row 0, .d (.int .i64 (i : Int)), .d (.int .i64 ((i + 1 : Nat) : Int))] [.own e sz xs] fun r S => r = .row 1 ∧ S = [.dead, .own e sz (xs.take i ++ xs.drop (i + 1))] := by
  subst he
  refine callR_raw (c := cx) hf hname hbd fun μ G w vals st hv => ?_
  obtain ⟨v0, v1, v2, rfl, a0, a1, a2⟩ := VS.three hv
  obtain ⟨_, rfl⟩ := ca_row_inv a0
  obtain rfl := (VA.d_iff.1 a1).int_inv
  obtain rfl := (VA.d_iff.1 a2).int_inv
  obtain ⟨cs, ho, hc, hs⟩ := st.blks 0 _ rfl
  have h1c := hc.oneCell
  have hcl : cs.length = xs.length * sz := D.eqLen hc hs
  have s0 := L.s0
  rcases ho.2 with ⟨_, q⟩ | ⟨g, cap, cur, q1, _, q2, q3, q4, q5, q6⟩
  · omega
  have hbid : bid (μ 0) = some g := by rw [q1]; rfl
  have hmx : maxLen ≤ 9223372036854775807 := by unfold maxLen; omega
  have hcur : ∀ j, w.cell? ⟨g, j, none⟩ = cur[j]? := fun j => by simp [World.cell?, q2]
  have hcs : ∀ j v, cs[j]? = some v → w.cell? ⟨g, j, none⟩ = some v := fun j v hj => by
    rw [hcur, ← Array.getElem?_toList]
    rw [← q6, List.getElem?_take] at hj
    split at hj
    · exact hj
    · cases hj
  have hA : i * sz ≤ (i + 1) * sz := Nat.mul_le_mul_right _ (by omega)
  have hD : (i + 1) * sz ≤ xs.length * sz := Nat.mul_le_mul_right _ (by omega)
  have hcap : xs.length * sz ≤ cap * sz := Nat.mul_le_mul_right _ q3
  have hdl : (cs.drop ((i + 1) * sz)).length = xs.length * sz - (i + 1) * sz := by rw [List.length_drop, hcl]
  have htk : cur.toList.take (i * sz) = cs.take (i * sz) := by rw [← q6, List.take_take, Nat.min_eq_left (by omega)]
  have en : i + (xs.length - (i + 1)) = xs.length - 1 := by omega
  have ez : xs.length - (xs.length - 1) = 1 := by omega
  have hB : (xs.length - 1) * sz = i * sz + (xs.length * sz - (i + 1) * sz) := by
    rw [← en, Nat.add_mul, Nat.sub_mul]
  have hZ : (Builtin.zeroCells z.cells 1).toList.length = sz := by simp [Builtin.zeroCells, L.zs]
  have hi1 : (i + 1) * sz = i * sz + sz := by rw [Nat.add_mul, Nat.one_mul]
  have run := delete_run L g xs.length cap i (i + 1) cs w (by omega) (by omega) q3 (by omega) hcl hcs (fun j => by simp [World.frozen?, q2]) h1c
  rw [en, ez] at run
  rw [q1]
  refine run.mono ?_
  rintro e w1 ⟨rfl, rfl⟩
  rw [Nat.zero_add, Nat.zero_add]
  have hdr : w.drew.heap[g]? = some (.cells cur (ρ.t 23) (0, 0)) := q2
  obtain ⟨r1, r2, r3, r4, r5, r6⟩ := setCells_row (cs.drop ((i + 1) * sz)) (i * sz) w.drew g cur (ρ.t 23) hdr (by rw [hdl]; omega)
  obtain ⟨p1, p2, p3, p4, p5, p6⟩ := setCells_row (Builtin.zeroCells z.cells 1).toList ((xs.length - 1) * sz) _ g _ (ρ.t 23) r1 (by simp only [List.size_toArray, List.length_append, List.length_take, List.length_drop, hZ, Array.length_toList]; omega)
  have hlen : (xs.take i ++ xs.drop (i + 1)).length = xs.length - 1 := by simp; omega
  have hheap : ∀ k, k < w.heap.size → bid (μ 0) ≠ some k → ((w.drew.setCells g (i * sz) (cs.drop ((i + 1) * sz))).setCells g ((xs.length - 1) * sz) (Builtin.zeroCells z.cells 1).toList).heap[k]? = w.heap[k]? := by
    intro k hk hne
    rw [hbid] at hne
    have hkg : k ≠ g := fun e => hne (by rw [e])
    rw [p6 k hkg, r6 k hkg]
    rfl
  have hcell : ∀ b o v, G b o → w.cell? ⟨b, o, none⟩ = some v → ((w.drew.setCells g (i * sz) (cs.drop ((i + 1) * sz))).setCells g ((xs.length - 1) * sz) (Builtin.zeroCells z.cells 1).toList).cell? ⟨b, o, none⟩ = some v := fun b o v hg hc => by
    rw [cell?_heap (hheap b (st.gv b o hg) (fun e => st.free 0 _ b rfl rfl e o (Nat.zero_le _) hg))]; exact hc
  have hCL : CL w G (xs.take i ++ xs.drop (i + 1)) (cs.take (i * sz) ++ cs.drop ((i + 1) * sz)) := by
    have h1 : xs = xs.take i ++ xs.drop i := (List.take_append_drop i xs).symm
    have h2 : xs = xs.take (i + 1) ++ xs.drop (i + 1) := (List.take_append_drop (i + 1) xs).symm
    have c1 : CL w G (xs.take i) (cs.take (i * sz)) := by
      rw [h1] at hc
      obtain ⟨p, q, hpq, c1, c2⟩ := CL.append_inv hc
      have hp : p.length = i * sz := by
        have := D.eqLen c1 (fun y hy => hs y (List.mem_of_mem_take hy))
        rw [this, List.length_take, Nat.min_eq_left (by omega)]
      rw [hpq, List.take_left' hp]
      exact c1
    have c2 : CL w G (xs.drop (i + 1)) (cs.drop ((i + 1) * sz)) := by
      rw [h2] at hc
      obtain ⟨p, q, hpq, c1, c2⟩ := CL.append_inv hc
      have hp : p.length = (i + 1) * sz := by
        have := D.eqLen c1 (fun y hy => hs y (List.mem_of_mem_take hy))
        rw [this, List.length_take, Nat.min_eq_left (by omega)]
      rw [hpq, List.drop_left' hp]
      exact c2
    exact c1.append c2
  have hsz : ∀ y ∈ xs.take i ++ xs.drop (i + 1), y.size = sz := by
    intro y hy
    rcases List.mem_append.1 hy with h | h
    · exact hs y (List.mem_of_mem_take h)
    · exact hs y (List.mem_of_mem_drop h)
  refine ⟨.slice (some ⟨g, 0, none⟩) (xs.length - 1) cap, .row 1, _, upd μ 1 (.slice (some ⟨g, 0, none⟩) (xs.length - 1) cap), G, rfl, ⟨rfl, rfl⟩, ownFor (v' := .slice (some ⟨g, 0, none⟩) (xs.length - 1) cap) st (by rw [p2, r2]; rfl) (by rw [p3, r3]; rfl) (by rw [p4, r4]; rfl) (by rw [p5, r5]; exact Nat.le_refl _) hheap (fun n hn => .inr (by rw [hbid]; exact hn))
    ⟨cs.take (i * sz) ++ cs.drop ((i + 1) * sz), ⟨?_, .inr ⟨g, cap, _, by rw [hlen], Nat.zero_le _, p1, by rw [hlen]; omega, q4, ?_, ?_⟩⟩, hCL.mono (fun _ _ h => h) hcell, hsz⟩, ?_⟩
  · rw [hlen, hB]; simp only [List.length_append, List.length_take, List.length_drop, hcl]; omega
  · simp only [List.size_toArray, List.length_append, List.length_take, List.length_drop, hZ, Array.length_toList]; omega
  · have := del_list cur.toList cs (Builtin.zeroCells z.cells 1).toList (i * sz) ((i + 1) * sz) (xs.length * sz) hA hD hcl (by simp; omega) htk
    rw [hlen, hB, List.toList_toArray, List.toList_toArray]
    exact this
  · exact VA.ra (VA.of_single (.row (by show 1 < 2; omega) (by simp [upd]) .nil) rfl) (fun l e => by cases e)
end Go.Proofs.YtmdfpifcghmpfaaGreatDoor

/- Ledgers: cloning accounts; an account's place. Ledgers: an account's place. Ledgers: who has what; what is given and taken. Ledgers: what is taken; a nonce used; coins moved. Ledgers: coins moved; gas, blocks. -/
namespace Go.Proofs.YtmdfpifcghmpfaaGreatDoor
open Go.Shelf Go.Ab Go.RowKit

/-- An account. -/
structure Ac where
  name : ByteArray
  key : List D
  nonce : Int
  coins : Int
def Ac.d (a : Ac) : D := .agg [.str a.name, .arr 32 1 a.key, .int .u64 a.nonce, .int .u64 a.coins]
abbrev acs (l : List Ac) : List D := l.map Ac.d

end Go.Proofs.YtmdfpifcghmpfaaGreatDoor

namespace Go.Proofs.YtmdfpifcghmpfaaGreatDoor
open Go.Ab Go.RowKit

/-- A ledger. -/
structure Lg where
  height : Int
  time : Int
  gas : Int
  accs : List Ac
  evs : List D
abbrev esz : Nat := 35
def Lg.d (l : Lg) : D := .agg [.int .u64 l.height, .int .u64 l.time, .int .u64 l.gas, .sl 35 (acs l.accs), .sl esz l.evs]

end Go.Proofs.YtmdfpifcghmpfaaGreatDoor

namespace Go.Proofs.YtmdfpifcghmpfaaGreatDoor
open Go.Ab Go.RowKit

def look : List Ac → ByteArray → Option Ac
  | [], _ => none
  | a :: l, who => if a.name = who then some a else look l who
def Ac.ok (a : Ac) : Prop := U a.nonce ∧ U a.coins
def Lg.ok (l : Lg) : Prop := (U l.height ∧ U l.time ∧ U l.gas) ∧ (∀ a ∈ l.accs, a.ok) ∧ l.accs.length ≤ 100000

end Go.Proofs.YtmdfpifcghmpfaaGreatDoor

namespace Go.Proofs.YtmdfpifcghmpfaaGreatDoor
open Go.Ab Go.RowKit

end Go.Proofs.YtmdfpifcghmpfaaGreatDoor

namespace Go.Proofs.YtmdfpifcghmpfaaGreatDoor
open Go.Ab Go.RowKit

end Go.Proofs.YtmdfpifcghmpfaaGreatDoor

/- Ledgers: small ones; the same ones. Ledgers: the same ones. Ledgers: what is given is taken again; the coins of all. No program in sight. Ledgers: may it be. Ledgers, the model's: may it be. Ledgers, the model's: an event more. -/
namespace Go.Proofs.YtmdfpifcghmpfaaGreatDoor
open Go.Ab Go.RowKit

end Go.Proofs.YtmdfpifcghmpfaaGreatDoor

namespace Go.Proofs.YtmdfpifcghmpfaaGreatDoor
open Go.Ab Go.RowKit

theorem deq_self (x : D) : deq x x = true := by simp [deq]

/-- Thirty-two bytes. -/
def keyOk (k : List D) : Prop := k.length = 32 ∧ ∀ y ∈ k, ∃ n, y = .int .u8 n
def evOk (e : D) : Prop := ∃ k s n ds, e = .agg [.int .i64 k, .str s, .int .u64 n, .arr 32 1 ds] ∧ keyOk ds

end Go.Proofs.YtmdfpifcghmpfaaGreatDoor

namespace Go.Proofs.YtmdfpifcghmpfaaGreatDoor
open Go.Ab

end Go.Proofs.YtmdfpifcghmpfaaGreatDoor

namespace Go.Proofs.YtmdfpifcghmpfaaGreatDoor
open Go.Ab Go.RowKit

def ordN (a b : ByteArray) : Int := ordL (keysAt a 0) (keysAt b 0)
end Go.Proofs.YtmdfpifcghmpfaaGreatDoor

namespace Go.Proofs.YtmdfpifcghmpfaaGreatDoor
open Go.Ab Go.RowKit

end Go.Proofs.YtmdfpifcghmpfaaGreatDoor

namespace Go.Proofs.YtmdfpifcghmpfaaGreatDoor
open Go.Ab Go.RowKit

end Go.Proofs.YtmdfpifcghmpfaaGreatDoor

/- Ledgers: the chapter's example. Ledgers: what comes in; the law LedgerGives. -/
namespace Go.Proofs.YtmdfpifcghmpfaaGreatDoor
open Go.Ab Go.RowKit

end Go.Proofs.YtmdfpifcghmpfaaGreatDoor

namespace Go.Proofs.YtmdfpifcghmpfaaGreatDoor
open Go.Ab Go.RowKit

/-- What comes in of a ledger. -/
structure Lg.fits (l : Lg) : Prop where
  u : U l.height ∧ U l.time ∧ U l.gas
  a : ∀ a ∈ l.accs, a.ok ∧ keyOk a.key
  e : ∀ e ∈ l.evs, evOk e

end Go.Proofs.YtmdfpifcghmpfaaGreatDoor

/- Purses: tokens' keys; where a token, where a holding is. Purses: the first token, the first holding that is so. -/
namespace Go.Proofs.YtmdfpifcghmpfaaGreatDoor
open Go.Ab Go.RowKit

structure Tk where
  org : Int
  name : ByteArray
  cap : Int
  locked : Int
  unlocked : Int
  minted : Int
  burned : Int
def Tk.d (t : Tk) : D := .agg [.int .u32 t.org, .str t.name, .int .u64 t.cap, .int .u64 t.locked, .int .u64 t.unlocked, .int .u64 t.minted, .int .u64 t.burned]
structure Hd where
  org : Int
  token : ByteArray
  owner : ByteArray
  amount : Int
def Hd.d (h : Hd) : D := .agg [.int .u32 h.org, .str h.token, .str h.owner, .int .u64 h.amount]
structure Pu where
  toks : List Tk
  holds : List Hd
abbrev tks (l : List Tk) : List D := l.map Tk.d
abbrev hds (l : List Hd) : List D := l.map Hd.d
def Pu.d (p : Pu) : D := .agg [.sl 7 (tks p.toks), .sl 4 (hds p.holds)]
def Tk.ok (t : Tk) : Prop := U t.cap ∧ U t.locked ∧ U t.unlocked ∧ U t.minted ∧ U t.burned ∧ t.name.size ≤ 1000
def Hd.ok (h : Hd) : Prop := U h.amount ∧ h.token.size ≤ 1000 ∧ h.owner.size ≤ 1000
structure Pu.ok (p : Pu) : Prop where
  t : ∀ t ∈ p.toks, t.ok
  h : ∀ h ∈ p.holds, h.ok
  nt : p.toks.length ≤ 100000
  nh : p.holds.length ≤ 100000

/-- A token's key. -/
abbrev ky (o : Int) (n : ByteArray) : D := .agg [.int .u32 o, .str n]
/-- Does one key stand ahead of another one? -/
def bef (o : Int) (n : ByteArray) (o' : Int) (n' : ByteArray) : Bool := decide (o < o') || (decide (o = o') && decide (ordN n n' < 0))
def same2 (o : Int) (n : ByteArray) (o' : Int) (n' : ByteArray) : Bool := decide (o = o') && decide (n = n')

theorem sideK {o o' : Int} {n n' : ByteArray} : ∃ T : Ty, T.fitE cx.tt 117 = true ∧ Nat.blt T.depth 9999 = true ∧ T.is (ky o n) ∧ T.is (ky o' n') :=
  ⟨.st [.int .u32, .str], by kernel_rfl, by kernel_rfl, ⟨_, rfl, _, _, rfl, ⟨_, rfl⟩, _, _, rfl, ⟨_, rfl⟩, rfl⟩, ⟨_, rfl, _, _, rfl, ⟨_, rfl⟩, _, _, rfl, ⟨_, rfl⟩, rfl⟩⟩

theorem deq_ky {o o' : Int} {n n' : ByteArray} : deq (ky o n) (ky o' n') = same2 o n o' n' := by
  unfold same2
  by_cases h1 : o = o' <;> by_cases h2 : n = n' <;> simp [deq, h1, h2]

theorem keyOf_c {t : Tk} : CallR cx 65 [.d t.d] [] fun r S => r = .d (ky t.org t.name) ∧ S = [] := by
  obtain ⟨o, n, a, b, c, d, e⟩ := t
  refine callR_of (R := R1) cx_ok Tryz.func65 (by kernel_rfl) rfl ?_
  conv => whnf
  exact ⟨rfl, rfl⟩
theorem keyHeld_c {h : Hd} : CallR cx 95 [.d h.d] [] fun r S => r = .d (ky h.org h.token) ∧ S = [] := by
  obtain ⟨o, n, a, b⟩ := h
  refine callR_of (R := R1) cx_ok Tryz.func95 (by kernel_rfl) rfl ?_
  conv => whnf
  exact ⟨rfl, rfl⟩

theorem before_c {o o' : Int} {n n' : ByteArray} (h1 : n.size ≤ 1000) (h2 : n'.size ≤ 1000) : CallR cx 64 [.d (ky o n), .d (ky o' n')] [] fun r S => r = bo (bef o n o' n') ∧ S = [] := by
  have oc := order_c (a := n) (b := n') (by omega) (by omega)
  unfold bef ordN
  generalize ordL (keysAt n 0) (keysAt n' 0) = O at *
  refine callR_of (R := R1) cx_ok Tryz.func64 (by kernel_rfl) rfl ?_
  conv => whnf
  by_cases c1 : o < o'
  · refine brT (decide_eq_true c1) ?_
    conv => whnf
    rw [decide_eq_true c1]
    exact ⟨rfl, rfl⟩
  · refine brF (decide_eq_false c1) ?_
    conv => whnf
    rw [decide_eq_false c1]
    by_cases c2 : o = o'
    · refine brT (decide_eq_true c2) ?_
      conv => whnf
      refine ⟨_, oc, ?_⟩
      rintro _ _ ⟨rfl, rfl⟩
      conv => whnf
      rw [decide_eq_true c2]
      exact ⟨rfl, rfl⟩
    · refine brF (decide_eq_false c2) ?_
      conv => whnf
      rw [decide_eq_false c2]
      exact ⟨rfl, rfl⟩

theorem token1_c {t : Tk} {o : Int} {n : ByteArray} : CallR cx 81 [.d t.d, .ptr 0 []] [.var (.d (ky o n))] fun r S => r = bo (same2 t.org t.name o n) ∧ S = [.var (.d (ky o n))] := by
  have oc := keyOf_c (t := t)
  obtain ⟨o', n', a, b, c, d, e⟩ := t
  refine callR_of (R := R1) cx_ok Tryz.func81 (by kernel_rfl) rfl ?_
  conv => whnf
  refine ⟨by kernel_rfl, ?_⟩
  conv => whnf
  refine ⟨_, oc, ?_⟩
  conv => whnf
  refine ⟨sideK, ?_⟩
  rw [deq_ky]
  conv => whnf
  refine ⟨by kernel_rfl, ?_⟩
  conv => whnf
  exact ⟨rfl, rfl⟩

theorem enlist1_c {t : Tk} {o : Int} {n : ByteArray} (h1 : t.name.size ≤ 1000) (h2 : n.size ≤ 1000) : CallR cx 63 [.d t.d, .ptr 0 []] [.var (.d (ky o n))] fun r S => r = bo (bef o n t.org t.name) ∧ S = [.var (.d (ky o n))] := by
  have oc := keyOf_c (t := t)
  obtain ⟨o', n', a, b, c, d, e⟩ := t
  have bc := before_c (o := o) (o' := o') h2 h1
  simp only at oc ⊢
  generalize bef o n o' n' = B at *
  refine callR_of (R := R1) cx_ok Tryz.func63 (by kernel_rfl) rfl ?_
  conv => whnf
  refine ⟨by kernel_rfl, ?_⟩
  conv => whnf
  refine ⟨_, oc, ?_⟩
  conv => whnf
  refine ⟨_, bc, ?_⟩
  conv => whnf
  refine ⟨by kernel_rfl, ?_⟩
  conv => whnf
  exact ⟨rfl, rfl⟩

theorem holding1_c {h : Hd} {o : Int} {n w : ByteArray} : CallR cx 101 [.d h.d, .ptr 0 [], .ptr 1 []] [.var (.d (ky o n)), .var (st w)] fun r S =>
    r = bo (same2 h.org h.token o n && decide (h.owner = w)) ∧ S = [.var (.d (ky o n)), .var (st w)] := by
  have oc := keyHeld_c (h := h)
  obtain ⟨o', n', a, b⟩ := h
  simp only at oc ⊢
  generalize hB : same2 o' n' o n = B
  refine callR_of (R := R1) cx_ok Tryz.func101 (by kernel_rfl) rfl ?_
  conv => whnf
  refine ⟨by kernel_rfl, ?_⟩
  conv => whnf
  refine ⟨_, oc, ?_⟩
  conv => whnf
  refine ⟨sideK, ?_⟩
  rw [deq_ky, hB]
  cases B with
  | true =>
    conv => whnf
    refine ⟨by kernel_rfl, ?_⟩
    conv => whnf
    exact ⟨rfl, rfl⟩
  | false =>
    conv => whnf
    refine ⟨by kernel_rfl, ?_⟩
    conv => whnf
    exact ⟨rfl, rfl⟩

theorem put1_c {h : Hd} {o : Int} {n w : ByteArray} (h1 : h.ok) (h2 : n.size ≤ 1000) (h3 : w.size ≤ 1000) : CallR cx 94 [.d h.d, .ptr 0 [], .ptr 1 []] [.var (.d (ky o n)), .var (st w)] fun r S =>
    r = bo (bef o n h.org h.token || (same2 o n h.org h.token && decide (ordN w h.owner < 0))) ∧ S = [.var (.d (ky o n)), .var (st w)] := by
  have oc := keyHeld_c (h := h)
  have h4 := h1.2.1
  have h5 := h1.2.2
  obtain ⟨o', n', a, b⟩ := h
  simp only at oc h4 h5 ⊢
  have bc := before_c (o := o) (o' := o') h2 h4
  have rc := order_c (a := w) (b := a) (by omega) (by omega)
  unfold ordN
  generalize ordL (keysAt w 0) (keysAt a 0) = O at *
  generalize bef o n o' n' = B at *
  generalize hE : same2 o n o' n' = E
  refine callR_of (R := R1) cx_ok Tryz.func94 (by kernel_rfl) rfl ?_
  conv => whnf
  refine ⟨by kernel_rfl, ?_⟩
  conv => whnf
  refine ⟨_, oc, ?_⟩
  conv => whnf
  refine ⟨_, bc, ?_⟩
  cases B with
  | true =>
    conv => whnf
    refine ⟨by kernel_rfl, ?_⟩
    conv => whnf
    exact ⟨rfl, rfl⟩
  | false =>
    conv => whnf
    refine ⟨_, oc, ?_⟩
    conv => whnf
    refine ⟨sideK, ?_⟩
    rw [deq_ky, hE]
    cases E with
    | true =>
      conv => whnf
      refine ⟨_, rc, ?_⟩
      conv => whnf
      refine ⟨by kernel_rfl, ?_⟩
      conv => whnf
      exact ⟨rfl, rfl⟩
    | false =>
      conv => whnf
      refine ⟨by kernel_rfl, ?_⟩
      conv => whnf
      exact ⟨rfl, rfl⟩
end Go.Proofs.YtmdfpifcghmpfaaGreatDoor

namespace Go.Proofs.YtmdfpifcghmpfaaGreatDoor
open Go.Ab Go.RowKit

/-- The place of the first that is so, or -1. -/
def ixOf {α : Type} (p : α → Bool) : List α → Nat → Int
  | [], _ => -1
  | a :: l, j => if p a then (j : Int) else ixOf p l (j + 1)

theorem tks_getD {l : List Tk} {j : Nat} (h : j < l.length) : (tks l).getD (j : Int).toNat .nilP = (l[j]'h).d := by
  rw [Int.toNat_natCast, List.getD_eq_getElem?_getD, List.getElem?_map, List.getElem?_eq_getElem h]; rfl
theorem hds_getD {l : List Hd} {j : Nat} (h : j < l.length) : (hds l).getD (j : Int).toNat .nilP = (l[j]'h).d := by
  rw [Int.toNat_natCast, List.getD_eq_getElem?_getD, List.getElem?_map, List.getElem?_eq_getElem h]; rfl

theorem ixT_c {f : FuncId} {p : Tk → Bool} {x0 : D} {l : List Tk} (hl : l.length ≤ 100000) (hp : ∀ t ∈ l, CallR cx f [.d t.d, .ptr 0 []] [.var (.d x0)] fun r S => r = bo (p t) ∧ S = [.var (.d x0)]) :
    CallR cx 33 [.d (.sl 7 (tks l)), .fn f [0]] [.var (.d x0)] fun r S => r = i64 (ixOf p l 0) ∧ S = [.var (.d x0)] := by
  have hlen : (tks l).length = l.length := List.length_map _
  refine callR_of (R := R1) cx_ok Tryz.func33 (by kernel_rfl) rfl ?_
  conv => whnf
  refine .inl ⟨fun m L S => ∃ j : Nat, j ≤ l.length ∧ ixOf p (l.drop j) j = ixOf p l 0 ∧ m = l.length - j ∧
      L = [(0, .d (.sl 7 (tks l))), (1, .fn f [0]), (7, i64 (((tks l).length : Nat) : Int)), (8, i64 (j : Int))] ∧ S = [.var (.d x0)],
    ⟨_, _, ⟨0, Nat.zero_le _, rfl, rfl, rfl, rfl⟩, ⟨rfl, rfl, rfl, rfl, trivial⟩⟩, ?_⟩
  rintro _ _ _ ⟨j, hj, h1, rfl, rfl, rfl⟩
  conv => whnf
  refine brec (fun h4 => ?_) (fun h4 => ?_)
  · have h4 := of_decide_eq_true h4
    rw [hlen] at h4
    have hlt : j < l.length := by omega
    conv => whnf
    refine ⟨⟨by omega, by rw [hlen]; omega⟩, ?_⟩
    rw [tks_getD hlt]
    rw [List.drop_eq_getElem_cons hlt] at h1
    have hq := hp _ (List.getElem_mem hlt)
    generalize l[j]'hlt = a at *
    conv => whnf
    refine ⟨_, hq, ?_⟩
    rintro _ _ ⟨rfl, rfl⟩
    conv => whnf
    rw [ixOf] at h1
    refine brec (fun h5 => ?_) (fun h5 => ?_)
    · rw [if_pos h5] at h1
      conv => whnf
      rw [h1]
      exact ⟨rfl, rfl⟩
    · rw [if_neg (by rw [h5]; decide)] at h1
      have e3 : IntKind.i64.wrap ((j : Int) + 1) = ((j + 1 : Nat) : Int) := by rw [w64 (by omega)]; omega
      conv => whnf
      exact ⟨_, _, 1, (by omega : l.length - (j + 1) < l.length - j), ⟨j + 1, by omega, h1, rfl, rfl, rfl⟩, ⟨rfl, rfl, rfl, congrArg (fun z => some (i64 z)) e3, trivial⟩, rfl⟩
  · have h4 := of_decide_eq_false h4
    rw [hlen] at h4
    obtain rfl : j = l.length := by omega
    rw [List.drop_length, ixOf] at h1
    conv => whnf
    rw [← h1]
    exact ⟨rfl, rfl⟩


theorem ixH_c {f : FuncId} {p : Hd → Bool} {x0 x1 : D} {l : List Hd} (hl : l.length ≤ 100000) (hp : ∀ t ∈ l, CallR cx f [.d t.d, .ptr 0 [], .ptr 1 []] [.var (.d x0), .var (.d x1)] fun r S => r = bo (p t) ∧ S = [.var (.d x0), .var (.d x1)]) :
    CallR cx 93 [.d (.sl 4 (hds l)), .fn f [0, 1]] [.var (.d x0), .var (.d x1)] fun r S => r = i64 (ixOf p l 0) ∧ S = [.var (.d x0), .var (.d x1)] := by
  have hlen : (hds l).length = l.length := List.length_map _
  refine callR_of (R := R1) cx_ok Tryz.func93 (by kernel_rfl) rfl ?_
  conv => whnf
  refine .inl ⟨fun m L S => ∃ j : Nat, j ≤ l.length ∧ ixOf p (l.drop j) j = ixOf p l 0 ∧ m = l.length - j ∧
      L = [(0, .d (.sl 4 (hds l))), (1, .fn f [0, 1]), (7, i64 (((hds l).length : Nat) : Int)), (8, i64 (j : Int))] ∧ S = [.var (.d x0), .var (.d x1)],
    ⟨_, _, ⟨0, Nat.zero_le _, rfl, rfl, rfl, rfl⟩, ⟨rfl, rfl, rfl, rfl, trivial⟩⟩, ?_⟩
  rintro _ _ _ ⟨j, hj, h1, rfl, rfl, rfl⟩
  conv => whnf
  refine brec (fun h4 => ?_) (fun h4 => ?_)
  · have h4 := of_decide_eq_true h4
    rw [hlen] at h4
    have hlt : j < l.length := by omega
    conv => whnf
    refine ⟨⟨by omega, by rw [hlen]; omega⟩, ?_⟩
    rw [hds_getD hlt]
    rw [List.drop_eq_getElem_cons hlt] at h1
    have hq := hp _ (List.getElem_mem hlt)
    generalize l[j]'hlt = a at *
    conv => whnf
    refine ⟨_, hq, ?_⟩
    rintro _ _ ⟨rfl, rfl⟩
    conv => whnf
    rw [ixOf] at h1
    refine brec (fun h5 => ?_) (fun h5 => ?_)
    · rw [if_pos h5] at h1
      conv => whnf
      rw [h1]
      exact ⟨rfl, rfl⟩
    · rw [if_neg (by rw [h5]; decide)] at h1
      have e3 : IntKind.i64.wrap ((j : Int) + 1) = ((j + 1 : Nat) : Int) := by rw [w64 (by omega)]; omega
      conv => whnf
      exact ⟨_, _, 2, (by omega : l.length - (j + 1) < l.length - j), ⟨j + 1, by omega, h1, rfl, rfl, rfl⟩, ⟨rfl, rfl, rfl, congrArg (fun z => some (i64 z)) e3, trivial⟩, rfl⟩
  · have h4 := of_decide_eq_false h4
    rw [hlen] at h4
    obtain rfl : j = l.length := by omega
    rw [List.drop_length, ixOf] at h1
    conv => whnf
    rw [← h1]
    exact ⟨rfl, rfl⟩


theorem ixO_c {f : FuncId} {p : Hd → Bool} {x0 x1 : D} {l : List Hd} (hl : l.length ≤ 100000) (hp : ∀ t ∈ l, CallR cx f [.d t.d, .ptr 0 [], .ptr 1 []] [.var (.d x0), .var (.d x1)] fun r S => r = bo (p t) ∧ S = [.var (.d x0), .var (.d x1)]) :
    CallR cx 93 [.row 0, .fn f [1, 2]] [.own 54 4 (hds l), .var (.d x0), .var (.d x1)] fun r S => r = i64 (ixOf p l 0) ∧ S = [.own 54 4 (hds l), .var (.d x0), .var (.d x1)] := by
  have hlen : (hds l).length = l.length := List.length_map _
  refine callR_ofR (rw := true) (R := R1) cx_ok Tryz.func93 (by kernel_rfl) rfl ?_
  conv => whnf
  refine .inl ⟨fun m L S => ∃ j : Nat, j ≤ l.length ∧ ixOf p (l.drop j) j = ixOf p l 0 ∧ m = l.length - j ∧
      L = [(0, .row 0), (1, .fn f [1, 2]), (7, i64 (((hds l).length : Nat) : Int)), (8, i64 (j : Int))] ∧ S = [.own 54 4 (hds l), .var (.d x0), .var (.d x1)],
    ⟨_, _, ⟨0, Nat.zero_le _, rfl, rfl, rfl, rfl⟩, ⟨rfl, rfl, rfl, rfl, trivial⟩⟩, ?_⟩
  rintro _ _ _ ⟨j, hj, h1, rfl, rfl, rfl⟩
  conv => whnf
  refine brec (fun h4 => ?_) (fun h4 => ?_)
  · have h4 := of_decide_eq_true h4
    rw [hlen] at h4
    have hlt : j < l.length := by omega
    conv => whnf
    refine ⟨⟨by omega, by rw [hlen]; omega⟩, ?_⟩
    conv => whnf
    refine ⟨by rw [hlen]; omega, ?_⟩
    rw [hds_getD hlt]
    rw [List.drop_eq_getElem_cons hlt] at h1
    have hq := hp _ (List.getElem_mem hlt)
    generalize l[j]'hlt = a at *
    conv => whnf
    refine ⟨_, hq, ?_⟩
    rintro _ _ ⟨rfl, rfl⟩
    conv => whnf
    rw [ixOf] at h1
    refine brec (fun h5 => ?_) (fun h5 => ?_)
    · rw [if_pos h5] at h1
      conv => whnf
      rw [h1]
      exact ⟨rfl, rfl⟩
    · rw [if_neg (by rw [h5]; decide)] at h1
      have e3 : IntKind.i64.wrap ((j : Int) + 1) = ((j + 1 : Nat) : Int) := by rw [w64 (by omega)]; omega
      conv => whnf
      exact ⟨_, _, 3, (by omega : l.length - (j + 1) < l.length - j), ⟨j + 1, by omega, h1, rfl, rfl, rfl⟩, ⟨rfl, rfl, rfl, congrArg (fun z => some (i64 z)) e3, trivial⟩, rfl⟩
  · have h4 := of_decide_eq_false h4
    rw [hlen] at h4
    obtain rfl : j = l.length := by omega
    rw [List.drop_length, ixOf] at h1
    conv => whnf
    rw [← h1]
    exact ⟨rfl, rfl⟩

end Go.Proofs.YtmdfpifcghmpfaaGreatDoor

/- Purses: lists of tokens and of holdings that are one's own; where a token is, where a holding is. -/
namespace Go.Proofs.YtmdfpifcghmpfaaGreatDoor
open Go.Shelf Go.Ab Go.RowKit

/-- The first that is so; with another one for it; without it; another one ahead of it. -/
def lookP {α : Type} (p : α → Bool) : List α → Option α
  | [] => none
  | a :: l => if p a then some a else lookP p l
def putP {α : Type} (p : α → Bool) : List α → α → List α
  | [], _ => []
  | a :: l, b => if p a then b :: l else a :: putP p l b
def delP {α : Type} (p : α → Bool) : List α → List α
  | [] => []
  | a :: l => if p a then l else a :: delP p l
def insP {α : Type} (p : α → Bool) : List α → α → List α
  | [], b => [b]
  | a :: l, b => if p a then b :: a :: l else a :: insP p l b

theorem ix_look {α : Type} (p : α → Bool) : ∀ (l : List α) (k : Nat), (ixOf p l k = -1 ∧ lookP p l = none) ∨
    ∃ (j : Nat) (h : j < l.length), ixOf p l k = ((k + j : Nat) : Int) ∧ lookP p l = some (l[j]'h) ∧ p (l[j]'h) = true ∧ (∀ b, l.set j b = putP p l b) ∧ l.take j ++ l.drop (j + 1) = delP p l
  | [], k => .inl ⟨rfl, rfl⟩
  | a :: l, k => by
    cases e : p a with
    | true => exact .inr ⟨0, by simp, by rw [ixOf, if_pos e]; rfl, by rw [lookP, if_pos e]; rfl, e, fun b => by rw [putP, if_pos e]; rfl, by rw [delP, if_pos e]; rfl⟩
    | false =>
      have e1 : ixOf p (a :: l) k = ixOf p l (k + 1) := by rw [ixOf, if_neg (by rw [e]; decide)]
      have e2 : lookP p (a :: l) = lookP p l := by rw [lookP, if_neg (by rw [e]; decide)]
      rcases ix_look p l (k + 1) with ⟨h1, h2⟩ | ⟨j, h, h1, h2, h3, h4, h5⟩
      · exact .inl ⟨by rw [e1, h1], by rw [e2, h2]⟩
      · refine .inr ⟨j + 1, by simpa using h, by rw [e1, h1]; congr 1; omega, by rw [e2, h2]; rfl, h3, fun b => ?_, ?_⟩
        · rw [putP, if_neg (by rw [e]; decide), ← h4 b]; rfl
        · rw [delP, if_neg (by rw [e]; decide), ← h5]; rfl
theorem ix_ins {α : Type} (p : α → Bool) (b : α) : ∀ (l : List α) (k : Nat), (ixOf p l k = -1 ∧ insP p l b = l ++ [b]) ∨
    ∃ j, j < l.length ∧ ixOf p l k = ((k + j : Nat) : Int) ∧ insP p l b = l.take j ++ b :: l.drop j
  | [], k => .inl ⟨rfl, rfl⟩
  | a :: l, k => by
    cases e : p a with
    | true => exact .inr ⟨0, by simp, by rw [ixOf, if_pos e]; rfl, by rw [insP, if_pos e]; rfl⟩
    | false =>
      have e1 : ixOf p (a :: l) k = ixOf p l (k + 1) := by rw [ixOf, if_neg (by rw [e]; decide)]
      have e2 : insP p (a :: l) b = a :: insP p l b := by rw [insP, if_neg (by rw [e]; decide)]
      rcases ix_ins p b l (k + 1) with ⟨h1, h2⟩ | ⟨j, h, h1, h2⟩
      · exact .inl ⟨by rw [e1, h1], by rw [e2, h2]; rfl⟩
      · exact .inr ⟨j + 1, by simpa using h, by rw [e1, h1]; congr 1; omega, by rw [e2, h2]; rfl⟩
theorem lookP_mem {α : Type} {p : α → Bool} : ∀ {l : List α} {a : α}, lookP p l = some a → a ∈ l ∧ p a = true
  | [], _, h => by cases h
  | b :: l, a, h => by
    rw [lookP] at h
    split at h
    · cases h; exact ⟨by simp, by assumption⟩
    · have := lookP_mem h; exact ⟨by simp [this.1], this.2⟩

def renT : Go.Shelf.Ren := ⟨fun | 41 => 13 | n => n, fun | 4 => 4 | 22 => 22 | 23 => 52 | n => n, fun n => n⟩
theorem laysT : SlLaysE0.n41 Tryz.prog renT := {
  mixed := by kernel_rfl
  f41 := ⟨Tryz.f13.name, by kernel_rfl, Tryz.func13.trans (congrArg some (by kernel_rfl))⟩
  t4 := Tryz.underlying4
  a4 := Tryz.isAgg4
  z4 := Tryz.sizeOf4
  v4 := Tryz.zeroValue4
  t22 := Tryz.underlying22
  a22 := Tryz.isAgg22
  z22 := Tryz.sizeOf22
  v22 := Tryz.zeroValue22 }
theorem cloneT_c {l : List Tk} (h : l.length ≤ 100000) : CallR cx 13 [.d (.sl 7 (tks l))] [] fun r S => r = .row 0 ∧ S = [.own 52 7 (tks l)] := by
  have hl : (tks l).length = l.length := List.length_map _
  exact clone_c (ρ := renT) laysT (e := 52) (sz := 7) rfl Tryz.func13 (by kernel_rfl) (by kernel_rfl) rfl rfl rfl rfl (by decide) Tryz.sizeOf52 (by rw [hl]; unfold maxLen; omega) (by rw [hl]; show l.length * 64 ≤ _; omega)

def renH : Go.Shelf.Ren := ⟨fun | 41 => 14 | n => n, fun | 4 => 4 | 22 => 23 | 23 => 54 | n => n, fun n => n⟩
theorem laysH : SlLaysE0.n41 Tryz.prog renH := {
  mixed := by kernel_rfl
  f41 := ⟨Tryz.f14.name, by kernel_rfl, Tryz.func14.trans (congrArg some (by kernel_rfl))⟩
  t4 := Tryz.underlying4
  a4 := Tryz.isAgg4
  z4 := Tryz.sizeOf4
  v4 := Tryz.zeroValue4
  t22 := Tryz.underlying23
  a22 := Tryz.isAgg23
  z22 := Tryz.sizeOf23
  v22 := Tryz.zeroValue23 }
theorem cloneH_c {l : List Hd} (h : l.length ≤ 100000) : CallR cx 14 [.d (.sl 4 (hds l))] [] fun r S => r = .row 0 ∧ S = [.own 54 4 (hds l)] := by
  have hl : (hds l).length = l.length := List.length_map _
  exact clone_c (ρ := renH) laysH (e := 54) (sz := 4) rfl Tryz.func14 (by kernel_rfl) (by kernel_rfl) rfl rfl rfl rfl (by decide) Tryz.sizeOf54 (by rw [hl]; unfold maxLen; omega) (by rw [hl]; show l.length * 48 ≤ _; omega)

def renIT : Go.Shelf.Ren := ⟨fun | 22 => 66 | 29 => 87 | 30 => 88 | n => n, fun | 3 => 3 | 4 => 4 | 9 => 52 | 24 => 22 | n => n, fun n => n⟩
theorem laysIT : ∃ z, InsL Tryz.prog renIT 7 64 z := by
  obtain ⟨_, info, f1, f2, f3, f4⟩ := cx_ok 52 _ rfl
  obtain ⟨zv, f5, f6⟩ := f4 _ rfl
  exact ⟨zv, {
    mixed := by kernel_rfl
    f22 := ⟨Tryz.f66.name, Tryz.func66.trans (congrArg some (by kernel_rfl))⟩
    ov := fun args w v w' h => by
      rw [run_callFunc_extern (P := Tryz.prog) (f := renIT.f 29) Tryz.func87 (by kernel_rfl) (by kernel_rfl) (by kernel_rfl) (e := Extern.SlicesOverlaps.overlaps #[renIT.t 24, renIT.t 24] #[renIT.t 4]) (by kernel_rfl), h]
      rfl
    t3 := Tryz.underlying3
    a3 := Tryz.isAgg3
    z3 := Tryz.sizeOf3
    v3 := Tryz.zeroValue3
    t4 := Tryz.underlying4
    a4 := Tryz.isAgg4
    z4 := Tryz.sizeOf4
    v4 := Tryz.zeroValue4
    t24 := Tryz.underlying22
    a24 := Tryz.isAgg22
    z24 := Tryz.sizeOf22
    v24 := Tryz.zeroValue22
    z9 := Tryz.sizeOf52
    i9 := ⟨info, f1, f5, f2, f3⟩
    zs := (f6 default (fun _ _ => False)).cells_size
    s0 := by decide }⟩
theorem insertT_c {l : List Tk} {b : Tk} {i : Nat} (hi : i ≤ l.length) (h : l.length ≤ 100000) : CallR cx 66 [.row 0, i64 (i : Int), .d (.sl 7 [b.d])] [.own 52 7 (tks l)] fun r S =>
    r = .row 1 ∧ S = [.dead, .own 52 7 (tks (l.take i ++ b :: l.drop i))] := by
  obtain ⟨z, L⟩ := laysIT
  have hl : (tks l).length = l.length := List.length_map _
  have := insert_c L (xs := tks l) (x := b.d) (e := 52) (i := i) rfl Tryz.func66 (by kernel_rfl) rfl (by omega) (by rw [hl]; unfold maxLen; omega) (by rw [hl]; omega)
  have e : tks (l.take i ++ b :: l.drop i) = (tks l).take i ++ b.d :: (tks l).drop i := by simp [tks, List.map_take, List.map_drop]
  rw [e]
  exact this

def renIH : Go.Shelf.Ren := ⟨fun | 22 => 96 | 29 => 102 | 30 => 103 | n => n, fun | 3 => 3 | 4 => 4 | 9 => 54 | 24 => 23 | n => n, fun n => n⟩
theorem laysIH : ∃ z, InsL Tryz.prog renIH 4 48 z := by
  obtain ⟨_, info, f1, f2, f3, f4⟩ := cx_ok 54 _ rfl
  obtain ⟨zv, f5, f6⟩ := f4 _ rfl
  exact ⟨zv, {
    mixed := by kernel_rfl
    f22 := ⟨Tryz.f96.name, Tryz.func96.trans (congrArg some (by kernel_rfl))⟩
    ov := fun args w v w' h => by
      rw [run_callFunc_extern (P := Tryz.prog) (f := renIH.f 29) Tryz.func102 (by kernel_rfl) (by kernel_rfl) (by kernel_rfl) (e := Extern.SlicesOverlaps.overlaps #[renIH.t 24, renIH.t 24] #[renIH.t 4]) (by kernel_rfl), h]
      rfl
    t3 := Tryz.underlying3
    a3 := Tryz.isAgg3
    z3 := Tryz.sizeOf3
    v3 := Tryz.zeroValue3
    t4 := Tryz.underlying4
    a4 := Tryz.isAgg4
    z4 := Tryz.sizeOf4
    v4 := Tryz.zeroValue4
    t24 := Tryz.underlying23
    a24 := Tryz.isAgg23
    z24 := Tryz.sizeOf23
    v24 := Tryz.zeroValue23
    z9 := Tryz.sizeOf54
    i9 := ⟨info, f1, f5, f2, f3⟩
    zs := (f6 default (fun _ _ => False)).cells_size
    s0 := by decide }⟩
theorem insertH_c {l : List Hd} {b : Hd} {i : Nat} (hi : i ≤ l.length) (h : l.length ≤ 100000) : CallR cx 96 [.row 0, i64 (i : Int), .d (.sl 4 [b.d])] [.own 54 4 (hds l)] fun r S =>
    r = .row 1 ∧ S = [.dead, .own 54 4 (hds (l.take i ++ b :: l.drop i))] := by
  obtain ⟨z, L⟩ := laysIH
  have hl : (hds l).length = l.length := List.length_map _
  have := insert_c L (xs := hds l) (x := b.d) (e := 54) (i := i) rfl Tryz.func96 (by kernel_rfl) rfl (by omega) (by rw [hl]; unfold maxLen; omega) (by rw [hl]; omega)
  have e : hds (l.take i ++ b :: l.drop i) = (hds l).take i ++ b.d :: (hds l).drop i := by simp [hds, List.map_take, List.map_drop]
  rw [e]
  exact this

def renDH : Go.Shelf.Ren := ⟨fun | 45 => 92 | n => n, fun | 3 => 3 | 4 => 4 | 23 => 54 | 22 => 23 | n => n, fun n => n⟩
theorem laysDH : ∃ z, DelL Tryz.prog renDH 4 48 z := by
  obtain ⟨_, info, f1, f2, f3, f4⟩ := cx_ok 54 _ rfl
  obtain ⟨zv, f5, f6⟩ := f4 _ rfl
  exact ⟨zv, {
    mixed := by kernel_rfl
    f45 := ⟨Tryz.f92.name, by kernel_rfl, Tryz.func92.trans (congrArg some (by kernel_rfl))⟩
    t3 := Tryz.underlying3
    a3 := Tryz.isAgg3
    z3 := Tryz.sizeOf3
    v3 := Tryz.zeroValue3
    t4 := Tryz.underlying4
    a4 := Tryz.isAgg4
    z4 := Tryz.sizeOf4
    v4 := Tryz.zeroValue4
    t22 := Tryz.underlying23
    a22 := Tryz.isAgg23
    z22 := Tryz.sizeOf23
    v22 := Tryz.zeroValue23
    z23 := Tryz.sizeOf54
    v23 := fun w => by
      have hf : Tryz.prog.info? (renDH.t 23) = some info := f1
      simp only [zeroValue, typeInfo, Sem.run_bind, run_program, Result.andThen_ok, hf, f5, Sem.run_pure]
    i23 := ⟨info, f1, f5, f2, f3⟩
    zs := (f6 default (fun _ _ => False)).cells_size
    zo := (f6 default (fun _ _ => False)).1.oneCell
    s0 := by decide }⟩
theorem deleteH_c {l : List Hd} {i : Nat} (hi : i < l.length) : CallR cx 92 [.row 0, i64 (i : Int), i64 ((i + 1 : Nat) : Int)] [.own 54 4 (hds l)] fun r S =>
    r = .row 1 ∧ S = [.dead, .own 54 4 (hds (l.take i ++ l.drop (i + 1)))] := by
  obtain ⟨z, L⟩ := laysDH
  have hl : (hds l).length = l.length := List.length_map _
  have := delete_c L (xs := hds l) (e := 54) (i := i) rfl Tryz.func92 (by kernel_rfl) rfl (by omega)
  have e : hds (l.take i ++ l.drop (i + 1)) = (hds l).take i ++ (hds l).drop (i + 1) := by simp [hds, List.map_take, List.map_drop]
  rw [e]
  exact this

end Go.Proofs.YtmdfpifcghmpfaaGreatDoor

/- Purses: a token's place, a holding's; who holds how much; a token more. -/
namespace Go.Proofs.YtmdfpifcghmpfaaGreatDoor
open Go.Ab Go.RowKit

def tkP (o : Int) (n : ByteArray) (t : Tk) : Bool := same2 t.org t.name o n
def hdP (o : Int) (n w : ByteArray) (h : Hd) : Bool := same2 h.org h.token o n && decide (h.owner = w)
def tbP (o : Int) (n : ByteArray) (t : Tk) : Bool := bef o n t.org t.name
def hbP (o : Int) (n w : ByteArray) (h : Hd) : Bool := bef o n h.org h.token || (same2 o n h.org h.token && decide (ordN w h.owner < 0))

theorem token_c {p : Pu} {o : Int} {n : ByteArray} (hp : p.ok) : CallR cx 58 [.d p.d, .d (ky o n)] [] fun r S => r = i64 (ixOf (tkP o n) p.toks 0) ∧ S = [] := by
  have ix := ixT_c (f := 81) (p := tkP o n) (x0 := ky o n) hp.nt (fun t _ => token1_c)
  obtain ⟨ts, hs⟩ := p
  refine callR_of (R := R1) cx_ok Tryz.func58 (by kernel_rfl) rfl ?_
  conv => whnf
  refine ⟨_, ix, ?_⟩
  rintro _ _ ⟨rfl, rfl⟩
  conv => whnf
  exact ⟨rfl, rfl⟩

theorem holding_c {p : Pu} {o : Int} {n w : ByteArray} (hp : p.ok) : CallR cx 91 [.d p.d, .d (ky o n), st w] [] fun r S => r = i64 (ixOf (hdP o n w) p.holds 0) ∧ S = [] := by
  have ix := ixH_c (f := 101) (p := hdP o n w) (x0 := ky o n) (x1 := .str w) hp.nh (fun t _ => holding1_c)
  obtain ⟨ts, hs⟩ := p
  refine callR_of (R := R1) cx_ok Tryz.func91 (by kernel_rfl) rfl ?_
  conv => whnf
  refine ⟨_, ix, ?_⟩
  rintro _ _ ⟨rfl, rfl⟩
  conv => whnf
  exact ⟨rfl, rfl⟩

def tk0 : Tk := ⟨0, .empty, 0, 0, 0, 0, 0⟩
def knownP (p : Pu) (o : Int) (n : ByteArray) : Tk × Bool := match lookP (tkP o n) p.toks with
  | none => (tk0, false)
  | some t => (t, true)
def heldV (p : Pu) (o : Int) (n w : ByteArray) : Int := match lookP (hdP o n w) p.holds with
  | none => 0
  | some h => h.amount

theorem heldv_c {p : Pu} {o : Int} {n w : ByteArray} (hp : p.ok) : CallR cx 84 [.d p.d, .d (.int .u32 o), st n, st w] [] fun r S => r = u64 (heldV p o n w) ∧ S = [] := by
  have tc := holding_c (o := o) (n := n) (w := w) hp
  have hix := ix_look (hdP o n w) p.holds 0
  obtain ⟨ts, hs⟩ := p
  simp only at hix tc
  have hlen : (hds hs).length = hs.length := List.length_map _
  unfold heldV
  simp only
  rcases hix with ⟨h1, h2⟩ | ⟨j, hj, h1, h2, _⟩
  · rw [h1] at tc
    rw [h2]
    refine callR_of (R := R1) cx_ok Tryz.func84 (by kernel_rfl) rfl ?_
    conv => whnf
    refine ⟨_, tc, ?_⟩
    rintro _ _ ⟨rfl, rfl⟩
    conv => whnf
    exact ⟨rfl, rfl⟩
  · rw [h1, Nat.zero_add] at tc
    rw [h2]
    have hgd := hds_getD hj
    generalize hs[j]'hj = a at *
    generalize hJ : (j : Int) = J at *
    refine callR_of (R := R1) cx_ok Tryz.func84 (by kernel_rfl) rfl ?_
    conv => whnf
    refine ⟨_, tc, ?_⟩
    rintro _ _ ⟨rfl, rfl⟩
    conv => whnf
    refine brF (decide_eq_false (by omega)) ?_
    conv => whnf
    refine ⟨⟨by omega, by rw [hlen]; omega⟩, ?_⟩
    rw [hgd]
    conv => whnf
    exact ⟨rfl, rfl⟩

theorem pwith_c {p : Pu} {i : Nat} {t : Tk} (hp : p.ok) (hi : i < p.toks.length) : CallR cx 62 [.d p.d, i64 (i : Int), .d t.d] [] fun r S => r = .d (Pu.d ⟨p.toks.set i t, p.holds⟩) ∧ S = [] := by
  have c1 := cloneT_c (l := p.toks) hp.nt
  obtain ⟨ts, hs⟩ := p
  simp only at c1 hi
  have hlen : (tks ts).length = ts.length := List.length_map _
  have hset : tks (ts.set i t) = (tks ts).set (i : Int).toNat t.d := by simp [tks, List.map_set]
  unfold Pu.d
  simp only
  rw [hset]
  generalize hJ : (i : Int) = J at *
  refine callR_of (R := R1) cx_ok Tryz.func62 (by kernel_rfl) rfl ?_
  conv => whnf
  refine ⟨_, c1, ?_⟩
  rintro _ _ ⟨rfl, rfl⟩
  conv => whnf
  refine ⟨⟨by omega, by rw [hlen]; omega⟩, ?_⟩
  conv => whnf
  refine ⟨by rw [hlen]; omega, ?_⟩
  conv => whnf
  exact ⟨rfl, rfl⟩

def enlistP (p : Pu) (o : Int) (n : ByteArray) (k : Int) : Pu × Int :=
  if rightT n = false then (p, 7) else match lookP (tkP o n) p.toks with
    | some _ => (p, 13)
    | none => if p.toks.length > 31 then (p, 6) else (⟨insP (tbP o n) p.toks ⟨o, n, k, 0, 0, 0, 0⟩, p.holds⟩, 0)

theorem enlist_c {p : Pu} {o : Int} {n : ByteArray} {k : Int} (hp : p.ok) (hn : n.size ≤ 1000) : CallR cx 35 [.d p.d, .d (.int .u32 o), st n, u64 k] [] fun r S =>
    r = .tup [.d (enlistP p o n k).1.d, i64 (enlistP p o n k).2] ∧ S = [] := by
  have rc := right_c (s := n) (by omega)
  have tc := token_c (o := o) (n := n) hp
  have hix := ix_look (tkP o n) p.toks 0
  have hax := ix_ins (tbP o n) ⟨o, n, k, 0, 0, 0, 0⟩ p.toks 0
  have ix := ixT_c (f := 63) (p := tbP o n) (x0 := ky o n) hp.nt (fun t ht => enlist1_c (hp.t t ht).2.2.2.2.2 hn)
  have c1 := cloneT_c (l := p.toks) hp.nt
  have hll := hp.nt
  obtain ⟨ts, hs⟩ := p
  simp only at hix tc ix c1 hll hax
  have hlen : (tks ts).length = ts.length := List.length_map _
  have ins : ∀ i, i ≤ ts.length → _ := fun i hi => insertT_c (l := ts) (b := ⟨o, n, k, 0, 0, 0, 0⟩) (i := i) hi hll
  unfold enlistP
  simp only
  cases q : rightT n with
  | false =>
    rw [q] at rc
    rw [if_pos rfl]
    refine callR_of (R := R1) cx_ok Tryz.func35 (by kernel_rfl) rfl ?_
    conv => whnf
    refine ⟨_, rc, ?_⟩
    rintro _ _ ⟨rfl, rfl⟩
    conv => whnf
    exact ⟨rfl, rfl⟩
  | true =>
    rw [q] at rc
    rw [if_neg (by decide)]
    rcases hix with ⟨h1, h2⟩ | ⟨j, hj, h1, h2, _⟩
    · rw [h1] at tc
      rw [h2]
      simp only
      refine callR_of (R := R1) cx_ok Tryz.func35 (by kernel_rfl) rfl ?_
      conv => whnf
      refine ⟨_, rc, ?_⟩
      rintro _ _ ⟨rfl, rfl⟩
      conv => whnf
      refine ⟨_, tc, ?_⟩
      rintro _ _ ⟨rfl, rfl⟩
      conv => whnf
      refine brec (fun h5 => ?_) (fun h5 => ?_)
      · have h5 := of_decide_eq_true h5
        rw [hlen] at h5
        rw [if_pos (by omega)]
        conv => whnf
        exact ⟨rfl, rfl⟩
      · have h5 := of_decide_eq_false h5
        rw [hlen] at h5
        rw [if_neg (by omega)]
        conv => whnf
        refine ⟨_, ix, ?_⟩
        rintro _ _ ⟨rfl, rfl⟩
        rcases hax with ⟨g1, g2⟩ | ⟨j, hj, g1, g2⟩
        · rw [g1, g2]
          have ins0 := ins ts.length (Nat.le_refl _)
          rw [List.take_length, List.drop_length] at ins0
          obtain ⟨M, hM⟩ : ∃ M, M = ts ++ [(⟨o, n, k, 0, 0, 0, 0⟩ : Tk)] := ⟨_, rfl⟩
          rw [← hM] at ins0 ⊢
          rw [← hlen] at ins0
          conv => whnf
          refine ⟨_, c1, ?_⟩
          rintro _ _ ⟨rfl, rfl⟩
          conv => whnf
          refine ⟨_, ins0, ?_⟩
          rintro _ _ ⟨rfl, rfl⟩
          conv => whnf
          exact ⟨rfl, rfl⟩
        · rw [g1, g2, Nat.zero_add]
          have ins0 := ins j (by omega)
          obtain ⟨M, hM⟩ : ∃ M, M = ts.take j ++ (⟨o, n, k, 0, 0, 0, 0⟩ : Tk) :: ts.drop j := ⟨_, rfl⟩
          rw [← hM] at ins0 ⊢
          generalize hJ : (j : Int) = J at *
          conv => whnf
          refine brF (decide_eq_false (by omega)) ?_
          conv => whnf
          refine ⟨_, c1, ?_⟩
          rintro _ _ ⟨rfl, rfl⟩
          conv => whnf
          refine ⟨_, ins0, ?_⟩
          rintro _ _ ⟨rfl, rfl⟩
          conv => whnf
          exact ⟨rfl, rfl⟩
    · rw [h1, Nat.zero_add] at tc
      rw [h2]
      simp only
      generalize hJ : (j : Int) = J at *
      refine callR_of (R := R1) cx_ok Tryz.func35 (by kernel_rfl) rfl ?_
      conv => whnf
      refine ⟨_, rc, ?_⟩
      rintro _ _ ⟨rfl, rfl⟩
      conv => whnf
      refine ⟨_, tc, ?_⟩
      rintro _ _ ⟨rfl, rfl⟩
      conv => whnf
      refine brT (decide_eq_true (by omega)) ?_
      conv => whnf
      exact ⟨rfl, rfl⟩
end Go.Proofs.YtmdfpifcghmpfaaGreatDoor

/- Purses: somebody holds so much from now on. -/
namespace Go.Proofs.YtmdfpifcghmpfaaGreatDoor
open Go.Ab Go.RowKit

def putH (l : List Hd) (o : Int) (n w : ByteArray) (k : Int) : List Hd := match lookP (hdP o n w) l with
  | some h => if k = 0 then delP (hdP o n w) l else putP (hdP o n w) l { h with amount := k }
  | none => if k > 0 then insP (hbP o n w) l ⟨o, n, w, k⟩ else l

theorem put_app {T H M : List D} {o k : Int} {n w : ByteArray} (hk0 : k > 0) (c1 : CallR cx 14 [.d (.sl 4 H)] [] fun r S => r = .row 0 ∧ S = [.own 54 4 H]) (hc : CallR cx 91 [.d (.agg [.sl 7 T, .sl 4 H]), .d (ky o n), st w] [] fun r S => r = i64 (-1) ∧ S = []) (io : CallR cx 93 [.row 0, .fn 94 [1, 2]] [.own 54 4 H, .var (.d (ky o n)), .var (st w)] fun r S => r = i64 (-1) ∧ S = [.own 54 4 H, .var (.d (ky o n)), .var (st w)]) (ins : CallR cx 96 [.row 0, i64 ((H.length : Nat) : Int), .d (.sl 4 [.agg [.int .u32 o, .str n, .str w, .int .u64 k]])] [.own 54 4 H] fun r S => r = .row 1 ∧ S = [.dead, .own 54 4 M]) :
    CallR cx 85 [.d (.agg [.sl 7 T, .sl 4 H]), .d (ky o n), st w, u64 k] [] fun r S => r = .d (.agg [.sl 7 T, .sl 4 M]) ∧ S = [] := by
  refine callR_of (R := R1) cx_ok Tryz.func85 (by kernel_rfl) rfl ?_
  conv => whnf
  refine ⟨_, c1, ?_⟩
  rintro _ _ ⟨rfl, rfl⟩
  conv => whnf
  refine ⟨_, hc, ?_⟩
  rintro _ _ ⟨rfl, rfl⟩
  conv => whnf
  refine brT (decide_eq_true hk0) ?_
  conv => whnf
  refine ⟨_, io, ?_⟩
  rintro _ _ ⟨rfl, rfl⟩
  conv => whnf
  refine ⟨_, ins, ?_⟩
  rintro _ _ ⟨rfl, rfl⟩
  conv => whnf
  exact ⟨rfl, rfl⟩

theorem put_ins {T H M : List D} {o k : Int} {n w : ByteArray} {J : Int} (hJ : 0 ≤ J) (hk0 : k > 0) (c1 : CallR cx 14 [.d (.sl 4 H)] [] fun r S => r = .row 0 ∧ S = [.own 54 4 H]) (hc : CallR cx 91 [.d (.agg [.sl 7 T, .sl 4 H]), .d (ky o n), st w] [] fun r S => r = i64 (-1) ∧ S = []) (io : CallR cx 93 [.row 0, .fn 94 [1, 2]] [.own 54 4 H, .var (.d (ky o n)), .var (st w)] fun r S => r = i64 J ∧ S = [.own 54 4 H, .var (.d (ky o n)), .var (st w)]) (ins : CallR cx 96 [.row 0, i64 J, .d (.sl 4 [.agg [.int .u32 o, .str n, .str w, .int .u64 k]])] [.own 54 4 H] fun r S => r = .row 1 ∧ S = [.dead, .own 54 4 M]) :
    CallR cx 85 [.d (.agg [.sl 7 T, .sl 4 H]), .d (ky o n), st w, u64 k] [] fun r S => r = .d (.agg [.sl 7 T, .sl 4 M]) ∧ S = [] := by
  refine callR_of (R := R1) cx_ok Tryz.func85 (by kernel_rfl) rfl ?_
  conv => whnf
  refine ⟨_, c1, ?_⟩
  rintro _ _ ⟨rfl, rfl⟩
  conv => whnf
  refine ⟨_, hc, ?_⟩
  rintro _ _ ⟨rfl, rfl⟩
  conv => whnf
  refine brT (decide_eq_true hk0) ?_
  conv => whnf
  refine ⟨_, io, ?_⟩
  rintro _ _ ⟨rfl, rfl⟩
  conv => whnf
  refine brF (decide_eq_false (by omega)) ?_
  conv => whnf
  refine ⟨_, ins, ?_⟩
  rintro _ _ ⟨rfl, rfl⟩
  conv => whnf
  exact ⟨rfl, rfl⟩

theorem put_no {T H : List D} {o k : Int} {n w : ByteArray} (hk0 : ¬ k > 0) (c1 : CallR cx 14 [.d (.sl 4 H)] [] fun r S => r = .row 0 ∧ S = [.own 54 4 H]) (hc : CallR cx 91 [.d (.agg [.sl 7 T, .sl 4 H]), .d (ky o n), st w] [] fun r S => r = i64 (-1) ∧ S = []) :
    CallR cx 85 [.d (.agg [.sl 7 T, .sl 4 H]), .d (ky o n), st w, u64 k] [] fun r S => r = .d (.agg [.sl 7 T, .sl 4 H]) ∧ S = [] := by
  refine callR_of (R := R1) cx_ok Tryz.func85 (by kernel_rfl) rfl ?_
  conv => whnf
  refine ⟨_, c1, ?_⟩
  rintro _ _ ⟨rfl, rfl⟩
  conv => whnf
  refine ⟨_, hc, ?_⟩
  rintro _ _ ⟨rfl, rfl⟩
  conv => whnf
  refine brF (decide_eq_false hk0) ?_
  conv => whnf
  exact ⟨rfl, rfl⟩

theorem put_del {T H M : List D} {o k : Int} {n w : ByteArray} {J : Int} (hJ : 0 ≤ J) (hk0 : k = 0) (c1 : CallR cx 14 [.d (.sl 4 H)] [] fun r S => r = .row 0 ∧ S = [.own 54 4 H]) (hc : CallR cx 91 [.d (.agg [.sl 7 T, .sl 4 H]), .d (ky o n), st w] [] fun r S => r = i64 J ∧ S = []) (dl : CallR cx 92 [.row 0, i64 J, i64 (IntKind.i64.wrap (J + 1))] [.own 54 4 H] fun r S => r = .row 1 ∧ S = [.dead, .own 54 4 M]) :
    CallR cx 85 [.d (.agg [.sl 7 T, .sl 4 H]), .d (ky o n), st w, u64 k] [] fun r S => r = .d (.agg [.sl 7 T, .sl 4 M]) ∧ S = [] := by
  refine callR_of (R := R1) cx_ok Tryz.func85 (by kernel_rfl) rfl ?_
  conv => whnf
  refine ⟨_, c1, ?_⟩
  rintro _ _ ⟨rfl, rfl⟩
  conv => whnf
  refine ⟨_, hc, ?_⟩
  rintro _ _ ⟨rfl, rfl⟩
  conv => whnf
  subst hk0
  refine brT (decide_eq_true (by omega)) ?_
  conv => whnf
  refine ⟨_, dl, ?_⟩
  rintro _ _ ⟨rfl, rfl⟩
  conv => whnf
  exact ⟨rfl, rfl⟩

theorem put_set {T H : List D} {o k : Int} {n w : ByteArray} {J ao ak : Int} {an aw : ByteArray} (hJ : 0 ≤ J) (hJH : J < H.length) (hk0 : ¬ k = 0) (hgd : H.getD J.toNat .nilP = .agg [.int .u32 ao, .str an, .str aw, .int .u64 ak]) (c1 : CallR cx 14 [.d (.sl 4 H)] [] fun r S => r = .row 0 ∧ S = [.own 54 4 H]) (hc : CallR cx 91 [.d (.agg [.sl 7 T, .sl 4 H]), .d (ky o n), st w] [] fun r S => r = i64 J ∧ S = []) :
    CallR cx 85 [.d (.agg [.sl 7 T, .sl 4 H]), .d (ky o n), st w, u64 k] [] fun r S => r = .d (.agg [.sl 7 T, .sl 4 (H.set J.toNat (.agg [.int .u32 ao, .str an, .str aw, .int .u64 k]))]) ∧ S = [] := by
  refine callR_of (R := R1) cx_ok Tryz.func85 (by kernel_rfl) rfl ?_
  conv => whnf
  refine ⟨_, c1, ?_⟩
  rintro _ _ ⟨rfl, rfl⟩
  conv => whnf
  refine ⟨_, hc, ?_⟩
  rintro _ _ ⟨rfl, rfl⟩
  conv => whnf
  refine brT (decide_eq_true (by omega)) ?_
  conv => whnf
  refine brF (decide_eq_false hk0) ?_
  conv => whnf
  refine brT (decide_eq_true (by omega)) ?_
  conv => whnf
  refine ⟨⟨by omega, by omega⟩, ?_⟩
  conv => whnf
  refine ⟨by omega, ?_⟩
  rw [hgd]
  conv => whnf
  exact ⟨rfl, rfl⟩

theorem put_c {p : Pu} {o : Int} {n w : ByteArray} {k : Int} (hp : p.ok) (hn : n.size ≤ 1000) (hw : w.size ≤ 1000) (hk : U k) : CallR cx 85 [.d p.d, .d (ky o n), st w, u64 k] [] fun r S =>
    r = .d (Pu.d ⟨p.toks, putH p.holds o n w k⟩) ∧ S = [] := by
  have c1 := cloneH_c (l := p.holds) hp.nh
  have hc := holding_c (o := o) (n := n) (w := w) hp
  have hix := ix_look (hdP o n w) p.holds 0
  have hax := ix_ins (hbP o n w) ⟨o, n, w, k⟩ p.holds 0
  have io := ixO_c (f := 94) (p := hbP o n w) (x0 := ky o n) (x1 := .str w) hp.nh (fun h hh => put1_c (hp.h h hh) hn hw)
  have hll := hp.nh
  obtain ⟨ts, hs⟩ := p
  simp only at c1 hc hix hax io hll
  have hlen : (hds hs).length = hs.length := List.length_map _
  have ins : ∀ i, i ≤ hs.length → _ := fun i hi => insertH_c (l := hs) (b := ⟨o, n, w, k⟩) (i := i) hi hll
  have hk' := hk
  unfold U at hk'
  unfold putH
  simp only
  rcases hix with ⟨h1, h2⟩ | ⟨j, hj, h1, h2, h3, h4, h5⟩
  · rw [h1] at hc
    rw [h2]
    simp only
    by_cases hk0 : k > 0
    · rw [if_pos hk0]
      rcases hax with ⟨g1, g2⟩ | ⟨j, hj, g1, g2⟩
      · rw [g1] at io
        rw [g2]
        have ins0 := ins hs.length (Nat.le_refl _)
        rw [List.take_length, List.drop_length, ← hlen] at ins0
        exact put_app hk0 c1 hc io ins0
      · rw [Nat.zero_add] at g1
        rw [g1] at io
        rw [g2]
        exact put_ins (J := (j : Int)) (by omega) hk0 c1 hc io (ins j (by omega))
    · rw [if_neg hk0]
      exact put_no hk0 c1 hc
  · rw [h1, Nat.zero_add] at hc
    rw [h2]
    simp only
    have e3 : IntKind.i64.wrap ((j : Int) + 1) = ((j + 1 : Nat) : Int) := by rw [w64 (by omega)]; omega
    by_cases hk0 : k = 0
    · rw [if_pos hk0]
      have dl := deleteH_c (l := hs) hj
      rw [h5, ← e3] at dl
      exact put_del (J := (j : Int)) (by omega) hk0 c1 hc dl
    · rw [if_neg hk0, ← h4]
      have hgd := hds_getD hj
      have hsd : hds (hs.set j { (hs[j]'hj) with amount := k }) = (hds hs).set (j : Int).toNat (Hd.d { (hs[j]'hj) with amount := k }) := by simp [hds, List.map_set]
      unfold Pu.d
      simp only
      rw [hsd]
      exact put_set (J := (j : Int)) (by omega) (by rw [hlen]; omega) hk0 hgd c1 hc
end Go.Proofs.YtmdfpifcghmpfaaGreatDoor
