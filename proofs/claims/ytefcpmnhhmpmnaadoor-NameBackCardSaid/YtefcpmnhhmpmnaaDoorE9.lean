/- The document's Unquote: the loop. -/
import Derived.Test.YtefcpmnhhmpmnaaDoorE8
set_option linter.unusedVariables false
namespace Go.Proofs.YtefcpmnhhmpmnaaDoor
open Go.Ab Go.RowKit
variable [Errs]

omit [Errs] in
theorem decR_short {k : Nat} {w : List UInt8} (h : w.length ≤ 1) : decR k w = some [] := by
  match k, w, h with
  | k, [], _ => cases k <;> rfl
  | k, [_], _ => cases k <;> rfl
omit [Errs] in
theorem decR_step {k : Nat} {a b : UInt8} {w : List UInt8} : decR (k + 1) (a :: b :: w) = if a ≠ 92 then (decR k (b :: w)).map (a :: ·) else if b = 34 ∨ b = 92 then (decR k w).map (b :: ·)
    else tailR k (decR k) b (hexR w 0 0) := rfl

omit [Errs] in
theorem hexR_step {a b : UInt8} {w : List UInt8} {n k : Nat} : hexR (a :: b :: w) n k = if a ≠ 59 ∧ k < 7 then match digR a with
      | none => none
      | some d => hexR (b :: w) (16 * n + d) (k + 1)
    else some (n, k, a :: b :: w) := rfl
omit [Errs] in
theorem encK_pos (n : Nat) : 1 ≤ (encK n).length := by
  unfold encK
  split
  · exact Nat.le_refl _
  · split
    · exact Nat.le_refl _
    · split
      · exact Nat.le_of_ble_eq_true rfl
      · split <;> exact Nat.le_of_ble_eq_true rfl

set_option maxHeartbeats 8000000 in
theorem runq_yes {t : List UInt8} (ht : t.length ≤ 100000) (h : 2 ≤ t.length ∧ t.head? = some 34 ∧ t.getLast? = some 34) {R : Option (List UInt8)} (hR : decR t.length (t.drop 1) = R) :
    CallR cxE 21 [st (baL t)] [] fun r S => r = unqT t R ∧ S = [] := by
  have hz := baL_size t
  have el : IntKind.i64.wrap (((baL t).size : Int) - 1) = (t.length : Int) - 1 := by rw [hz, w64 (by omega)]
  obtain ⟨h1, h0, h9⟩ := h
  have b0 := byteAt_baL (t := t) (j := 0) (by omega)
  have b1 := byteAt_baL (t := t) (j := t.length - 1) (by omega)
  have g0 : t.head? = some (t[0]'(by omega)) := by rw [List.head?_eq_getElem?, List.getElem?_eq_getElem]
  have g1 : t.getLast? = some (t[t.length - 1]'(by omega)) := by rw [List.getLast?_eq_getElem?, List.getElem?_eq_getElem]
  rw [h0] at g0
  rw [h9] at g1
  rw [← Option.some.inj g0] at b0
  rw [← Option.some.inj g1] at b1
  have hb := fun j h => byteAt_baL (t := t) (j := j) h
  have hR0 : (decR t.length (t.drop 1)).map (([] : List UInt8) ++ ·) = R := by rw [hR]; cases R <;> simp
  clear g0 g1
  generalize hs : baL t = s at *
  refine callR_of (R := R1) cxE_ok Tryd.func21 (by kernel_rfl) rfl ?_
  obtain ⟨C, hC⟩ : ∃ C : Int, C = 1114111 := ⟨_, rfl⟩
  conv => whnf
  rw [← hC]
  refine brF (decide_eq_false (by omega)) ?_
  conv => whnf
  refine ⟨⟨by decide, by omega⟩, ?_⟩
  conv => whnf
  refine brF (bne_eq_false_iff_eq.2 b0) ?_
  conv => whnf
  rw [el]
  have e3 : ((t.length : Int) - 1).toNat = t.length - 1 := by omega
  refine ⟨⟨by omega, by omega⟩, ?_⟩
  conv => whnf
  rw [e3]
  refine brF (bne_eq_false_iff_eq.2 b1) ?_
  conv => whnf
  refine .inr ⟨5, 1, ?_⟩
  conv => whnf
  refine .inr ⟨fun m l S => ∃ (k i : Nat) (xs : List UInt8), (decR k (t.drop i)).map (xs ++ ·) = R ∧ i ≤ t.length ∧ t.length ≤ k + i ∧ xs.length ≤ 4 * i ∧ m = t.length - i ∧
      l = [(0, st s), (4, .row 0), (5, i64 (i : Int))] ∧ S = [.row 5 1 (D.bytes (baL xs))],
    ⟨_, _, ⟨t.length, 1, [], hR0, by omega, by omega, by simp, rfl, rfl, rfl⟩, ⟨rfl, rfl, rfl, trivial⟩⟩, ?_⟩
  rintro _ _ _ ⟨k, i, xs, q1, q2, q3, q4, rfl, rfl, rfl⟩
  have hxs : (D.bytes (baL xs)).length = xs.length := by rw [bytes_length, baL_size]
  conv => whnf
  rw [el]
  by_cases c : i + 1 < t.length
  case neg =>
    refine brF (decide_eq_false (by omega)) ?_
    rw [decR_short (by rw [List.length_drop]; omega)] at q1
    simp only [Option.map_some, List.append_nil] at q1
    subst q1
    have hsz : (baL xs).size ≤ 400000 := by rw [baL_size]; omega
    have qc := lift (rquote_c (s := baL xs) (by omega))
    have es : (baL (34 :: quoteAt (baL xs) 0) = s) ↔ 34 :: quoteAt (baL xs) 0 = t := by
      rw [← hs]
      exact ⟨fun h => by have := congrArg (fun z : ByteArray => z.data.toList) h; simpa [baL] using this, fun h => by rw [h]⟩
    conv => whnf
    refine ⟨_, rfl, ?_⟩
    conv => whnf
    refine ⟨_, qc, ?_⟩
    rintro _ _ ⟨rfl, rfl⟩
    unfold unqT
    by_cases hq : 34 :: quoteAt (baL xs) 0 = t
    · simp only
      rw [if_pos hq]
      have eq1 : (!decide (baL (34 :: quoteAt (baL xs) 0) = s)) = false := by rw [decide_eq_true (es.2 hq), Bool.not_true]
      conv => whnf
      refine brF eq1 ?_
      conv => whnf
      exact ⟨rfl, rfl⟩
    · simp only
      rw [if_neg hq]
      have eq1 : (!decide (baL (34 :: quoteAt (baL xs) 0) = s)) = true := by rw [decide_eq_false (fun h => hq (es.1 h)), Bool.not_false]
      conv => whnf
      refine brT eq1 ?_
      conv => whnf
      exact ⟨rfl, rfl⟩
  refine brT (decide_eq_true (by omega)) ?_
  obtain ⟨k, rfl⟩ : ∃ m, k = m + 1 := ⟨k - 1, by omega⟩
  rw [drop2 c, decR_step] at q1
  have ba := hb i (by omega)
  have bb := hb (i + 1) c
  have d1 : t.drop (i + 1) = t[i + 1]'c :: t.drop (i + 2) := List.drop_eq_getElem_cons c
  generalize t[i]'(by omega) = a at *
  generalize t[i + 1]'c = b at *
  have ei : ((i : Int)).toNat = i := Int.toNat_natCast i
  have fin : ∀ ys : List UInt8, D.bytes (baL xs) ++ (ys.map fun b => D.int .u8 (b.toNat : Int)) = D.bytes (baL (xs ++ ys)) := fun ys => by rw [← bytes_baL, ← bytes_append, ← baL_append]
  generalize D.bytes (baL xs) = XS at *
  have n1 : IntKind.i64.wrap ((i : Int) + 1) = ((i + 1 : Nat) : Int) := by rw [w64 (by omega)]; omega
  conv => whnf
  refine ⟨⟨by omega, by omega⟩, ?_⟩
  conv => whnf
  rw [ei, ba]
  by_cases ha : a = 92
  case neg =>
    have ha' : (a.toNat : Int) ≠ 92 := fun h => ha (UInt8.toNat_inj.1 (by show a.toNat = 92; omega))
    rw [if_pos ha, map_cons] at q1
    refine brT (bne_iff_ne.2 ha') ?_
    conv => whnf
    refine ⟨⟨by omega, by omega⟩, ?_⟩
    conv => whnf
    rw [ei, ba]
    refine ⟨⟨Nat.succ_pos _, by show (XS.length + 1) * (1 + 1) ≤ _; omega⟩, ?_⟩
    conv => whnf
    refine ⟨t.length - (i + 1), [(0, st s), (4, .row 1), (5, i64 ((i + 1 : Nat) : Int))], [1], by omega, ⟨rfl, rfl, congrArg (fun z => some (i64 z)) n1, trivial⟩, ?_⟩
    conv => whnf
    exact ⟨k, i + 1, xs ++ [a], by rw [d1]; exact q1, by omega, by omega, by rw [List.length_append]; show _ + 1 ≤ _; omega, rfl, rfl, by rw [← fin]; rfl⟩
  have ha' : (a.toNat : Int) = 92 := by rw [ha]; rfl
  rw [if_neg (fun h => h ha)] at q1
  refine brF (bne_eq_false_iff_eq.2 ha') ?_
  have n2 : IntKind.i64.wrap (((i + 1 : Nat) : Int) + 1) = ((i + 2 : Nat) : Int) := by rw [w64 (by omega)]; omega
  have ej : (((i + 1 : Nat) : Int)).toNat = i + 1 := Int.toNat_natCast _
  have hN : ∀ k : UInt8, (b.toNat : Int) = (k.toNat : Int) ↔ b = k := fun k => ⟨fun h => UInt8.toNat_inj.1 (by omega), fun h => by rw [h]⟩
  have b34 : (b.toNat : Int) = 34 ↔ b = 34 := hN 34
  have b92 : (b.toNat : Int) = 92 ↔ b = 92 := hN 92
  have b120 : (b.toNat : Int) = 120 ↔ b = 120 := hN 120
  have b117 : (b.toNat : Int) = 117 ↔ b = 117 := hN 117
  conv => whnf
  rw [n1]
  refine ⟨⟨by omega, by omega⟩, ?_⟩
  conv => whnf
  rw [ej, bb]
  by_cases c1 : b = 34
  · rw [if_pos (.inl c1), map_cons] at q1
    refine brT (beq_iff_eq.2 (b34.2 c1)) ?_
    conv => whnf
    refine ⟨⟨by omega, by omega⟩, ?_⟩
    conv => whnf
    rw [ej, bb]
    refine ⟨⟨Nat.succ_pos _, by show (XS.length + 1) * (1 + 1) ≤ _; omega⟩, ?_⟩
    conv => whnf
    refine ⟨t.length - (i + 2), [(0, st s), (4, .row 1), (5, i64 ((i + 2 : Nat) : Int))], [1], by omega, ⟨rfl, rfl, congrArg (fun z => some (i64 z)) n2, trivial⟩, ?_⟩
    conv => whnf
    exact ⟨k, i + 2, xs ++ [b], q1, by omega, by omega, by rw [List.length_append]; show _ + 1 ≤ _; omega, rfl, rfl, by rw [← fin]; rfl⟩
  refine brF (beq_eq_false_iff_ne.2 (fun h => c1 (b34.1 h))) ?_
  conv => whnf
  refine ⟨⟨by omega, by omega⟩, ?_⟩
  conv => whnf
  rw [ej, bb]
  by_cases c2 : b = 92
  · rw [if_pos (.inr c2), map_cons] at q1
    refine brT (beq_iff_eq.2 (b92.2 c2)) ?_
    conv => whnf
    refine ⟨⟨by omega, by omega⟩, ?_⟩
    conv => whnf
    rw [ej, bb]
    refine ⟨⟨Nat.succ_pos _, by show (XS.length + 1) * (1 + 1) ≤ _; omega⟩, ?_⟩
    conv => whnf
    refine ⟨t.length - (i + 2), [(0, st s), (4, .row 1), (5, i64 ((i + 2 : Nat) : Int))], [1], by omega, ⟨rfl, rfl, congrArg (fun z => some (i64 z)) n2, trivial⟩, ?_⟩
    conv => whnf
    exact ⟨k, i + 2, xs ++ [b], q1, by omega, by omega, by rw [List.length_append]; show _ + 1 ≤ _; omega, rfl, rfl, by rw [← fin]; rfl⟩
  rw [if_neg (fun h => h.elim c1 c2)] at q1
  refine brF (beq_eq_false_iff_ne.2 (fun h => c2 (b92.1 h))) ?_
  conv => whnf
  refine ⟨⟨by omega, by omega⟩, ?_⟩
  conv => whnf
  rw [ej, bb, n2]
  obtain ⟨H, hH⟩ : ∃ H, H = hexR (t.drop (i + 2)) 0 0 := ⟨_, rfl⟩
  rw [← hH] at q1
  refine .inl ⟨fun m L S => ∃ (j n l : Nat), i + 2 ≤ j ∧ j ≤ t.length ∧ m = t.length - j ∧ l ≤ 7 ∧ n < 16 ^ l ∧ H = hexR (t.drop j) n l ∧
      L = [(0, st s), (4, .row 0), (5, i64 (j : Int)), (6, u8 (b.toNat : Int)), (7, i64 (n : Int)), (8, i64 (l : Int))] ∧ S = [.row 5 1 XS],
    ⟨_, _, ⟨i + 2, 0, 0, Nat.le_refl _, by omega, rfl, by decide, by decide, hH, rfl, rfl⟩, ⟨rfl, rfl, rfl, rfl, rfl, rfl, trivial⟩⟩, ?_⟩
  rintro _ _ _ ⟨j, n, l, r1, r2, rfl, r3, r4, r5, rfl, rfl⟩
  -- inner
  have hn : n < 268435456 := Nat.lt_of_lt_of_le r4 (Nat.pow_le_pow_right (n := 16) (by decide) r3)
  have ejj : ((j : Int)).toNat = j := Int.toNat_natCast j
  have nj : IntKind.i64.wrap ((j : Int) + 1) = ((j + 1 : Nat) : Int) := by rw [w64 (by omega)]; omega
  conv => whnf
  rw [el]
  by_cases c3 : j + 1 < t.length
  case neg =>
    have q1 : R = none := by
      rw [r5] at q1
      rw [← q1]
      match t.drop j, (by rw [List.length_drop]; omega : (t.drop j).length ≤ 1) with
      | [], _ => rfl
      | [_], _ => rfl
    refine brF (decide_eq_false (by omega)) ?_
    conv => whnf
    rw [el]
    refine brT (decide_eq_true (by omega)) ?_
    rw [q1]
    conv => whnf
    exact ⟨rfl, rfl⟩
  refine brT (decide_eq_true (by omega)) ?_
  have bx := hb j (by omega)
  have dj : t.drop (j + 1) = t[j + 1]'c3 :: t.drop (j + 2) := List.drop_eq_getElem_cons c3
  rw [drop2 c3] at r5
  generalize t[j]'(by omega) = x at *
  generalize t[j + 1]'c3 = y at *
  have x59 : (x.toNat : Int) = 59 ↔ x = 59 := ⟨fun h => UInt8.toNat_inj.1 (by show x.toNat = 59; omega), fun h => by rw [h]; rfl⟩
  have hx0 := x.toNat_lt
  conv => whnf
  refine ⟨⟨by omega, by omega⟩, ?_⟩
  conv => whnf
  first | rw [ejj, bx] | skip
  by_cases c4 : x = 59
  case pos =>
    have r6 : H = some (n, l, x :: y :: t.drop (j + 2)) := by rw [r5, hexR_step, if_neg (fun h => h.1 c4)]
    refine brF (bne_eq_false_iff_eq.2 (x59.2 c4)) ?_
    conv => whnf
    rw [el]
    refine brF (decide_eq_false (by omega)) ?_
    conv => whnf
    rw [r6] at q1
    by_cases c6 : l = 0 ∨ 6 < l
    · have q1 : R = none := by rw [← q1]; unfold tailR; simp only; rw [if_pos c6]; rfl
      by_cases c7 : l = 0
      · refine brT (beq_iff_eq.2 (by omega)) ?_
        rw [q1]
        conv => whnf
        exact ⟨rfl, rfl⟩
      · refine brF (beq_eq_false_iff_ne.2 (by omega)) ?_
        conv => whnf
        refine brT (decide_eq_true (by omega)) ?_
        rw [q1]
        conv => whnf
        exact ⟨rfl, rfl⟩
    have q1 : (if b = 120 ∧ n ≤ 255 then (decR k (y :: t.drop (j + 2))).map (UInt8.ofNat n :: ·) else if b = 117 ∧ n ≤ 1114111 then (decR k (y :: t.drop (j + 2))).map (encK n ++ ·) else none).map (xs ++ ·) = R := by
      rw [← q1]; unfold tailR; simp only; rw [if_neg c6]
    rw [← dj] at q1
    refine brF (beq_eq_false_iff_ne.2 (by omega)) ?_
    conv => whnf
    refine brF (decide_eq_false (by omega)) ?_
    conv => whnf
    by_cases c8 : b = 120
    · refine brT (beq_iff_eq.2 (b120.2 c8)) ?_
      conv => whnf
      by_cases c9 : n ≤ 255
      · refine brT (decide_eq_true (by omega)) ?_
        rw [if_pos ⟨c8, c9⟩, map_cons] at q1
        conv => whnf
        refine ⟨⟨Nat.succ_pos _, by show (XS.length + 1) * (1 + 1) ≤ _; omega⟩, ?_⟩
        conv => whnf
        refine ⟨t.length - (j + 1), [(0, st s), (4, .row 1), (5, i64 ((j + 1 : Nat) : Int))], [1], by omega, ⟨rfl, rfl, congrArg (fun z => some (i64 z)) nj, trivial⟩, ?_⟩
        conv => whnf
        exact ⟨k, j + 1, xs ++ [UInt8.ofNat n], q1, by omega, by omega, by rw [List.length_append]; show _ + 1 ≤ _; omega, rfl, rfl, by rw [← fin]; exact congrArg (fun z => [Blk.row 5 1 (XS ++ [z])]) (b8 rfl (by omega))⟩
      · refine brF (decide_eq_false (by omega)) ?_
        have q1 : R = none := by rw [← q1, if_neg (fun h => c9 h.2), if_neg (fun h => by have := h.1; rw [c8] at this; exact absurd this (by decide))]; rfl
        conv => whnf
        refine brF (beq_eq_false_iff_ne.2 (fun h => by have h := b117.1 h; rw [c8] at h; exact absurd h (by decide))) ?_
        rw [q1]
        conv => whnf
        exact ⟨rfl, rfl⟩
    rw [if_neg (fun h => c8 h.1)] at q1
    refine brF (beq_eq_false_iff_ne.2 (fun h => c8 (b120.1 h))) ?_
    conv => whnf
    by_cases c10 : b = 117
    · refine brT (beq_iff_eq.2 (b117.2 c10)) ?_
      conv => whnf
      refine brec (fun c11 => ?_) (fun c11 => ?_)
      · have c12 : n ≤ 1114111 := Int.ofNat_le.1 (by have h := of_decide_eq_true c11; rw [hC] at h; exact h)
        rw [if_pos ⟨c10, c12⟩, map_app] at q1
        have el4 : (encK n).length ≤ 4 := encK_len (by omega)
        have ru := ru_c c12
        rw [bytes_baL] at ru
        have fy := fin (encK n)
        have ly : ((encK n).map fun b => D.int .u8 (b.toNat : Int)).length ≤ 4 := by rw [List.length_map]; exact el4
        have hpos : 1 ≤ (encK n).length := encK_pos n
        have ly1 : 1 ≤ ((encK n).map fun b => D.int .u8 (b.toNat : Int)).length := by rw [List.length_map]; exact hpos
        generalize ((encK n).map fun b => D.int .u8 (b.toNat : Int)) = YS at *
        conv => whnf
        refine ⟨_, ru, ?_⟩
        rintro _ _ ⟨rfl, rfl⟩
        conv => whnf
        refine ⟨⟨by omega, by show (XS.length + YS.length) * (1 + 1) ≤ _; omega⟩, ?_⟩
        conv => whnf
        refine ⟨t.length - (j + 1), [(0, st s), (4, .row 1), (5, i64 ((j + 1 : Nat) : Int))], [1], by omega, ⟨rfl, rfl, congrArg (fun z => some (i64 z)) nj, trivial⟩, ?_⟩
        conv => whnf
        exact ⟨k, j + 1, xs ++ encK n, q1, by omega, by omega, by rw [List.length_append]; omega, rfl, rfl, by rw [← fy]⟩
      · have c12 : ¬ n ≤ 1114111 := fun h => of_decide_eq_false c11 (by rw [hC]; exact Int.ofNat_le.2 h)
        have q1 : R = none := by rw [← q1, if_neg (fun h => c12 h.2)]; rfl
        rw [q1]
        conv => whnf
        exact ⟨rfl, rfl⟩
    · refine brF (beq_eq_false_iff_ne.2 (fun h => c10 (b117.1 h))) ?_
      have q1 : R = none := by rw [← q1, if_neg (fun h => c10 h.1)]; rfl
      rw [q1]
      conv => whnf
      exact ⟨rfl, rfl⟩
  refine brT (bne_iff_ne.2 (fun h => c4 (x59.1 h))) ?_
  conv => whnf
  by_cases c5 : l < 7
  case neg =>
    have r6 : H = some (n, l, x :: y :: t.drop (j + 2)) := by rw [r5, hexR_step, if_neg (fun h => c5 h.2)]
    refine brF (decide_eq_false (by omega)) ?_
    conv => whnf
    rw [el]
    refine brF (decide_eq_false (by omega)) ?_
    conv => whnf
    rw [r6] at q1
    by_cases c6 : l = 0 ∨ 6 < l
    · have q1 : R = none := by rw [← q1]; unfold tailR; simp only; rw [if_pos c6]; rfl
      by_cases c7 : l = 0
      · refine brT (beq_iff_eq.2 (by omega)) ?_
        rw [q1]
        conv => whnf
        exact ⟨rfl, rfl⟩
      · refine brF (beq_eq_false_iff_ne.2 (by omega)) ?_
        conv => whnf
        refine brT (decide_eq_true (by omega)) ?_
        rw [q1]
        conv => whnf
        exact ⟨rfl, rfl⟩
    have q1 : (if b = 120 ∧ n ≤ 255 then (decR k (y :: t.drop (j + 2))).map (UInt8.ofNat n :: ·) else if b = 117 ∧ n ≤ 1114111 then (decR k (y :: t.drop (j + 2))).map (encK n ++ ·) else none).map (xs ++ ·) = R := by
      rw [← q1]; unfold tailR; simp only; rw [if_neg c6]
    rw [← dj] at q1
    refine brF (beq_eq_false_iff_ne.2 (by omega)) ?_
    conv => whnf
    refine brF (decide_eq_false (by omega)) ?_
    conv => whnf
    by_cases c8 : b = 120
    · refine brT (beq_iff_eq.2 (b120.2 c8)) ?_
      conv => whnf
      by_cases c9 : n ≤ 255
      · refine brT (decide_eq_true (by omega)) ?_
        rw [if_pos ⟨c8, c9⟩, map_cons] at q1
        conv => whnf
        refine ⟨⟨Nat.succ_pos _, by show (XS.length + 1) * (1 + 1) ≤ _; omega⟩, ?_⟩
        conv => whnf
        refine ⟨t.length - (j + 1), [(0, st s), (4, .row 1), (5, i64 ((j + 1 : Nat) : Int))], [1], by omega, ⟨rfl, rfl, congrArg (fun z => some (i64 z)) nj, trivial⟩, ?_⟩
        conv => whnf
        exact ⟨k, j + 1, xs ++ [UInt8.ofNat n], q1, by omega, by omega, by rw [List.length_append]; show _ + 1 ≤ _; omega, rfl, rfl, by rw [← fin]; exact congrArg (fun z => [Blk.row 5 1 (XS ++ [z])]) (b8 rfl (by omega))⟩
      · refine brF (decide_eq_false (by omega)) ?_
        have q1 : R = none := by rw [← q1, if_neg (fun h => c9 h.2), if_neg (fun h => by have := h.1; rw [c8] at this; exact absurd this (by decide))]; rfl
        conv => whnf
        refine brF (beq_eq_false_iff_ne.2 (fun h => by have h := b117.1 h; rw [c8] at h; exact absurd h (by decide))) ?_
        rw [q1]
        conv => whnf
        exact ⟨rfl, rfl⟩
    rw [if_neg (fun h => c8 h.1)] at q1
    refine brF (beq_eq_false_iff_ne.2 (fun h => c8 (b120.1 h))) ?_
    conv => whnf
    by_cases c10 : b = 117
    · refine brT (beq_iff_eq.2 (b117.2 c10)) ?_
      conv => whnf
      refine brec (fun c11 => ?_) (fun c11 => ?_)
      · have c12 : n ≤ 1114111 := Int.ofNat_le.1 (by have h := of_decide_eq_true c11; rw [hC] at h; exact h)
        rw [if_pos ⟨c10, c12⟩, map_app] at q1
        have el4 : (encK n).length ≤ 4 := encK_len (by omega)
        have ru := ru_c c12
        rw [bytes_baL] at ru
        have fy := fin (encK n)
        have ly : ((encK n).map fun b => D.int .u8 (b.toNat : Int)).length ≤ 4 := by rw [List.length_map]; exact el4
        have hpos : 1 ≤ (encK n).length := encK_pos n
        have ly1 : 1 ≤ ((encK n).map fun b => D.int .u8 (b.toNat : Int)).length := by rw [List.length_map]; exact hpos
        generalize ((encK n).map fun b => D.int .u8 (b.toNat : Int)) = YS at *
        conv => whnf
        refine ⟨_, ru, ?_⟩
        rintro _ _ ⟨rfl, rfl⟩
        conv => whnf
        refine ⟨⟨by omega, by show (XS.length + YS.length) * (1 + 1) ≤ _; omega⟩, ?_⟩
        conv => whnf
        refine ⟨t.length - (j + 1), [(0, st s), (4, .row 1), (5, i64 ((j + 1 : Nat) : Int))], [1], by omega, ⟨rfl, rfl, congrArg (fun z => some (i64 z)) nj, trivial⟩, ?_⟩
        conv => whnf
        exact ⟨k, j + 1, xs ++ encK n, q1, by omega, by omega, by rw [List.length_append]; omega, rfl, rfl, by rw [← fy]⟩
      · have c12 : ¬ n ≤ 1114111 := fun h => of_decide_eq_false c11 (by rw [hC]; exact Int.ofNat_le.2 h)
        have q1 : R = none := by rw [← q1, if_neg (fun h => c12 h.2)]; rfl
        rw [q1]
        conv => whnf
        exact ⟨rfl, rfl⟩
    · refine brF (beq_eq_false_iff_ne.2 (fun h => c10 (b117.1 h))) ?_
      have q1 : R = none := by rw [← q1, if_neg (fun h => c10 h.1)]; rfl
      rw [q1]
      conv => whnf
      exact ⟨rfl, rfl⟩
  rw [hexR_step, if_pos ⟨c4, c5⟩] at r5
  refine brT (decide_eq_true (by omega)) ?_
  conv => whnf
  refine ⟨⟨by omega, by omega⟩, ?_⟩
  conv => whnf
  first | rw [ejj, bx] | skip
  unfold digR at r5
  by_cases d1 : 48 ≤ x.toNat ∧ x.toNat ≤ 57
  case pos =>
    rw [if_pos d1] at r5
    simp only at r5
    obtain ⟨d, hd⟩ : ∃ d, d = x.toNat - 48 := ⟨_, rfl⟩
    rw [← hd] at r5
    have ed : IntKind.i64.wrap (IntKind.u8.wrap ((x.toNat : Int) - 48)) = (d : Int) := by rw [w8 (by omega), w64 (by omega)]; omega
    refine brT (decide_eq_true (by omega)) ?_
    conv => whnf
    refine ⟨⟨by omega, by omega⟩, ?_⟩
    conv => whnf
    first | rw [ejj, bx] | skip
    refine brT (decide_eq_true (by omega)) ?_
    conv => whnf
    refine ⟨⟨by omega, by omega⟩, ?_⟩
    conv => whnf
    first | rw [ejj, bx] | skip
    conv => whnf
    refine ⟨⟨by omega, by omega⟩, ?_⟩
    conv => whnf
    first | rw [ejj, bx] | skip
    refine brF (decide_eq_false (by omega)) ?_
    conv => whnf
    refine brF (show decide (IntKind.i64.wrap (IntKind.u8.wrap ((x.toNat : Int) - 48)) < 0) = false by rw [ed]; exact decide_eq_false (by omega)) ?_
    conv => whnf
    have nn : IntKind.i64.wrap (IntKind.i64.wrap (16 * (n : Int)) + (d : Int)) = ((16 * n + d : Nat) : Int) := by rw [w64 (n := 16 * (n : Int)) (by omega), w64 (by omega)]; omega
    have nl : IntKind.i64.wrap ((l : Int) + 1) = ((l + 1 : Nat) : Int) := by rw [w64 (by omega)]; omega
    rw [ed, nn, nl, nj]
    exact ⟨_, _, 1, (by omega : t.length - (j + 1) < t.length - j), ⟨j + 1, 16 * n + d, l + 1, by omega, by omega, rfl, by omega, by rw [Nat.pow_succ]; omega, by rw [dj]; exact r5, rfl, rfl⟩, ⟨rfl, rfl, rfl, rfl, rfl, rfl, trivial⟩, rfl⟩
  rw [if_neg d1] at r5
  by_cases d2 : 97 ≤ x.toNat ∧ x.toNat ≤ 102
  case pos =>
    rw [if_pos d2] at r5
    simp only at r5
    obtain ⟨d, hd⟩ : ∃ d, d = x.toNat - 87 := ⟨_, rfl⟩
    rw [← hd] at r5
    have ed : IntKind.i64.wrap (IntKind.i64.wrap (IntKind.u8.wrap ((x.toNat : Int) - 97)) + 10) = (d : Int) := by rw [w8 (by omega), w64 (n := (x.toNat : Int) - 97) (by omega), w64 (by omega)]; omega
    refine brT (decide_eq_true (by omega)) ?_
    conv => whnf
    refine ⟨⟨by omega, by omega⟩, ?_⟩
    conv => whnf
    first | rw [ejj, bx] | skip
    refine brF (decide_eq_false (by omega)) ?_
    conv => whnf
    refine ⟨⟨by omega, by omega⟩, ?_⟩
    conv => whnf
    first | rw [ejj, bx] | skip
    refine brT (decide_eq_true (by omega)) ?_
    conv => whnf
    refine ⟨⟨by omega, by omega⟩, ?_⟩
    conv => whnf
    first | rw [ejj, bx] | skip
    refine brT (decide_eq_true (by omega)) ?_
    conv => whnf
    refine ⟨⟨by omega, by omega⟩, ?_⟩
    conv => whnf
    first | rw [ejj, bx] | skip
    conv => whnf
    refine brF (show decide (IntKind.i64.wrap (IntKind.i64.wrap (IntKind.u8.wrap ((x.toNat : Int) - 97)) + 10) < 0) = false by rw [ed]; exact decide_eq_false (by omega)) ?_
    conv => whnf
    have nn : IntKind.i64.wrap (IntKind.i64.wrap (16 * (n : Int)) + (d : Int)) = ((16 * n + d : Nat) : Int) := by rw [w64 (n := 16 * (n : Int)) (by omega), w64 (by omega)]; omega
    have nl : IntKind.i64.wrap ((l : Int) + 1) = ((l + 1 : Nat) : Int) := by rw [w64 (by omega)]; omega
    rw [ed, nn, nl, nj]
    exact ⟨_, _, 1, (by omega : t.length - (j + 1) < t.length - j), ⟨j + 1, 16 * n + d, l + 1, by omega, by omega, rfl, by omega, by rw [Nat.pow_succ]; omega, by rw [dj]; exact r5, rfl, rfl⟩, ⟨rfl, rfl, rfl, rfl, rfl, rfl, trivial⟩, rfl⟩
  rw [if_neg d2] at r5
  simp only at r5
  have q1 : R = none := by rw [← q1, r5]; rfl
  by_cases e1 : 48 ≤ x.toNat
  · skip
    refine brT (decide_eq_true (by omega)) ?_
    conv => whnf
    refine ⟨⟨by omega, by omega⟩, ?_⟩
    conv => whnf
    first | rw [ejj, bx] | skip
    refine brF (decide_eq_false (by omega)) ?_
    conv => whnf
    refine ⟨⟨by omega, by omega⟩, ?_⟩
    conv => whnf
    first | rw [ejj, bx] | skip
    by_cases e2 : 97 ≤ x.toNat
    · refine brT (decide_eq_true (by omega)) ?_
      conv => whnf
      refine ⟨⟨by omega, by omega⟩, ?_⟩
      conv => whnf
      first | rw [ejj, bx] | skip
      refine brF (decide_eq_false (by omega)) ?_
      rw [q1]
      conv => whnf
      exact ⟨rfl, rfl⟩
    · refine brF (decide_eq_false (by omega)) ?_
      rw [q1]
      conv => whnf
      exact ⟨rfl, rfl⟩
  · skip
    refine brF (decide_eq_false (by omega)) ?_
    conv => whnf
    refine ⟨⟨by omega, by omega⟩, ?_⟩
    conv => whnf
    first | rw [ejj, bx] | skip
    by_cases e2 : 97 ≤ x.toNat
    · refine brT (decide_eq_true (by omega)) ?_
      conv => whnf
      refine ⟨⟨by omega, by omega⟩, ?_⟩
      conv => whnf
      first | rw [ejj, bx] | skip
      refine brF (decide_eq_false (by omega)) ?_
      rw [q1]
      conv => whnf
      exact ⟨rfl, rfl⟩
    · refine brF (decide_eq_false (by omega)) ?_
      rw [q1]
      conv => whnf
      exact ⟨rfl, rfl⟩
end Go.Proofs.YtefcpmnhhmpmnaaDoor
