/- Readers of digests and signatures (the document's lists, signatures). -/
import Derived.Test.YtboohfijacjhjaaDoorKC
set_option linter.unusedVariables false
namespace Go.Proofs.YtboohfijacjhjaaDoor
open Go.Ab Go.RowKit

theorem good_dig {s : ByteArray} (h : 32 ≤ s.size) : (Rs.mk s 0).dig = s.extract 0 32 ∧ (Rs.mk s 0).take 32 = ⟨s.extract 32 s.size, 0⟩ := by
  have hc : (0 : Int) = 0 ∧ (32 : Int) ≤ s.size := ⟨rfl, by omega⟩
  have e1 : tkS s 0 32 = s.extract 0 32 := if_pos hc
  have e2 : tkR s 0 32 = s.extract 32 s.size := if_pos hc
  have e3 : rd_tkE s 0 32 = 0 := by unfold rd_tkE; rw [if_pos rfl, if_pos hc.2]
  refine ⟨?_, ?_⟩
  · show dgOf (tkS s 0 32) = _
    rw [e1]
    exact if_pos (by rw [ByteArray.size_extract]; omega)
  · show Rs.mk (tkR s 0 32) (rd_tkE s 0 32) = _
    rw [e2, e3]

theorem chunk_step {s : ByteArray} {p : Nat} (h : 32 * (p + 1) ≤ s.size) : chunkN (p + 1) (s.extract 0 (32 * (p + 1))) = s.extract 0 32 :: chunkN p ((s.extract 32 s.size).extract 0 (32 * p)) := by
  have e1 : (s.extract 0 (32 * (p + 1))).extract 0 32 = s.extract 0 32 := by
    rw [ByteArray.extract_extract, show min (0 + 32) (32 * (p + 1)) = 32 by omega]
  have e2 : (s.extract 0 (32 * (p + 1))).extract 32 (s.extract 0 (32 * (p + 1))).size = (s.extract 32 s.size).extract 0 (32 * p) := by
    rw [ByteArray.extract_extract, ByteArray.extract_extract, ByteArray.size_extract]
    congr 1
    omega
  show (s.extract 0 (32 * (p + 1))).extract 0 32 :: chunkN p ((s.extract 0 (32 * (p + 1))).extract 32 (s.extract 0 (32 * (p + 1))).size) = _
  rw [e1, e2]

theorem rest_step {s : ByteArray} {p : Nat} (h : 32 * (p + 1) ≤ s.size) : s.extract (32 * (p + 1)) s.size = (s.extract 32 s.size).extract (32 * p) (s.extract 32 s.size).size := by
  rw [ByteArray.extract_extract, ByteArray.size_extract]
  congr 1 <;> omega

theorem rest_bad {q : Rs} (h : q.e ≠ 0) (n : Int) : chunk (q.got n) = [] := by rw [bad_got h]; rfl
theorem rest_zero {q : Rs} : chunk (q.got 0) = [] ∧ q.take 0 = q := by
  obtain ⟨s, e⟩ := q
  by_cases h : e = 0
  · subst h
    have hc : (0 : Int) = 0 ∧ (0 : Int) ≤ s.size := ⟨rfl, by omega⟩
    have e1 : tkS s 0 0 = s.extract 0 0 := if_pos hc
    have e2 : tkR s 0 0 = s := by
      show (if _ then _ else _) = _
      rw [if_pos hc]
      exact ByteArray.extract_zero_size
    have e3 : rd_tkE s 0 0 = 0 := by unfold rd_tkE; rw [if_pos rfl, if_pos hc.2]
    refine ⟨?_, ?_⟩
    · show chunk (tkS s 0 0) = _
      rw [e1]
      unfold chunk
      rw [ByteArray.size_extract]
      rw [show min 0 s.size - 0 = 0 by omega]
      rfl
    · show Rs.mk (tkR s 0 0) (rd_tkE s 0 0) = _
      rw [e2, e3]
  · exact ⟨rest_bad (q := ⟨s, e⟩) h 0, bad_take (r := ⟨s, e⟩) h 0⟩
theorem rest_succ {q : Rs} {p : Nat} (h : q.e = 0) (hs : 32 * (p + 1) ≤ q.s.size) :
    chunk (q.got (((p + 1 : Nat) : Int) * 32)) = q.dig :: chunk ((q.take 32).got ((p : Int) * 32)) ∧ q.take (((p + 1 : Nat) : Int) * 32) = (q.take 32).take ((p : Int) * 32) ∧ (q.take 32).e = 0 ∧ 32 * p ≤ (q.take 32).s.size := by
  obtain ⟨s, e⟩ := q
  have h : e = 0 := h
  subst h
  have hs : 32 * (p + 1) ≤ s.size := hs
  obtain ⟨g1, g2⟩ := good_dig (s := s) (by omega)
  rw [g1, g2]
  have z : (s.extract 32 s.size).size = s.size - 32 := by rw [ByteArray.size_extract]; omega
  have t1 : (((p + 1 : Nat) : Int) * 32).toNat = 32 * (p + 1) := by omega
  have t2 : ((p : Int) * 32).toNat = 32 * p := by omega
  have c1 : (0 : Int) = 0 ∧ ((p + 1 : Nat) : Int) * 32 ≤ s.size := ⟨rfl, by omega⟩
  have c2 : (0 : Int) = 0 ∧ (p : Int) * 32 ≤ (s.extract 32 s.size).size := ⟨rfl, by omega⟩
  have a1 : (Rs.mk s 0).got (((p + 1 : Nat) : Int) * 32) = s.extract 0 (32 * (p + 1)) := by
    show tkS _ _ _ = _
    unfold tkS
    rw [if_pos c1, t1]
  have a2 : (Rs.mk (s.extract 32 s.size) 0).got ((p : Int) * 32) = (s.extract 32 s.size).extract 0 (32 * p) := by
    show tkS _ _ _ = _
    unfold tkS
    rw [if_pos c2, t2]
  have ch : ∀ {t : ByteArray} {n : Nat}, t.size = 32 * n → chunk t = chunkN n t := fun {t n} h => by unfold chunk; rw [h, Nat.mul_div_cancel_left _ (by decide)]
  refine ⟨?_, ?_, rfl, by show _ ≤ (s.extract 32 s.size).size; omega⟩
  · rw [a1, a2, ch (n := p + 1) (by rw [ByteArray.size_extract]; omega), ch (n := p) (by rw [ByteArray.size_extract]; omega), chunk_step hs]
  · show Rs.mk (tkR _ _ _) (rd_tkE _ _ _) = Rs.mk (tkR _ _ _) (rd_tkE _ _ _)
    unfold tkR rd_tkE
    show Rs.mk (if (0 : Int) = 0 ∧ _ then _ else _) _ = Rs.mk (if (0 : Int) = 0 ∧ _ then _ else _) _
    rw [if_pos c1, if_pos c2, if_pos rfl, if_pos c1.2]
    show _ = Rs.mk _ (if (0 : Int) = 0 then (if ((p : Int) * 32) ≤ ((s.extract 32 s.size).size : Int) then 0 else 3) else 0)
    rw [if_pos rfl, if_pos c2.2, t1, t2, rest_step hs]
theorem rdgsR_c {r : Rs} {m : Int} (h0 : 0 ≤ m) (hmm : m ≤ 100) (hm : r.s.size < 9223372036854775807) :
    CallR cx 98 [.ptr 0 [], i64 m] [.var (.d r.d)] fun v S => v = .d (.sl 32 (dgs (r.dgl m))) ∧ S = [.var (.d (r.dglR m).d)] := by
  have nc := rmany_c (r := r) h0 (by omega) hm
  have hc0 := cnt_nonneg r m
  have hcm : r.cnt m ≤ 100 := by unfold Rs.cnt; split <;> omega
  unfold Rs.dgl Rs.dglR
  have hsz : (r.cntR m).s.size < 9223372036854775807 := by
    have := cntR_size r m
    omega
  generalize r.cntR m = q at *
  generalize r.d = R0 at *
  obtain ⟨s, e⟩ := q
  have hsz : s.size < 9223372036854775807 := hsz
  obtain ⟨k, hk⟩ : ∃ k : Nat, r.cnt m = (k : Int) := ⟨(r.cnt m).toNat, by omega⟩
  rw [hk] at nc hcm ⊢
  clear hk hc0
  obtain ⟨FL, hFL⟩ : ∃ FL, chunk ((Rs.mk s e).got ((k : Int) * 32)) = FL := ⟨_, rfl⟩
  obtain ⟨FR, hFR⟩ : ∃ FR, (Rs.mk s e).take ((k : Int) * 32) = FR := ⟨_, rfl⟩
  rw [hFL, hFR]
  refine callR_of (R := R1) cx_ok Tryd.func98 (by kernel_rfl) rfl ?_
  conv => whnf
  refine .inl ?_
  conv => whnf
  refine ⟨_, nc, ?_⟩
  rintro _ _ ⟨rfl, rfl⟩
  conv => whnf
  have hk32 : IntKind.i64.wrap (((s.size : Nat) : Int).tdiv 32) = ((s.size / 32 : Nat) : Int) := by
    rw [Int.tdiv_eq_ediv_of_nonneg (by omega), w64 (by omega)]; omega
  refine brec (fun h => ?_) (fun h => ?_)
  · have h : e = 0 := by simpa using h
    subst h
    conv => whnf
    refine ⟨by decide, ?_⟩
    conv => whnf
    rw [show (Rs.mk s 0).s = s from rfl, hk32]
    refine brec (fun h2 => ?_) (fun h2 => ?_)
    · have h2 := of_decide_eq_true h2
      have hno : ¬ ((0 : Int) = 0 ∧ (k : Int) * 32 ≤ s.size) := fun h => by omega
      have eF : FL = [] := by
        rw [← hFL]
        show chunk (tkS s 0 _) = _
        unfold tkS
        rw [if_neg hno]
        rfl
      have eR : FR = ⟨s, 3⟩ := by
        rw [← hFR]
        show Rs.mk (tkR _ _ _) (rd_tkE _ _ _) = _
        unfold tkR rd_tkE
        show Rs.mk (if (0 : Int) = 0 ∧ _ then _ else _) (if (0 : Int) = 0 then _ else _) = _
        rw [if_neg hno, if_pos rfl, if_neg (fun h => hno ⟨rfl, h⟩)]
      conv => whnf
      refine .inr ⟨43, 32, ?_⟩
      conv => whnf
      refine .inr ⟨fun p L S => ∃ (out : List ByteArray) (q : Rs), p ≤ k ∧ (q.e ≠ 0 ∨ 32 * p ≤ q.s.size) ∧ out ++ chunk (q.got ((p : Int) * 32)) = FL ∧ q.take ((p : Int) * 32) = FR ∧ out.length + p ≤ k ∧
          L = [(0, .ptr 0 []), (5, i64 (k : Int)), (6, .row 1), (7, i64 (((k - p : Nat) : Int)))] ∧ S = [.var (.d q.d), .row 43 32 (dgs out)],
        ⟨k, _, ⟨[], ⟨s, 3⟩, Nat.le_refl _, .inl (show (3 : Int) ≠ 0 by decide), by rw [eF, List.nil_append]; exact rest_bad (q := ⟨s, 3⟩) (show (3 : Int) ≠ 0 by decide) _, by rw [eR]; exact bad_take (r := ⟨s, 3⟩) (show (3 : Int) ≠ 0 by decide) _, by simp, rfl, rfl⟩, ⟨rfl, rfl, rfl, by rw [Nat.sub_self]; rfl, trivial⟩⟩, ?_⟩
      clear h h2 eF eR nc
      rintro p _ _ ⟨out, q, hp, hq, h1, h2, h3, rfl, rfl⟩
      conv => whnf
      refine brec (fun g => ?_) (fun g => ?_)
      · have g := of_decide_eq_true g
        conv => whnf
        refine brec (fun g2 => ?_) (fun g2 => ?_)
        · have g2 : q.e = 0 := by simpa using g2
          conv => whnf
          obtain ⟨p, rfl⟩ : ∃ p', p = p' + 1 := ⟨p - 1, by omega⟩
          have dc := rdigR_c (r := q)
          obtain ⟨b1, b2, b3, b4⟩ := rest_succ (q := q) (p := p) g2 (by omega)
          rw [b1] at h1
          rw [b2] at h2
          have hlo : (dgs out).length = out.length := List.length_map _
          have ea : dgs out ++ [dgD q.dig] = dgs (out ++ [q.dig]) := by unfold dgs; rw [List.map_append]; rfl
          have e3 : IntKind.i64.wrap (((k - (p + 1) : Nat) : Int) + 1) = ((k - p : Nat) : Int) := by rw [w64 (by omega)]; omega
          generalize q.dig = dg at *
          generalize q.take 32 = q2 at *
          generalize q.d = QD at *
          refine ⟨_, dc, ?_⟩
          rintro _ _ ⟨rfl, rfl⟩
          conv => whnf
          refine ⟨⟨Nat.succ_pos _, by show ((dgs out).length + 1) * (32 + 1) ≤ _; omega⟩, ?_⟩
          conv => whnf
          rw [e3]
          refine ⟨p, [(0, .ptr 0 []), (5, i64 (k : Int)), (6, .row 2), (7, i64 (((k - p : Nat) : Int)))], [0, 2], by omega, ⟨rfl, rfl, rfl, rfl, trivial⟩, ?_⟩
          conv => whnf
          refine ⟨out ++ [dg], q2, by omega, .inr b4, by rw [List.append_assoc]; exact h1, h2, by rw [List.length_append, List.length_cons, List.length_nil]; omega, rfl, ?_⟩
          rw [← ea]
          rfl
        · have g2 : ¬ q.e = 0 := by simpa using g2
          rw [rest_bad g2, List.append_nil] at h1
          rw [bad_take g2] at h2
          conv => whnf
          rw [← h1, ← h2]
          exact ⟨rfl, rfl⟩
      · have g := of_decide_eq_false g
        obtain rfl : p = 0 := by omega
        conv => whnf
        have hz : ((0 : Nat) : Int) * 32 = 0 := rfl
        rw [hz, rest_zero.1, List.append_nil] at h1
        rw [hz, rest_zero.2] at h2
        rw [← h1, ← h2]
        exact ⟨rfl, rfl⟩
    · have h2 := of_decide_eq_false h2
      conv => whnf
      refine .inr ⟨43, 32, ?_⟩
      conv => whnf
      refine .inr ⟨fun p L S => ∃ (out : List ByteArray) (q : Rs), p ≤ k ∧ (q.e ≠ 0 ∨ 32 * p ≤ q.s.size) ∧ out ++ chunk (q.got ((p : Int) * 32)) = FL ∧ q.take ((p : Int) * 32) = FR ∧ out.length + p ≤ k ∧
          L = [(0, .ptr 0 []), (5, i64 (k : Int)), (6, .row 1), (7, i64 (((k - p : Nat) : Int)))] ∧ S = [.var (.d q.d), .row 43 32 (dgs out)],
        ⟨k, _, ⟨[], ⟨s, 0⟩, Nat.le_refl _, .inr (by show 32 * k ≤ s.size; omega), hFL, hFR, by simp, rfl, rfl⟩, ⟨rfl, rfl, rfl, by rw [Nat.sub_self]; rfl, trivial⟩⟩, ?_⟩
      clear h h2 nc
      rintro p _ _ ⟨out, q, hp, hq, h1, h2, h3, rfl, rfl⟩
      conv => whnf
      refine brec (fun g => ?_) (fun g => ?_)
      · have g := of_decide_eq_true g
        conv => whnf
        refine brec (fun g2 => ?_) (fun g2 => ?_)
        · have g2 : q.e = 0 := by simpa using g2
          conv => whnf
          obtain ⟨p, rfl⟩ : ∃ p', p = p' + 1 := ⟨p - 1, by omega⟩
          have dc := rdigR_c (r := q)
          obtain ⟨b1, b2, b3, b4⟩ := rest_succ (q := q) (p := p) g2 (by omega)
          rw [b1] at h1
          rw [b2] at h2
          have hlo : (dgs out).length = out.length := List.length_map _
          have ea : dgs out ++ [dgD q.dig] = dgs (out ++ [q.dig]) := by unfold dgs; rw [List.map_append]; rfl
          have e3 : IntKind.i64.wrap (((k - (p + 1) : Nat) : Int) + 1) = ((k - p : Nat) : Int) := by rw [w64 (by omega)]; omega
          generalize q.dig = dg at *
          generalize q.take 32 = q2 at *
          generalize q.d = QD at *
          refine ⟨_, dc, ?_⟩
          rintro _ _ ⟨rfl, rfl⟩
          conv => whnf
          refine ⟨⟨Nat.succ_pos _, by show ((dgs out).length + 1) * (32 + 1) ≤ _; omega⟩, ?_⟩
          conv => whnf
          rw [e3]
          refine ⟨p, [(0, .ptr 0 []), (5, i64 (k : Int)), (6, .row 2), (7, i64 (((k - p : Nat) : Int)))], [0, 2], by omega, ⟨rfl, rfl, rfl, rfl, trivial⟩, ?_⟩
          conv => whnf
          refine ⟨out ++ [dg], q2, by omega, .inr b4, by rw [List.append_assoc]; exact h1, h2, by rw [List.length_append, List.length_cons, List.length_nil]; omega, rfl, ?_⟩
          rw [← ea]
          rfl
        · have g2 : ¬ q.e = 0 := by simpa using g2
          rw [rest_bad g2, List.append_nil] at h1
          rw [bad_take g2] at h2
          conv => whnf
          rw [← h1, ← h2]
          exact ⟨rfl, rfl⟩
      · have g := of_decide_eq_false g
        obtain rfl : p = 0 := by omega
        conv => whnf
        have hz : ((0 : Nat) : Int) * 32 = 0 := rfl
        rw [hz, rest_zero.1, List.append_nil] at h1
        rw [hz, rest_zero.2] at h2
        rw [← h1, ← h2]
        exact ⟨rfl, rfl⟩
  · have h : ¬ e = 0 := by simpa using h
    conv => whnf
    refine .inr ⟨43, 32, ?_⟩
    conv => whnf
    refine .inr ⟨fun p L S => ∃ (out : List ByteArray) (q : Rs), p ≤ k ∧ (q.e ≠ 0 ∨ 32 * p ≤ q.s.size) ∧ out ++ chunk (q.got ((p : Int) * 32)) = FL ∧ q.take ((p : Int) * 32) = FR ∧ out.length + p ≤ k ∧
        L = [(0, .ptr 0 []), (5, i64 (k : Int)), (6, .row 1), (7, i64 (((k - p : Nat) : Int)))] ∧ S = [.var (.d q.d), .row 43 32 (dgs out)],
      ⟨k, _, ⟨[], ⟨s, e⟩, Nat.le_refl _, .inl h, hFL, hFR, by simp, rfl, rfl⟩, ⟨rfl, rfl, rfl, by rw [Nat.sub_self]; rfl, trivial⟩⟩, ?_⟩
    clear nc
    rintro p _ _ ⟨out, q, hp, hq, h1, h2, h3, rfl, rfl⟩
    conv => whnf
    refine brec (fun g => ?_) (fun g => ?_)
    · have g := of_decide_eq_true g
      conv => whnf
      refine brec (fun g2 => ?_) (fun g2 => ?_)
      · have g2 : q.e = 0 := by simpa using g2
        conv => whnf
        obtain ⟨p, rfl⟩ : ∃ p', p = p' + 1 := ⟨p - 1, by omega⟩
        have dc := rdigR_c (r := q)
        obtain ⟨b1, b2, b3, b4⟩ := rest_succ (q := q) (p := p) g2 (by omega)
        rw [b1] at h1
        rw [b2] at h2
        have hlo : (dgs out).length = out.length := List.length_map _
        have ea : dgs out ++ [dgD q.dig] = dgs (out ++ [q.dig]) := by unfold dgs; rw [List.map_append]; rfl
        have e3 : IntKind.i64.wrap (((k - (p + 1) : Nat) : Int) + 1) = ((k - p : Nat) : Int) := by rw [w64 (by omega)]; omega
        generalize q.dig = dg at *
        generalize q.take 32 = q2 at *
        generalize q.d = QD at *
        refine ⟨_, dc, ?_⟩
        rintro _ _ ⟨rfl, rfl⟩
        conv => whnf
        refine ⟨⟨Nat.succ_pos _, by show ((dgs out).length + 1) * (32 + 1) ≤ _; omega⟩, ?_⟩
        conv => whnf
        rw [e3]
        refine ⟨p, [(0, .ptr 0 []), (5, i64 (k : Int)), (6, .row 2), (7, i64 (((k - p : Nat) : Int)))], [0, 2], by omega, ⟨rfl, rfl, rfl, rfl, trivial⟩, ?_⟩
        conv => whnf
        refine ⟨out ++ [dg], q2, by omega, .inr b4, by rw [List.append_assoc]; exact h1, h2, by rw [List.length_append, List.length_cons, List.length_nil]; omega, rfl, ?_⟩
        rw [← ea]
        rfl
      · have g2 : ¬ q.e = 0 := by simpa using g2
        rw [rest_bad g2, List.append_nil] at h1
        rw [bad_take g2] at h2
        conv => whnf
        rw [← h1, ← h2]
        exact ⟨rfl, rfl⟩
    · have g := of_decide_eq_false g
      obtain rfl : p = 0 := by omega
      conv => whnf
      have hz : ((0 : Nat) : Int) * 32 = 0 := rfl
      rw [hz, rest_zero.1, List.append_nil] at h1
      rw [hz, rest_zero.2] at h2
      rw [← h1, ← h2]
      exact ⟨rfl, rfl⟩
end Go.Proofs.YtboohfijacjhjaaDoor
