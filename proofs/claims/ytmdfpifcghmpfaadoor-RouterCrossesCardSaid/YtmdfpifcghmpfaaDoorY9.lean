/- Routers: the law RouterCrosses. -/
import Derived.Test.YtmdfpifcghmpfaaDoorY8
set_option linter.unusedVariables false
namespace Go.Proofs.YtmdfpifcghmpfaaDoor
open Go.Ab Go.RowKit

def pu9 : Pu := ⟨[], []⟩
def tkM (a b c d e : Int) : Tk := ⟨1, mB, a, b, c, d, e⟩
theorem tkM_is {a b c d e : Int} : tkP 1 mB (tkM a b c d e) = true := tkP_iff.2 ⟨rfl, rfl⟩
theorem look_tkM {a b c d e : Int} : lookP (tkP 1 mB) [tkM a b c d e] = some (tkM a b c d e) := by
  rw [lookP, if_pos tkM_is]
theorem put_tkM {a b c d e : Int} {t : Tk} : putP (tkP 1 mB) [tkM a b c d e] t = [t] := by
  rw [putP, if_pos tkM_is]
theorem enlist0 {k : Int} : enlistP pu9 1 mB k = (⟨[tkM k 0 0 0 0], []⟩, 0) := by
  unfold enlistP
  rw [if_neg (by rw [mB_right]; decide)]
  rfl
theorem srtE : srtH none ([] : List Hd) := trivial
theorem grantM {a b c d e k : Int} {l : List Hd} {w : ByteArray} (hw : rightT w = true) (hk : heldL l 1 mB w + k < 18446744073709551616) :
    grantP ⟨[tkM a b c d e], l⟩ 1 mB w k = (⟨[tkM a b c d e], putH l 1 mB w (heldL l 1 mB w + k)⟩, 0) := by
  unfold grantP
  simp only [look_tkM]
  rw [if_neg (by rw [hw]; decide)]
  exact if_pos hk
theorem takeM {a b c d e k : Int} {l : List Hd} {w : ByteArray} : takeP ⟨[tkM a b c d e], l⟩ 1 mB w k = if heldL l 1 mB w < k then (⟨[tkM a b c d e], l⟩, 11) else (⟨[tkM a b c d e], putH l 1 mB w (heldL l 1 mB w - k)⟩, 0) := by
  unfold takeP
  simp only [look_tkM]
  rfl
theorem trM_right {w : ByteArray} {k : Int} (hw : rightT w = true) (hk : k ≠ 0) : (Pl.tr 1 mB w k).right = true := by
  show ((rightT mB && rightT w) && decide (k ≠ 0)) = true
  rw [mB_right, hw, decide_eq_true hk]
  rfl

theorem handP_tr {p Z : Pu} {here frm o k e : Int} {remote s r b n w : ByteArray} (ng : ¬ (remote = .empty ∨ s ≠ remote ∨ r ≠ rtB)) (hr : readP b = (.tr o n w k, 0)) (ht : transP p here frm o n w k = (Z, e)) :
    handP p here frm remote s r b = if e = 0 then (Z, .tr o n w k, 0) else (p, .no, e) := by
  unfold handP
  rw [if_neg ng]
  simp [hr, doesP, ht]

theorem crosses_c {have' n most : Int} (hh : U have') (hn : U n) (hm : U most) : CallR cx 10 [u64 have', u64 n, u64 most] [] fun r S => r = bo true ∧ S = [] := by
  have hh' := hh
  have hn' := hn
  have hm' := hm
  unfold U at hh' hn' hm'
  have z0 : U 0 := by unfold U; decide
  have aw := awake18_c
  have f0 : pu9.fine 0 := ⟨by simp [pu9], by simp [pu9], by decide, by decide⟩
  have mz : mB.size ≤ 1000 := by decide
  have az : adaB.size ≤ 1000 := by decide
  have bz : bobB.size ≤ 1000 := by decide
  have en1 := enlist_c (o := 1) (n := mB) (k := 0) (f0.ok (by omega)) mz
  have en2 := enlist_c (o := 1) (n := mB) (k := most) (f0.ok (by omega)) mz
  rw [enlist0] at en1 en2
  have okM : ∀ {a b c d e : Int}, U a → U b → U c → U d → U e → (tkM a b c d e).ok := fun h1 h2 h3 h4 h5 => ⟨h1, h2, h3, h4, h5, (by decide : mB.size ≤ 1000)⟩
  have fM : ∀ {a b c d e : Int}, U a → U b → U c → U d → U e → Pu.fine ⟨[tkM a b c d e], []⟩ 1 := fun h1 h2 h3 h4 h5 =>
    ⟨fun t ht => by rw [List.mem_singleton.1 ht]; exact okM h1 h2 h3 h4 h5, by simp, by simp, by simp⟩
  have fA0 := fM z0 z0 z0 z0 z0
  have gr := grant_cc (o := 1) (n := mB) (w := adaB) (k := have') (fA0.ok (by omega)) mz az hh
  have hl0 : ∀ w, heldL [] 1 mB w = 0 := fun _ => rfl
  have gA := grantM (a := 0) (b := 0) (c := 0) (d := 0) (e := 0) (k := have') (l := []) adaB_right (by rw [hl0]; omega)
  rw [hl0, Int.zero_add] at gA
  have fA := grantP_fine (o := 1) (n := mB) (w := adaB) (k := have') fA0 (by omega) mz az hh
  rw [gA] at gr fA
  simp only at gr fA
  have hs0 : srtH none (putH [] 1 mB adaB have') := by
    unfold putH
    rw [show lookP (hdP 1 mB adaB) [] = none from rfl]
    simp only
    split
    · exact trivial
    · exact trivial
  have hA : heldL (putH [] 1 mB adaB have') 1 mB adaB = have' := held_put srtE hh'.1
  generalize hLA : putH [] 1 mB adaB have' = LA at *
  have sA := send_c (here := 1) (f := adaB) (o := 1) (t := mB) (w := bobB) (k := n) (z1 := .int .u64 0) (z2 := .agg [.int .i64 0, .sl 32 [], .sl 32 [], .sl 32 []]) fA (by omega) az mz bz ⟨by decide, by decide⟩ hn
  have lkA : lockP ⟨[tkM 0 0 0 0 0], LA⟩ 1 mB adaB n = if have' < n then (⟨[tkM 0 0 0 0 0], LA⟩, 11) else (⟨[tkM 0 n 0 0 0], putH LA 1 mB adaB (have' - n)⟩, 0) := by
    unfold lockP
    rw [takeM, hA]
    split
    · rw [if_pos (show (11 : Int) ≠ 0 by decide)]
    · rw [if_neg (by simp)]
      simp only [look_tkM, put_tkM]
      rw [if_pos (by show (0 : Int) + n < _; omega)]
      show ((⟨[⟨1, mB, 0, 0 + n, 0, 0, 0⟩], _⟩ : Pu), (0 : Int)) = _
      rw [Int.zero_add]
      rfl
  have oA : outP ⟨[tkM 0 0 0 0 0], LA⟩ 1 adaB 1 mB n = lockP ⟨[tkM 0 0 0 0 0], LA⟩ 1 mB adaB n := if_pos rfl
  have sm := psame_c (fA.ok (by omega))
  by_cases c1 : n > have'
  · have e1 : sendP ⟨[tkM 0 0 0 0 0], LA⟩ 1 adaB 1 mB bobB n = (⟨[tkM 0 0 0 0 0], LA⟩, .empty, 11) := by
      unfold sendP
      rw [oA, lkA, if_pos (show have' < n by omega), if_pos (show (11 : Int) ≠ 0 by decide)]
    rw [e1] at sA
    exact rc_no sA (show (11 : Int) ≠ 0 by decide) (.inr c1) sm aw en1 gr en2
  by_cases c0 : n = 0
  · have e1 : sendP ⟨[tkM 0 0 0 0 0], LA⟩ 1 adaB 1 mB bobB n = (⟨[tkM 0 0 0 0 0], LA⟩, .empty, 4) := by
      unfold sendP
      rw [oA, lkA, if_neg (show ¬ have' < n by omega), if_neg (by simp), if_neg]
      show ¬ ((rightT mB && rightT bobB) && decide (n ≠ 0)) = true
      rw [decide_eq_false (by simpa using c0)]
      simp
    rw [e1] at sA
    exact rc_no sA (show (4 : Int) ≠ 0 by decide) (.inl c0) sm aw en1 gr en2
  have e1 : sendP ⟨[tkM 0 0 0 0 0], LA⟩ 1 adaB 1 mB bobB n = (⟨[tkM 0 n 0 0 0], putH LA 1 mB adaB (have' - n)⟩, (Pl.tr 1 mB bobB n).bytes, 0) := by
    unfold sendP
    rw [oA, lkA, if_neg (show ¬ have' < n by omega), if_neg (by simp), if_pos (trM_right bobB_right c0)]
  rw [e1] at sA
  simp only at sA
  have bsz : (Pl.tr 1 mB bobB n).bytes.size ≤ 1000 := by rw [tr_bytes_size]; exact Nat.le_of_ble_eq_true rfl
  have bsz2 : (Pl.tr 1 mB adaB n).bytes.size ≤ 1000 := by rw [tr_bytes_size]; exact Nat.le_of_ble_eq_true rfl
  have rb : ∀ {w : ByteArray}, w.size < 100000 → rightT w = true → readP (Pl.tr 1 mB w n).bytes = (.tr 1 mB w n, 0) := fun hz hw => read_bytes (p := .tr 1 mB _ n) ⟨⟨(by decide : (0 : Int) ≤ 1), (by decide : (1 : Int) < 4294967296)⟩, hn, (by decide : mB.size < 100000), hz⟩ (trM_right hw c0)
  have fB := fM hm z0 z0 z0 z0
  have hB := hand_c (here := 2) (f := 1) (q := 0) (t := 2) (remote := rtB) (s := rtB) (r := rtB) fB (by omega) bsz
  have ng : ¬ (rtB = .empty ∨ rtB ≠ rtB ∨ rtB ≠ rtB) := by
    rintro (h | h | h)
    · exact absurd h (by decide)
    · exact h rfl
    · exact h rfl
  have tB : transP ⟨[tkM most 0 0 0 0], []⟩ 2 1 1 mB bobB n = if n > most then (⟨[tkM most 0 0 0 0], []⟩, 12) else (⟨[tkM most 0 0 n 0], putH [] 1 mB bobB n⟩, 0) := by
    unfold transP
    rw [if_neg (by decide), if_pos rfl]
    unfold mintP
    have o0 : outM (tkM most 0 0 0 0) = 0 := rfl
    have hg := grantM (a := most) (b := 0) (c := 0) (d := 0) (e := 0) (k := n) (l := []) bobB_right (by rw [hl0]; omega)
    rw [hl0, Int.zero_add] at hg
    simp only [look_tkM, put_tkM, o0, hg]
    rw [if_pos (by show (0 : Int) + n < _; omega), if_pos (by omega)]
    by_cases c : n > most
    · rw [if_pos (by show 0 + n > most; omega), if_pos c]
    · rw [if_neg (by show ¬ 0 + n > most; omega), if_neg c, if_neg (by simp)]
      show ((⟨[⟨1, mB, most, 0, 0, 0 + n, 0⟩], _⟩ : Pu), (0 : Int)) = _
      rw [Int.zero_add]
      rfl
  have eB : handP ⟨[tkM most 0 0 0 0], []⟩ 2 1 rtB rtB rtB (Pl.tr 1 mB bobB n).bytes = if n > most then (⟨[tkM most 0 0 0 0], []⟩, .no, 12) else (⟨[tkM most 0 0 n 0], putH [] 1 mB bobB n⟩, .tr 1 mB bobB n, 0) := by
    by_cases c : n > most
    · rw [if_pos c] at tB ⊢
      rw [handP_tr ng (rb (by decide) bobB_right) tB, if_neg (by decide)]
    · rw [if_neg c] at tB ⊢
      rw [handP_tr ng (rb (by decide) bobB_right) tB, if_pos rfl]
  by_cases c2 : n > most
  · rw [eB, if_pos c2] at hB
    exact rc_cap sA c0 c1 c2 hB (psame_c (fB.ok (by omega))) aw en1 gr en2
  rw [eB, if_neg c2] at hB
  simp only at hB
  -- sent back
  have fY : Pu.fine ⟨[tkM most 0 0 n 0], putH [] 1 mB bobB n⟩ 2 := put_fine (fM hm z0 z0 hn z0) mz bz hn
  have hY : heldL (putH [] 1 mB bobB n) 1 mB bobB = n := held_put srtE hn'.1
  have sY0 : srtH none (putH [] 1 mB bobB n) := by
    unfold putH
    rw [show lookP (hdP 1 mB bobB) [] = none from rfl]
    simp only
    split
    · exact trivial
    · exact trivial
  have k1 := heldv_c (o := 1) (n := mB) (w := bobB) (fY.ok (by omega))
  rw [heldV_L] at k1
  simp only [hY] at k1
  have sY := send_c (here := 2) (f := bobB) (o := 1) (t := mB) (w := adaB) (k := n) (z1 := .int .u64 0) (z2 := .agg [.int .i64 0, .sl 32 [], .sl 32 [], .sl 32 []]) fY (by omega) bz mz az ⟨by decide, by decide⟩ hn
  generalize hLY : putH [] 1 mB bobB n = LY at *
  have bnY : burnP ⟨[tkM most 0 0 n 0], LY⟩ 1 mB bobB n = (⟨[tkM most 0 0 n n], putH LY 1 mB bobB 0⟩, 0) := by
    unfold burnP
    have hq : takeP ⟨[tkM most 0 0 n 0], LY⟩ 1 mB bobB n = (⟨[tkM most 0 0 n 0], putH LY 1 mB bobB 0⟩, 0) := by rw [takeM, hY, if_neg (by omega), Int.sub_self]
    rw [hq, if_neg (by simp)]
    simp only [look_tkM, put_tkM]
    rw [if_pos (by show (0 : Int) + n < _; omega)]
    show ((⟨[⟨1, mB, most, 0, 0, n, 0 + n⟩], putH LY 1 mB bobB 0⟩ : Pu), (0 : Int)) = _
    rw [Int.zero_add]
    rfl
  have oY : outP ⟨[tkM most 0 0 n 0], LY⟩ 2 bobB 1 mB n = burnP ⟨[tkM most 0 0 n 0], LY⟩ 1 mB bobB n := if_neg (by decide)
  have e2 : sendP ⟨[tkM most 0 0 n 0], LY⟩ 2 bobB 1 mB adaB n = (⟨[tkM most 0 0 n n], putH LY 1 mB bobB 0⟩, (Pl.tr 1 mB adaB n).bytes, 0) := by
    unfold sendP
    rw [oY, bnY, if_neg (by simp), if_pos (trM_right adaB_right c0)]
  rw [e2] at sY
  simp only at sY
  have fZ : Pu.fine ⟨[tkM most 0 0 n n], putH LY 1 mB bobB 0⟩ 3 := put_fine (p := ⟨[tkM most 0 0 n n], LY⟩) ⟨fun t ht => by rw [List.mem_singleton.1 ht]; exact okM hm z0 z0 hn hn, fY.h, by simp, fY.nh⟩ mz bz z0
  have k3 := heldv_c (o := 1) (n := mB) (w := bobB) (fZ.ok (by omega))
  rw [heldV_L] at k3
  simp only [held_put (o := 1) (n := mB) (w := bobB) sY0 (Int.le_refl 0)] at k3
  -- and taken
  have hd : U (have' - n) := by unfold U; omega
  have fX : Pu.fine ⟨[tkM 0 n 0 0 0], putH LA 1 mB adaB (have' - n)⟩ 3 := put_fine (p := ⟨[tkM 0 n 0 0 0], LA⟩) ⟨fun t ht => by rw [List.mem_singleton.1 ht]; exact okM z0 hn z0 z0 z0, fA.h, by simp, fA.nh⟩ mz az hd
  have hX : heldL (putH LA 1 mB adaB (have' - n)) 1 mB adaB = have' - n := held_put hs0 (by omega)
  have k2 := heldv_c (o := 1) (n := mB) (w := adaB) (fX.ok (by omega))
  rw [heldV_L] at k2
  simp only [hX] at k2
  have bk : putH (putH LA 1 mB adaB (have' - n)) 1 mB adaB (heldL LA 1 mB adaB) = LA ∨ True := .inr trivial
  have hW := hand_c (here := 1) (f := 2) (q := 0) (t := 1) (remote := rtB) (s := rtB) (r := rtB) fX (by omega) bsz2
  have sX0 : srtH none (putH LA 1 mB adaB (have' - n)) := by
    have hL1 : LA = [⟨1, mB, adaB, have'⟩] := by
      rw [← hLA]
      unfold putH
      rw [show lookP (hdP 1 mB adaB) [] = none from rfl]
      exact if_pos (by omega)
    rw [hL1]
    unfold putH
    have hi : hdP 1 mB adaB ⟨1, mB, adaB, have'⟩ = true := hdP_iff.2 ⟨rfl, rfl, rfl⟩
    rw [lookP, if_pos hi]
    simp only
    split
    · rw [delP, if_pos hi]; exact trivial
    · rw [putP, if_pos hi]; exact trivial
  generalize hLX : putH LA 1 mB adaB (have' - n) = LX at *
  have tX : transP ⟨[tkM 0 n 0 0 0], LX⟩ 1 2 1 mB adaB n = (⟨[tkM 0 n n 0 0], putH LX 1 mB adaB have'⟩, 0) := by
    unfold transP
    rw [if_pos rfl]
    unfold unlockP
    have o0 : outL (tkM 0 n 0 0 0) = n := by
      show (if n < 0 then 0 else n - 0) = n
      rw [if_neg (by omega)]; omega
    have hg := grantM (a := 0) (b := n) (c := 0) (d := 0) (e := 0) (k := n) (l := LX) adaB_right (by rw [hX]; omega)
    rw [hX, show have' - n + n = have' by omega] at hg
    simp only [look_tkM, put_tkM, o0, hg]
    rw [if_neg (by omega), if_pos (by show (0 : Int) + n < _; omega), if_neg (by simp)]
    show ((⟨[⟨1, mB, 0, n, 0 + n, 0, 0⟩], _⟩ : Pu), (0 : Int)) = _
    rw [Int.zero_add]
    rfl
  have eX : handP ⟨[tkM 0 n 0 0 0], LX⟩ 1 2 rtB rtB rtB (Pl.tr 1 mB adaB n).bytes = (⟨[tkM 0 n n 0 0], putH LX 1 mB adaB have'⟩, .tr 1 mB adaB n, 0) := by
    rw [handP_tr ng (rb (by decide) adaB_right) tX, if_pos rfl]
  rw [eX] at hW
  simp only at hW
  have fW : Pu.fine ⟨[tkM 0 n n 0 0], putH LX 1 mB adaB have'⟩ 4 := put_fine (p := ⟨[tkM 0 n n 0 0], LX⟩) ⟨fun t ht => by rw [List.mem_singleton.1 ht]; exact okM z0 hn hn z0 z0, fX.h, by simp, fX.nh⟩ mz az hh
  have k4 := heldv_c (o := 1) (n := mB) (w := adaB) (fW.ok (by omega))
  rw [heldV_L] at k4
  simp only [held_put (o := 1) (n := mB) (w := adaB) sX0 hh'.1] at k4
  exact rc_ok sA c0 c1 c2 hB sY hW k1 k2 (by rw [wrapU hd]) k3 k4 aw en1 gr en2

theorem routerCrosses_c (ys : List D) (hy : Ty.hass [.int .u64, .int .u64, .int .u64] ys) : CallR cx 10 (ys.map AV.d) [] fun r S => r = .d (.bool true) ∧ S = [] := by
  obtain ⟨_, _, rfl, ⟨a, rfl, wa⟩, _, _, rfl, ⟨b, rfl, wb⟩, _, _, rfl, ⟨c, rfl, wc⟩, rfl⟩ := hy
  exact crosses_c (U.of_wf wa) (U.of_wf wb) (U.of_wf wc)
end Go.Proofs.YtmdfpifcghmpfaaDoor
