/- Purses: what is locked, unlocked, minted, burned: the program's contracts. -/
import Derived.Test.YtmdfpifcghmpfaaDoorQ7
namespace Go.Proofs.YtmdfpifcghmpfaaDoor
open Go.Ab Go.RowKit

/-- A purse that is not too great. -/
structure Pu.fine (p : Pu) (N : Nat) : Prop where
  t : ∀ t ∈ p.toks, t.ok
  h : ∀ h ∈ p.holds, h.ok
  nt : p.toks.length ≤ N
  nh : p.holds.length ≤ N
theorem Pu.fine.ok {p : Pu} {N : Nat} (h : p.fine N) (hN : N ≤ 100000) : p.ok := ⟨h.t, h.h, Nat.le_trans h.nt hN, Nat.le_trans h.nh hN⟩
theorem Pu.fine.mono {p : Pu} {N N' : Nat} (h : p.fine N) (hN : N ≤ N') : p.fine N' := ⟨h.t, h.h, Nat.le_trans h.nt hN, Nat.le_trans h.nh hN⟩

section
variable {p : Pu} {N : Nat} {o k : Int} {n w : ByteArray} (hp : p.fine N)
include hp

theorem put_fine (hn : n.size ≤ 200) (hw : w.size ≤ 200) (hk : U k) : Pu.fine ⟨p.toks, putH p.holds o n w k⟩ (N + 1) :=
  ⟨hp.t, putH_mem hp.h ⟨hk, hn, hw⟩ (fun x hx => ⟨hk, (hp.h x hx).2⟩), Nat.le_trans hp.nt (by omega), Nat.le_trans (putH_len _ _ _ _ _) (by have := hp.nh; omega)⟩
theorem takeP_fine (hN : N ≤ 100000) (hn : n.size ≤ 200) (hw : w.size ≤ 200) (hk : U k) : (takeP p o n w k).1.fine (N + 1) := by
  have hU := heldV_U (hp.ok hN) o n w
  unfold takeP
  split
  · exact hp.mono (by omega)
  split
  · exact hp.mono (by omega)
  · exact put_fine hp hn hw (by unfold U at *; omega)
theorem grantP_fine (hN : N ≤ 100000) (hn : n.size ≤ 200) (hw : w.size ≤ 200) (hk : U k) : (grantP p o n w k).1.fine (N + 1) := by
  have hU := heldV_U (hp.ok hN) o n w
  unfold grantP
  split
  · exact hp.mono (by omega)
  split
  · exact hp.mono (by omega)
  split
  · exact put_fine hp hn hw (by unfold U at *; omega)
  · exact hp.mono (by omega)
theorem set_fine {hs : List Hd} {t : Tk} (ht : t.ok) (hq : Pu.fine ⟨p.toks, hs⟩ (N + 1)) : Pu.fine ⟨putP (tkP o n) p.toks t, hs⟩ (N + 1) :=
  ⟨putP_mem hp.t ht, hq.h, by rw [putP_len]; exact hq.nt, hq.nh⟩
end

section
variable {p : Pu} {N : Nat} {o k : Int} {n w : ByteArray} (hp : p.fine N) (hN : N ≤ 99999) (hn : n.size ≤ 200) (hw : w.size ≤ 200) (hk : U k)
include hp hN hn hw hk

theorem lock_cc : CallR cx 33 [.d p.d, .d (.int .u32 o), st n, st w, u64 k] [] fun r S => r = .tup [.d (lockP p o n w k).1.d, i64 (lockP p o n w k).2] ∧ S = [] := by
  have hpo := hp.ok (by omega)
  have tk := take_cc (o := o) (n := n) (w := w) (k := k) hpo hn hw hk
  have tc := token_c (o := o) (n := n) hpo
  have hq := takeP_fine (o := o) (n := n) (w := w) (k := k) hp (by omega) hn hw hk
  have hqt := takeP_toks p o n w k
  have hix := ix_look (tkP o n) p.toks 0
  have hno : lookP (tkP o n) p.toks = none → (takeP p o n w k).2 = 40 := fun h => by unfold takeP; rw [h]
  unfold lockP
  generalize takeP p o n w k = Q at *
  obtain ⟨⟨qt, qh⟩, e⟩ := Q
  simp only at tk hq hqt hno ⊢
  subst hqt
  by_cases he : e = 0
  · subst he
    rw [if_neg (by simp)]
    rcases hix with ⟨h1, h2⟩ | ⟨j, hj, h1, h2, h3, h4, h5⟩
    · exact absurd (hno h2) (by decide)
    · rw [h1, Nat.zero_add] at tc
      rw [h2]
      simp only
      have hgd := tks_getD hj
      have ht := hp.t _ (List.getElem_mem hj)
      have wi := fun t => pwith_c (p := ⟨p.toks, qh⟩) (i := j) (t := t) (hq.ok (by omega)) hj
      simp only [h4] at wi
      generalize p.toks[j]'hj = a at *
      have ad := add_c ht.2.1 hk
      by_cases c : a.locked + k < 18446744073709551616
      · rw [if_pos c, if_pos c] at ad
        rw [if_pos c]
        exact lock_ok (J := (j : Int)) (by omega) (by rw [List.length_map]; omega) hgd tk tc ad (wi { a with locked := a.locked + k })
      · rw [if_neg c, if_neg c] at ad
        rw [if_neg c]
        exact lock_er (J := (j : Int)) (by omega) (by rw [List.length_map]; omega) hgd tk tc ad
  · rw [if_pos he]
    exact lock_no he tk

theorem burn_cc : CallR cx 37 [.d p.d, .d (.int .u32 o), st n, st w, u64 k] [] fun r S => r = .tup [.d (burnP p o n w k).1.d, i64 (burnP p o n w k).2] ∧ S = [] := by
  have hpo := hp.ok (by omega)
  have tk := take_cc (o := o) (n := n) (w := w) (k := k) hpo hn hw hk
  have tc := token_c (o := o) (n := n) hpo
  have hq := takeP_fine (o := o) (n := n) (w := w) (k := k) hp (by omega) hn hw hk
  have hqt := takeP_toks p o n w k
  have hix := ix_look (tkP o n) p.toks 0
  have hno : lookP (tkP o n) p.toks = none → (takeP p o n w k).2 = 40 := fun h => by unfold takeP; rw [h]
  unfold burnP
  generalize takeP p o n w k = Q at *
  obtain ⟨⟨qt, qh⟩, e⟩ := Q
  simp only at tk hq hqt hno ⊢
  subst hqt
  by_cases he : e = 0
  · subst he
    rw [if_neg (by simp)]
    rcases hix with ⟨h1, h2⟩ | ⟨j, hj, h1, h2, h3, h4, h5⟩
    · exact absurd (hno h2) (by decide)
    · rw [h1, Nat.zero_add] at tc
      rw [h2]
      simp only
      have hgd := tks_getD hj
      have ht := hp.t _ (List.getElem_mem hj)
      have wi := fun t => pwith_c (p := ⟨p.toks, qh⟩) (i := j) (t := t) (hq.ok (by omega)) hj
      simp only [h4] at wi
      generalize p.toks[j]'hj = a at *
      have ad := add_c ht.2.2.2.2.1 hk
      by_cases c : a.burned + k < 18446744073709551616
      · rw [if_pos c, if_pos c] at ad
        rw [if_pos c]
        exact burn_ok (J := (j : Int)) (by omega) (by rw [List.length_map]; omega) hgd tk tc ad (wi { a with burned := a.burned + k })
      · rw [if_neg c, if_neg c] at ad
        rw [if_neg c]
        exact burn_er (J := (j : Int)) (by omega) (by rw [List.length_map]; omega) hgd tk tc ad
  · rw [if_pos he]
    exact burn_no he tk

theorem unlock_cc : CallR cx 34 [.d p.d, .d (.int .u32 o), st n, st w, u64 k] [] fun r S => r = .tup [.d (unlockP p o n w k).1.d, i64 (unlockP p o n w k).2] ∧ S = [] := by
  have hpo := hp.ok (by omega)
  have gr := grant_cc (o := o) (n := n) (w := w) (k := k) hpo hn hw hk
  have tc := token_c (o := o) (n := n) hpo
  have hq := grantP_fine (o := o) (n := n) (w := w) (k := k) hp (by omega) hn hw hk
  have hqt := grantP_toks p o n w k
  have hix := ix_look (tkP o n) p.toks 0
  unfold unlockP
  generalize grantP p o n w k = Q at *
  obtain ⟨⟨qt, qh⟩, e⟩ := Q
  simp only at gr hq hqt ⊢
  subst hqt
  rcases hix with ⟨h1, h2⟩ | ⟨j, hj, h1, h2, h3, h4, h5⟩
  · rw [h1] at tc
    rw [h2]
    exact unlock_no tc
  · rw [h1, Nat.zero_add] at tc
    rw [h2]
    simp only
    have hgd := tks_getD hj
    have ht := hp.t _ (List.getElem_mem hj)
    have wi := fun t => pwith_c (p := ⟨p.toks, qh⟩) (i := j) (t := t) (hq.ok (by omega)) hj
    simp only [h4] at wi
    generalize p.toks[j]'hj = a at *
    have ad := add_c ht.2.2.1 hk
    have ou := out_c ht
    by_cases c0 : outL a < k
    · rw [if_pos c0]
      exact unlock_un (x := 0) (J := (j : Int)) (by omega) (by rw [List.length_map]; omega) hgd tc ou c0
    · rw [if_neg c0]
      by_cases c : a.unlocked + k < 18446744073709551616
      · rw [if_pos c, if_pos c] at ad
        rw [if_pos c]
        by_cases he : e = 0
        · subst he
          rw [if_neg (by simp)]
          exact unlock_ok (J := (j : Int)) (by omega) (by rw [List.length_map]; omega) hgd tc ou c0 ad gr (wi { a with unlocked := a.unlocked + k })
        · rw [if_pos he]
          exact unlock_ge (J := (j : Int)) (by omega) he (by rw [List.length_map]; omega) hgd tc ou c0 ad gr
      · rw [if_neg c, if_neg c] at ad
        rw [if_neg c]
        exact unlock_er (J := (j : Int)) (by omega) (by rw [List.length_map]; omega) hgd tc ou c0 ad

theorem mint_cc : CallR cx 36 [.d p.d, .d (.int .u32 o), st n, st w, u64 k] [] fun r S => r = .tup [.d (mintP p o n w k).1.d, i64 (mintP p o n w k).2] ∧ S = [] := by
  have hpo := hp.ok (by omega)
  have gr := grant_cc (o := o) (n := n) (w := w) (k := k) hpo hn hw hk
  have tc := token_c (o := o) (n := n) hpo
  have hq := grantP_fine (o := o) (n := n) (w := w) (k := k) hp (by omega) hn hw hk
  have hqt := grantP_toks p o n w k
  have hix := ix_look (tkP o n) p.toks 0
  unfold mintP
  generalize grantP p o n w k = Q at *
  obtain ⟨⟨qt, qh⟩, e⟩ := Q
  simp only at gr hq hqt ⊢
  subst hqt
  rcases hix with ⟨h1, h2⟩ | ⟨j, hj, h1, h2, h3, h4, h5⟩
  · rw [h1] at tc
    rw [h2]
    exact mint_no tc
  · rw [h1, Nat.zero_add] at tc
    rw [h2]
    simp only
    have hgd := tks_getD hj
    have ht := hp.t _ (List.getElem_mem hj)
    have wi := fun t => pwith_c (p := ⟨p.toks, qh⟩) (i := j) (t := t) (hq.ok (by omega)) hj
    simp only [h4] at wi
    generalize p.toks[j]'hj = a at *
    have ad := add_c ht.2.2.2.1 hk
    have ae := add_c (outM_U ht) hk
    have ou := out_c ht
    by_cases c : a.minted + k < 18446744073709551616
    · rw [if_pos c, if_pos c] at ad
      rw [if_pos c]
      by_cases c1 : outM a + k < 18446744073709551616
      · rw [if_pos c1, if_pos c1] at ae
        rw [if_pos c1]
        by_cases c2 : outM a + k > a.cap
        · rw [if_pos c2]
          exact mint_c2 (J := (j : Int)) (by omega) (by rw [List.length_map]; omega) hgd tc ou ad ae c2
        · rw [if_neg c2]
          by_cases he : e = 0
          · subst he
            rw [if_neg (by simp)]
            exact mint_ok (J := (j : Int)) (by omega) (by rw [List.length_map]; omega) hgd tc ou ad ae c2 gr (wi { a with minted := a.minted + k })
          · rw [if_pos he]
            exact mint_ge (J := (j : Int)) (by omega) he (by rw [List.length_map]; omega) hgd tc ou ad ae c2 gr
      · rw [if_neg c1, if_neg c1] at ae
        rw [if_neg c1]
        exact mint_c1 (J := (j : Int)) (by omega) (by rw [List.length_map]; omega) hgd tc ou ad ae
    · rw [if_neg c, if_neg c] at ad
      rw [if_neg c]
      exact mint_er (y := 0) (J := (j : Int)) (by omega) (by rw [List.length_map]; omega) hgd tc ou ad
end
end Go.Proofs.YtmdfpifcghmpfaaDoor
