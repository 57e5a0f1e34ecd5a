/- Purses: the law PurseBack. -/
import Derived.Test.YtmdfpifcghmpfaaDoorQB
set_option linter.unusedVariables false
namespace Go.Proofs.YtmdfpifcghmpfaaDoor
open Go.Ab Go.RowKit

/-- An act. -/
def actP (d o : Int) (n a b : ByteArray) (k : Int) : D := .agg [.int .i64 d, .int .u32 o, .str n, .str a, .str b, .int .u64 k]

theorem short_c {d o k : Int} {n a b : ByteArray} : CallR cx 30 [.d (actP d o n a b k)] [] fun r S => ∃ x, r = bo x ∧ (x = true → n.size ≤ 200 ∧ a.size ≤ 200 ∧ b.size ≤ 200) ∧ S = [] := by
  refine callR_of (R := R1) cx_ok Tryd.func30 (by kernel_rfl) rfl ?_
  conv => whnf
  by_cases c1 : (n.size : Int) ≤ 200
  · refine brT (decide_eq_true c1) ?_
    conv => whnf
    by_cases c2 : (a.size : Int) ≤ 200
    · refine brT (decide_eq_true c2) ?_
      conv => whnf
      exact ⟨_, rfl, fun h => ⟨by omega, by omega, by have q : (b.size : Int) ≤ 200 := of_decide_eq_true h; omega⟩, rfl⟩
    · refine brF (decide_eq_false c2) ?_
      conv => whnf
      exact ⟨false, rfl, by simp, rfl⟩
  · refine brF (decide_eq_false c1) ?_
    conv => whnf
    exact ⟨false, rfl, by simp, rfl⟩

theorem heldCl_c {p : Pu} : CallR cx 32 [.d p.d] [] fun r S => r = .d (Pu.d ⟨[], p.holds⟩) ∧ S = [] := by
  obtain ⟨ts, hs⟩ := p
  refine callR_of (R := R1) cx_ok Tryd.func32 (by kernel_rfl) rfl ?_
  conv => whnf
  exact ⟨rfl, rfl⟩

theorem lockP_fine {p : Pu} {N : Nat} {o k : Int} {n w : ByteArray} (hp : p.fine N) (hN : N ≤ 100000) (hn : n.size ≤ 200) (hw : w.size ≤ 200) (hk : U k) : (lockP p o n w k).1.fine (N + 1) := by
  have ht := takeP_fine (o := o) (n := n) (w := w) (k := k) hp hN hn hw hk
  have hq := takeP_toks p o n w k
  unfold lockP
  split
  · exact hp.mono (by omega)
  split
  · exact hp.mono (by omega)
  rename_i t h
  split
  · obtain ⟨a1, a2, a3, a4, a5, a6⟩ := hp.t t (lookP_mem h).1
    refine set_fine hp ⟨a1, ?_, a3, a4, a5, a6⟩ ?_
    · unfold U at *; simp only; omega
    · rw [← hq]; exact ht
  · exact hp.mono (by omega)
theorem burnP_fine {p : Pu} {N : Nat} {o k : Int} {n w : ByteArray} (hp : p.fine N) (hN : N ≤ 100000) (hn : n.size ≤ 200) (hw : w.size ≤ 200) (hk : U k) : (burnP p o n w k).1.fine (N + 1) := by
  have ht := takeP_fine (o := o) (n := n) (w := w) (k := k) hp hN hn hw hk
  have hq := takeP_toks p o n w k
  unfold burnP
  split
  · exact hp.mono (by omega)
  split
  · exact hp.mono (by omega)
  rename_i t h
  split
  · obtain ⟨a1, a2, a3, a4, a5, a6⟩ := hp.t t (lookP_mem h).1
    refine set_fine hp ⟨a1, a2, a3, a4, ?_, a6⟩ ?_
    · unfold U at *; simp only; omega
    · rw [← hq]; exact ht
  · exact hp.mono (by omega)
theorem mintP_fine {p : Pu} {N : Nat} {o k : Int} {n w : ByteArray} (hp : p.fine N) (hN : N ≤ 100000) (hn : n.size ≤ 200) (hw : w.size ≤ 200) (hk : U k) : (mintP p o n w k).1.fine (N + 1) := by
  have ht := grantP_fine (o := o) (n := n) (w := w) (k := k) hp hN hn hw hk
  have hq := grantP_toks p o n w k
  unfold mintP
  split
  · exact hp.mono (by omega)
  rename_i t h
  split
  · split
    · split
      · exact hp.mono (by omega)
      split
      · exact hp.mono (by omega)
      · obtain ⟨a1, a2, a3, a4, a5, a6⟩ := hp.t t (lookP_mem h).1
        refine set_fine hp ⟨a1, a2, a3, ?_, a5, a6⟩ ?_
        · unfold U at *; simp only; omega
        · rw [← hq]; exact ht
    · exact hp.mono (by omega)
  · exact hp.mono (by omega)
theorem unlockP_fine {p : Pu} {N : Nat} {o k : Int} {n w : ByteArray} (hp : p.fine N) (hN : N ≤ 100000) (hn : n.size ≤ 200) (hw : w.size ≤ 200) (hk : U k) : (unlockP p o n w k).1.fine (N + 1) := by
  have ht := grantP_fine (o := o) (n := n) (w := w) (k := k) hp hN hn hw hk
  have hq := grantP_toks p o n w k
  unfold unlockP
  split
  · exact hp.mono (by omega)
  rename_i t h
  split
  · exact hp.mono (by omega)
  split
  · split
    · exact hp.mono (by omega)
    · obtain ⟨a1, a2, a3, a4, a5, a6⟩ := hp.t t (lookP_mem h).1
      refine set_fine hp ⟨a1, a2, ?_, a4, a5, a6⟩ ?_
      · unfold U at *; simp only; omega
      · rw [← hq]; exact ht
  · exact hp.mono (by omega)

/-- What comes in of a purse. -/
structure Pu.fits (p : Pu) : Prop where
  t : ∀ t ∈ p.toks, U t.cap ∧ U t.locked ∧ U t.unlocked ∧ U t.minted ∧ U t.burned
  h : ∀ h ∈ p.holds, U h.amount
theorem fine_of {p : Pu} (h : p.fits) (hf : pfewP p) : p.fine 100 := by
  obtain ⟨f1, f2, f3, f4⟩ := hf
  exact ⟨fun t ht => let ⟨a, b, c, d, e⟩ := h.t t ht; ⟨a, b, c, d, e, f3 t ht⟩, fun x hx => ⟨h.h x hx, f4 x hx⟩, by omega, f2⟩

theorem pback_c {p : Pu} (hf : p.fits) {d o k : Int} {n a b : ByteArray} (hk : U k) : CallR cx 7 [.d p.d, .d (actP d o n a b k)] [] fun r S => r = bo true ∧ S = [] := by
  have fc := pfew_c (p := p)
  have sc := short_c (d := d) (o := o) (k := k) (n := n) (a := a) (b := b)
  refine callR_of (R := R1) cx_ok Tryd.func7 (by kernel_rfl) rfl ?_
  conv => whnf
  refine ⟨_, pawake_c, ?_⟩
  rintro _ _ ⟨rfl, rfl⟩
  conv => whnf
  refine ⟨_, fc, ?_⟩
  rintro _ _ ⟨x, rfl, hx, rfl⟩
  cases x with
  | false =>
    conv => whnf
    exact ⟨rfl, rfl⟩
  | true =>
    have hfi := fine_of hf (hx rfl)
    have hpo := hfi.ok (by omega)
    have rc := prightL_c hpo
    conv => whnf
    refine ⟨_, sc, ?_⟩
    rintro _ _ ⟨y, rfl, hy, rfl⟩
    cases y with
    | false =>
      conv => whnf
      exact ⟨rfl, rfl⟩
    | true =>
      obtain ⟨hn, ha, hb⟩ := hy rfl
      conv => whnf
      refine ⟨_, rc, ?_⟩
      rintro _ _ ⟨rfl, rfl⟩
      cases hr : rightPu p with
      | false =>
        conv => whnf
        exact ⟨rfl, rfl⟩
      | true =>
        have hri := right_of hr
        have lk := lock_cc (o := o) (n := n) (w := a) (k := k) hfi (by omega) hn ha hk
        have hlf := lockP_fine (o := o) (n := n) (w := a) (k := k) hfi (by omega) hn ha hk
        have ul := unlock_cc (o := o) (n := n) (w := a) (k := k) hlf (by omega) hn ha hk
        have lb := lock_back (o := o) (n := n) (w := a) (k := k) hpo hri hk
        have mt := mint_cc (o := o) (n := n) (w := a) (k := k) hfi (by omega) hn ha hk
        have hmf := mintP_fine (o := o) (n := n) (w := a) (k := k) hfi (by omega) hn ha hk
        have bu := burn_cc (o := o) (n := n) (w := a) (k := k) hmf (by omega) hn ha hk
        have mb := mint_back (o := o) (n := n) (w := a) (k := k) hpo hri hk
        have hp0 := heldCl_c (p := p)
        have sm := psame_c (p := ⟨[], p.holds⟩) ⟨by simp, hpo.h, by simp, hpo.nh⟩
        generalize lockP p o n a k = L at *
        obtain ⟨l, e⟩ := L
        simp only at lk hlf ul lb
        generalize unlockP l o n a k = L2 at *
        obtain ⟨l2, f⟩ := L2
        simp only at ul lb
        have hl2 := heldCl_c (p := l2)
        generalize mintP p o n a k = M at *
        obtain ⟨m, g⟩ := M
        simp only at mt hmf bu mb
        generalize burnP m o n a k = M2 at *
        obtain ⟨m2, q⟩ := M2
        simp only at bu mb
        have hm2 := heldCl_c (p := m2)
        conv => whnf
        refine ⟨_, lk, ?_⟩
        rintro _ _ ⟨rfl, rfl⟩
        conv => whnf
        by_cases he : e = 0
        · subst he
          obtain ⟨a1, a2⟩ := lb rfl
          conv => whnf
          refine ⟨_, ul, ?_⟩
          rintro _ _ ⟨rfl, rfl⟩
          conv => whnf
          rcases a2 with rfl | rfl | rfl
          · have a3 := a1 rfl
            rw [a3] at hl2
            conv => whnf
            refine ⟨by kernel_rfl, ?_⟩
            conv => whnf
            refine ⟨_, hl2, ?_⟩
            conv => whnf
            refine ⟨_, hp0, ?_⟩
            conv => whnf
            refine ⟨_, sm, ?_⟩
            conv => whnf
            refine ⟨by kernel_rfl, ?_⟩
            conv => whnf
            refine ⟨_, mt, ?_⟩
            rintro _ _ ⟨rfl, rfl⟩
            conv => whnf
            by_cases hg : g = 0
            · subst hg
              obtain ⟨b1, b2⟩ := mb rfl
              conv => whnf
              refine ⟨_, bu, ?_⟩
              rintro _ _ ⟨rfl, rfl⟩
              conv => whnf
              rcases b2 with rfl | rfl
              · have b3 := b1 rfl
                rw [b3] at hm2
                conv => whnf
                refine ⟨by kernel_rfl, ?_⟩
                conv => whnf
                refine ⟨_, hm2, ?_⟩
                conv => whnf
                refine ⟨_, hp0, ?_⟩
                conv => whnf
                refine ⟨_, sm, ?_⟩
                conv => whnf
                refine ⟨by kernel_rfl, ?_⟩
                conv => whnf
                exact ⟨rfl, rfl⟩
              · conv => whnf
                refine ⟨by kernel_rfl, ?_⟩
                conv => whnf
                refine ⟨by kernel_rfl, ?_⟩
                conv => whnf
                exact ⟨rfl, rfl⟩
            · refine brF (beq_eq_false_iff_ne.2 hg) ?_
              conv => whnf
              exact ⟨rfl, rfl⟩
          · conv => whnf
            refine ⟨by kernel_rfl, ?_⟩
            conv => whnf
            refine ⟨by kernel_rfl, ?_⟩
            conv => whnf
            refine ⟨_, mt, ?_⟩
            rintro _ _ ⟨rfl, rfl⟩
            conv => whnf
            by_cases hg : g = 0
            · subst hg
              obtain ⟨b1, b2⟩ := mb rfl
              conv => whnf
              refine ⟨_, bu, ?_⟩
              rintro _ _ ⟨rfl, rfl⟩
              conv => whnf
              rcases b2 with rfl | rfl
              · have b3 := b1 rfl
                rw [b3] at hm2
                conv => whnf
                refine ⟨by kernel_rfl, ?_⟩
                conv => whnf
                refine ⟨_, hm2, ?_⟩
                conv => whnf
                refine ⟨_, hp0, ?_⟩
                conv => whnf
                refine ⟨_, sm, ?_⟩
                conv => whnf
                refine ⟨by kernel_rfl, ?_⟩
                conv => whnf
                exact ⟨rfl, rfl⟩
              · conv => whnf
                refine ⟨by kernel_rfl, ?_⟩
                conv => whnf
                refine ⟨by kernel_rfl, ?_⟩
                conv => whnf
                exact ⟨rfl, rfl⟩
            · refine brF (beq_eq_false_iff_ne.2 hg) ?_
              conv => whnf
              exact ⟨rfl, rfl⟩
          · conv => whnf
            refine ⟨by kernel_rfl, ?_⟩
            conv => whnf
            refine ⟨by kernel_rfl, ?_⟩
            conv => whnf
            refine ⟨_, mt, ?_⟩
            rintro _ _ ⟨rfl, rfl⟩
            conv => whnf
            by_cases hg : g = 0
            · subst hg
              obtain ⟨b1, b2⟩ := mb rfl
              conv => whnf
              refine ⟨_, bu, ?_⟩
              rintro _ _ ⟨rfl, rfl⟩
              conv => whnf
              rcases b2 with rfl | rfl
              · have b3 := b1 rfl
                rw [b3] at hm2
                conv => whnf
                refine ⟨by kernel_rfl, ?_⟩
                conv => whnf
                refine ⟨_, hm2, ?_⟩
                conv => whnf
                refine ⟨_, hp0, ?_⟩
                conv => whnf
                refine ⟨_, sm, ?_⟩
                conv => whnf
                refine ⟨by kernel_rfl, ?_⟩
                conv => whnf
                exact ⟨rfl, rfl⟩
              · conv => whnf
                refine ⟨by kernel_rfl, ?_⟩
                conv => whnf
                refine ⟨by kernel_rfl, ?_⟩
                conv => whnf
                exact ⟨rfl, rfl⟩
            · refine brF (beq_eq_false_iff_ne.2 hg) ?_
              conv => whnf
              exact ⟨rfl, rfl⟩
        · refine brF (beq_eq_false_iff_ne.2 he) ?_
          conv => whnf
          refine ⟨_, mt, ?_⟩
          rintro _ _ ⟨rfl, rfl⟩
          conv => whnf
          by_cases hg : g = 0
          · subst hg
            obtain ⟨b1, b2⟩ := mb rfl
            conv => whnf
            refine ⟨_, bu, ?_⟩
            rintro _ _ ⟨rfl, rfl⟩
            conv => whnf
            rcases b2 with rfl | rfl
            · have b3 := b1 rfl
              rw [b3] at hm2
              conv => whnf
              refine ⟨by kernel_rfl, ?_⟩
              conv => whnf
              refine ⟨_, hm2, ?_⟩
              conv => whnf
              refine ⟨_, hp0, ?_⟩
              conv => whnf
              refine ⟨_, sm, ?_⟩
              conv => whnf
              refine ⟨by kernel_rfl, ?_⟩
              conv => whnf
              exact ⟨rfl, rfl⟩
            · conv => whnf
              refine ⟨by kernel_rfl, ?_⟩
              conv => whnf
              refine ⟨by kernel_rfl, ?_⟩
              conv => whnf
              exact ⟨rfl, rfl⟩
          · refine brF (beq_eq_false_iff_ne.2 hg) ?_
            conv => whnf
            exact ⟨rfl, rfl⟩

abbrev tyTk : Ty := .st [.int .u32, .str, .int .u64, .int .u64, .int .u64, .int .u64, .int .u64]
abbrev tyHd : Ty := .st [.int .u32, .str, .str, .int .u64]
abbrev tyPu : Ty := .st [.sl 7 tyTk, .sl 4 tyHd]
abbrev tyActP : Ty := .st [.int .i64, .int .u32, .str, .str, .str, .int .u64]
theorem toks_of : ∀ {ys : List D}, (∀ y ∈ ys, tyTk.has y) → ∃ l : List Tk, ys = tks l ∧ ∀ t ∈ l, U t.cap ∧ U t.locked ∧ U t.unlocked ∧ U t.minted ∧ U t.burned
  | [], _ => ⟨[], rfl, by simp⟩
  | y :: ys, h => by
    obtain ⟨l, rfl, h2⟩ := toks_of fun z hz => h z (List.mem_cons_of_mem _ hz)
    obtain ⟨_, rfl, _, _, rfl, ⟨o, rfl, _⟩, _, _, rfl, ⟨n, rfl, _⟩, _, _, rfl, ⟨a, rfl, wa⟩, _, _, rfl, ⟨b, rfl, wb⟩, _, _, rfl, ⟨c, rfl, wc⟩, _, _, rfl, ⟨d, rfl, wd⟩, _, _, rfl, ⟨e, rfl, we⟩, rfl⟩ := h y (by simp)
    refine ⟨⟨o, n, a, b, c, d, e⟩ :: l, rfl, fun x hx => ?_⟩
    rcases List.mem_cons.1 hx with rfl | hx
    · exact ⟨U.of_wf wa, U.of_wf wb, U.of_wf wc, U.of_wf wd, U.of_wf we⟩
    · exact h2 x hx
theorem holds_of : ∀ {ys : List D}, (∀ y ∈ ys, tyHd.has y) → ∃ l : List Hd, ys = hds l ∧ ∀ h ∈ l, U h.amount
  | [], _ => ⟨[], rfl, by simp⟩
  | y :: ys, h => by
    obtain ⟨l, rfl, h2⟩ := holds_of fun z hz => h z (List.mem_cons_of_mem _ hz)
    obtain ⟨_, rfl, _, _, rfl, ⟨o, rfl, _⟩, _, _, rfl, ⟨n, rfl, _⟩, _, _, rfl, ⟨a, rfl, _⟩, _, _, rfl, ⟨b, rfl, wb⟩, rfl⟩ := h y (by simp)
    refine ⟨⟨o, n, a, b⟩ :: l, rfl, fun x hx => ?_⟩
    rcases List.mem_cons.1 hx with rfl | hx
    · exact U.of_wf wb
    · exact h2 x hx
theorem pu_of {x : D} (h : tyPu.has x) : ∃ p : Pu, x = p.d ∧ p.fits := by
  obtain ⟨_, rfl, _, _, rfl, ⟨ts, rfl, _, h4⟩, _, _, rfl, ⟨hs, rfl, _, h5⟩, rfl⟩ := h
  obtain ⟨l, rfl, h6⟩ := toks_of h4
  obtain ⟨m, rfl, h7⟩ := holds_of h5
  exact ⟨⟨l, m⟩, rfl, ⟨h6, h7⟩⟩
theorem purseBack_c (ys : List D) (hy : Ty.hass [tyPu, tyActP] ys) : CallR cx 7 (ys.map AV.d) [] fun r S => r = .d (.bool true) ∧ S = [] := by
  obtain ⟨_, _, rfl, hl, _, _, rfl, ⟨_, rfl, _, _, rfl, ⟨d, rfl, _⟩, _, _, rfl, ⟨o, rfl, _⟩, _, _, rfl, ⟨n, rfl, _⟩, _, _, rfl, ⟨a, rfl, _⟩, _, _, rfl, ⟨b, rfl, _⟩, _, _, rfl, ⟨k, rfl, wk⟩, rfl⟩, rfl⟩ := hy
  obtain ⟨p, rfl, hf⟩ := pu_of hl
  exact pback_c hf (U.of_wf wk)
end Go.Proofs.YtmdfpifcghmpfaaDoor
