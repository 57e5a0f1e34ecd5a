/- Routers: the law RouterSums. -/
import Derived.Test.YtmdfpifcghmpfaaDoorY6
set_option linter.unusedVariables false
namespace Go.Proofs.YtmdfpifcghmpfaaDoor
open Go.Ab Go.RowKit

theorem rsum_bounds {p : Pu} {N : Nat} (hp : p.fine N) (hN : N ≤ 150) (o : Int) (n : ByteArray) : 0 ≤ sumP p o n ∧ sumP p o n ≤ 3689348814741910323200 := by
  have h1 := sum_bounds (amts_U (o := o) (n := n) hp.h)
  have h2 := amts_len (o := o) (n := n) p.holds
  have h3 := hp.nh
  unfold sumP
  omega
theorem grantP_held {p : Pu} {o k : Int} {n w : ByteArray} (hs : srtH none p.holds) (hv : 0 ≤ heldV p o n w) (hk : 0 ≤ k) (h : (grantP p o n w k).2 = 0) : heldL (grantP p o n w k).1.holds o n w = heldV p o n w + k := by
  unfold grantP at *
  cases ht : lookP (tkP o n) p.toks with
  | none => rw [ht] at h; cases h
  | some t =>
    rw [ht] at h
    simp only at h ⊢
    split
    · rename_i hc; rw [if_pos hc] at h; cases h
    rename_i hc
    rw [if_neg hc] at h
    split
    · exact held_put hs (by omega)
    · rename_i hc2; rw [if_neg hc2] at h; cases h
theorem unlockP_held {p : Pu} {o k : Int} {n w : ByteArray} (h : (unlockP p o n w k).2 = 0) : (grantP p o n w k).2 = 0 ∧ (unlockP p o n w k).1.holds = (grantP p o n w k).1.holds := by
  unfold unlockP at *
  cases ht : lookP (tkP o n) p.toks with
  | none => rw [ht] at h; cases h
  | some t =>
    rw [ht] at h
    simp only at h ⊢
    by_cases h1 : outL t < k
    · rw [if_pos h1] at h; cases h
    rw [if_neg h1] at h ⊢
    by_cases h2 : t.unlocked + k < 18446744073709551616
    · rw [if_pos h2] at h ⊢
      by_cases he : (grantP p o n w k).2 ≠ 0
      · rw [if_pos he] at h; exact absurd h he
      rw [if_neg he]
      exact ⟨by omega, rfl⟩
    · rw [if_neg h2] at h; cases h
theorem mintP_held {p : Pu} {o k : Int} {n w : ByteArray} (h : (mintP p o n w k).2 = 0) : (grantP p o n w k).2 = 0 ∧ (mintP p o n w k).1.holds = (grantP p o n w k).1.holds := by
  unfold mintP at *
  cases ht : lookP (tkP o n) p.toks with
  | none => rw [ht] at h; cases h
  | some t =>
    rw [ht] at h
    simp only at h ⊢
    by_cases h1 : t.minted + k < 18446744073709551616
    · rw [if_pos h1] at h ⊢
      by_cases h2 : outM t + k < 18446744073709551616
      · rw [if_pos h2] at h ⊢
        by_cases h3 : outM t + k > t.cap
        · rw [if_pos h3] at h; cases h
        rw [if_neg h3] at h ⊢
        by_cases he : (grantP p o n w k).2 ≠ 0
        · rw [if_pos he] at h; exact absurd h he
        rw [if_neg he]
        exact ⟨by omega, rfl⟩
      · rw [if_neg h2] at h; cases h
    · rw [if_neg h1] at h; cases h
theorem transP_sum {p : Pu} {here frm o k : Int} {n w : ByteArray} (hs : srtH none p.holds) (hv : 0 ≤ heldV p o n w) (hk : 0 ≤ k) (h : (transP p here frm o n w k).2 = 0) :
    sumP (transP p here frm o n w k).1 o n = sumP p o n + k ∧ heldV (transP p here frm o n w k).1 o n w = heldV p o n w + k := by
  unfold transP at *
  split
  · rename_i c
    rw [if_pos c] at h
    obtain ⟨g1, g2⟩ := unlockP_held h
    refine ⟨by rw [(unlockP_sum hv hk h).1 o n, one_self], ?_⟩
    rw [heldV_L, g2]
    exact grantP_held hs hv hk g1
  rename_i c
  rw [if_neg c] at h
  split
  · rename_i c2
    rw [if_pos c2] at h
    obtain ⟨g1, g2⟩ := mintP_held h
    refine ⟨by rw [(mintP_sum hv hk h).1 o n, one_self], ?_⟩
    rw [heldV_L, g2]
    exact grantP_held hs hv hk g1
  · rename_i c2
    rw [if_neg c2] at h
    cases h
theorem transP_fine {p : Pu} {N : Nat} {here frm o k : Int} {n w : ByteArray} (hp : p.fine N) (hN : N ≤ 100000) (hn : n.size ≤ 1000) (hw : w.size ≤ 1000) (hk : U k) : (transP p here frm o n w k).1.fine (N + 1) := by
  unfold transP
  split
  · exact unlockP_fine hp hN hn hw hk
  split
  · exact mintP_fine hp hN hn hw hk
  · exact hp.mono (by omega)
theorem outP_fine {p : Pu} {N : Nat} {here o k : Int} {f n : ByteArray} (hp : p.fine N) (hN : N ≤ 100000) (hn : n.size ≤ 1000) (hw : f.size ≤ 1000) (hk : U k) : (outP p here f o n k).1.fine (N + 1) := by
  unfold outP
  split
  · exact lockP_fine hp hN hn hw hk
  · exact burnP_fine hp hN hn hw hk
theorem outP_sum {p : Pu} {here o k : Int} {f n : ByteArray} (h : (outP p here f o n k).2 = 0) : sumP (outP p here f o n k).1 o n = sumP p o n - k := by
  unfold outP at *
  split
  · rename_i c; rw [if_pos c] at h; rw [(lockP_sum h).1 o n, one_self]
  · rename_i c; rw [if_neg c] at h; rw [(burnP_sum h).1 o n, one_self]
theorem detP_holds {p : Pu} {here frm o k : Int} {n : ByteArray} : (detP p here frm o n k).1.holds = p.holds := by
  unfold detP
  split
  · rfl
  split
  · exact enlistP_sum
  · rfl
theorem sendP_ok {p : Pu} {here o k : Int} {f t w : ByteArray} (h : (sendP p here f o t w k).2.2 = 0) :
    (outP p here f o t k).2 = 0 ∧ (Pl.tr o t w k).right = true ∧ (sendP p here f o t w k).1 = (outP p here f o t k).1 ∧ (sendP p here f o t w k).2.1 = (Pl.tr o t w k).bytes := by
  unfold sendP at *
  by_cases he : (outP p here f o t k).2 ≠ 0
  · rw [if_pos he] at h; exact absurd h he
  rw [if_neg he] at h ⊢
  by_cases hr : (Pl.tr o t w k).right = true
  · rw [if_pos hr]
    exact ⟨by omega, hr, rfl, rfl⟩
  · rw [if_neg hr] at h; cases h
theorem handP_err {p : Pu} {here frm : Int} {remote s r b : ByteArray} (h : (handP p here frm remote s r b).2.2 ≠ 0) : (handP p here frm remote s r b).1 = p := by
  unfold handP at *
  split
  · rfl
  rename_i c
  rw [if_neg c] at h
  split
  · rfl
  rename_i c2
  rw [if_neg c2] at h
  split
  · rfl
  rename_i c3
  rw [if_neg c3] at h
  exact absurd rfl h
theorem handP_ok {p : Pu} {here frm : Int} {remote s r b : ByteArray} (h : (handP p here frm remote s r b).2.2 = 0) :
    (readP b).2 = 0 ∧ (doesP p here frm (readP b).1).2 = 0 ∧ (handP p here frm remote s r b).1 = (doesP p here frm (readP b).1).1 ∧ (handP p here frm remote s r b).2.1 = (readP b).1 := by
  unfold handP at *
  by_cases c : remote = .empty ∨ s ≠ remote ∨ r ≠ rtB
  · rw [if_pos c] at h; cases h
  rw [if_neg c] at h ⊢
  by_cases c2 : (readP b).2 ≠ 0
  · rw [if_pos c2] at h; cases h
  rw [if_neg c2] at h ⊢
  by_cases c3 : (doesP p here frm (readP b).1).2 ≠ 0
  · rw [if_pos c3] at h; exact absurd h c3
  rw [if_neg c3]
  exact ⟨by omega, by omega, rfl, rfl⟩
theorem tr_bytes_size {o k : Int} {n w : ByteArray} : (Pl.tr o n w k).bytes.size = n.size + w.size + 21 := by
  unfold Pl.bytes
  simp only [ByteArray.size_append, textB_size, bigB_size]
  omega

theorem rsums_c {p : Pu} (hf : p.fits) {here o k lf q lt zn zi : Int} {f t w remote s r b : ByteArray} {zp zo zh : List D} (ho : 0 ≤ o ∧ o < 4294967296) (hk : U k) :
    CallR cx 11 [.d p.d, .d (.int .u32 here), .d (sdD f o t w k (.int .u64 zn) (.agg [.int .i64 zi, .sl 32 zp, .sl 32 zo, .sl 32 zh])), st remote, .d (ltD lf q lt s r b)] [] fun r S => r = bo true ∧ S = [] := by
  have aw := awake18_c
  have fc0 := pfew_c (p := p)
  have lc0 := rlight_c (l := [f, t, w, remote, s, r, b]) (Nat.le_of_ble_eq_true rfl)
  by_cases hF : pfewP p
  case neg =>
    exact rs_few aw (fc0.mono fun r S ⟨x, h1, h2, h3⟩ => ⟨by cases x with | false => exact h1 | true => exact absurd (h2 rfl) hF, h3⟩)
  have fc := fc0.mono fun r S ⟨x, h1, h2, h3⟩ => (⟨x, h1, h3⟩ : ∃ b, r = bo b ∧ S = [])
  by_cases hG : ∀ s' ∈ [f, t, w, remote, s, r, b], s'.size ≤ 1000
  case neg =>
    exact rs_light aw fc (lc0.mono fun r S ⟨x, h1, h2, h3⟩ => ⟨by cases x with | false => exact h1 | true => exact absurd (h2 rfl) hG, h3⟩)
  have lc := lc0.mono fun r S ⟨x, h1, h2, h3⟩ => (⟨x, h1, h3⟩ : ∃ b, r = bo b ∧ S = [])
  have hfi := fine_of hf hF
  have hpo := hfi.ok (by omega)
  have zf := hG f (by simp)
  have zt := hG t (by simp)
  have zw := hG w (by simp)
  have zb := hG b (by simp)
  have rc := prightL_c hpo
  cases hR : rightPu p with
  | false =>
    rw [hR] at rc
    exact rs_right aw fc lc rc
  | true =>
  rw [hR] at rc
  have hr := right_of hR
  have se := send_c (here := here) (z1 := .int .u64 zn) (z2 := .agg [.int .i64 zi, .sl 32 zp, .sl 32 zo, .sl 32 zh]) hfi (by omega) zf zt zw ho hk
  have ha := hand_c (here := here) (f := lf) (q := q) (t := lt) (remote := remote) (s := s) (r := r) hfi (by omega) zb
  have sm := psame_c hpo
  have s2 := supply_c (o := o) (n := t) hpo (by have := hfi.nh; omega)
  have sok := sendP_ok (p := p) (here := here) (o := o) (k := k) (f := f) (t := t) (w := w)
  have her := handP_err (p := p) (here := here) (frm := lf) (remote := remote) (s := s) (r := r) (b := b)
  have hok := handP_ok (p := p) (here := here) (frm := lf) (remote := remote) (s := s) (r := r) (b := b)
  have fi := readP_fit (b := b) (by omega)
  have br := fun h => bytes_read (s := b) h
  -- what came
  have B : ∀ (Z : Pu) (Y : Pl) (g : Int), Z = (handP p here lf remote s r b).1 → Y = (handP p here lf remote s r b).2.1 → g = (handP p here lf remote s r b).2.2 →
      (g ≠ 0 ∧ Z = p) ∨ (g = 0 ∧ (Y.isT = false ∧ trD Y = tr4 0 .empty .empty 0) ∧ Z.holds.length = p.holds.length) ∨
      (∃ oo nn ww kk, g = 0 ∧ Y = .tr oo nn ww kk ∧ U kk ∧ Z.fine 101 ∧ sumP Z oo nn = sumP p oo nn + kk ∧ heldV Z oo nn ww = heldV p oo nn ww + kk) := by
    rintro Z Y g rfl rfl rfl
    by_cases hg : (handP p here lf remote s r b).2.2 ≠ 0
    · exact .inl ⟨hg, her hg⟩
    have hg : (handP p here lf remote s r b).2.2 = 0 := by omega
    obtain ⟨q1, q2, q3, q4⟩ := hok hg
    rw [q3, q4]
    obtain ⟨b1, b2⟩ := br q1
    generalize (readP b).1 = pl at *
    refine .inr ?_
    cases pl with
    | tr oo nn ww kk =>
      have sz := tr_size (o := oo) (k := kk) (n := nn) (w := ww)
      rw [b2] at sz
      have hU : U kk := fi.2.1
      obtain ⟨t1, t2⟩ := transP_sum hr.s (heldV_U hpo oo nn ww).1 hU.1 q2
      exact .inr ⟨oo, nn, ww, kk, hg, rfl, hU, transP_fine hfi (by omega) (by omega) (by omega) hU, t1, t2⟩
    | sy a d => exact .inl ⟨hg, ⟨rfl, rfl⟩, rfl⟩
    | de oo nn kk => exact .inl ⟨hg, ⟨rfl, rfl⟩, congrArg List.length detP_holds⟩
    | no => exact .inl ⟨hg, ⟨rfl, rfl⟩, rfl⟩
    | nu => exact .inl ⟨hg, ⟨rfl, rfl⟩, rfl⟩
  have B := B _ _ _ rfl rfl rfl
  generalize handP p here lf remote s r b = HP at *
  obtain ⟨Z, Y, g⟩ := HP
  simp only at ha B
  clear her hok br fi
  -- what set out
  have A : ((sendP p here f o t w k).2.2 ≠ 0) ∨ ((sendP p here f o t w k).2.2 = 0 ∧ (sendP p here f o t w k).2.1 = (Pl.tr o t w k).bytes ∧ (Pl.tr o t w k).right = true ∧ (sendP p here f o t w k).1.fine 101 ∧ sumP (sendP p here f o t w k).1 o t = sumP p o t - k) := by
    by_cases he : (sendP p here f o t w k).2.2 ≠ 0
    · exact .inl he
    have he : (sendP p here f o t w k).2.2 = 0 := by omega
    obtain ⟨g1, g2, g3, g4⟩ := sok he
    refine .inr ⟨he, g4, g2, ?_, ?_⟩
    · rw [g3]; exact outP_fine hfi (by omega) zt zf hk
    · rw [g3]; exact outP_sum g1
  generalize sendP p here f o t w k = SP at *
  obtain ⟨Q, body, e⟩ := SP
  simp only at se A
  clear sok
  have hb0 := fun nn oo => rsum_bounds hfi (by omega) oo nn
  have held : ∀ oo nn ww, CallR cx 47 [.d p.d, .d (.int .u32 oo), st nn, st ww] [] fun r S => r = u64 (heldV p oo nn ww) ∧ S = [] := fun _ _ _ => heldv_c hpo
  have sup : ∀ oo nn, CallR cx 39 [.d p.d, .d (.int .u32 oo), st nn] [] fun r S => r = .d (wv (sumP p oo nn)) ∧ S = [] := fun _ _ => supply_c hpo (by have := hfi.nh; omega)
  have hh : ∀ {x y k : Int}, U k → x = y + k → IntKind.u64.wrap (x - y) = k := fun hk e => by rw [e, show ∀ a b : Int, a + b - a = b from fun a b => by omega]; exact wrapU hk
  rcases A with he | ⟨he, rfl, hri, hq, hsum⟩
  · rcases B with ⟨hg, rfl⟩ | ⟨hg, ⟨y1, y2⟩, hl⟩ | ⟨oo, nn, ww, kk, hg, rfl, hU, hz, hs1, hh1⟩
    · exact rs_nn (T3 := []) (H3 := []) aw fc lc rc se he hg ha sm
    · have tf := transfer_c (p := Y)
      rw [y1, y2] at tf
      exact rs_no aw fc lc rc se he hg ha tf (by rw [show (hds Z.holds).length = Z.holds.length from List.length_map _, show (hds p.holds).length = p.holds.length from List.length_map _, hl])
    · have hzo := hz.ok (by omega)
      have s4 : CallR cx 39 [.d Z.d, .d (.int .u32 oo), st nn] [] fun r S => r = .d (wv (sumP Z oo nn)) ∧ S = [] := supply_c hzo (by have := hz.nh; omega)
      rw [hs1] at s4
      have h1 := heldv_c (o := oo) (n := nn) (w := ww) hzo
      exact rs_nt aw fc lc rc se he hg ha (sup oo nn) (wv_add (hb0 nn oo).1 (hb0 nn oo).2 hU) s4 h1 (held oo nn ww) (hh hU hh1)
  · have rd := read_c (s := (Pl.tr o t w k).bytes) (by rw [tr_bytes_size]; omega)
    rw [read_bytes (p := .tr o t w k) ⟨ho, hk, by omega, by omega⟩ hri] at rd
    have s1 : CallR cx 39 [.d Q.d, .d (.int .u32 o), st t] [] fun r S => r = .d (wv (sumP Q o t)) ∧ S = [] := supply_c (hq.ok (by omega)) (by have := hq.nh; omega)
    have hb1 := rsum_bounds hq (by omega) o t
    have ad := wv_add hb1.1 hb1.2 hk
    rw [show sumP Q o t + k = sumP p o t by omega] at ad
    rcases B with ⟨hg, rfl⟩ | ⟨hg, ⟨y1, y2⟩, hl⟩ | ⟨oo, nn, ww, kk, hg, rfl, hU, hz, hs1, hh1⟩
    · exact rs_sn (T3 := []) (H3 := []) aw fc lc rc se he rd s1 ad (sup o t) hg ha sm
    · have tf := transfer_c (p := Y)
      rw [y1, y2] at tf
      exact rs_so aw fc lc rc se he rd s1 ad (sup o t) hg ha tf (by rw [show (hds Z.holds).length = Z.holds.length from List.length_map _, show (hds p.holds).length = p.holds.length from List.length_map _, hl])
    · have hzo := hz.ok (by omega)
      have s4 : CallR cx 39 [.d Z.d, .d (.int .u32 oo), st nn] [] fun r S => r = .d (wv (sumP Z oo nn)) ∧ S = [] := supply_c hzo (by have := hz.nh; omega)
      rw [hs1] at s4
      have h1 := heldv_c (o := oo) (n := nn) (w := ww) hzo
      exact rs_st aw fc lc rc se he rd s1 ad (sup o t) hg ha (sup oo nn) (wv_add (hb0 nn oo).1 (hb0 nn oo).2 hU) s4 h1 (held oo nn ww) (hh hU hh1)

theorem U32.of_wf {n : Int} (h : (Lit.int .u32 n).wf = true) : 0 ≤ n ∧ n < 4294967296 := by
  simp [Lit.wf, IntKind.min, IntKind.max, IntKind.signed, IntKind.bits] at h
  omega
abbrev tySd : Ty := .st [.str, .int .u32, .str, .str, .int .u64, .int .u64, .st [.int .i64, .sl 32 (.arr 32 1 (.int .u8)), .sl 32 (.arr 32 1 (.int .u8)), .sl 32 (.arr 32 1 (.int .u8))]]
abbrev tyLt : Ty := .st [.int .u32, .int .u32, .int .u32, .str, .str, .str]
theorem routerSums_c (ys : List D) (hy : Ty.hass [tyPu, .int .u32, tySd, .str, tyLt] ys) : CallR cx 11 (ys.map AV.d) [] fun r S => r = .d (.bool true) ∧ S = [] := by
  obtain ⟨_, _, rfl, hl, _, _, rfl, ⟨here, rfl, _⟩, _, _, rfl, ⟨_, rfl, _, _, rfl, ⟨f, rfl, _⟩, _, _, rfl, ⟨o, rfl, wo⟩, _, _, rfl, ⟨t, rfl, _⟩, _, _, rfl, ⟨w, rfl, _⟩, _, _, rfl, ⟨k, rfl, wk⟩, _, _, rfl, ⟨zn, rfl, _⟩, _, _, rfl, ⟨_, rfl, _, _, rfl, ⟨zi, rfl, _⟩, _, _, rfl, ⟨zp, rfl, _⟩, _, _, rfl, ⟨zo, rfl, _⟩, _, _, rfl, ⟨zh, rfl, _⟩, rfl⟩, rfl⟩,
    _, _, rfl, ⟨remote, rfl, _⟩, _, _, rfl, ⟨_, rfl, _, _, rfl, ⟨lf, rfl, _⟩, _, _, rfl, ⟨q, rfl, _⟩, _, _, rfl, ⟨lt, rfl, _⟩, _, _, rfl, ⟨s, rfl, _⟩, _, _, rfl, ⟨r, rfl, _⟩, _, _, rfl, ⟨b, rfl, _⟩, rfl⟩, rfl⟩ := hy
  obtain ⟨p, rfl, hf⟩ := pu_of hl
  exact rsums_c hf (U32.of_wf wo) (U.of_wf wk)
end Go.Proofs.YtmdfpifcghmpfaaDoor
