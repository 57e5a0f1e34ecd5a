/- Purses: what each act does to the sums. No program in sight. Purses: the law PurseSums. -/
import Derived.Test.YtmdfpifcghmpfaaDoorV4
import Derived.Test.YtmdfpifcghmpfaaDoorV5
set_option linter.unusedVariables false
namespace Go.Proofs.YtmdfpifcghmpfaaDoor
open Go.Ab Go.RowKit

def sumP (p : Pu) (o : Int) (n : ByteArray) : Int := (amtsL o n p.holds).sum
def one (o : Int) (n : ByteArray) (o' : Int) (n' : ByteArray) (k : Int) : Int := if same2 o n o' n' = true then k else 0
theorem one_self {o k : Int} {n : ByteArray} : one o n o n k = k := by unfold one same2; simp
theorem one_add {o o' a b : Int} {n n' : ByteArray} : one o n o' n' (a + b) = one o n o' n' a + one o n o' n' b := by unfold one; split <;> omega
theorem one_sub {o o' a b : Int} {n n' : ByteArray} : one o n o' n' (a - b) = one o n o' n' a - one o n o' n' b := by unfold one; split <;> omega
theorem one_ne {o o' k : Int} {n n' : ByteArray} (h : o' ≠ o ∨ n' ≠ n) : one o n o' n' k = 0 := by
  unfold one
  rw [if_neg]
  unfold same2
  simp only [Bool.and_eq_true, decide_eq_true_eq]
  rintro ⟨rfl, rfl⟩
  rcases h with h | h <;> exact h rfl
theorem amts_cons {o : Int} {n : ByteArray} {h : Hd} {l : List Hd} : (amtsL o n (h :: l)).sum = one h.org h.token o n h.amount + (amtsL o n l).sum := by
  rw [amtsL]
  unfold one
  split
  · rw [List.sum_cons]
  · omega
theorem del_sum {o o' : Int} {n w n' : ByteArray} : ∀ {l : List Hd} {a : Hd}, lookP (hdP o n w) l = some a → (amtsL o' n' (delP (hdP o n w) l)).sum = (amtsL o' n' l).sum - one o n o' n' a.amount
  | [], _, h => by cases h
  | c :: l, a, h => by
    rw [lookP] at h
    rw [delP, amts_cons]
    split at h
    · rename_i h1
      injection h with h; subst h
      rw [if_pos h1, (hdP_iff.1 h1).1, (hdP_iff.1 h1).2.1]
      omega
    · rename_i h1
      rw [if_neg h1, amts_cons, del_sum h]
      omega
theorem put_sum {o o' : Int} {n w n' : ByteArray} {b : Hd} (hb : b.org = o ∧ b.token = n) : ∀ {l : List Hd} {a : Hd}, lookP (hdP o n w) l = some a → (amtsL o' n' (putP (hdP o n w) l b)).sum = (amtsL o' n' l).sum - one o n o' n' a.amount + one o n o' n' b.amount
  | [], _, h => by cases h
  | c :: l, a, h => by
    rw [lookP] at h
    rw [putP, amts_cons]
    split at h
    · rename_i h1
      injection h with h; subst h
      rw [if_pos h1, amts_cons, (hdP_iff.1 h1).1, (hdP_iff.1 h1).2.1, hb.1, hb.2]
      omega
    · rename_i h1
      rw [if_neg h1, amts_cons, put_sum hb h]
      omega
theorem ins_sum {o' : Int} {n' : ByteArray} {q : Hd → Bool} {b : Hd} : ∀ {l : List Hd}, (amtsL o' n' (insP q l b)).sum = (amtsL o' n' l).sum + one b.org b.token o' n' b.amount
  | [] => by rw [insP, amts_cons]; simp [amtsL]
  | c :: l => by
    rw [insP]
    split
    · rw [amts_cons, amts_cons]; omega
    · rw [amts_cons, amts_cons, ins_sum]; omega
theorem putH_sum {l : List Hd} {o o' k : Int} {n w n' : ByteArray} (hk : 0 ≤ k) : (amtsL o' n' (putH l o n w k)).sum = (amtsL o' n' l).sum - one o n o' n' (heldL l o n w) + one o n o' n' k := by
  unfold putH heldL
  cases hx : lookP (hdP o n w) l with
  | some a =>
    simp only
    split
    · rename_i h0
      subst h0
      rw [del_sum hx]
      unfold one
      split <;> omega
    · rw [put_sum (b := { a with amount := k }) ⟨(hdP_iff.1 (lookP_mem hx).2).1, (hdP_iff.1 (lookP_mem hx).2).2.1⟩ hx]
  | none =>
    simp only
    split
    · rw [ins_sum]
      simp only
      unfold one
      split <;> omega
    · rw [show k = 0 by omega]
      unfold one
      split <;> omega

theorem takeP_err {p : Pu} {o k : Int} {n w : ByteArray} (h : (takeP p o n w k).2 ≠ 0) : (takeP p o n w k).1 = p := by
  unfold takeP at *
  split
  · rfl
  rename_i t ht
  rw [ht] at h
  simp only at h
  split
  · rfl
  · rename_i hc; rw [if_neg hc] at h; exact absurd rfl h
theorem takeP_sum {p : Pu} {o k : Int} {n w : ByteArray} (h : (takeP p o n w k).2 = 0) (o' : Int) (n' : ByteArray) : sumP (takeP p o n w k).1 o' n' = sumP p o' n' - one o n o' n' k ∧ ∃ t, lookP (tkP o n) p.toks = some t := by
  unfold takeP at *
  cases ht : lookP (tkP o n) p.toks with
  | none => rw [ht] at h; cases h
  | some t =>
    rw [ht] at h
    simp only at h ⊢
    split
    · rename_i hc; rw [if_pos hc] at h; cases h
    · rename_i hc
      refine ⟨?_, t, rfl⟩
      unfold sumP
      simp only
      rw [putH_sum (by omega), heldV_L, one_sub]
      omega
theorem grantP_sum {p : Pu} {o k : Int} {n w : ByteArray} (hv : 0 ≤ heldV p o n w) (hk : 0 ≤ k) (h : (grantP p o n w k).2 = 0) (o' : Int) (n' : ByteArray) : sumP (grantP p o n w k).1 o' n' = sumP p o' n' + one o n o' n' k ∧ ∃ t, lookP (tkP o n) p.toks = some t := by
  unfold grantP at *
  cases ht : lookP (tkP o n) p.toks with
  | none => rw [ht] at h; cases h
  | some t =>
    rw [ht] at h
    simp only at h ⊢
    split
    · rename_i hc; rw [if_pos hc] at h; cases h
    rename_i hc
    rw [if_neg hc] at h
    split
    · refine ⟨?_, t, rfl⟩
      unfold sumP
      simp only
      rw [putH_sum (by omega), ← heldV_L, one_add]
      omega
    · rename_i hc2; rw [if_neg hc2] at h; cases h

theorem lockP_sum {p : Pu} {o k : Int} {n w : ByteArray} (h : (lockP p o n w k).2 = 0) : (∀ o' n', sumP (lockP p o n w k).1 o' n' = sumP p o' n' - one o n o' n' k) ∧
    ∃ t, lookP (tkP o n) p.toks = some t ∧ lookP (tkP o n) (lockP p o n w k).1.toks = some { t with locked := t.locked + k } := by
  unfold lockP at *
  by_cases he : (takeP p o n w k).2 ≠ 0
  · rw [if_pos he] at h; exact absurd h he
  rw [if_neg he] at h ⊢
  have he : (takeP p o n w k).2 = 0 := by omega
  obtain ⟨t, ht⟩ := (takeP_sum he 0 .empty).2
  rw [ht] at h ⊢
  simp only at h ⊢
  split
  · refine ⟨fun o' n' => (takeP_sum he o' n').1, t, rfl, ?_⟩
    exact look_putP ht (tkP_iff.2 (tkP_iff.1 (lookP_mem ht).2))
  · rename_i hc; rw [if_neg hc] at h; cases h
theorem burnP_sum {p : Pu} {o k : Int} {n w : ByteArray} (h : (burnP p o n w k).2 = 0) : (∀ o' n', sumP (burnP p o n w k).1 o' n' = sumP p o' n' - one o n o' n' k) ∧
    ∃ t, lookP (tkP o n) p.toks = some t ∧ lookP (tkP o n) (burnP p o n w k).1.toks = some { t with burned := t.burned + k } := by
  unfold burnP at *
  by_cases he : (takeP p o n w k).2 ≠ 0
  · rw [if_pos he] at h; exact absurd h he
  rw [if_neg he] at h ⊢
  have he : (takeP p o n w k).2 = 0 := by omega
  obtain ⟨t, ht⟩ := (takeP_sum he 0 .empty).2
  rw [ht] at h ⊢
  simp only at h ⊢
  split
  · refine ⟨fun o' n' => (takeP_sum he o' n').1, t, rfl, ?_⟩
    exact look_putP ht (tkP_iff.2 (tkP_iff.1 (lookP_mem ht).2))
  · rename_i hc; rw [if_neg hc] at h; cases h
theorem unlockP_sum {p : Pu} {o k : Int} {n w : ByteArray} (hv : 0 ≤ heldV p o n w) (hk : 0 ≤ k) (h : (unlockP p o n w k).2 = 0) : (∀ o' n', sumP (unlockP p o n w k).1 o' n' = sumP p o' n' + one o n o' n' k) ∧
    ∃ t, lookP (tkP o n) p.toks = some t ∧ lookP (tkP o n) (unlockP p o n w k).1.toks = some { t with unlocked := t.unlocked + k } ∧ k ≤ outL t := by
  unfold unlockP at *
  cases ht : lookP (tkP o n) p.toks with
  | none => rw [ht] at h; cases h
  | some t =>
    rw [ht] at h
    simp only at h ⊢
    by_cases h1 : outL t < k
    · rw [if_pos h1] at h; cases h
    rw [if_neg h1] at h ⊢
    by_cases h2 : t.unlocked + k < 18446744073709551616
    · rw [if_pos h2] at h ⊢
      by_cases he : (grantP p o n w k).2 ≠ 0
      · rw [if_pos he] at h; exact absurd h he
      rw [if_neg he] at h ⊢
      have he : (grantP p o n w k).2 = 0 := by omega
      exact ⟨fun o' n' => (grantP_sum hv hk he o' n').1, t, rfl, look_putP ht (tkP_iff.2 (tkP_iff.1 (lookP_mem ht).2)), by omega⟩
    · rw [if_neg h2] at h; cases h
theorem mintP_sum {p : Pu} {o k : Int} {n w : ByteArray} (hv : 0 ≤ heldV p o n w) (hk : 0 ≤ k) (h : (mintP p o n w k).2 = 0) : (∀ o' n', sumP (mintP p o n w k).1 o' n' = sumP p o' n' + one o n o' n' k) ∧
    ∃ t, lookP (tkP o n) p.toks = some t ∧ lookP (tkP o n) (mintP p o n w k).1.toks = some { t with minted := t.minted + k } ∧ outM t + k ≤ t.cap := by
  unfold mintP at *
  cases ht : lookP (tkP o n) p.toks with
  | none => rw [ht] at h; cases h
  | some t =>
    rw [ht] at h
    simp only at h ⊢
    by_cases h1 : t.minted + k < 18446744073709551616
    · rw [if_pos h1] at h ⊢
      by_cases h2 : outM t + k < 18446744073709551616
      · rw [if_pos h2] at h ⊢
        by_cases h3 : outM t + k > t.cap
        · rw [if_pos h3] at h; cases h
        rw [if_neg h3] at h ⊢
        by_cases he : (grantP p o n w k).2 ≠ 0
        · rw [if_pos he] at h; exact absurd h he
        rw [if_neg he] at h ⊢
        have he : (grantP p o n w k).2 = 0 := by omega
        exact ⟨fun o' n' => (grantP_sum hv hk he o' n').1, t, rfl, look_putP ht (tkP_iff.2 (tkP_iff.1 (lookP_mem ht).2)), by omega⟩
      · rw [if_neg h2] at h; cases h
    · rw [if_neg h1] at h; cases h
theorem enlistP_sum {p : Pu} {o k : Int} {n : ByteArray} : (enlistP p o n k).1.holds = p.holds := by
  unfold enlistP
  split
  · rfl
  split
  · rfl
  split <;> rfl
theorem moveP_sum {p : Pu} {o k : Int} {n a b : ByteArray} (hv : ∀ w, 0 ≤ heldV (takeP p o n a k).1 o n w) (hk : 0 ≤ k) (h : (moveP p o n a b k).2 = 0) (o' : Int) (n' : ByteArray) : sumP (moveP p o n a b k).1 o' n' = sumP p o' n' := by
  unfold moveP at *
  by_cases he : (takeP p o n a k).2 ≠ 0
  · rw [if_pos he] at h; exact absurd h he
  rw [if_neg he] at h ⊢
  have he : (takeP p o n a k).2 = 0 := by omega
  by_cases hg : (grantP (takeP p o n a k).1 o n b k).2 ≠ 0
  · rw [if_pos hg] at h; exact absurd h hg
  rw [if_neg hg] at h ⊢
  have hg : (grantP (takeP p o n a k).1 o n b k).2 = 0 := by omega
  split
  · rfl
  · simp only
    rw [(grantP_sum (hv b) hk hg o' n').1, (takeP_sum he o' n').1]
    omega

theorem grantP_err {p : Pu} {o k : Int} {n w : ByteArray} (h : (grantP p o n w k).2 ≠ 0) : (grantP p o n w k).1 = p := by
  unfold grantP at *
  split
  · rfl
  rename_i t ht
  rw [ht] at h
  simp only at h
  split
  · rfl
  rename_i hc
  rw [if_neg hc] at h
  split
  · rename_i hc2; rw [if_pos hc2] at h; exact absurd rfl h
  · rfl
theorem doP_err {p : Pu} {q o k : Int} {n a b : ByteArray} (h : (doP p q o n a b k).2 ≠ 0) : (doP p q o n a b k).1 = p := by
  unfold doP at *
  repeat' split
  · rename_i hq
    rw [if_pos hq] at h
    unfold enlistP at *
    repeat' split
    · rfl
    · rfl
    · rfl
    · rename_i h1 _ h2 h3; rw [if_neg h1, h2] at h; simp only at h; rw [if_neg h3] at h; exact absurd rfl h
  · rename_i h0 hq
    rw [if_neg h0, if_pos hq] at h
    exact grantP_err h
  · rename_i h0 h1 hq
    rw [if_neg h0, if_neg h1, if_pos hq] at h
    unfold moveP at *
    repeat' split
    · rfl
    · rfl
    · rfl
    · rename_i h2 h3 h4; rw [if_neg h2, if_neg h3, if_neg h4] at h; exact absurd rfl h
  · rename_i h0 h1 h2 hq
    rw [if_neg h0, if_neg h1, if_neg h2, if_pos hq] at h
    unfold lockP at *
    repeat' split
    · rfl
    · rfl
    · rename_i h2 _ _ h3 h4; rw [if_neg h2, h3] at h; simp only at h; rw [if_pos h4] at h; exact absurd rfl h
    · rfl
  · rename_i h0 h1 h2 h3 hq
    rw [if_neg h0, if_neg h1, if_neg h2, if_neg h3, if_pos hq] at h
    unfold unlockP at *
    repeat' split
    · rfl
    · rfl
    · rfl
    · rename_i _ _ h2 h3 h4 h5; rw [h2] at h; simp only at h; rw [if_neg h3, if_pos h4, if_neg h5] at h; exact absurd rfl h
    · rfl
  · rename_i h0 h1 h2 h3 h4 hq
    rw [if_neg h0, if_neg h1, if_neg h2, if_neg h3, if_neg h4, if_pos hq] at h
    unfold mintP at *
    repeat' split
    · rfl
    · rfl
    · rfl
    · rename_i _ _ h2 h3 h4 h5 h6; rw [h2] at h; simp only at h; rw [if_pos h3, if_pos h4, if_neg h5, if_neg h6] at h; exact absurd rfl h
    · rfl
    · rfl
  · rename_i h0 h1 h2 h3 h4 h5 hq
    rw [if_neg h0, if_neg h1, if_neg h2, if_neg h3, if_neg h4, if_neg h5, if_pos hq] at h
    unfold burnP at *
    repeat' split
    · rfl
    · rfl
    · rename_i h2 _ _ h3 h4; rw [if_neg h2, h3] at h; simp only at h; rw [if_pos h4] at h; exact absurd rfl h
    · rfl
  · rfl
end Go.Proofs.YtmdfpifcghmpfaaDoor

set_option linter.unusedVariables false
namespace Go.Proofs.YtmdfpifcghmpfaaDoor
open Go.Ab Go.RowKit

theorem sumP_bounds {p : Pu} {N : Nat} (hp : p.fine N) (hN : N ≤ 150) (o : Int) (n : ByteArray) : 0 ≤ sumP p o n ∧ sumP p o n ≤ 3689348814741910323200 := by
  have h1 := sum_bounds (amts_U (o := o) (n := n) hp.h)
  have h2 := amts_len (o := o) (n := n) p.holds
  have h3 := hp.nh
  unfold sumP
  omega
theorem known_of {p : Pu} {o : Int} {n : ByteArray} {t : Tk} (hp : p.ok) (h : lookP (tkP o n) p.toks = some t) : CallR cx 40 [.d p.d, .d (.int .u32 o), st n] [] fun r S => r = .tup [.d t.d, bo true] ∧ S = [] := by
  have := known_c (o := o) (n := n) hp
  unfold knownP at this
  rw [h] at this
  exact this
theorem wrap_back {x k : Int} (hk : U k) : IntKind.u64.wrap (x + k - x) = k := by rw [show x + k - x = k by omega]; exact wrapU hk

theorem psums_c {p : Pu} (hf : p.fits) {d o k oo : Int} {n a b cc : ByteArray} (hk : U k) : CallR cx 9 [.d p.d, .d (actP d o n a b k), .d (.int .u32 oo), st cc] [] fun r S => r = bo true ∧ S = [] := by
  have aw := pawake_c
  have fc0 := pfew_c (p := p)
  have sc0 := short_c (d := d) (o := o) (k := k) (n := n) (a := a) (b := b)
  by_cases hF : pfewP p
  case neg =>
    exact sums_few aw (fc0.mono fun r S ⟨x, h1, h2, h3⟩ => ⟨by cases x with | false => exact h1 | true => exact absurd (h2 rfl) hF, h3⟩)
  have fc := fc0.mono fun r S ⟨x, h1, h2, h3⟩ => (⟨x, h1, h3⟩ : ∃ b, r = bo b ∧ S = [])
  by_cases hG : n.size ≤ 200 ∧ a.size ≤ 200 ∧ b.size ≤ 200
  case neg =>
    exact sums_short aw fc (sc0.mono fun r S ⟨x, h1, h2, h3⟩ => ⟨by cases x with | false => exact h1 | true => exact absurd (h2 rfl) hG, h3⟩)
  have sc := sc0.mono fun r S ⟨x, h1, h2, h3⟩ => (⟨x, h1, h3⟩ : ∃ b, r = bo b ∧ S = [])
  have hfi := fine_of hf hF
  have hpo := hfi.ok (by omega)
  obtain ⟨hn, ha, hb⟩ := hG
  have rc := prightL_c hpo
  cases hR : rightPu p with
  | false =>
    rw [hR] at rc
    exact sums_right aw fc sc rc
  | true =>
  rw [hR] at rc
  have hr := right_of hR
  have dc := pdo_c hfi (by omega) hn ha hb hk (d := d) (o := o)
  have hz := doP_fine hfi (by omega) hn ha hk hb (q := Int.tmod d 8) (o := o)
  have her := doP_err (p := p) (q := Int.tmod d 8) (o := o) (k := k) (n := n) (a := a) (b := b)
  have s1 := supply_c (o := o) (n := n) hpo (by have := hfi.nh; omega)
  have b1 := sumP_bounds hfi (by omega) o n
  have hql := Int.tmod_lt_of_pos d (show (0 : Int) < 8 by decide)
  have hqg := Int.lt_tmod_of_pos d (show (0 : Int) < 8 by decide)
  have hhv := fun w => heldV_U hpo o n w
  generalize hq : Int.tmod d 8 = q at *
  by_cases he : (doP p q o n a b k).2 ≠ 0
  · rw [her he] at dc
    have sm := psame_c hpo
    by_cases q0 : q < 0
    · exact sums_er_neg (T2 := []) (H2 := []) (tn := n) aw fc sc rc he hq q0 dc s1 sm
    · exact sums_er_pos (T2 := []) (H2 := []) (tn := n) aw fc sc rc he hq q0 dc s1 sm
  have he : (doP p q o n a b k).2 = 0 := by omega
  rw [he] at dc
  have hzo := hz.ok (by omega)
  have s2 := supply_c (o := o) (n := n) hzo (by have := hz.nh; omega)
  have b2 := sumP_bounds hz (by omega) o n
  have s3 := supply_c (o := oo) (n := cc) hzo (by have := hz.nh; omega)
  have s4 := supply_c (o := oo) (n := cc) hpo (by have := hfi.nh; omega)
  have ad := wv_add b1.1 b1.2 hk
  have ae := wv_add b2.1 b2.2 hk
  have kn := fun t h => known_of (o := o) (n := n) (t := t) hpo h
  have km := fun t h => known_of (o := o) (n := n) (t := t) hzo h
  have hcase : q = 0 ∨ q = 1 ∨ q = -1 ∨ q = 2 ∨ q = -2 ∨ q = 3 ∨ q = -3 ∨ q = 4 ∨ q = -4 ∨ q = 5 ∨ q = -5 ∨ q = 6 ∨ q = -6 ∨ q = 7 ∨ q = -7 := by omega
  rcases hcase with rfl | rfl | rfl | rfl | rfl | rfl | rfl | rfl | rfl | rfl | rfl | rfl | rfl | rfl | rfl
  · have hd : doP p (0) o n a b k = enlistP p o n k := by unfold doP; rw [if_pos (by decide)]
    rw [hd] at he dc s2 s3 b2 ae km hz hzo
    rw [enlistP_sum] at s2
    exact sums_no_0 (tn := n) aw fc sc rc hq dc s1 s2
  · have hd : doP p (1) o n a b k = grantP p o n a k := by unfold doP; rw [if_neg (by decide), if_pos (by decide)]
    rw [hd] at he dc s2 s3 b2 ae km hz hzo
    obtain ⟨hS, t, ht⟩ := (⟨fun o' n' => (grantP_sum (hhv a).1 hk.1 he o' n').1, (grantP_sum (hhv a).1 hk.1 he o n).2⟩ : (∀ o' n', sumP (grantP p o n a k).1 o' n' = sumP p o' n' + one o n o' n' k) ∧ ∃ t, lookP (tkP o n) p.toks = some t)
    have hx : lookP (tkP o n) (grantP p o n a k).1.toks = some t := by rw [grantP_toks]; exact ht
    have hSo := hS o n
    rw [one_self] at hSo
    have so : (oo ≠ o ∨ cc ≠ n) → sumP (grantP p o n a k).1 oo cc = sumP p oo cc := fun h => by rw [hS oo cc, one_ne h]; omega
    have tr := hr.t t (lookP_mem ht).1
    obtain ⟨to, tn, ta, l, u, m, b'⟩ := t
    simp only at tr
    have hup : deq (wv (sumP (grantP p o n a k).1 o n)) (wv (sumP p o n + k)) = true := by rw [hSo]; exact deq_self _
    have hdn : deq (wv (sumP p o n)) (wv (sumP (grantP p o n a k).1 o n + k)) = deq (wv (sumP p o n)) (wv (sumP (grantP p o n a k).1 o n + k)) := by rfl
    have knt := kn _ ht
    have kmx := km _ hx
    refine sums_1 (B1 := true) (mi := 0) (lo := 0) (lc := 0) (uc := 0) (mc := 0) (bc := 0) aw fc sc rc hq dc s1 s2 ad ae knt kmx hup hdn (z0 := sumP p oo cc / 18446744073709551616 % 18446744073709551616) (z1 := sumP p oo cc % 18446744073709551616) fun h => ⟨?_, s4⟩
    have e := so h
    unfold sumP at e
    rw [e] at s3
    exact s3
  · have hd : doP p (-1) o n a b k = grantP p o n a k := by unfold doP; rw [if_neg (by decide), if_pos (by decide)]
    rw [hd] at he dc s2 s3 b2 ae km hz hzo
    obtain ⟨hS, t, ht⟩ := (⟨fun o' n' => (grantP_sum (hhv a).1 hk.1 he o' n').1, (grantP_sum (hhv a).1 hk.1 he o n).2⟩ : (∀ o' n', sumP (grantP p o n a k).1 o' n' = sumP p o' n' + one o n o' n' k) ∧ ∃ t, lookP (tkP o n) p.toks = some t)
    have hx : lookP (tkP o n) (grantP p o n a k).1.toks = some t := by rw [grantP_toks]; exact ht
    have hSo := hS o n
    rw [one_self] at hSo
    have so : (oo ≠ o ∨ cc ≠ n) → sumP (grantP p o n a k).1 oo cc = sumP p oo cc := fun h => by rw [hS oo cc, one_ne h]; omega
    have tr := hr.t t (lookP_mem ht).1
    obtain ⟨to, tn, ta, l, u, m, b'⟩ := t
    simp only at tr
    have hup : deq (wv (sumP (grantP p o n a k).1 o n)) (wv (sumP p o n + k)) = true := by rw [hSo]; exact deq_self _
    have hdn : deq (wv (sumP p o n)) (wv (sumP (grantP p o n a k).1 o n + k)) = deq (wv (sumP p o n)) (wv (sumP (grantP p o n a k).1 o n + k)) := by rfl
    have knt := kn _ ht
    have kmx := km _ hx
    refine sums_m1 (B1 := true) (mi := 0) (lo := 0) (lc := 0) (uc := 0) (mc := 0) (bc := 0) aw fc sc rc hq dc s1 s2 ad ae knt kmx hup hdn (z0 := sumP p oo cc / 18446744073709551616 % 18446744073709551616) (z1 := sumP p oo cc % 18446744073709551616) fun h => ⟨?_, s4⟩
    have e := so h
    unfold sumP at e
    rw [e] at s3
    exact s3
  · have hd : doP p (2) o n a b k = moveP p o n a b k := by unfold doP; rw [if_neg (by decide), if_neg (by decide), if_pos (by decide)]
    rw [hd] at he dc s2 s3 b2 ae km hz hzo
    have hS := moveP_sum (p := p) (o := o) (n := n) (a := a) (b := b) (fun w => (heldV_U ((takeP_fine hfi (by omega) hn ha hk).ok (by omega)) o n w).1) hk.1 he o n
    unfold sumP at hS
    rw [hS] at s2
    exact sums_no_2 (tn := n) aw fc sc rc hq dc s1 s2
  · have hd : doP p (-2) o n a b k = moveP p o n a b k := by unfold doP; rw [if_neg (by decide), if_neg (by decide), if_pos (by decide)]
    rw [hd] at he dc s2 s3 b2 ae km hz hzo
    have hS := moveP_sum (p := p) (o := o) (n := n) (a := a) (b := b) (fun w => (heldV_U ((takeP_fine hfi (by omega) hn ha hk).ok (by omega)) o n w).1) hk.1 he o n
    unfold sumP at hS
    rw [hS] at s2
    exact sums_no_m2 (tn := n) aw fc sc rc hq dc s1 s2
  · have hd : doP p (3) o n a b k = lockP p o n a k := by unfold doP; rw [if_neg (by decide), if_neg (by decide), if_neg (by decide), if_pos (by decide)]
    rw [hd] at he dc s2 s3 b2 ae km hz hzo
    obtain ⟨hS, t, ht, hx⟩ := lockP_sum he
    have hSo := hS o n
    rw [one_self] at hSo
    have so : (oo ≠ o ∨ cc ≠ n) → sumP (lockP p o n a k).1 oo cc = sumP p oo cc := fun h => by rw [hS oo cc, one_ne h]; omega
    have tr := hr.t t (lookP_mem ht).1
    obtain ⟨to, tn, ta, l, u, m, b'⟩ := t
    simp only at tr
    have hup : deq (wv (sumP (lockP p o n a k).1 o n)) (wv (sumP p o n + k)) = deq (wv (sumP (lockP p o n a k).1 o n)) (wv (sumP p o n + k)) := by rfl
    have hdn : deq (wv (sumP p o n)) (wv (sumP (lockP p o n a k).1 o n + k)) = true := by rw [hSo, show sumP p o n - k + k = sumP p o n by omega]; exact deq_self _
    have knt := kn _ ht
    have kmx := km _ hx
    refine sums_3 (B2 := true) (mi := 0) (lo := 0) aw fc sc rc hq dc s1 s2 ad ae knt kmx hup hdn (wrap_back hk) rfl (z0 := sumP p oo cc / 18446744073709551616 % 18446744073709551616) (z1 := sumP p oo cc % 18446744073709551616) fun h => ⟨?_, s4⟩
    have e := so h
    unfold sumP at e
    rw [e] at s3
    exact s3
  · have hd : doP p (-3) o n a b k = lockP p o n a k := by unfold doP; rw [if_neg (by decide), if_neg (by decide), if_neg (by decide), if_pos (by decide)]
    rw [hd] at he dc s2 s3 b2 ae km hz hzo
    obtain ⟨hS, t, ht, hx⟩ := lockP_sum he
    have hSo := hS o n
    rw [one_self] at hSo
    have so : (oo ≠ o ∨ cc ≠ n) → sumP (lockP p o n a k).1 oo cc = sumP p oo cc := fun h => by rw [hS oo cc, one_ne h]; omega
    have tr := hr.t t (lookP_mem ht).1
    obtain ⟨to, tn, ta, l, u, m, b'⟩ := t
    simp only at tr
    have hup : deq (wv (sumP (lockP p o n a k).1 o n)) (wv (sumP p o n + k)) = deq (wv (sumP (lockP p o n a k).1 o n)) (wv (sumP p o n + k)) := by rfl
    have hdn : deq (wv (sumP p o n)) (wv (sumP (lockP p o n a k).1 o n + k)) = true := by rw [hSo, show sumP p o n - k + k = sumP p o n by omega]; exact deq_self _
    have knt := kn _ ht
    have kmx := km _ hx
    refine sums_m3 (B2 := true) (mi := 0) (lo := 0) aw fc sc rc hq dc s1 s2 ad ae knt kmx hup hdn (wrap_back hk) rfl (z0 := sumP p oo cc / 18446744073709551616 % 18446744073709551616) (z1 := sumP p oo cc % 18446744073709551616) fun h => ⟨?_, s4⟩
    have e := so h
    unfold sumP at e
    rw [e] at s3
    exact s3
  · have hd : doP p (4) o n a b k = unlockP p o n a k := by unfold doP; rw [if_neg (by decide), if_neg (by decide), if_neg (by decide), if_neg (by decide), if_pos (by decide)]
    rw [hd] at he dc s2 s3 b2 ae km hz hzo
    obtain ⟨hS, t, ht, hx, hoL⟩ := unlockP_sum (hhv a).1 hk.1 he
    have hSo := hS o n
    rw [one_self] at hSo
    have so : (oo ≠ o ∨ cc ≠ n) → sumP (unlockP p o n a k).1 oo cc = sumP p oo cc := fun h => by rw [hS oo cc, one_ne h]; omega
    have tr := hr.t t (lookP_mem ht).1
    obtain ⟨to, tn, ta, l, u, m, b'⟩ := t
    simp only at tr
    have hle : u + k ≤ l := by unfold outL at hoL; simp only at hoL; rw [if_neg (by omega)] at hoL; omega
    have hup : deq (wv (sumP (unlockP p o n a k).1 o n)) (wv (sumP p o n + k)) = true := by rw [hSo]; exact deq_self _
    have hdn : deq (wv (sumP p o n)) (wv (sumP (unlockP p o n a k).1 o n + k)) = deq (wv (sumP p o n)) (wv (sumP (unlockP p o n a k).1 o n + k)) := by rfl
    have knt := kn _ ht
    have kmx := km _ hx
    refine sums_4 (B1 := true) (mi := 0) (lo := 0) aw fc sc rc hq dc s1 s2 ad ae knt kmx hup hdn (wrap_back hk) hle rfl (z0 := sumP p oo cc / 18446744073709551616 % 18446744073709551616) (z1 := sumP p oo cc % 18446744073709551616) fun h => ⟨?_, s4⟩
    have e := so h
    unfold sumP at e
    rw [e] at s3
    exact s3
  · have hd : doP p (-4) o n a b k = unlockP p o n a k := by unfold doP; rw [if_neg (by decide), if_neg (by decide), if_neg (by decide), if_neg (by decide), if_pos (by decide)]
    rw [hd] at he dc s2 s3 b2 ae km hz hzo
    obtain ⟨hS, t, ht, hx, hoL⟩ := unlockP_sum (hhv a).1 hk.1 he
    have hSo := hS o n
    rw [one_self] at hSo
    have so : (oo ≠ o ∨ cc ≠ n) → sumP (unlockP p o n a k).1 oo cc = sumP p oo cc := fun h => by rw [hS oo cc, one_ne h]; omega
    have tr := hr.t t (lookP_mem ht).1
    obtain ⟨to, tn, ta, l, u, m, b'⟩ := t
    simp only at tr
    have hle : u + k ≤ l := by unfold outL at hoL; simp only at hoL; rw [if_neg (by omega)] at hoL; omega
    have hup : deq (wv (sumP (unlockP p o n a k).1 o n)) (wv (sumP p o n + k)) = true := by rw [hSo]; exact deq_self _
    have hdn : deq (wv (sumP p o n)) (wv (sumP (unlockP p o n a k).1 o n + k)) = deq (wv (sumP p o n)) (wv (sumP (unlockP p o n a k).1 o n + k)) := by rfl
    have knt := kn _ ht
    have kmx := km _ hx
    refine sums_m4 (B1 := true) (mi := 0) (lo := 0) aw fc sc rc hq dc s1 s2 ad ae knt kmx hup hdn (wrap_back hk) hle rfl (z0 := sumP p oo cc / 18446744073709551616 % 18446744073709551616) (z1 := sumP p oo cc % 18446744073709551616) fun h => ⟨?_, s4⟩
    have e := so h
    unfold sumP at e
    rw [e] at s3
    exact s3
  · have hd : doP p (5) o n a b k = mintP p o n a k := by unfold doP; rw [if_neg (by decide), if_neg (by decide), if_neg (by decide), if_neg (by decide), if_neg (by decide), if_pos (by decide)]
    rw [hd] at he dc s2 s3 b2 ae km hz hzo
    obtain ⟨hS, t, ht, hx, hoM⟩ := mintP_sum (hhv a).1 hk.1 he
    have hSo := hS o n
    rw [one_self] at hSo
    have so : (oo ≠ o ∨ cc ≠ n) → sumP (mintP p o n a k).1 oo cc = sumP p oo cc := fun h => by rw [hS oo cc, one_ne h]; omega
    have tr := hr.t t (lookP_mem ht).1
    have hto := hzo.t _ (lookP_mem hx).1
    have ou := out_c hto
    obtain ⟨to, tn, ta, l, u, m, b'⟩ := t
    simp only at tr
    have hle : outM ⟨to, tn, ta, l, u, m + k, b'⟩ ≤ ta := by unfold outM at hoM ⊢; simp only at hoM ⊢; rw [if_neg (by omega)] at hoM; have := hk.1; rw [if_neg (by omega)]; omega
    have hup : deq (wv (sumP (mintP p o n a k).1 o n)) (wv (sumP p o n + k)) = true := by rw [hSo]; exact deq_self _
    have hdn : deq (wv (sumP p o n)) (wv (sumP (mintP p o n a k).1 o n + k)) = deq (wv (sumP p o n)) (wv (sumP (mintP p o n a k).1 o n + k)) := by rfl
    have knt := kn _ ht
    have kmx := km _ hx
    refine sums_5 (B1 := true) aw fc sc rc hq dc s1 s2 ad ae knt kmx hup hdn ou (wrap_back hk) hle rfl (z0 := sumP p oo cc / 18446744073709551616 % 18446744073709551616) (z1 := sumP p oo cc % 18446744073709551616) fun h => ⟨?_, s4⟩
    have e := so h
    unfold sumP at e
    rw [e] at s3
    exact s3
  · have hd : doP p (-5) o n a b k = mintP p o n a k := by unfold doP; rw [if_neg (by decide), if_neg (by decide), if_neg (by decide), if_neg (by decide), if_neg (by decide), if_pos (by decide)]
    rw [hd] at he dc s2 s3 b2 ae km hz hzo
    obtain ⟨hS, t, ht, hx, hoM⟩ := mintP_sum (hhv a).1 hk.1 he
    have hSo := hS o n
    rw [one_self] at hSo
    have so : (oo ≠ o ∨ cc ≠ n) → sumP (mintP p o n a k).1 oo cc = sumP p oo cc := fun h => by rw [hS oo cc, one_ne h]; omega
    have tr := hr.t t (lookP_mem ht).1
    have hto := hzo.t _ (lookP_mem hx).1
    have ou := out_c hto
    obtain ⟨to, tn, ta, l, u, m, b'⟩ := t
    simp only at tr
    have hle : outM ⟨to, tn, ta, l, u, m + k, b'⟩ ≤ ta := by unfold outM at hoM ⊢; simp only at hoM ⊢; rw [if_neg (by omega)] at hoM; have := hk.1; rw [if_neg (by omega)]; omega
    have hup : deq (wv (sumP (mintP p o n a k).1 o n)) (wv (sumP p o n + k)) = true := by rw [hSo]; exact deq_self _
    have hdn : deq (wv (sumP p o n)) (wv (sumP (mintP p o n a k).1 o n + k)) = deq (wv (sumP p o n)) (wv (sumP (mintP p o n a k).1 o n + k)) := by rfl
    have knt := kn _ ht
    have kmx := km _ hx
    refine sums_m5 (B1 := true) aw fc sc rc hq dc s1 s2 ad ae knt kmx hup hdn ou (wrap_back hk) hle rfl (z0 := sumP p oo cc / 18446744073709551616 % 18446744073709551616) (z1 := sumP p oo cc % 18446744073709551616) fun h => ⟨?_, s4⟩
    have e := so h
    unfold sumP at e
    rw [e] at s3
    exact s3
  · have hd : doP p (6) o n a b k = burnP p o n a k := by unfold doP; rw [if_neg (by decide), if_neg (by decide), if_neg (by decide), if_neg (by decide), if_neg (by decide), if_neg (by decide), if_pos (by decide)]
    rw [hd] at he dc s2 s3 b2 ae km hz hzo
    obtain ⟨hS, t, ht, hx⟩ := burnP_sum he
    have hSo := hS o n
    rw [one_self] at hSo
    have so : (oo ≠ o ∨ cc ≠ n) → sumP (burnP p o n a k).1 oo cc = sumP p oo cc := fun h => by rw [hS oo cc, one_ne h]; omega
    have tr := hr.t t (lookP_mem ht).1
    obtain ⟨to, tn, ta, l, u, m, b'⟩ := t
    simp only at tr
    have hup : deq (wv (sumP (burnP p o n a k).1 o n)) (wv (sumP p o n + k)) = deq (wv (sumP (burnP p o n a k).1 o n)) (wv (sumP p o n + k)) := by rfl
    have hdn : deq (wv (sumP p o n)) (wv (sumP (burnP p o n a k).1 o n + k)) = true := by rw [hSo, show sumP p o n - k + k = sumP p o n by omega]; exact deq_self _
    have knt := kn _ ht
    have kmx := km _ hx
    refine sums_6 (B2 := true) (mi := 0) (lo := 0) aw fc sc rc hq dc s1 s2 ad ae knt kmx hup hdn (wrap_back hk) rfl (z0 := sumP p oo cc / 18446744073709551616 % 18446744073709551616) (z1 := sumP p oo cc % 18446744073709551616) fun h => ⟨?_, s4⟩
    have e := so h
    unfold sumP at e
    rw [e] at s3
    exact s3
  · have hd : doP p (-6) o n a b k = burnP p o n a k := by unfold doP; rw [if_neg (by decide), if_neg (by decide), if_neg (by decide), if_neg (by decide), if_neg (by decide), if_neg (by decide), if_pos (by decide)]
    rw [hd] at he dc s2 s3 b2 ae km hz hzo
    obtain ⟨hS, t, ht, hx⟩ := burnP_sum he
    have hSo := hS o n
    rw [one_self] at hSo
    have so : (oo ≠ o ∨ cc ≠ n) → sumP (burnP p o n a k).1 oo cc = sumP p oo cc := fun h => by rw [hS oo cc, one_ne h]; omega
    have tr := hr.t t (lookP_mem ht).1
    obtain ⟨to, tn, ta, l, u, m, b'⟩ := t
    simp only at tr
    have hup : deq (wv (sumP (burnP p o n a k).1 o n)) (wv (sumP p o n + k)) = deq (wv (sumP (burnP p o n a k).1 o n)) (wv (sumP p o n + k)) := by rfl
    have hdn : deq (wv (sumP p o n)) (wv (sumP (burnP p o n a k).1 o n + k)) = true := by rw [hSo, show sumP p o n - k + k = sumP p o n by omega]; exact deq_self _
    have knt := kn _ ht
    have kmx := km _ hx
    refine sums_m6 (B2 := true) (mi := 0) (lo := 0) aw fc sc rc hq dc s1 s2 ad ae knt kmx hup hdn (wrap_back hk) rfl (z0 := sumP p oo cc / 18446744073709551616 % 18446744073709551616) (z1 := sumP p oo cc % 18446744073709551616) fun h => ⟨?_, s4⟩
    have e := so h
    unfold sumP at e
    rw [e] at s3
    exact s3
  · have hd : doP p (7) o n a b k = (p, (0 : Int)) := by unfold doP; rw [if_neg (by decide), if_neg (by decide), if_neg (by decide), if_neg (by decide), if_neg (by decide), if_neg (by decide), if_neg (by decide)]
    rw [hd] at he dc s2 s3 b2 ae km hz hzo
    exact sums_no_7 (tn := n) aw fc sc rc hq dc s1 s2
  · have hd : doP p (-7) o n a b k = (p, (0 : Int)) := by unfold doP; rw [if_neg (by decide), if_neg (by decide), if_neg (by decide), if_neg (by decide), if_neg (by decide), if_neg (by decide), if_neg (by decide)]
    rw [hd] at he dc s2 s3 b2 ae km hz hzo
    exact sums_no_m7 (tn := n) aw fc sc rc hq dc s1 s2

theorem purseSums_c (ys : List D) (hy : Ty.hass [tyPu, tyActP, .int .u32, .str] ys) : CallR cx 9 (ys.map AV.d) [] fun r S => r = .d (.bool true) ∧ S = [] := by
  obtain ⟨_, _, rfl, hl, _, _, rfl, ⟨_, rfl, _, _, rfl, ⟨d, rfl, _⟩, _, _, rfl, ⟨o, rfl, _⟩, _, _, rfl, ⟨n, rfl, _⟩, _, _, rfl, ⟨a, rfl, _⟩, _, _, rfl, ⟨b, rfl, _⟩, _, _, rfl, ⟨k, rfl, wk⟩, rfl⟩, _, _, rfl, ⟨oo, rfl, _⟩, _, _, rfl, ⟨cc, rfl, _⟩, rfl⟩ := hy
  obtain ⟨p, rfl, hf⟩ := pu_of hl
  exact psums_c hf (U.of_wf wk)
end Go.Proofs.YtmdfpifcghmpfaaDoor
