/- Purses: what is taken and granted, locked, unlocked, minted, burned: the program's contracts. -/
import Derived.Test.YtmdfpifcghmpfaaDoorQ6
namespace Go.Proofs.YtmdfpifcghmpfaaDoor
open Go.Ab Go.RowKit


theorem heldV_U {p : Pu} (hp : p.ok) (o : Int) (n w : ByteArray) : U (heldV p o n w) := by
  unfold heldV
  cases h : lookP (hdP o n w) p.holds with
  | none => unfold U; simp only; omega
  | some a => exact (hp.h a (lookP_mem h).1).1

def takeP (p : Pu) (o : Int) (n w : ByteArray) (k : Int) : Pu × Int := match lookP (tkP o n) p.toks with
  | none => (p, 40)
  | some _ => if heldV p o n w < k then (p, 11) else (⟨p.toks, putH p.holds o n w (heldV p o n w - k)⟩, 0)
def grantP (p : Pu) (o : Int) (n w : ByteArray) (k : Int) : Pu × Int := match lookP (tkP o n) p.toks with
  | none => (p, 40)
  | some _ => if rightT w = false then (p, 7) else if heldV p o n w + k < 18446744073709551616 then (⟨p.toks, putH p.holds o n w (heldV p o n w + k)⟩, 0) else (p, 10)
def outM (t : Tk) : Int := if t.minted < t.burned then 0 else t.minted - t.burned
def outL (t : Tk) : Int := if t.locked < t.unlocked then 0 else t.locked - t.unlocked
def lockP (p : Pu) (o : Int) (n w : ByteArray) (k : Int) : Pu × Int :=
  if (takeP p o n w k).2 ≠ 0 then (p, (takeP p o n w k).2) else match lookP (tkP o n) p.toks with
    | none => (p, 0)
    | some t => if t.locked + k < 18446744073709551616 then (⟨putP (tkP o n) p.toks { t with locked := t.locked + k }, (takeP p o n w k).1.holds⟩, 0) else (p, 10)
def burnP (p : Pu) (o : Int) (n w : ByteArray) (k : Int) : Pu × Int :=
  if (takeP p o n w k).2 ≠ 0 then (p, (takeP p o n w k).2) else match lookP (tkP o n) p.toks with
    | none => (p, 0)
    | some t => if t.burned + k < 18446744073709551616 then (⟨putP (tkP o n) p.toks { t with burned := t.burned + k }, (takeP p o n w k).1.holds⟩, 0) else (p, 10)
def unlockP (p : Pu) (o : Int) (n w : ByteArray) (k : Int) : Pu × Int := match lookP (tkP o n) p.toks with
  | none => (p, 40)
  | some t => if outL t < k then (p, 11) else if t.unlocked + k < 18446744073709551616 then
      if (grantP p o n w k).2 ≠ 0 then (p, (grantP p o n w k).2) else (⟨putP (tkP o n) p.toks { t with unlocked := t.unlocked + k }, (grantP p o n w k).1.holds⟩, 0)
    else (p, 10)
def mintP (p : Pu) (o : Int) (n w : ByteArray) (k : Int) : Pu × Int := match lookP (tkP o n) p.toks with
  | none => (p, 40)
  | some t => if t.minted + k < 18446744073709551616 then if outM t + k < 18446744073709551616 then if outM t + k > t.cap then (p, 12) else
      if (grantP p o n w k).2 ≠ 0 then (p, (grantP p o n w k).2) else (⟨putP (tkP o n) p.toks { t with minted := t.minted + k }, (grantP p o n w k).1.holds⟩, 0)
    else (p, 12) else (p, 10)

theorem takeP_toks (p : Pu) (o : Int) (n w : ByteArray) (k : Int) : (takeP p o n w k).1.toks = p.toks := by
  unfold takeP
  split
  · rfl
  split <;> rfl
theorem grantP_toks (p : Pu) (o : Int) (n w : ByteArray) (k : Int) : (grantP p o n w k).1.toks = p.toks := by
  unfold grantP
  split
  · rfl
  split
  · rfl
  split <;> rfl

section
variable {p : Pu} {o k : Int} {n w : ByteArray} (hp : p.ok) (hn : n.size ≤ 200) (hw : w.size ≤ 200) (hk : U k)
include hp hn hw hk

theorem take_cc : CallR cx 81 [.d p.d, .d (.int .u32 o), st n, st w, u64 k] [] fun r S => r = .tup [.d (takeP p o n w k).1.d, i64 (takeP p o n w k).2] ∧ S = [] := by
  have tc := token_c (o := o) (n := n) hp
  have hv := heldv_c (o := o) (n := n) (w := w) hp
  have hU := heldV_U hp o n w
  have sb := sub_c hU hk
  unfold takeP
  rcases ix_look (tkP o n) p.toks 0 with ⟨h1, h2⟩ | ⟨j, hj, h1, h2, _⟩
  · rw [h1] at tc
    rw [h2]
    exact take_no tc
  · rw [h1, Nat.zero_add] at tc
    rw [h2]
    simp only
    by_cases c : heldV p o n w < k
    · rw [if_pos c, if_pos c] at sb
      rw [if_pos c]
      exact take_er (J := (j : Int)) (by omega) tc hv sb
    · rw [if_neg c, if_neg c] at sb
      rw [if_neg c]
      exact take_ok (J := (j : Int)) (by omega) tc hv sb (put_c hp hn hw (by unfold U at *; omega))

theorem grant_cc : CallR cx 44 [.d p.d, .d (.int .u32 o), st n, st w, u64 k] [] fun r S => r = .tup [.d (grantP p o n w k).1.d, i64 (grantP p o n w k).2] ∧ S = [] := by
  have tc := token_c (o := o) (n := n) hp
  have hv := heldv_c (o := o) (n := n) (w := w) hp
  have hU := heldV_U hp o n w
  have ad := add_c hU hk
  have rn := right_c (s := w) (by omega)
  unfold grantP
  rcases ix_look (tkP o n) p.toks 0 with ⟨h1, h2⟩ | ⟨j, hj, h1, h2, _⟩
  · rw [h1] at tc
    rw [h2]
    exact grant_no tc
  · rw [h1, Nat.zero_add] at tc
    rw [h2]
    simp only
    cases hr : rightT w with
    | false =>
      rw [hr] at rn
      rw [if_pos rfl]
      exact grant_nm (J := (j : Int)) (by omega) tc rn
    | true =>
      rw [hr] at rn
      rw [if_neg (by decide)]
      by_cases c : heldV p o n w + k < 18446744073709551616
      · rw [if_pos c, if_pos c] at ad
        rw [if_pos c]
        exact grant_ok (J := (j : Int)) (by omega) tc rn hv ad (put_c hp hn hw (by unfold U at *; omega))
      · rw [if_neg c, if_neg c] at ad
        rw [if_neg c]
        exact grant_er (J := (j : Int)) (by omega) tc rn hv ad
end

theorem out_c {t : Tk} (ht : t.ok) : CallR cx 41 [.d t.d] [] fun r S => r = .tup [u64 (outM t), u64 (outL t)] ∧ S = [] := by
  have s1 := sub_c ht.2.2.2.1 ht.2.2.2.2.1
  have s2 := sub_c ht.2.1 ht.2.2.1
  obtain ⟨o, n, a, b, c, d, e⟩ := t
  unfold outM outL
  simp only at s1 s2 ⊢
  generalize (if d < e then (0 : Int) else d - e) = X at *
  generalize (if b < c then (0 : Int) else b - c) = Y at *
  generalize (if d < e then (11 : Int) else 0) = X1 at *
  generalize (if b < c then (11 : Int) else 0) = Y1 at *
  refine callR_of (R := R1) cx_ok Tryd.func41 (by kernel_rfl) rfl ?_
  conv => whnf
  refine ⟨_, s1, ?_⟩
  rintro _ _ ⟨rfl, rfl⟩
  conv => whnf
  refine ⟨_, s2, ?_⟩
  rintro _ _ ⟨rfl, rfl⟩
  conv => whnf
  exact ⟨rfl, rfl⟩

theorem outM_U {t : Tk} (ht : t.ok) : U (outM t) := by
  have h1 := ht.2.2.2.1
  have h2 := ht.2.2.2.2.1
  unfold outM
  unfold U at *
  split <;> omega
theorem putH_mem {l : List Hd} {o k : Int} {n w : ByteArray} {P : Hd → Prop} (h : ∀ x ∈ l, P x) (h1 : P ⟨o, n, w, k⟩) (h2 : ∀ x ∈ l, P { x with amount := k }) : ∀ x ∈ putH l o n w k, P x := by
  have put : ∀ (l : List Hd) (b : Hd), (∀ x ∈ l, P x) → P b → ∀ x ∈ putP (hdP o n w) l b, P x := by
    intro l b hl hb
    induction l with
    | nil => intro x hx; cases hx
    | cons a l ih =>
      intro x hx
      rw [putP] at hx
      split at hx
      · rcases List.mem_cons.1 hx with rfl | hx
        · exact hb
        · exact hl x (by simp [hx])
      · rcases List.mem_cons.1 hx with rfl | hx
        · exact hl _ (by simp)
        · exact ih (fun y hy => hl y (by simp [hy])) x hx
  have del : ∀ (l : List Hd), (∀ x ∈ l, P x) → ∀ x ∈ delP (hdP o n w) l, P x := by
    intro l hl
    induction l with
    | nil => intro x hx; cases hx
    | cons a l ih =>
      intro x hx
      rw [delP] at hx
      split at hx
      · exact hl x (by simp [hx])
      · rcases List.mem_cons.1 hx with rfl | hx
        · exact hl _ (by simp)
        · exact ih (fun y hy => hl y (by simp [hy])) x hx
  have ins : ∀ (l : List Hd) (b : Hd), (∀ x ∈ l, P x) → P b → ∀ x ∈ insP (hbP o n w) l b, P x := by
    intro l b hl hb
    induction l with
    | nil => intro x hx; rw [insP] at hx; obtain rfl := List.mem_singleton.1 hx; exact hb
    | cons a l ih =>
      intro x hx
      rw [insP] at hx
      split at hx
      · rcases List.mem_cons.1 hx with rfl | hx
        · exact hb
        · exact hl x hx
      · rcases List.mem_cons.1 hx with rfl | hx
        · exact hl _ (by simp)
        · exact ih (fun y hy => hl y (by simp [hy])) x hx
  unfold putH
  cases hx : lookP (hdP o n w) l with
  | some a =>
    simp only
    split
    · exact del l h
    · exact put l _ h (h2 a (lookP_mem hx).1)
  | none =>
    simp only
    split
    · exact ins l _ h h1
    · exact h
theorem putP_len {α : Type} (p : α → Bool) : ∀ (l : List α) (b : α), (putP p l b).length = l.length
  | [], _ => rfl
  | a :: l, b => by rw [putP]; split; rfl; rw [List.length_cons, putP_len p l b]; rfl
theorem delP_len {α : Type} (p : α → Bool) : ∀ (l : List α), (delP p l).length ≤ l.length
  | [] => Nat.le_refl _
  | a :: l => by
    rw [delP]
    split
    · simp
    · have := delP_len p l
      rw [List.length_cons, List.length_cons]; omega
theorem insP_len {α : Type} (p : α → Bool) : ∀ (l : List α) (b : α), (insP p l b).length = l.length + 1
  | [], _ => rfl
  | a :: l, b => by rw [insP]; split; rfl; rw [List.length_cons, insP_len p l b]; rfl
theorem putH_len (l : List Hd) (o : Int) (n w : ByteArray) (k : Int) : (putH l o n w k).length ≤ l.length + 1 := by
  unfold putH
  split
  · split
    · exact Nat.le_succ_of_le (delP_len _ _)
    · rw [putP_len]; omega
  · split
    · rw [insP_len]; exact Nat.le_refl _
    · omega
theorem putP_mem {α : Type} {p : α → Bool} {P : α → Prop} : ∀ {l : List α} {b : α}, (∀ x ∈ l, P x) → P b → ∀ x ∈ putP p l b, P x
  | [], _, _, _, _, ha => by cases ha
  | c :: l, b, h, hb, a, ha => by
    rw [putP] at ha
    split at ha
    · rcases List.mem_cons.1 ha with rfl | ha
      · exact hb
      · exact h a (by simp [ha])
    · rcases List.mem_cons.1 ha with rfl | ha
      · exact h _ (by simp)
      · exact putP_mem (fun x hx => h x (by simp [hx])) hb a ha
end Go.Proofs.YtmdfpifcghmpfaaDoor
