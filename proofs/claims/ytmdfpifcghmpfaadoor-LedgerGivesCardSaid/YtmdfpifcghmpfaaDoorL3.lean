/- Ledgers: who has what; what is given and taken. -/
import Derived.Test.YtmdfpifcghmpfaaDoorL2
namespace Go.Proofs.YtmdfpifcghmpfaaDoor
open Go.Ab Go.RowKit

def look : List Ac → ByteArray → Option Ac
  | [], _ => none
  | a :: l, who => if a.name = who then some a else look l who
def putA : List Ac → Ac → List Ac
  | [], _ => []
  | a :: l, b => if a.name = b.name then b :: l else a :: putA l b

theorem idx_look : ∀ (l : List Ac) (who : ByteArray) (k : Nat), (idxOf (fun a => decide (a.name = who)) l k = -1 ∧ look l who = none) ∨
    ∃ j, ∃ h : j < l.length, idxOf (fun a => decide (a.name = who)) l k = ((k + j : Nat) : Int) ∧ look l who = some (l[j]'h) ∧ (l[j]'h).name = who ∧ ∀ b : Ac, b.name = who → l.set j b = putA l b
  | [], _, _ => .inl ⟨rfl, rfl⟩
  | a :: l, who, k => by
    by_cases e : a.name = who
    · refine .inr ⟨0, by simp, ?_, ?_, e, fun b hb => ?_⟩
      · rw [idxOf, if_pos (decide_eq_true e)]; rfl
      · rw [look, if_pos e]; rfl
      · rw [putA, if_pos (by rw [e, hb])]; rfl
    · have e1 : idxOf (fun a => decide (a.name = who)) (a :: l) k = idxOf (fun a => decide (a.name = who)) l (k + 1) := by rw [idxOf, if_neg (by rw [decide_eq_false e]; decide)]
      have e2 : look (a :: l) who = look l who := by rw [look, if_neg e]
      rcases idx_look l who (k + 1) with ⟨h1, h2⟩ | ⟨j, h, h1, h2, h3, h4⟩
      · exact .inl ⟨by rw [e1, h1], by rw [e2, h2]⟩
      · refine .inr ⟨j + 1, by simpa using h, by rw [e1, h1]; congr 1; omega, by rw [e2, h2]; rfl, h3, fun b hb => ?_⟩
        rw [putA, if_neg (by rw [hb]; exact e), ← h4 b hb]
        rfl

def Ac.ok (a : Ac) : Prop := U a.nonce ∧ U a.coins
def Lg.ok (l : Lg) : Prop := (U l.height ∧ U l.time ∧ U l.gas) ∧ (∀ a ∈ l.accs, a.ok) ∧ l.accs.length ≤ 100000

theorem look_mem : ∀ {l : List Ac} {who : ByteArray} {a : Ac}, look l who = some a → a ∈ l ∧ a.name = who
  | [], _, _, h => by cases h
  | b :: l, who, a, h => by
    rw [look] at h
    split at h
    · cases h; exact ⟨by simp, by assumption⟩
    · have := look_mem h; exact ⟨by simp [this.1], this.2⟩

def findL (l : Lg) (who : ByteArray) : D × Bool := match look l.accs who with
  | none => (.agg [.str .empty, .arr 32 1 (List.replicate 32 (.int .u8 0)), .int .u64 0, .int .u64 0], false)
  | some a => (a.d, true)
def giveL (l : Lg) (who : ByteArray) (n : Int) : Lg × Int := match look l.accs who with
  | none => (l, 14)
  | some a => if a.coins + n < 18446744073709551616 then ({ l with accs := putA l.accs { a with coins := a.coins + n } }, 0) else (l, 10)
def takeL (l : Lg) (who : ByteArray) (n : Int) : Lg × Int := match look l.accs who with
  | none => (l, 14)
  | some a => if a.coins < n then (l, 11) else ({ l with accs := putA l.accs { a with coins := a.coins - n } }, 0)

theorem find_c {l : Lg} {who : ByteArray} (hl : l.ok) : CallR cx 16 [.d l.d, st who] [] fun r S => r = .tup [.d (findL l who).1, bo (findL l who).2] ∧ S = [] := by
  have at' := at_c (who := who) hl.2.2
  have hix := idx_look l.accs who 0
  obtain ⟨h, t, g, al, es⟩ := l
  simp only at hix
  have hlen : (acs al).length = al.length := List.length_map _
  unfold findL
  simp only
  unfold atN at at'
  rcases hix with ⟨h1, h2⟩ | ⟨j, hj, h1, h2, h3, h4⟩
  · simp only at at'
    rw [h1] at at'
    rw [h2]
    refine callR_of (R := R1) cx_ok Tryd.func16 (by kernel_rfl) rfl ?_
    conv => whnf
    refine ⟨_, at', ?_⟩
    rintro _ _ ⟨rfl, rfl⟩
    conv => whnf
    exact ⟨rfl, rfl⟩
  · simp only at at'
    rw [h1, Nat.zero_add] at at'
    rw [h2]
    have hgd := acs_getD hj
    generalize al[j]'hj = a at *
    generalize hJ : (j : Int) = J at *
    refine callR_of (R := R1) cx_ok Tryd.func16 (by kernel_rfl) rfl ?_
    conv => whnf
    refine ⟨_, at', ?_⟩
    rintro _ _ ⟨rfl, rfl⟩
    conv => whnf
    refine brF (decide_eq_false (by omega)) ?_
    conv => whnf
    refine ⟨⟨by omega, by rw [hlen]; omega⟩, ?_⟩
    rw [hgd]
    conv => whnf
    exact ⟨rfl, rfl⟩

theorem give_c {l : Lg} {who : ByteArray} {n : Int} (hl : l.ok) (hn : U n) : CallR cx 14 [.d l.d, st who, u64 n] [] fun r S => r = .tup [.d (giveL l who n).1.d, i64 (giveL l who n).2] ∧ S = [] := by
  have at' := at_c (who := who) hl.2.2
  have hix := idx_look l.accs who 0
  have hlk := fun a => look_mem (l := l.accs) (who := who) (a := a)
  have wi := fun (i : Nat) (a : Ac) => with_c (l := l) (i := i) (a := a) hl.2.2
  have hok := hl.2.1
  obtain ⟨h, t, g, al, es⟩ := l
  simp only at hix hlk wi hok
  have hlen : (acs al).length = al.length := List.length_map _
  unfold giveL
  simp only
  unfold atN at at'
  rcases hix with ⟨h1, h2⟩ | ⟨j, hj, h1, h2, h3, h4⟩
  · simp only at at'
    rw [h1] at at'
    rw [h2]
    refine callR_of (R := R1) cx_ok Tryd.func14 (by kernel_rfl) rfl ?_
    conv => whnf
    refine ⟨_, at', ?_⟩
    rintro _ _ ⟨rfl, rfl⟩
    conv => whnf
    exact ⟨rfl, rfl⟩
  · simp only at at'
    rw [h1, Nat.zero_add] at at'
    rw [h2]
    have hgd := acs_getD hj
    have ha := hok _ (hlk _ h2).1
    have w := fun b => wi j b hj
    generalize al[j]'hj = a at *
    have ad := add_c ha.2 hn
    obtain ⟨nm, ky, nn, cn⟩ := a
    simp only at ad h3 ⊢
    generalize hJ : (j : Int) = J at *
    refine callR_of (R := R1) cx_ok Tryd.func14 (by kernel_rfl) rfl ?_
    conv => whnf
    refine ⟨_, at', ?_⟩
    rintro _ _ ⟨rfl, rfl⟩
    conv => whnf
    refine brF (decide_eq_false (by omega)) ?_
    conv => whnf
    refine ⟨⟨by omega, by rw [hlen]; omega⟩, ?_⟩
    rw [hgd]
    conv => whnf
    by_cases c : cn + n < 18446744073709551616
    · rw [if_pos c, if_pos c] at ad
      rw [if_pos c]
      have w := w ⟨nm, ky, nn, cn + n⟩
      rw [h4 ⟨nm, ky, nn, cn + n⟩ h3] at w
      refine ⟨_, ad, ?_⟩
      rintro _ _ ⟨rfl, rfl⟩
      conv => whnf
      refine ⟨_, w, ?_⟩
      rintro _ _ ⟨rfl, rfl⟩
      conv => whnf
      exact ⟨rfl, rfl⟩
    · rw [if_neg c, if_neg c] at ad
      rw [if_neg c]
      refine ⟨_, ad, ?_⟩
      rintro _ _ ⟨rfl, rfl⟩
      conv => whnf
      exact ⟨rfl, rfl⟩
end Go.Proofs.YtmdfpifcghmpfaaDoor
