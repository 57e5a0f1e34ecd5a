/- Ledgers: what is given is taken again; the coins of all. No program in sight. -/
import Derived.Test.YtmdfpifcghmpfaaDoorLB
namespace Go.Proofs.YtmdfpifcghmpfaaDoor
open Go.Ab

theorem look_put : ∀ {l : List Ac} {who : ByteArray} {a b : Ac}, look l who = some a → b.name = who → look (putA l b) who = some b
  | [], _, _, _, h, _ => by cases h
  | c :: l, who, a, b, h, hb => by
    rw [look] at h
    by_cases e : c.name = who
    · rw [putA, if_pos (by rw [e, hb]), look, if_pos hb]
    · rw [if_neg e] at h
      rw [putA, if_neg (by rw [hb]; exact e), look, if_neg e]
      exact look_put h hb
theorem put_back : ∀ {l : List Ac} {who : ByteArray} {a b : Ac}, look l who = some a → b.name = who → putA (putA l b) a = l
  | [], _, _, _, h, _ => by cases h
  | c :: l, who, a, b, h, hb => by
    have ha := (look_mem h).2
    rw [look] at h
    by_cases e : c.name = who
    · rw [if_pos e] at h
      cases h
      rw [putA, if_pos (by rw [e, hb]), putA, if_pos (by rw [hb, ha])]
    · rw [if_neg e] at h
      rw [putA, if_neg (by rw [hb]; exact e), putA, if_neg (by rw [ha]; exact e), put_back h hb]
theorem sum_put : ∀ {l : List Ac} {who : ByteArray} {a b : Ac}, look l who = some a → b.name = who → (coinsL (putA l b)).sum = (coinsL l).sum - a.coins + b.coins
  | [], _, _, _, h, _ => by cases h
  | c :: l, who, a, b, h, hb => by
    rw [look] at h
    by_cases e : c.name = who
    · rw [if_pos e] at h
      cases h
      rw [putA, if_pos (by rw [e, hb])]
      simp only [coinsL, List.map_cons, List.sum_cons]
      omega
    · rw [if_neg e] at h
      rw [putA, if_neg (by rw [hb]; exact e)]
      have := sum_put h hb
      simp only [coinsL, List.map_cons, List.sum_cons] at this ⊢
      omega

theorem give_take {l : Lg} {who : ByteArray} {n : Int} (hl : l.ok) (h : (giveL l who n).2 = 0) : takeL (giveL l who n).1 who n = (l, 0) := by
  unfold giveL at *
  cases hx : look l.accs who with
  | none => rw [hx] at h; cases h
  | some a =>
    have ha := hl.2.1 a (look_mem hx).1
    rw [hx] at h
    simp only at h ⊢
    by_cases c : a.coins + n < 18446744073709551616
    · rw [if_pos c]
      have hb : ({ a with coins := a.coins + n } : Ac).name = who := (look_mem hx).2
      unfold takeL
      simp only
      rw [look_put hx hb]
      simp only
      have := ha.2.1
      rw [if_neg (by omega)]
      have e : ({ ({ a with coins := a.coins + n } : Ac) with coins := a.coins + n - n } : Ac) = a := by
        obtain ⟨x1, x2, x3, x4⟩ := a
        simp only [Ac.mk.injEq, true_and]
        omega
      rw [e, put_back hx hb]
    · rw [if_neg c] at h; cases h
end Go.Proofs.YtmdfpifcghmpfaaDoor
