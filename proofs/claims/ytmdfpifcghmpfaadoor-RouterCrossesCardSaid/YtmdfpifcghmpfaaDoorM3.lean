/- Ledgers: small ones; the same ones. Ledgers: the same ones. Ledgers: what is given is taken again; the coins of all. No program in sight. Ledgers: may it be. Ledgers, the model's: may it be. Ledgers, the model's: an event more. -/
import Derived.Test.YtmdfpifcghmpfaaDoorM2
namespace Go.Proofs.YtmdfpifcghmpfaaDoor
open Go.Ab Go.RowKit

def fewP (l : Lg) : Prop := l.accs.length ≤ 100 ∧ (∀ a ∈ l.accs, a.name.size ≤ 200) ∧ l.evs.length ≤ 4100

theorem few_c {l : Lg} : CallR cx 13 [.d l.d] [] fun r S => ∃ b, r = bo b ∧ (b = true → fewP l) ∧ S = [] := by
  obtain ⟨h, t, g, al, es⟩ := l
  unfold fewP
  simp only
  have hlen : (acs al).length = al.length := List.length_map _
  refine callR_of (R := R1) cx_ok Tryd.func13 (by kernel_rfl) rfl ?_
  conv => whnf
  refine .inl ⟨fun m L S => ∃ (j : Nat), (0 < j → al.length ≤ 100) ∧ (∀ a ∈ al.take j, a.name.size ≤ 200) ∧ j ≤ al.length ∧ m = al.length - j ∧
      L = [(1, .ptr 0 []), (6, .d (.sl 35 (acs al))), (7, i64 (((acs al).length : Nat) : Int)), (8, i64 (j : Int))] ∧ S = [.var (.d (Lg.d ⟨h, t, g, al, es⟩))],
    ⟨_, _, ⟨0, by omega, by simp, Nat.zero_le _, rfl, rfl, rfl⟩, ⟨rfl, rfl, rfl, rfl, trivial⟩⟩, ?_⟩
  rintro _ _ _ ⟨j, h1, h2, hj, rfl, rfl, rfl⟩
  conv => whnf
  refine brec (fun h4 => ?_) (fun h4 => ?_)
  · have h4 := of_decide_eq_true h4
    rw [hlen] at h4
    have hlt : j < al.length := by omega
    conv => whnf
    refine ⟨⟨by omega, by rw [hlen]; omega⟩, ?_⟩
    rw [acs_getD hlt]
    have ht : al.take (j + 1) = al.take j ++ [al[j]'hlt] := by rw [List.take_add_one, List.getElem?_eq_getElem hlt]; rfl
    generalize al[j]'hlt = a at *
    obtain ⟨nm, ky, nn, cn⟩ := a
    conv => whnf
    by_cases c : ((acs al).length : Int) > 100
    · refine brT (decide_eq_true c) ?_
      conv => whnf
      exact ⟨false, rfl, by simp, rfl⟩
    · refine brF (decide_eq_false c) ?_
      conv => whnf
      by_cases c2 : (nm.size : Int) > 200
      · refine brT (decide_eq_true c2) ?_
        conv => whnf
        exact ⟨false, rfl, by simp, rfl⟩
      · refine brF (decide_eq_false c2) ?_
        conv => whnf
        rw [hlen] at c
        have e3 : IntKind.i64.wrap ((j : Int) + 1) = ((j + 1 : Nat) : Int) := by rw [w64 (by omega)]; omega
        refine ⟨_, _, 1, (by omega : al.length - (j + 1) < al.length - j), ⟨j + 1, fun _ => by omega, ?_, by omega, rfl, rfl, rfl⟩, ⟨rfl, rfl, rfl, congrArg (fun z => some (i64 z)) e3, trivial⟩, rfl⟩
        rw [ht]
        intro a ha
        rcases List.mem_append.1 ha with ha | ha
        · exact h2 a ha
        · simp at ha; subst ha; show nm.size ≤ 200; omega
  · have h4 := of_decide_eq_false h4
    rw [hlen] at h4
    obtain rfl : j = al.length := by omega
    rw [List.take_length] at h2
    have hq : al.length ≤ 100 := by
      rcases Nat.eq_zero_or_pos al.length with q | q
      · omega
      · exact h1 q
    conv => whnf
    by_cases c1 : (es.length : Int) ≤ 200
    · refine brT (decide_eq_true c1) ?_
      conv => whnf
      exact ⟨true, rfl, fun _ => ⟨hq, h2, by omega⟩, rfl⟩
    refine brF (decide_eq_false c1) ?_
    conv => whnf
    by_cases c2 : (es.length : Int) ≥ 4094
    · refine brT (decide_eq_true c2) ?_
      conv => whnf
      exact ⟨_, rfl, fun h => ⟨hq, h2, by have q : (es.length : Int) ≤ 4100 := of_decide_eq_true h; omega⟩, rfl⟩
    · refine brF (decide_eq_false c2) ?_
      conv => whnf
      exact ⟨_, rfl, by simp, rfl⟩
end Go.Proofs.YtmdfpifcghmpfaaDoor

namespace Go.Proofs.YtmdfpifcghmpfaaDoor
open Go.Ab Go.RowKit

theorem deq_self (x : D) : deq x x = true := by simp [deq]

/-- Thirty-two bytes. -/
def keyOk (k : List D) : Prop := k.length = 32 ∧ ∀ y ∈ k, ∃ n, y = .int .u8 n
def evOk (e : D) : Prop := ∃ k s n ds, e = .agg [.int .i64 k, .str s, .int .u64 n, .arr 32 1 ds] ∧ keyOk ds

theorem sideA {nm : ByteArray} {ky : List D} {nn cn : Int} (h : keyOk ky) : ∃ T : Ty, T.fitE cx.tt 36 = true ∧ Nat.blt T.depth 9999 = true ∧ T.is (Ac.d ⟨nm, ky, nn, cn⟩) ∧ T.is (Ac.d ⟨nm, ky, nn, cn⟩) :=
  have q : (Ty.st [.str, .arr 32 1 (.int .u8), .int .u64, .int .u64]).is (Ac.d ⟨nm, ky, nn, cn⟩) := ⟨_, rfl, _, _, rfl, ⟨_, rfl⟩, _, _, rfl, ⟨_, rfl, h.1, h.2⟩, _, _, rfl, ⟨_, rfl⟩, _, _, rfl, ⟨_, rfl⟩, rfl⟩
  ⟨.st [.str, .arr 32 1 (.int .u8), .int .u64, .int .u64], by kernel_rfl, by kernel_rfl, q, q⟩
theorem sideE {k : Int} {s : ByteArray} {n : Int} {ds : List D} (h : keyOk ds) : ∃ T : Ty, T.fitE cx.tt 47 = true ∧ Nat.blt T.depth 9999 = true ∧ T.is (.agg [.int .i64 k, .str s, .int .u64 n, .arr 32 1 ds]) ∧ T.is (.agg [.int .i64 k, .str s, .int .u64 n, .arr 32 1 ds]) :=
  have q : (Ty.st [.int .i64, .str, .int .u64, .arr 32 1 (.int .u8)]).is (.agg [.int .i64 k, .str s, .int .u64 n, .arr 32 1 ds]) := ⟨_, rfl, _, _, rfl, ⟨_, rfl⟩, _, _, rfl, ⟨_, rfl⟩, _, _, rfl, ⟨_, rfl⟩, _, _, rfl, ⟨_, rfl, h.1, h.2⟩, rfl⟩
  ⟨.st [.int .i64, .str, .int .u64, .arr 32 1 (.int .u8)], by kernel_rfl, by kernel_rfl, q, q⟩

theorem same_c {l : Lg} (hl : l.ok) (hk : ∀ a ∈ l.accs, keyOk a.key) (he : ∀ e ∈ l.evs, evOk e) (hel : l.evs.length ≤ 100000) : CallR cx 15 [.d l.d, .d l.d] [] fun r S => r = bo true ∧ S = [] := by
  have hL := hl.2.2
  obtain ⟨h, t, g, al, es⟩ := l
  simp only at hL hk he hel
  have hlen : (acs al).length = al.length := List.length_map _
  refine callR_of (R := R1) cx_ok Tryd.func15 (by kernel_rfl) rfl ?_
  conv => whnf
  refine brF (bne_self_eq_false h) ?_
  conv => whnf
  refine brF (bne_self_eq_false t) ?_
  conv => whnf
  refine brF (bne_self_eq_false g) ?_
  conv => whnf
  refine brF (bne_self_eq_false _) ?_
  conv => whnf
  refine brF (bne_self_eq_false _) ?_
  conv => whnf
  refine .inl ⟨fun m L S => ∃ (j : Nat), j ≤ al.length ∧ m = al.length - j ∧
      L = [(2, .ptr 0 []), (3, .ptr 1 []), (46, i64 (((acs al).length : Nat) : Int)), (47, i64 (j : Int))] ∧ S = [.var (.d (Lg.d ⟨h, t, g, al, es⟩)), .var (.d (Lg.d ⟨h, t, g, al, es⟩))],
    ⟨_, _, ⟨0, Nat.zero_le _, rfl, rfl, rfl⟩, ⟨rfl, rfl, rfl, rfl, trivial⟩⟩, ?_⟩
  rintro _ _ _ ⟨j, hj, rfl, rfl, rfl⟩
  conv => whnf
  refine brec (fun h4 => ?_) (fun h4 => ?_)
  · have h4 := of_decide_eq_true h4
    rw [hlen] at h4
    have hlt : j < al.length := by omega
    have hgd := acs_getD hlt
    conv => whnf
    refine ⟨by kernel_rfl, ?_⟩
    conv => whnf
    refine ⟨⟨by omega, by rw [hlen]; omega⟩, ?_⟩
    rw [hgd]
    have hky := hk _ (List.getElem_mem hlt)
    generalize al[j]'hlt = a at *
    obtain ⟨nm, ky, nn, cn⟩ := a
    simp only at hky
    conv => whnf
    refine ⟨⟨by omega, by rw [hlen]; omega⟩, ?_⟩
    rw [hgd]
    conv => whnf
    refine ⟨sideA hky, ?_⟩
    rw [deq_self]
    conv => whnf
    refine ⟨by kernel_rfl, ?_⟩
    conv => whnf
    have e3 : IntKind.i64.wrap ((j : Int) + 1) = ((j + 1 : Nat) : Int) := by rw [w64 (by omega)]; omega
    exact ⟨_, _, 2, (by omega : al.length - (j + 1) < al.length - j), ⟨j + 1, by omega, rfl, rfl, rfl⟩, ⟨rfl, rfl, rfl, congrArg (fun z => some (i64 z)) e3, trivial⟩, rfl⟩
  · have h4 := of_decide_eq_false h4
    conv => whnf
    refine .inl ⟨fun m L S => ∃ (j : Nat), j ≤ es.length ∧ m = es.length - j ∧
        L = [(2, .ptr 0 []), (3, .ptr 1 []), (64, i64 ((es.length : Nat) : Int)), (65, i64 (j : Int))] ∧ S = [.var (.d (Lg.d ⟨h, t, g, al, es⟩)), .var (.d (Lg.d ⟨h, t, g, al, es⟩))],
      ⟨_, _, ⟨0, Nat.zero_le _, rfl, rfl, rfl⟩, ⟨rfl, rfl, rfl, rfl, trivial⟩⟩, ?_⟩
    rintro _ _ _ ⟨j, hj, rfl, rfl, rfl⟩
    conv => whnf
    refine brec (fun h4 => ?_) (fun h4 => ?_)
    · have h4 := of_decide_eq_true h4
      have hlt : j < es.length := by omega
      have hgd : es.getD (j : Int).toNat .nilP = es[j]'hlt := by rw [Int.toNat_natCast, List.getD_eq_getElem?_getD, List.getElem?_eq_getElem hlt]; rfl
      obtain ⟨k, s, n, ds, hev, hds⟩ := he _ (List.getElem_mem hlt)
      rw [hev] at hgd
      conv => whnf
      refine ⟨by kernel_rfl, ?_⟩
      conv => whnf
      refine ⟨⟨by omega, h4⟩, ?_⟩
      rw [hgd]
      conv => whnf
      refine ⟨⟨by omega, h4⟩, ?_⟩
      rw [hgd]
      conv => whnf
      refine ⟨sideE hds, ?_⟩
      rw [deq_self]
      conv => whnf
      refine ⟨by kernel_rfl, ?_⟩
      conv => whnf
      have e3 : IntKind.i64.wrap ((j : Int) + 1) = ((j + 1 : Nat) : Int) := by rw [w64 (by omega)]; omega
      exact ⟨_, _, 2, (by omega : es.length - (j + 1) < es.length - j), ⟨j + 1, by omega, rfl, rfl, rfl⟩, ⟨rfl, rfl, rfl, congrArg (fun z => some (i64 z)) e3, trivial⟩, rfl⟩
    · conv => whnf
      exact ⟨rfl, rfl⟩
end Go.Proofs.YtmdfpifcghmpfaaDoor

namespace Go.Proofs.YtmdfpifcghmpfaaDoor
open Go.Ab

theorem look_put : ∀ {l : List Ac} {who : ByteArray} {a b : Ac}, look l who = some a → b.name = who → look (putA l b) who = some b
  | [], _, _, _, h, _ => by cases h
  | c :: l, who, a, b, h, hb => by
    rw [look] at h
    by_cases e : c.name = who
    · rw [putA, if_pos (by rw [e, hb]), look, if_pos hb]
    · rw [if_neg e] at h
      rw [putA, if_neg (by rw [hb]; exact e), look, if_neg e]
      exact look_put h hb
theorem put_back : ∀ {l : List Ac} {who : ByteArray} {a b : Ac}, look l who = some a → b.name = who → putA (putA l b) a = l
  | [], _, _, _, h, _ => by cases h
  | c :: l, who, a, b, h, hb => by
    have ha := (look_mem h).2
    rw [look] at h
    by_cases e : c.name = who
    · rw [if_pos e] at h
      cases h
      rw [putA, if_pos (by rw [e, hb]), putA, if_pos (by rw [hb, ha])]
    · rw [if_neg e] at h
      rw [putA, if_neg (by rw [hb]; exact e), putA, if_neg (by rw [ha]; exact e), put_back h hb]
theorem sum_put : ∀ {l : List Ac} {who : ByteArray} {a b : Ac}, look l who = some a → b.name = who → (coinsL (putA l b)).sum = (coinsL l).sum - a.coins + b.coins
  | [], _, _, _, h, _ => by cases h
  | c :: l, who, a, b, h, hb => by
    rw [look] at h
    by_cases e : c.name = who
    · rw [if_pos e] at h
      cases h
      rw [putA, if_pos (by rw [e, hb])]
      simp only [coinsL, List.map_cons, List.sum_cons]
      omega
    · rw [if_neg e] at h
      rw [putA, if_neg (by rw [hb]; exact e)]
      have := sum_put h hb
      simp only [coinsL, List.map_cons, List.sum_cons] at this ⊢
      omega

theorem give_take {l : Lg} {who : ByteArray} {n : Int} (hl : l.ok) (h : (giveL l who n).2 = 0) : takeL (giveL l who n).1 who n = (l, 0) := by
  unfold giveL at *
  cases hx : look l.accs who with
  | none => rw [hx] at h; cases h
  | some a =>
    have ha := hl.2.1 a (look_mem hx).1
    rw [hx] at h
    simp only at h ⊢
    by_cases c : a.coins + n < 18446744073709551616
    · rw [if_pos c]
      have hb : ({ a with coins := a.coins + n } : Ac).name = who := (look_mem hx).2
      unfold takeL
      simp only
      rw [look_put hx hb]
      simp only
      have := ha.2.1
      rw [if_neg (by omega)]
      have e : ({ ({ a with coins := a.coins + n } : Ac) with coins := a.coins + n - n } : Ac) = a := by
        obtain ⟨x1, x2, x3, x4⟩ := a
        simp only [Ac.mk.injEq, true_and]
        omega
      rw [e, put_back hx hb]
    · rw [if_neg c] at h; cases h
end Go.Proofs.YtmdfpifcghmpfaaDoor

namespace Go.Proofs.YtmdfpifcghmpfaaDoor
open Go.Ab Go.RowKit

theorem ordL_range : ∀ x y, -1 ≤ ordL x y ∧ ordL x y ≤ 1
  | [], [] => by simp [ordL]
  | [], _ :: _ => by simp [ordL]
  | _ :: _, [] => by simp [ordL]
  | a :: x, b :: y => by
    simp only [ordL]
    split
    · decide
    split
    · decide
    · exact ordL_range x y

def ordN (a b : ByteArray) : Int := ordL (keysAt a 0) (keysAt b 0)
/-- Right names, one behind the other. -/
def chainB : List Ac → Nat → List Ac → Bool
  | _, _, [] => true
  | al, j, a :: l => rightT a.name && ((j == 0) || decide (ordN (al.getD (j - 1) ⟨.empty, [], 0, 0⟩).name a.name < 0)) && chainB al (j + 1) l
def limB (l : Lg) : Bool := decide (l.accs.length ≤ 64) && decide (l.evs.length ≤ 4096) && decide (l.gas ≤ 40) && decide (l.time ≤ 1099511627776)

theorem rightL_c {l : Lg} (hl : l.ok) (hn : ∀ a ∈ l.accs, a.name.size ≤ 200) : CallR cx 21 [.d l.d] [] fun r S => r = bo (chainB l.accs 0 l.accs && limB l) ∧ S = [] := by
  have hL := hl.2.2
  obtain ⟨h, t, g, al, es⟩ := l
  unfold limB
  simp only at hL hn ⊢
  have hlen : (acs al).length = al.length := List.length_map _
  obtain ⟨B, hB⟩ : ∃ B : Int, B = 1099511627776 := ⟨_, rfl⟩
  rw [← hB]
  refine callR_of (R := R1) cx_ok Tryd.func21 (by kernel_rfl) rfl ?_
  conv => whnf
  refine .inl ⟨fun m L S => ∃ (j : Nat), chainB al j (al.drop j) = chainB al 0 al ∧ j ≤ al.length ∧ m = al.length - j ∧
      L = [(1, .ptr 0 []), (6, .d (.sl 35 (acs al))), (7, i64 (((acs al).length : Nat) : Int)), (8, i64 (j : Int))] ∧ S = [.var (.d (Lg.d ⟨h, t, g, al, es⟩))],
    ⟨_, _, ⟨0, rfl, Nat.zero_le _, rfl, rfl, rfl⟩, ⟨rfl, rfl, rfl, rfl, trivial⟩⟩, ?_⟩
  rintro _ _ _ ⟨j, h1, hj, rfl, rfl, rfl⟩
  conv => whnf
  refine brec (fun h4 => ?_) (fun h4 => ?_)
  · have h4 := of_decide_eq_true h4
    rw [hlen] at h4
    have hlt : j < al.length := by omega
    conv => whnf
    refine ⟨⟨by omega, by rw [hlen]; omega⟩, ?_⟩
    rw [acs_getD hlt]
    rw [List.drop_eq_getElem_cons hlt, chainB] at h1
    have hs := hn _ (List.getElem_mem hlt)
    generalize al[j]'hlt = a at *
    have e3 : IntKind.i64.wrap ((j : Int) + 1) = ((j + 1 : Nat) : Int) := by rw [w64 (by omega)]; omega
    have e4 : 0 < j → IntKind.i64.wrap ((j : Int) - 1) = ((j - 1 : Nat) : Int) := fun q => by rw [w64 (by omega)]; omega
    obtain ⟨nm, ky, nn, cn⟩ := a
    simp only at h1 hs
    have rc := right_c (s := nm) (by omega)
    generalize hJ : (j : Int) = J at *
    conv => whnf
    refine ⟨by kernel_rfl, ?_⟩
    conv => whnf
    refine ⟨_, rc, ?_⟩
    conv => whnf
    by_cases c1 : rightT nm = true
    · rw [c1] at h1 ⊢
      conv => whnf
      by_cases c2 : 0 < j
      · refine brT (decide_eq_true (by omega)) ?_
        conv => whnf
        have hlp : j - 1 < al.length := by omega
        have hgp := acs_getD hlp
        have hpn : al.getD (j - 1) ⟨.empty, [], 0, 0⟩ = al[j - 1]'hlp := by rw [List.getD_eq_getElem?_getD, List.getElem?_eq_getElem hlp]; rfl
        have hsp := hn _ (List.getElem_mem hlp)
        rw [hpn] at h1
        rw [e4 c2]
        refine ⟨⟨by omega, by rw [hlen]; omega⟩, ?_⟩
        rw [hgp]
        generalize al[j - 1]'hlp = p at *
        obtain ⟨pn, pk, pq, pc⟩ := p
        simp only at h1 hsp
        have oc := order_c (a := pn) (b := nm) (by omega) (by omega)
        have hor := ordL_range (keysAt pn 0) (keysAt nm 0)
        unfold ordN at h1
        generalize ordL (keysAt pn 0) (keysAt nm 0) = O at *
        conv => whnf
        refine ⟨_, oc, ?_⟩
        conv => whnf
        refine ⟨by kernel_rfl, ?_⟩
        conv => whnf
        have ej : (j == 0) = false := beq_eq_false_iff_ne.2 (by omega)
        rw [ej, Bool.true_and, Bool.false_or] at h1
        by_cases c3 : O ≥ 0
        · rw [decide_eq_false (by omega), Bool.false_and] at h1
          refine brT (decide_eq_true c3) ?_
          conv => whnf
          rw [← h1]
          exact ⟨rfl, rfl⟩
        · rw [decide_eq_true (by omega), Bool.true_and] at h1
          refine brF (decide_eq_false c3) ?_
          conv => whnf
          exact ⟨_, _, 1, (by omega : al.length - (j + 1) < al.length - j), ⟨j + 1, h1, by omega, rfl, rfl, rfl⟩, ⟨rfl, rfl, rfl, congrArg (fun z => some (i64 z)) e3, trivial⟩, rfl⟩
      · refine brF (decide_eq_false (by omega)) ?_
        conv => whnf
        refine ⟨by kernel_rfl, ?_⟩
        conv => whnf
        obtain rfl : j = 0 := by omega
        exact ⟨_, _, 1, (by omega : al.length - (0 + 1) < al.length - 0), ⟨0 + 1, by simpa using h1, by omega, rfl, rfl, rfl⟩, ⟨rfl, rfl, rfl, congrArg (fun z => some (i64 z)) e3, trivial⟩, rfl⟩
    · have c1 : rightT nm = false := by cases q : rightT nm with
        | false => rfl
        | true => exact absurd q c1
      rw [c1] at h1 ⊢
      conv => whnf
      refine ⟨by kernel_rfl, ?_⟩
      conv => whnf
      rw [← h1]
      exact ⟨rfl, rfl⟩
  · have h4 := of_decide_eq_false h4
    rw [hlen] at h4
    obtain rfl : j = al.length := by omega
    rw [List.drop_length, chainB] at h1
    rw [← h1]
    conv => whnf
    rw [Bool.true_and]
    by_cases c1 : ((acs al).length : Int) ≤ 64
    · refine brT (decide_eq_true c1) ?_
      rw [decide_eq_true (show al.length ≤ 64 by omega), Bool.true_and]
      conv => whnf
      by_cases c2 : (es.length : Int) ≤ 4096
      · refine brT (decide_eq_true c2) ?_
        rw [decide_eq_true (show es.length ≤ 4096 by omega), Bool.true_and]
        conv => whnf
        by_cases c3 : g ≤ 40
        · refine brT (decide_eq_true c3) ?_
          rw [decide_eq_true c3, Bool.true_and]
          conv => whnf
          rw [← hB]
          exact ⟨rfl, rfl⟩
        · refine brF (decide_eq_false c3) ?_
          rw [decide_eq_false c3, Bool.false_and]
          conv => whnf
          exact ⟨rfl, rfl⟩
      · refine brF (decide_eq_false c2) ?_
        rw [decide_eq_false (show ¬ es.length ≤ 4096 by omega), Bool.false_and, Bool.false_and]
        conv => whnf
        exact ⟨rfl, rfl⟩
    · refine brF (decide_eq_false c1) ?_
      rw [decide_eq_false (show ¬ al.length ≤ 64 by omega), Bool.false_and, Bool.false_and, Bool.false_and]
      conv => whnf
      exact ⟨rfl, rfl⟩
end Go.Proofs.YtmdfpifcghmpfaaDoor

namespace Go.Proofs.YtmdfpifcghmpfaaDoor
open Go.Ab Go.RowKit

theorem rrightL_c {l : Lg} (hl : l.ok) (hn : ∀ a ∈ l.accs, a.name.size ≤ 200) : CallR cx 27 [.d l.d] [] fun r S => r = bo (chainB l.accs 0 l.accs && limB l) ∧ S = [] := by
  have hL := hl.2.2
  obtain ⟨h, t, g, al, es⟩ := l
  unfold limB
  simp only at hL hn ⊢
  have hlen : (acs al).length = al.length := List.length_map _
  obtain ⟨B, hB⟩ : ∃ B : Int, B = 1099511627776 := ⟨_, rfl⟩
  rw [← hB]
  refine callR_of (R := R1) cx_ok Tryd.func27 (by kernel_rfl) rfl ?_
  conv => whnf
  by_cases c1 : ((acs al).length : Int) > 64
  · rw [decide_eq_false (show ¬ al.length ≤ 64 by omega), Bool.false_and, Bool.false_and, Bool.false_and, Bool.and_false]
    refine brT (decide_eq_true c1) ?_
    conv => whnf
    exact ⟨rfl, rfl⟩
  rw [decide_eq_true (show al.length ≤ 64 by omega), Bool.true_and]
  refine brF (decide_eq_false c1) ?_
  conv => whnf
  by_cases c2 : (es.length : Int) > 4096
  · rw [decide_eq_false (show ¬ es.length ≤ 4096 by omega), Bool.false_and, Bool.false_and, Bool.and_false]
    refine brT (decide_eq_true c2) ?_
    conv => whnf
    exact ⟨rfl, rfl⟩
  rw [decide_eq_true (show es.length ≤ 4096 by omega), Bool.true_and]
  refine brF (decide_eq_false c2) ?_
  conv => whnf
  by_cases c3 : g > 40
  · rw [decide_eq_false (show ¬ g ≤ 40 by omega), Bool.false_and, Bool.and_false]
    refine brT (decide_eq_true c3) ?_
    conv => whnf
    exact ⟨rfl, rfl⟩
  rw [decide_eq_true (show g ≤ 40 by omega), Bool.true_and]
  refine brF (decide_eq_false c3) ?_
  conv => whnf
  rw [← hB]
  by_cases c4 : t > B
  · rw [decide_eq_false (show ¬ t ≤ B by omega), Bool.and_false]
    refine brT (decide_eq_true c4) ?_
    conv => whnf
    exact ⟨rfl, rfl⟩
  rw [decide_eq_true (show t ≤ B by omega), Bool.and_true]
  refine brF (decide_eq_false c4) ?_
  conv => whnf
  refine .inl ⟨fun m L S => ∃ (j : Nat), chainB al j (al.drop j) = chainB al 0 al ∧ j ≤ al.length ∧ m = al.length - j ∧
      L = [(1, .ptr 0 []), (26, .d (.sl 35 (acs al))), (27, i64 (((acs al).length : Nat) : Int)), (28, i64 (j : Int))] ∧ S = [.var (.d (Lg.d ⟨h, t, g, al, es⟩))],
    ⟨_, _, ⟨0, rfl, Nat.zero_le _, rfl, rfl, rfl⟩, ⟨rfl, rfl, rfl, rfl, trivial⟩⟩, ?_⟩
  rintro _ _ _ ⟨j, h1, hj, rfl, rfl, rfl⟩
  conv => whnf
  refine brec (fun h4 => ?_) (fun h4 => ?_)
  · have h4 := of_decide_eq_true h4
    rw [hlen] at h4
    have hlt : j < al.length := by omega
    conv => whnf
    refine ⟨⟨by omega, by rw [hlen]; omega⟩, ?_⟩
    rw [acs_getD hlt]
    rw [List.drop_eq_getElem_cons hlt, chainB] at h1
    have hs := hn _ (List.getElem_mem hlt)
    generalize al[j]'hlt = a at *
    have e3 : IntKind.i64.wrap ((j : Int) + 1) = ((j + 1 : Nat) : Int) := by rw [w64 (by omega)]; omega
    have e4 : 0 < j → IntKind.i64.wrap ((j : Int) - 1) = ((j - 1 : Nat) : Int) := fun q => by rw [w64 (by omega)]; omega
    obtain ⟨nm, ky, nn, cn⟩ := a
    simp only at h1 hs
    have rc := rright_c (s := nm) (by omega)
    generalize hJ : (j : Int) = J at *
    conv => whnf
    refine ⟨_, rc, ?_⟩
    rintro _ _ ⟨rfl, rfl⟩
    conv => whnf
    by_cases c1 : rightT nm = true
    · rw [c1] at h1 ⊢
      conv => whnf
      refine ⟨by kernel_rfl, ?_⟩
      conv => whnf
      by_cases c2 : 0 < j
      · refine brT (decide_eq_true (by omega)) ?_
        conv => whnf
        have hlp : j - 1 < al.length := by omega
        have hgp := acs_getD hlp
        have hpn : al.getD (j - 1) ⟨.empty, [], 0, 0⟩ = al[j - 1]'hlp := by rw [List.getD_eq_getElem?_getD, List.getElem?_eq_getElem hlp]; rfl
        have hsp := hn _ (List.getElem_mem hlp)
        rw [hpn] at h1
        rw [e4 c2]
        refine ⟨⟨by omega, by rw [hlen]; omega⟩, ?_⟩
        rw [hgp]
        generalize al[j - 1]'hlp = p at *
        obtain ⟨pn, pk, pq, pc⟩ := p
        simp only at h1 hsp
        have oc := rorder_c (a := pn) (b := nm) (by omega) (by omega)
        have hor := ordL_range (keysAt pn 0) (keysAt nm 0)
        unfold ordN at h1
        generalize ordL (keysAt pn 0) (keysAt nm 0) = O at *
        conv => whnf
        refine ⟨_, oc, ?_⟩
        conv => whnf
        refine ⟨by kernel_rfl, ?_⟩
        conv => whnf
        have ej : (j == 0) = false := beq_eq_false_iff_ne.2 (by omega)
        rw [ej, Bool.true_and, Bool.false_or] at h1
        by_cases c3 : O = -1
        · rw [decide_eq_true (by omega), Bool.true_and] at h1
          refine brF (bne_eq_false_iff_eq.2 c3) ?_
          conv => whnf
          exact ⟨_, _, 1, (by omega : al.length - (j + 1) < al.length - j), ⟨j + 1, h1, by omega, rfl, rfl, rfl⟩, ⟨rfl, rfl, rfl, congrArg (fun z => some (i64 z)) e3, trivial⟩, rfl⟩
        · rw [decide_eq_false (by omega), Bool.false_and] at h1
          refine brT (bne_iff_ne.2 c3) ?_
          conv => whnf
          rw [← h1]
          exact ⟨rfl, rfl⟩
      · refine brF (decide_eq_false (by omega)) ?_
        conv => whnf
        refine ⟨by kernel_rfl, ?_⟩
        conv => whnf
        obtain rfl : j = 0 := by omega
        exact ⟨_, _, 1, (by omega : al.length - (0 + 1) < al.length - 0), ⟨0 + 1, by simpa using h1, by omega, rfl, rfl, rfl⟩, ⟨rfl, rfl, rfl, congrArg (fun z => some (i64 z)) e3, trivial⟩, rfl⟩
    · have c1 : rightT nm = false := by cases q : rightT nm with
        | false => rfl
        | true => exact absurd q c1
      rw [c1] at h1 ⊢
      conv => whnf
      rw [← h1]
      exact ⟨rfl, rfl⟩
  · have h4 := of_decide_eq_false h4
    rw [hlen] at h4
    obtain rfl : j = al.length := by omega
    rw [List.drop_length, chainB] at h1
    conv => whnf
    rw [← h1]
    exact ⟨rfl, rfl⟩
end Go.Proofs.YtmdfpifcghmpfaaDoor

namespace Go.Proofs.YtmdfpifcghmpfaaDoor
open Go.Ab Go.RowKit

def noteL (l : Lg) (e : D) : Lg := { l with evs := l.evs.drop (l.evs.length - 4095) ++ [e] }

theorem rnote_c {l : Lg} {k : Int} {s : ByteArray} {n : Int} {ds : List D} (hl : l.ok) (he : ∀ e ∈ l.evs, evOk e) (hel : l.evs.length ≤ 100000) :
    CallR cx 69 [.d l.d, .d (.agg [.int .i64 k, .str s, .int .u64 n, .arr 32 1 ds])] [] fun r S => r = .d (noteL l (.agg [.int .i64 k, .str s, .int .u64 n, .arr 32 1 ds])).d ∧ S = [] := by
  obtain ⟨h, t, g, al, es⟩ := l
  unfold noteL
  simp only at he hel ⊢
  obtain ⟨W, hW⟩ : ∃ W, W = es.length - 4095 := ⟨_, rfl⟩
  rw [← hW]
  refine callR_of (R := R1) cx_ok Tryd.func69 (by kernel_rfl) rfl ?_
  conv => whnf
  refine .inr ⟨47, 35, ?_⟩
  conv => whnf
  refine .inr ⟨fun m L S => ∃ (j : Nat), j ≤ es.length ∧ m = es.length - j ∧
      L = [(2, .ptr 0 []), (3, .ptr 1 []), (4, .ptr 2 []), (5, .row 3), (9, .d (.sl 35 es)), (10, i64 ((es.length : Nat) : Int)), (11, i64 (j : Int))] ∧
      S = [.var (.d (Lg.d ⟨h, t, g, al, es⟩)), .var (.d (.agg [.int .i64 k, .str s, .int .u64 n, .arr 32 1 ds])), .var (.d (.agg [.int .u64 0, .int .u64 0, .int .u64 0, .sl 35 [], .sl 35 []])), .row 47 35 ((es.take j).drop (W))],
    ⟨_, _, ⟨0, Nat.zero_le _, rfl, rfl, by simp⟩, ⟨rfl, rfl, rfl, rfl, rfl, rfl, rfl, trivial⟩⟩, ?_⟩
  rintro _ _ _ ⟨j, hj, rfl, rfl, rfl⟩
  conv => whnf
  refine brec (fun h4 => ?_) (fun h4 => ?_)
  · have h4 := of_decide_eq_true h4
    have hlt : j < es.length := by omega
    have hgd : es.getD (j : Int).toNat .nilP = es[j]'hlt := by rw [Int.toNat_natCast, List.getD_eq_getElem?_getD, List.getElem?_eq_getElem hlt]; rfl
    have htk : es.take (j + 1) = es.take j ++ [es[j]'hlt] := by rw [List.take_add_one, List.getElem?_eq_getElem hlt]; rfl
    obtain ⟨k', s', n', ds', hev, hds⟩ := he _ (List.getElem_mem hlt)
    rw [hev] at hgd htk
    have e3 : IntKind.i64.wrap ((j : Int) + 1) = ((j + 1 : Nat) : Int) := by rw [w64 (by omega)]; omega
    have e4 : IntKind.i64.wrap ((es.length : Int) - (j : Int)) = ((es.length - j : Nat) : Int) := by rw [w64 (by omega)]; omega
    have hll : ((es.take j).drop (W)).length ≤ 100000 := by rw [List.length_drop, List.length_take]; omega
    conv => whnf
    refine ⟨⟨by omega, h4⟩, ?_⟩
    rw [hgd]
    obtain ⟨C, hC⟩ : ∃ C : Int, C = 4096 := ⟨_, rfl⟩
    rw [← hC]
    conv => whnf
    rw [e4]
    by_cases c : es.length - j < 4096
    · refine brT (decide_eq_true (by omega)) ?_
      conv => whnf
      refine ⟨⟨Nat.succ_pos _, by show (((es.take j).drop (W)).length + 1) * (64 + 1) ≤ _; omega⟩, ?_⟩
      conv => whnf
      refine ⟨es.length - (j + 1), [(2, .ptr 0 []), (3, .ptr 1 []), (4, .ptr 2 []), (5, .row 5), (9, .d (.sl 35 es)), (10, i64 ((es.length : Nat) : Int)), (11, i64 ((j + 1 : Nat) : Int))], [0, 1, 2, 5], by omega, ⟨rfl, rfl, rfl, rfl, rfl, rfl, congrArg (fun z => some (i64 z)) e3, trivial⟩, ?_⟩
      conv => whnf
      refine ⟨j + 1, by omega, rfl, rfl, ?_⟩
      rw [htk, List.drop_append_of_le_length (by rw [List.length_take]; omega)]
      rfl
    · refine brF (decide_eq_false (by omega)) ?_
      conv => whnf
      refine ⟨es.length - (j + 1), [(2, .ptr 0 []), (3, .ptr 1 []), (4, .ptr 2 []), (5, .row 3), (9, .d (.sl 35 es)), (10, i64 ((es.length : Nat) : Int)), (11, i64 ((j + 1 : Nat) : Int))], [0, 1, 2, 3], by omega, ⟨rfl, rfl, rfl, rfl, rfl, rfl, congrArg (fun z => some (i64 z)) e3, trivial⟩, ?_⟩
      conv => whnf
      refine ⟨j + 1, by omega, rfl, rfl, ?_⟩
      have d1 : (es.take j).drop (W) = [] := List.drop_eq_nil_iff.2 (by rw [List.length_take]; omega)
      have d2 : (es.take (j + 1)).drop (W) = [] := List.drop_eq_nil_iff.2 (by rw [List.length_take]; omega)
      rw [d1, d2]
  · have h4 := of_decide_eq_false h4
    obtain rfl : j = es.length := by omega
    rw [List.take_length]
    have hll : (es.drop (W)).length ≤ 100000 := by rw [List.length_drop]; omega
    conv => whnf
    refine ⟨⟨Nat.succ_pos _, by show ((es.drop (W)).length + 1) * (64 + 1) ≤ _; omega⟩, ?_⟩
    conv => whnf
    exact ⟨rfl, rfl⟩
end Go.Proofs.YtmdfpifcghmpfaaDoor
