/- Ledgers: cloning accounts; an account's place. Ledgers: an account's place. Ledgers: who has what; what is given and taken. Ledgers: what is taken; a nonce used; coins moved. Ledgers: coins moved; gas, blocks. -/
import Derived.Test.YtmdfpifcghmpfaaDoorCl
import Derived.Test.YtmdfpifcghmpfaaDoorA5
import Derived.Test.YtmdfpifcghmpfaaDoorN3
namespace Go.Proofs.YtmdfpifcghmpfaaDoor
open Go.Shelf Go.Ab Go.RowKit

def renA : Go.Shelf.Ren := ⟨fun | 41 => 72 | n => n, fun | 4 => 4 | 22 => 23 | 23 => 36 | n => n, fun n => n⟩
theorem laysA : SlLaysE0.n41 Tryd.prog renA := {
  mixed := by kernel_rfl
  f41 := ⟨Tryd.f72.name, by kernel_rfl, Tryd.func72.trans (congrArg some (by kernel_rfl))⟩
  t4 := Tryd.underlying4
  a4 := Tryd.isAgg4
  z4 := Tryd.sizeOf4
  v4 := Tryd.zeroValue4
  t22 := Tryd.underlying23
  a22 := Tryd.isAgg23
  z22 := Tryd.sizeOf23
  v22 := Tryd.zeroValue23 }

/-- An account. -/
structure Ac where
  name : ByteArray
  key : List D
  nonce : Int
  coins : Int
def Ac.d (a : Ac) : D := .agg [.str a.name, .arr 32 1 a.key, .int .u64 a.nonce, .int .u64 a.coins]
abbrev acs (l : List Ac) : List D := l.map Ac.d

theorem cloneA_c {l : List Ac} (h : l.length ≤ 100000) : CallR cx 72 [.d (.sl 35 (acs l))] [] fun r S => r = .row 0 ∧ S = [.own 36 35 (acs l)] := by
  have hl : (acs l).length = l.length := List.length_map _
  exact clone_c (ρ := renA) laysA (e := 36) (sz := 35) rfl Tryd.func72 (by kernel_rfl) (by kernel_rfl) rfl rfl rfl rfl (by decide) Tryd.sizeOf36 (by rw [hl]; unfold maxLen; omega) (by rw [hl]; show l.length * 64 ≤ _; omega)
end Go.Proofs.YtmdfpifcghmpfaaDoor

namespace Go.Proofs.YtmdfpifcghmpfaaDoor
open Go.Ab Go.RowKit

theorem at1_c {a : Ac} {who : ByteArray} : CallR cx 111 [.d a.d, .ptr 0 []] [.var (st who)] fun r S => r = bo (decide (a.name = who)) ∧ S = [.var (st who)] := by
  refine callR_of (R := R1) cx_ok Tryd.func111 (by kernel_rfl) rfl ?_
  conv => whnf
  exact ⟨rfl, rfl⟩

/-- The place of the first that is so, or -1. -/
def idxOf (p : Ac → Bool) : List Ac → Nat → Int
  | [], _ => -1
  | a :: l, j => if p a then (j : Int) else idxOf p l (j + 1)

theorem acs_getD {l : List Ac} {j : Nat} (h : j < l.length) : (acs l).getD (j : Int).toNat .nilP = (l[j]'h).d := by
  rw [Int.toNat_natCast, List.getD_eq_getElem?_getD, List.getElem?_map, List.getElem?_eq_getElem h]; rfl

theorem indexFunc_c {l : List Ac} {who : ByteArray} (hl : l.length ≤ 100000) : CallR cx 108 [.d (.sl 35 (acs l)), .fn 111 [0]] [.var (st who)] fun r S =>
    r = i64 (idxOf (fun a => decide (a.name = who)) l 0) ∧ S = [.var (st who)] := by
  have hlen : (acs l).length = l.length := List.length_map _
  refine callR_of (R := R1) cx_ok Tryd.func108 (by kernel_rfl) rfl ?_
  conv => whnf
  refine .inl ⟨fun m L S => ∃ j : Nat, j ≤ l.length ∧ idxOf (fun a => decide (a.name = who)) (l.drop j) j = idxOf (fun a => decide (a.name = who)) l 0 ∧ m = l.length - j ∧
      L = [(0, .d (.sl 35 (acs l))), (1, .fn 111 [0]), (7, i64 (((acs l).length : Nat) : Int)), (8, i64 (j : Int))] ∧ S = [.var (st who)],
    ⟨_, _, ⟨0, Nat.zero_le _, rfl, rfl, rfl, rfl⟩, ⟨rfl, rfl, rfl, rfl, trivial⟩⟩, ?_⟩
  rintro _ _ _ ⟨j, hj, h1, rfl, rfl, rfl⟩
  conv => whnf
  refine brec (fun h4 => ?_) (fun h4 => ?_)
  · have h4 := of_decide_eq_true h4
    rw [hlen] at h4
    have hlt : j < l.length := by omega
    conv => whnf
    refine ⟨⟨by omega, by rw [hlen]; omega⟩, ?_⟩
    rw [acs_getD hlt]
    rw [List.drop_eq_getElem_cons hlt] at h1
    generalize l[j]'hlt = a at *
    conv => whnf
    refine ⟨_, at1_c, ?_⟩
    rintro _ _ ⟨rfl, rfl⟩
    conv => whnf
    rw [idxOf] at h1
    refine brec (fun h5 => ?_) (fun h5 => ?_)
    · rw [if_pos h5] at h1
      conv => whnf
      rw [h1]
      exact ⟨rfl, rfl⟩
    · rw [if_neg (by rw [h5]; decide)] at h1
      have e3 : IntKind.i64.wrap ((j : Int) + 1) = ((j + 1 : Nat) : Int) := by rw [w64 (by omega)]; omega
      conv => whnf
      exact ⟨_, _, 1, (by omega : l.length - (j + 1) < l.length - j), ⟨j + 1, by omega, h1, rfl, rfl, rfl⟩, ⟨rfl, rfl, rfl, congrArg (fun z => some (i64 z)) e3, trivial⟩, rfl⟩
  · have h4 := of_decide_eq_false h4
    rw [hlen] at h4
    obtain rfl : j = l.length := by omega
    rw [List.drop_length, idxOf] at h1
    conv => whnf
    rw [← h1]
    exact ⟨rfl, rfl⟩

/-- A ledger. -/
structure Lg where
  height : Int
  time : Int
  gas : Int
  accs : List Ac
  evs : List D
abbrev esz : Nat := 35
def Lg.d (l : Lg) : D := .agg [.int .u64 l.height, .int .u64 l.time, .int .u64 l.gas, .sl 35 (acs l.accs), .sl esz l.evs]

def atN (l : List Ac) (who : ByteArray) : Int := idxOf (fun a => decide (a.name = who)) l 0

theorem at_c {l : Lg} {who : ByteArray} (hl : l.accs.length ≤ 100000) : CallR cx 52 [.d l.d, st who] [] fun r S => r = i64 (atN l.accs who) ∧ S = [] := by
  have ix := indexFunc_c (who := who) hl
  obtain ⟨h, t, g, al, es⟩ := l
  refine callR_of (R := R1) cx_ok Tryd.func52 (by kernel_rfl) rfl ?_
  conv => whnf
  refine ⟨_, ix, ?_⟩
  rintro _ _ ⟨rfl, rfl⟩
  conv => whnf
  exact ⟨rfl, rfl⟩

theorem with_c {l : Lg} {i : Nat} {a : Ac} (hl : l.accs.length ≤ 100000) (hi : i < l.accs.length) : CallR cx 54 [.d l.d, i64 (i : Int), .d a.d] [] fun r S => r = .d (Lg.d { l with accs := l.accs.set i a }) ∧ S = [] := by
  have cl := cloneA_c hl
  obtain ⟨h, t, g, al, es⟩ := l
  simp only at hl hi cl ⊢
  have hlen : (acs al).length = al.length := List.length_map _
  refine callR_of (R := R1) cx_ok Tryd.func54 (by kernel_rfl) rfl ?_
  conv => whnf
  refine ⟨_, cl, ?_⟩
  rintro _ _ ⟨rfl, rfl⟩
  conv => whnf
  refine ⟨⟨by omega, by rw [hlen]; omega⟩, ?_⟩
  rw [Int.toNat_natCast]
  conv => whnf
  refine ⟨by rw [hlen]; exact hi, ?_⟩
  conv => whnf
  have e : (acs al).set i a.d = acs (al.set i a) := List.map_set.symm
  rw [e]
  exact ⟨rfl, rfl⟩
end Go.Proofs.YtmdfpifcghmpfaaDoor

namespace Go.Proofs.YtmdfpifcghmpfaaDoor
open Go.Ab Go.RowKit

def look : List Ac → ByteArray → Option Ac
  | [], _ => none
  | a :: l, who => if a.name = who then some a else look l who
def putA : List Ac → Ac → List Ac
  | [], _ => []
  | a :: l, b => if a.name = b.name then b :: l else a :: putA l b

theorem idx_look : ∀ (l : List Ac) (who : ByteArray) (k : Nat), (idxOf (fun a => decide (a.name = who)) l k = -1 ∧ look l who = none) ∨
    ∃ j, ∃ h : j < l.length, idxOf (fun a => decide (a.name = who)) l k = ((k + j : Nat) : Int) ∧ look l who = some (l[j]'h) ∧ (l[j]'h).name = who ∧ ∀ b : Ac, b.name = who → l.set j b = putA l b
  | [], _, _ => .inl ⟨rfl, rfl⟩
  | a :: l, who, k => by
    by_cases e : a.name = who
    · refine .inr ⟨0, by simp, ?_, ?_, e, fun b hb => ?_⟩
      · rw [idxOf, if_pos (decide_eq_true e)]; rfl
      · rw [look, if_pos e]; rfl
      · rw [putA, if_pos (by rw [e, hb])]; rfl
    · have e1 : idxOf (fun a => decide (a.name = who)) (a :: l) k = idxOf (fun a => decide (a.name = who)) l (k + 1) := by rw [idxOf, if_neg (by rw [decide_eq_false e]; decide)]
      have e2 : look (a :: l) who = look l who := by rw [look, if_neg e]
      rcases idx_look l who (k + 1) with ⟨h1, h2⟩ | ⟨j, h, h1, h2, h3, h4⟩
      · exact .inl ⟨by rw [e1, h1], by rw [e2, h2]⟩
      · refine .inr ⟨j + 1, by simpa using h, by rw [e1, h1]; congr 1; omega, by rw [e2, h2]; rfl, h3, fun b hb => ?_⟩
        rw [putA, if_neg (by rw [hb]; exact e), ← h4 b hb]
        rfl

def Ac.ok (a : Ac) : Prop := U a.nonce ∧ U a.coins
def Lg.ok (l : Lg) : Prop := (U l.height ∧ U l.time ∧ U l.gas) ∧ (∀ a ∈ l.accs, a.ok) ∧ l.accs.length ≤ 100000

theorem look_mem : ∀ {l : List Ac} {who : ByteArray} {a : Ac}, look l who = some a → a ∈ l ∧ a.name = who
  | [], _, _, h => by cases h
  | b :: l, who, a, h => by
    rw [look] at h
    split at h
    · cases h; exact ⟨by simp, by assumption⟩
    · have := look_mem h; exact ⟨by simp [this.1], this.2⟩

def findL (l : Lg) (who : ByteArray) : D × Bool := match look l.accs who with
  | none => (.agg [.str .empty, .arr 32 1 (List.replicate 32 (.int .u8 0)), .int .u64 0, .int .u64 0], false)
  | some a => (a.d, true)
def giveL (l : Lg) (who : ByteArray) (n : Int) : Lg × Int := match look l.accs who with
  | none => (l, 14)
  | some a => if a.coins + n < 18446744073709551616 then ({ l with accs := putA l.accs { a with coins := a.coins + n } }, 0) else (l, 10)
def takeL (l : Lg) (who : ByteArray) (n : Int) : Lg × Int := match look l.accs who with
  | none => (l, 14)
  | some a => if a.coins < n then (l, 11) else ({ l with accs := putA l.accs { a with coins := a.coins - n } }, 0)

theorem find_c {l : Lg} {who : ByteArray} (hl : l.ok) : CallR cx 16 [.d l.d, st who] [] fun r S => r = .tup [.d (findL l who).1, bo (findL l who).2] ∧ S = [] := by
  have at' := at_c (who := who) hl.2.2
  have hix := idx_look l.accs who 0
  obtain ⟨h, t, g, al, es⟩ := l
  simp only at hix
  have hlen : (acs al).length = al.length := List.length_map _
  unfold findL
  simp only
  unfold atN at at'
  rcases hix with ⟨h1, h2⟩ | ⟨j, hj, h1, h2, h3, h4⟩
  · simp only at at'
    rw [h1] at at'
    rw [h2]
    refine callR_of (R := R1) cx_ok Tryd.func16 (by kernel_rfl) rfl ?_
    conv => whnf
    refine ⟨_, at', ?_⟩
    rintro _ _ ⟨rfl, rfl⟩
    conv => whnf
    exact ⟨rfl, rfl⟩
  · simp only at at'
    rw [h1, Nat.zero_add] at at'
    rw [h2]
    have hgd := acs_getD hj
    generalize al[j]'hj = a at *
    generalize hJ : (j : Int) = J at *
    refine callR_of (R := R1) cx_ok Tryd.func16 (by kernel_rfl) rfl ?_
    conv => whnf
    refine ⟨_, at', ?_⟩
    rintro _ _ ⟨rfl, rfl⟩
    conv => whnf
    refine brF (decide_eq_false (by omega)) ?_
    conv => whnf
    refine ⟨⟨by omega, by rw [hlen]; omega⟩, ?_⟩
    rw [hgd]
    conv => whnf
    exact ⟨rfl, rfl⟩

theorem give_c {l : Lg} {who : ByteArray} {n : Int} (hl : l.ok) (hn : U n) : CallR cx 14 [.d l.d, st who, u64 n] [] fun r S => r = .tup [.d (giveL l who n).1.d, i64 (giveL l who n).2] ∧ S = [] := by
  have at' := at_c (who := who) hl.2.2
  have hix := idx_look l.accs who 0
  have hlk := fun a => look_mem (l := l.accs) (who := who) (a := a)
  have wi := fun (i : Nat) (a : Ac) => with_c (l := l) (i := i) (a := a) hl.2.2
  have hok := hl.2.1
  obtain ⟨h, t, g, al, es⟩ := l
  simp only at hix hlk wi hok
  have hlen : (acs al).length = al.length := List.length_map _
  unfold giveL
  simp only
  unfold atN at at'
  rcases hix with ⟨h1, h2⟩ | ⟨j, hj, h1, h2, h3, h4⟩
  · simp only at at'
    rw [h1] at at'
    rw [h2]
    refine callR_of (R := R1) cx_ok Tryd.func14 (by kernel_rfl) rfl ?_
    conv => whnf
    refine ⟨_, at', ?_⟩
    rintro _ _ ⟨rfl, rfl⟩
    conv => whnf
    exact ⟨rfl, rfl⟩
  · simp only at at'
    rw [h1, Nat.zero_add] at at'
    rw [h2]
    have hgd := acs_getD hj
    have ha := hok _ (hlk _ h2).1
    have w := fun b => wi j b hj
    generalize al[j]'hj = a at *
    have ad := add_c ha.2 hn
    obtain ⟨nm, ky, nn, cn⟩ := a
    simp only at ad h3 ⊢
    generalize hJ : (j : Int) = J at *
    refine callR_of (R := R1) cx_ok Tryd.func14 (by kernel_rfl) rfl ?_
    conv => whnf
    refine ⟨_, at', ?_⟩
    rintro _ _ ⟨rfl, rfl⟩
    conv => whnf
    refine brF (decide_eq_false (by omega)) ?_
    conv => whnf
    refine ⟨⟨by omega, by rw [hlen]; omega⟩, ?_⟩
    rw [hgd]
    conv => whnf
    by_cases c : cn + n < 18446744073709551616
    · rw [if_pos c, if_pos c] at ad
      rw [if_pos c]
      have w := w ⟨nm, ky, nn, cn + n⟩
      rw [h4 ⟨nm, ky, nn, cn + n⟩ h3] at w
      refine ⟨_, ad, ?_⟩
      rintro _ _ ⟨rfl, rfl⟩
      conv => whnf
      refine ⟨_, w, ?_⟩
      rintro _ _ ⟨rfl, rfl⟩
      conv => whnf
      exact ⟨rfl, rfl⟩
    · rw [if_neg c, if_neg c] at ad
      rw [if_neg c]
      refine ⟨_, ad, ?_⟩
      rintro _ _ ⟨rfl, rfl⟩
      conv => whnf
      exact ⟨rfl, rfl⟩
end Go.Proofs.YtmdfpifcghmpfaaDoor

namespace Go.Proofs.YtmdfpifcghmpfaaDoor
open Go.Ab Go.RowKit

def bumpL (l : Lg) (who : ByteArray) (n : Int) : Lg × Int := match look l.accs who with
  | none => (l, 14)
  | some a => if a.nonce ≠ n then (l, 20) else if n = 18446744073709551615 then (l, 10) else ({ l with accs := putA l.accs { a with nonce := n + 1 } }, 0)

theorem take_c {l : Lg} {who : ByteArray} {n : Int} (hl : l.ok) (hn : U n) : CallR cx 17 [.d l.d, st who, u64 n] [] fun r S => r = .tup [.d (takeL l who n).1.d, i64 (takeL l who n).2] ∧ S = [] := by
  have at' := at_c (who := who) hl.2.2
  have hix := idx_look l.accs who 0
  have hlk := fun a => look_mem (l := l.accs) (who := who) (a := a)
  have wi := fun (i : Nat) (a : Ac) => with_c (l := l) (i := i) (a := a) hl.2.2
  have hok := hl.2.1
  obtain ⟨h, t, g, al, es⟩ := l
  simp only at hix hlk wi hok
  have hlen : (acs al).length = al.length := List.length_map _
  unfold takeL
  simp only
  unfold atN at at'
  rcases hix with ⟨h1, h2⟩ | ⟨j, hj, h1, h2, h3, h4⟩
  · simp only at at'
    rw [h1] at at'
    rw [h2]
    refine callR_of (R := R1) cx_ok Tryd.func17 (by kernel_rfl) rfl ?_
    conv => whnf
    refine ⟨_, at', ?_⟩
    rintro _ _ ⟨rfl, rfl⟩
    conv => whnf
    exact ⟨rfl, rfl⟩
  · simp only at at'
    rw [h1, Nat.zero_add] at at'
    rw [h2]
    have hgd := acs_getD hj
    have ha := hok _ (hlk _ h2).1
    have w := fun b => wi j b hj
    generalize al[j]'hj = a at *
    have ad := sub_c ha.2 hn
    obtain ⟨nm, ky, nn, cn⟩ := a
    simp only at ad h3 ⊢
    generalize hJ : (j : Int) = J at *
    refine callR_of (R := R1) cx_ok Tryd.func17 (by kernel_rfl) rfl ?_
    conv => whnf
    refine ⟨_, at', ?_⟩
    rintro _ _ ⟨rfl, rfl⟩
    conv => whnf
    refine brF (decide_eq_false (by omega)) ?_
    conv => whnf
    refine ⟨⟨by omega, by rw [hlen]; omega⟩, ?_⟩
    rw [hgd]
    conv => whnf
    by_cases c : cn < n
    · rw [if_pos c, if_pos c] at ad
      rw [if_pos c]
      refine ⟨_, ad, ?_⟩
      rintro _ _ ⟨rfl, rfl⟩
      conv => whnf
      exact ⟨rfl, rfl⟩
    · rw [if_neg c, if_neg c] at ad
      rw [if_neg c]
      have w := w ⟨nm, ky, nn, cn - n⟩
      rw [h4 ⟨nm, ky, nn, cn - n⟩ h3] at w
      refine ⟨_, ad, ?_⟩
      rintro _ _ ⟨rfl, rfl⟩
      conv => whnf
      refine ⟨_, w, ?_⟩
      rintro _ _ ⟨rfl, rfl⟩
      conv => whnf
      exact ⟨rfl, rfl⟩

theorem bump_c {l : Lg} {who : ByteArray} {n : Int} (hl : l.ok) (hn : U n) : CallR cx 62 [.d l.d, st who, u64 n] [] fun r S => r = .tup [.d (bumpL l who n).1.d, i64 (bumpL l who n).2] ∧ S = [] := by
  have at' := at_c (who := who) hl.2.2
  have hix := idx_look l.accs who 0
  have hlk := fun a => look_mem (l := l.accs) (who := who) (a := a)
  have wi := fun (i : Nat) (a : Ac) => with_c (l := l) (i := i) (a := a) hl.2.2
  have hok := hl.2.1
  obtain ⟨h, t, g, al, es⟩ := l
  simp only at hix hlk wi hok
  have hlen : (acs al).length = al.length := List.length_map _
  unfold bumpL
  simp only
  unfold atN at at'
  rcases hix with ⟨h1, h2⟩ | ⟨j, hj, h1, h2, h3, h4⟩
  · simp only at at'
    rw [h1] at at'
    rw [h2]
    refine callR_of (R := R1) cx_ok Tryd.func62 (by kernel_rfl) rfl ?_
    conv => whnf
    refine ⟨_, at', ?_⟩
    rintro _ _ ⟨rfl, rfl⟩
    conv => whnf
    exact ⟨rfl, rfl⟩
  · simp only at at'
    rw [h1, Nat.zero_add] at at'
    rw [h2]
    have hgd := acs_getD hj
    have ha := hok _ (hlk _ h2).1
    have w := fun b => wi j b hj
    generalize al[j]'hj = a at *
    obtain ⟨nm, ky, nn, cn⟩ := a
    simp only at h3 ⊢
    generalize hJ : (j : Int) = J at *
    refine callR_of (R := R1) cx_ok Tryd.func62 (by kernel_rfl) rfl ?_
    conv => whnf
    refine ⟨_, at', ?_⟩
    rintro _ _ ⟨rfl, rfl⟩
    conv => whnf
    refine brF (decide_eq_false (by omega)) ?_
    conv => whnf
    refine ⟨⟨by omega, by rw [hlen]; omega⟩, ?_⟩
    rw [hgd]
    conv => whnf
    obtain ⟨C, hC⟩ : ∃ C : Int, C = 18446744073709551615 := ⟨_, rfl⟩
    rw [← hC]
    have hn2 := ha.1
    unfold U at hn hn2
    simp only at hn2
    by_cases c : nn = n
    · subst c
      rw [if_neg (by simp)]
      refine brF (bne_eq_false_iff_eq.2 rfl) ?_
      conv => whnf
      by_cases c2 : nn = C
      · rw [if_pos c2]
        refine brT (beq_iff_eq.2 c2) ?_
        conv => whnf
        exact ⟨rfl, rfl⟩
      · rw [if_neg c2]
        have e : IntKind.u64.wrap (nn + 1) = nn + 1 := by rw [Go.Ab.wrap64]; omega
        have w := w ⟨nm, ky, nn + 1, cn⟩
        rw [h4 ⟨nm, ky, nn + 1, cn⟩ h3] at w
        refine brF (beq_eq_false_iff_ne.2 c2) ?_
        conv => whnf
        rw [e]
        refine ⟨_, w, ?_⟩
        rintro _ _ ⟨rfl, rfl⟩
        conv => whnf
        exact ⟨rfl, rfl⟩
    · rw [if_pos c]
      refine brT (bne_iff_ne.2 c) ?_
      conv => whnf
      exact ⟨rfl, rfl⟩

end Go.Proofs.YtmdfpifcghmpfaaDoor

namespace Go.Proofs.YtmdfpifcghmpfaaDoor
open Go.Ab Go.RowKit

theorem putA_len : ∀ (l : List Ac) (b : Ac), (putA l b).length = l.length
  | [], _ => rfl
  | a :: l, b => by
    rw [putA]
    split
    · rfl
    · rw [List.length_cons, List.length_cons, putA_len l b]
theorem putA_ok : ∀ {l : List Ac} {b : Ac}, (∀ a ∈ l, a.ok) → b.ok → ∀ a ∈ putA l b, a.ok
  | [], _, _, _, _, ha => by cases ha
  | c :: l, b, h, hb, a, ha => by
    rw [putA] at ha
    split at ha
    · rcases List.mem_cons.1 ha with rfl | ha
      · exact hb
      · exact h a (by simp [ha])
    · rcases List.mem_cons.1 ha with rfl | ha
      · exact h _ (by simp)
      · exact putA_ok (fun x hx => h x (by simp [hx])) hb a ha

theorem put_ok {l : Lg} {b : Ac} (hl : l.ok) (hb : b.ok) : Lg.ok { l with accs := putA l.accs b } :=
  ⟨hl.1, putA_ok hl.2.1 hb, by show (putA l.accs b).length ≤ _; rw [putA_len]; exact hl.2.2⟩

theorem giveL_ok {l : Lg} {who : ByteArray} {n : Int} (hl : l.ok) (hn : U n) : (giveL l who n).1.ok := by
  unfold giveL
  cases h : look l.accs who with
  | none => exact hl
  | some a =>
    have ha := hl.2.1 a (look_mem h).1
    simp only
    split
    · exact put_ok hl ⟨ha.1, by have := ha.2; unfold U at *; simp only; omega⟩
    · exact hl
theorem takeL_ok {l : Lg} {who : ByteArray} {n : Int} (hl : l.ok) (hn : U n) : (takeL l who n).1.ok := by
  unfold takeL
  cases h : look l.accs who with
  | none => exact hl
  | some a =>
    have ha := hl.2.1 a (look_mem h).1
    simp only
    split
    · exact hl
    · exact put_ok hl ⟨ha.1, by have := ha.2; unfold U at *; simp only; omega⟩
theorem bumpL_ok {l : Lg} {who : ByteArray} {n : Int} (hl : l.ok) (hn : U n) : (bumpL l who n).1.ok := by
  unfold bumpL
  cases h : look l.accs who with
  | none => exact hl
  | some a =>
    have ha := hl.2.1 a (look_mem h).1
    simp only
    split
    · exact hl
    split
    · exact hl
    · exact put_ok hl ⟨by unfold U at *; simp only; omega, ha.2⟩

def moveL (l : Lg) (fr to : ByteArray) (n : Int) : Lg × Int :=
  if (takeL l fr n).2 ≠ 0 then (l, (takeL l fr n).2) else if (giveL (takeL l fr n).1 to n).2 ≠ 0 then (l, (giveL (takeL l fr n).1 to n).2) else ((giveL (takeL l fr n).1 to n).1, 0)

theorem move_c {l : Lg} {fr to : ByteArray} {n : Int} (hl : l.ok) (hn : U n) : CallR cx 22 [.d l.d, st fr, st to, u64 n] [] fun r S => r = .tup [.d (moveL l fr to n).1.d, i64 (moveL l fr to n).2] ∧ S = [] := by
  have tk := take_c (who := fr) hl hn
  have gv := give_c (l := (takeL l fr n).1) (who := to) (takeL_ok hl hn) hn
  unfold moveL
  generalize takeL l fr n = T at *
  obtain ⟨m, e⟩ := T
  simp only at tk gv ⊢
  generalize giveL m to n = Q at *
  obtain ⟨k, f⟩ := Q
  simp only at gv ⊢
  obtain ⟨h1, t1, g1, a1, e1⟩ := l
  obtain ⟨h2, t2, g2, a2, e2⟩ := m
  obtain ⟨h3, t3, g3, a3, e3⟩ := k
  refine callR_of (R := R1) cx_ok Tryd.func22 (by kernel_rfl) rfl ?_
  conv => whnf
  refine ⟨_, tk, ?_⟩
  rintro _ _ ⟨rfl, rfl⟩
  conv => whnf
  by_cases c : e = 0
  · subst c
    rw [if_neg (by simp)]
    conv => whnf
    refine ⟨_, gv, ?_⟩
    rintro _ _ ⟨rfl, rfl⟩
    conv => whnf
    by_cases c2 : f = 0
    · subst c2
      rw [if_neg (by simp)]
      conv => whnf
      exact ⟨rfl, rfl⟩
    · rw [if_pos c2]
      refine brT (bne_iff_ne.2 c2) ?_
      conv => whnf
      exact ⟨rfl, rfl⟩
  · rw [if_pos c]
    refine brT (bne_iff_ne.2 c) ?_
    conv => whnf
    exact ⟨rfl, rfl⟩

def spendL (l : Lg) (n : Int) : Lg × Int := if l.gas + n ≤ 40 then ({ l with gas := l.gas + n }, 0) else (l, 23)

theorem spend_c {l : Lg} {n : Int} (hl : l.ok) (hn : U n) : CallR cx 64 [.d l.d, u64 n] [] fun r S => r = .tup [.d (spendL l n).1.d, i64 (spendL l n).2] ∧ S = [] := by
  have ad := add_c hl.1.2.2 hn
  have h0 := hl.1.2.2
  obtain ⟨h, t, g, al, es⟩ := l
  simp only at ad h0
  unfold spendL
  simp only
  unfold U at h0 hn
  refine callR_of (R := R1) cx_ok Tryd.func64 (by kernel_rfl) rfl ?_
  conv => whnf
  refine ⟨_, ad, ?_⟩
  rintro _ _ ⟨rfl, rfl⟩
  by_cases c : g + n ≤ 40
  · rw [if_pos c, if_pos (by omega), if_pos (by omega)]
    conv => whnf
    refine brF (decide_eq_false (by omega)) ?_
    conv => whnf
    exact ⟨rfl, rfl⟩
  · rw [if_neg c]
    by_cases c2 : g + n < 18446744073709551616
    · rw [if_pos c2, if_pos c2]
      conv => whnf
      refine brT (decide_eq_true (by omega)) ?_
      conv => whnf
      exact ⟨rfl, rfl⟩
    · rw [if_neg c2, if_neg c2]
      conv => whnf
      exact ⟨rfl, rfl⟩
end Go.Proofs.YtmdfpifcghmpfaaDoor
