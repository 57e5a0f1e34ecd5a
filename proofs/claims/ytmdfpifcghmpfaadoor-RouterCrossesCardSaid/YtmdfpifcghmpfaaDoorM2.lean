/- Ledgers, the model's: who has what; an account set. Ledgers, the model's: what is given, taken, moved; nonces, gas. Ledgers: a block more. Ledgers: all coins. -/
import Derived.Test.YtmdfpifcghmpfaaDoorM1
namespace Go.Proofs.YtmdfpifcghmpfaaDoor
open Go.Ab Go.RowKit

abbrev zeroA : D := .agg [.str .empty, .arr 32 1 (List.replicate 32 (.int .u8 0)), .int .u64 0, .int .u64 0]

theorem rfind_c {l : Lg} {who : ByteArray} (hl : l.ok) : CallR cx 24 [.d l.d, st who] [] fun r S => r = .tup [.d (findL l who).1, bo (findL l who).2] ∧ S = [] := by
  have hL := hl.2.2
  obtain ⟨h, t, g, al, es⟩ := l
  simp only at hL
  have hlen : (acs al).length = al.length := List.length_map _
  unfold findL
  simp only
  refine callR_of (R := R1) cx_ok Tryd.func24 (by kernel_rfl) rfl ?_
  conv => whnf
  refine .inl ⟨fun m L S => ∃ j : Nat, j ≤ al.length ∧ look (al.drop j) who = look al who ∧ m = al.length - j ∧
      L = [(1, st who), (4, .ptr 1 []), (5, bo false), (9, .d (.sl 35 (acs al))), (10, i64 (((acs al).length : Nat) : Int)), (11, i64 (j : Int))] ∧ S = [.var (.d (Lg.d ⟨h, t, g, al, es⟩)), .var (.d zeroA)],
    ⟨_, _, ⟨0, Nat.zero_le _, rfl, rfl, rfl, rfl⟩, ⟨rfl, rfl, rfl, rfl, rfl, rfl, trivial⟩⟩, ?_⟩
  rintro _ _ _ ⟨j, hj, h1, rfl, rfl, rfl⟩
  conv => whnf
  refine brec (fun h4 => ?_) (fun h4 => ?_)
  · have h4 := of_decide_eq_true h4
    rw [hlen] at h4
    have hlt : j < al.length := by omega
    conv => whnf
    refine ⟨⟨by omega, by rw [hlen]; omega⟩, ?_⟩
    rw [acs_getD hlt]
    rw [List.drop_eq_getElem_cons hlt, look] at h1
    generalize al[j]'hlt = a at *
    obtain ⟨nm, ky, nn, cn⟩ := a
    simp only at h1
    conv => whnf
    by_cases c : nm = who
    · rw [if_pos c] at h1
      refine brT (decide_eq_true c) ?_
      conv => whnf
      rw [← h1]
      exact ⟨rfl, rfl⟩
    · rw [if_neg c] at h1
      have e3 : IntKind.i64.wrap ((j : Int) + 1) = ((j + 1 : Nat) : Int) := by rw [w64 (by omega)]; omega
      refine brF (decide_eq_false c) ?_
      conv => whnf
      exact ⟨_, _, 2, (by omega : al.length - (j + 1) < al.length - j), ⟨j + 1, by omega, h1, rfl, rfl, rfl⟩, ⟨rfl, rfl, rfl, rfl, rfl, congrArg (fun z => some (i64 z)) e3, trivial⟩, rfl⟩
  · have h4 := of_decide_eq_false h4
    rw [hlen] at h4
    obtain rfl : j = al.length := by omega
    rw [List.drop_length, look] at h1
    conv => whnf
    rw [← h1]
    exact ⟨rfl, rfl⟩

theorem set_c {l : Lg} {b : Ac} (hl : l.ok) : CallR cx 113 [.d l.d, .d b.d] [] fun r S => r = .d (Lg.d { l with accs := putA l.accs b }) ∧ S = [] := by
  have hL := hl.2.2
  obtain ⟨h, t, g, al, es⟩ := l
  obtain ⟨bn, bk, bo', bc⟩ := b
  simp only at hL ⊢
  have hlen : (acs al).length = al.length := List.length_map _
  refine callR_of (R := R1) cx_ok Tryd.func113 (by kernel_rfl) rfl ?_
  conv => whnf
  refine .inr ⟨36, 35, ?_⟩
  conv => whnf
  obtain ⟨zl, hzl⟩ : ∃ zl : D, zl = D.agg [.int .u64 0, .int .u64 0, .int .u64 0, .sl 35 [], .sl 35 []] := ⟨_, rfl⟩
  refine .inr ⟨fun m L S => ∃ (j : Nat) (dn : Bool) (out : List Ac), out ++ (if dn then al.drop j else putA (al.drop j) ⟨bn, bk, bo', bc⟩) = putA al ⟨bn, bk, bo', bc⟩ ∧ out.length = j ∧ j ≤ al.length ∧ m = al.length - j ∧
      L = [(2, .ptr 0 []), (3, .ptr 1 []), (4, .ptr 2 []), (5, .row 3), (6, bo dn), (10, .d (.sl 35 (acs al))), (11, i64 (((acs al).length : Nat) : Int)), (12, i64 (j : Int))] ∧
      S = [.var (.d (Lg.d ⟨h, t, g, al, es⟩)), .var (.d (Ac.d ⟨bn, bk, bo', bc⟩)), .var (.d (.agg [.int .u64 0, .int .u64 0, .int .u64 0, .sl 35 [], .sl 35 []])), .row 36 35 (acs out)],
    ⟨_, _, ⟨0, false, [], rfl, rfl, Nat.zero_le _, rfl, rfl, rfl⟩, ⟨rfl, rfl, rfl, rfl, rfl, rfl, rfl, rfl, trivial⟩⟩, ?_⟩
  rintro _ _ _ ⟨j, dn, out, h1, h2, hj, rfl, rfl, rfl⟩
  have hlo : (acs out).length = out.length := List.length_map _
  conv => whnf
  refine brec (fun h4 => ?_) (fun h4 => ?_)
  · have h4 := of_decide_eq_true h4
    rw [hlen] at h4
    have hlt : j < al.length := by omega
    conv => whnf
    refine ⟨⟨by omega, by rw [hlen]; omega⟩, ?_⟩
    rw [acs_getD hlt]
    rw [List.drop_eq_getElem_cons hlt, putA] at h1
    generalize al[j]'hlt = a at *
    have e3 : IntKind.i64.wrap ((j : Int) + 1) = ((j + 1 : Nat) : Int) := by rw [w64 (by omega)]; omega
    have ea : ∀ x : Ac, acs out ++ [x.d] = acs (out ++ [x]) := fun x => by unfold acs; rw [List.map_append]; rfl
    obtain ⟨nm, ky, nn, cn⟩ := a
    simp only at h1
    conv => whnf
    by_cases c : nm = bn
    · refine brT (decide_eq_true c) ?_
      conv => whnf
      cases dn with
      | true =>
        conv => whnf
        refine ⟨⟨Nat.succ_pos _, by show ((acs out).length + 1) * (64 + 1) ≤ _; omega⟩, ?_⟩
        conv => whnf
        refine ⟨al.length - (j + 1), [(2, .ptr 0 []), (3, .ptr 1 []), (4, .ptr 2 []), (5, .row 5), (6, bo true), (10, .d (.sl 35 (acs al))), (11, i64 (((acs al).length : Nat) : Int)), (12, i64 ((j + 1 : Nat) : Int))], [0, 1, 2, 5], by omega, ⟨rfl, rfl, rfl, rfl, rfl, rfl, rfl, congrArg (fun z => some (i64 z)) e3, trivial⟩, ?_⟩
        conv => whnf
        refine ⟨j + 1, true, out ++ [⟨nm, ky, nn, cn⟩], by rw [if_pos rfl] at h1 ⊢; rw [List.append_assoc]; exact h1, by rw [List.length_append, h2]; rfl, by omega, rfl, rfl, ?_⟩
        exact congrArg (fun z => [Blk.var (.d (Lg.d ⟨h, t, g, al, es⟩)), .var (.d (Ac.d ⟨bn, bk, bo', bc⟩)), .var (.d (.agg [.int .u64 0, .int .u64 0, .int .u64 0, .sl 35 [], .sl 35 []])), .row 36 35 z]) (ea ⟨nm, ky, nn, cn⟩)
      | false =>
        conv => whnf
        refine ⟨⟨Nat.succ_pos _, by show ((acs out).length + 1) * (64 + 1) ≤ _; omega⟩, ?_⟩
        conv => whnf
        refine ⟨al.length - (j + 1), [(2, .ptr 0 []), (3, .ptr 1 []), (4, .ptr 2 []), (5, .row 5), (6, bo true), (10, .d (.sl 35 (acs al))), (11, i64 (((acs al).length : Nat) : Int)), (12, i64 ((j + 1 : Nat) : Int))], [0, 1, 2, 5], by omega, ⟨rfl, rfl, rfl, rfl, rfl, rfl, rfl, congrArg (fun z => some (i64 z)) e3, trivial⟩, ?_⟩
        conv => whnf
        refine ⟨j + 1, true, out ++ [⟨bn, bk, bo', bc⟩], by rw [if_neg (by decide), if_pos c] at h1; rw [if_pos rfl, List.append_assoc]; exact h1, by rw [List.length_append, h2]; rfl, by omega, rfl, rfl, ?_⟩
        exact congrArg (fun z => [Blk.var (.d (Lg.d ⟨h, t, g, al, es⟩)), .var (.d (Ac.d ⟨bn, bk, bo', bc⟩)), .var (.d (.agg [.int .u64 0, .int .u64 0, .int .u64 0, .sl 35 [], .sl 35 []])), .row 36 35 z]) (ea ⟨bn, bk, bo', bc⟩)
    · refine brF (decide_eq_false c) ?_
      conv => whnf
      refine ⟨⟨Nat.succ_pos _, by show ((acs out).length + 1) * (64 + 1) ≤ _; omega⟩, ?_⟩
      conv => whnf
      refine ⟨al.length - (j + 1), [(2, .ptr 0 []), (3, .ptr 1 []), (4, .ptr 2 []), (5, .row 5), (6, bo dn), (10, .d (.sl 35 (acs al))), (11, i64 (((acs al).length : Nat) : Int)), (12, i64 ((j + 1 : Nat) : Int))], [0, 1, 2, 5], by omega, ⟨rfl, rfl, rfl, rfl, rfl, rfl, rfl, congrArg (fun z => some (i64 z)) e3, trivial⟩, ?_⟩
      conv => whnf
      refine ⟨j + 1, dn, out ++ [⟨nm, ky, nn, cn⟩], by rw [if_neg c] at h1; rw [List.append_assoc, ← h1]; cases dn <;> rfl, by rw [List.length_append, h2]; rfl, by omega, rfl, rfl, ?_⟩
      exact congrArg (fun z => [Blk.var (.d (Lg.d ⟨h, t, g, al, es⟩)), .var (.d (Ac.d ⟨bn, bk, bo', bc⟩)), .var (.d (.agg [.int .u64 0, .int .u64 0, .int .u64 0, .sl 35 [], .sl 35 []])), .row 36 35 z]) (ea ⟨nm, ky, nn, cn⟩)
  · have h4 := of_decide_eq_false h4
    rw [hlen] at h4
    obtain rfl : j = al.length := by omega
    rw [List.drop_length] at h1
    have h1 : out = putA al ⟨bn, bk, bo', bc⟩ := by cases dn <;> simpa [putA] using h1
    conv => whnf
    rw [← h1]
    exact ⟨rfl, rfl⟩
end Go.Proofs.YtmdfpifcghmpfaaDoor

namespace Go.Proofs.YtmdfpifcghmpfaaDoor
open Go.Ab Go.RowKit

theorem rgive_c {l : Lg} {who : ByteArray} {n : Int} (hl : l.ok) (hn : U n) : CallR cx 59 [.d l.d, st who, u64 n] [] fun r S => r = .tup [.d (giveL l who n).1.d, i64 (giveL l who n).2] ∧ S = [] := by
  have fd := rfind_c (who := who) hl
  have sc := fun b => set_c (b := b) hl
  have hok := hl.2.1
  have hlk := fun a => look_mem (l := l.accs) (who := who) (a := a)
  obtain ⟨h, t, g, al, es⟩ := l
  simp only at hok hlk sc
  unfold findL at fd
  unfold giveL
  simp only at fd ⊢
  cases hx : look al who with
  | none =>
    rw [hx] at fd
    simp only at fd ⊢
    refine callR_of (R := R1) cx_ok Tryd.func59 (by kernel_rfl) rfl ?_
    conv => whnf
    refine ⟨_, fd, ?_⟩
    rintro _ _ ⟨rfl, rfl⟩
    conv => whnf
    exact ⟨rfl, rfl⟩
  | some a =>
    rw [hx] at fd
    have ha := hok _ (hlk _ hx).1
    obtain ⟨nm, ky, nn, cn⟩ := a
    simp only at fd ⊢
    have ha1 := ha.1
    have ha2 := ha.2
    simp only at ha1 ha2
    have ad := radd_c ha2 hn
    refine callR_of (R := R1) cx_ok Tryd.func59 (by kernel_rfl) rfl ?_
    conv => whnf
    refine ⟨_, fd, ?_⟩
    rintro _ _ ⟨rfl, rfl⟩
    conv => whnf
    by_cases c : cn + n < 18446744073709551616
    · rw [if_pos c, if_pos c] at ad
      rw [if_pos c]
      refine ⟨_, ad, ?_⟩
      rintro _ _ ⟨rfl, rfl⟩
      conv => whnf
      refine ⟨_, sc ⟨nm, ky, nn, cn + n⟩, ?_⟩
      rintro _ _ ⟨rfl, rfl⟩
      conv => whnf
      exact ⟨rfl, rfl⟩
    · rw [if_neg c, if_neg c] at ad
      rw [if_neg c]
      refine ⟨_, ad, ?_⟩
      rintro _ _ ⟨rfl, rfl⟩
      conv => whnf
      exact ⟨rfl, rfl⟩


theorem rtake_c {l : Lg} {who : ByteArray} {n : Int} (hl : l.ok) (hn : U n) : CallR cx 60 [.d l.d, st who, u64 n] [] fun r S => r = .tup [.d (takeL l who n).1.d, i64 (takeL l who n).2] ∧ S = [] := by
  have fd := rfind_c (who := who) hl
  have sc := fun b => set_c (b := b) hl
  have hok := hl.2.1
  have hlk := fun a => look_mem (l := l.accs) (who := who) (a := a)
  obtain ⟨h, t, g, al, es⟩ := l
  simp only at hok hlk sc
  unfold findL at fd
  unfold takeL
  simp only at fd ⊢
  cases hx : look al who with
  | none =>
    rw [hx] at fd
    simp only at fd ⊢
    refine callR_of (R := R1) cx_ok Tryd.func60 (by kernel_rfl) rfl ?_
    conv => whnf
    refine ⟨_, fd, ?_⟩
    rintro _ _ ⟨rfl, rfl⟩
    conv => whnf
    exact ⟨rfl, rfl⟩
  | some a =>
    rw [hx] at fd
    have ha := hok _ (hlk _ hx).1
    obtain ⟨nm, ky, nn, cn⟩ := a
    simp only at fd ⊢
    have ha1 := ha.1
    have ha2 := ha.2
    simp only at ha1 ha2
    refine callR_of (R := R1) cx_ok Tryd.func60 (by kernel_rfl) rfl ?_
    conv => whnf
    refine ⟨_, fd, ?_⟩
    rintro _ _ ⟨rfl, rfl⟩
    conv => whnf
    unfold U at ha2 hn
    by_cases c : cn < n
    · rw [if_pos c]
      refine brT (decide_eq_true c) ?_
      conv => whnf
      exact ⟨rfl, rfl⟩
    · rw [if_neg c]
      have e : IntKind.u64.wrap (cn - n) = cn - n := by rw [Go.Ab.wrap64]; omega
      refine brF (decide_eq_false c) ?_
      conv => whnf
      rw [e]
      refine ⟨_, sc ⟨nm, ky, nn, cn - n⟩, ?_⟩
      rintro _ _ ⟨rfl, rfl⟩
      conv => whnf
      exact ⟨rfl, rfl⟩


theorem rbump_c {l : Lg} {who : ByteArray} {n : Int} (hl : l.ok) (hn : U n) : CallR cx 63 [.d l.d, st who, u64 n] [] fun r S => r = .tup [.d (bumpL l who n).1.d, i64 (bumpL l who n).2] ∧ S = [] := by
  have fd := rfind_c (who := who) hl
  have sc := fun b => set_c (b := b) hl
  have hok := hl.2.1
  have hlk := fun a => look_mem (l := l.accs) (who := who) (a := a)
  obtain ⟨h, t, g, al, es⟩ := l
  simp only at hok hlk sc
  unfold findL at fd
  unfold bumpL
  simp only at fd ⊢
  cases hx : look al who with
  | none =>
    rw [hx] at fd
    simp only at fd ⊢
    refine callR_of (R := R1) cx_ok Tryd.func63 (by kernel_rfl) rfl ?_
    conv => whnf
    refine ⟨_, fd, ?_⟩
    rintro _ _ ⟨rfl, rfl⟩
    conv => whnf
    exact ⟨rfl, rfl⟩
  | some a =>
    rw [hx] at fd
    have ha := hok _ (hlk _ hx).1
    obtain ⟨nm, ky, nn, cn⟩ := a
    simp only at fd ⊢
    have ha1 := ha.1
    have ha2 := ha.2
    simp only at ha1 ha2
    refine callR_of (R := R1) cx_ok Tryd.func63 (by kernel_rfl) rfl ?_
    conv => whnf
    refine ⟨_, fd, ?_⟩
    rintro _ _ ⟨rfl, rfl⟩
    conv => whnf
    unfold U at ha1 hn
    obtain ⟨C, hC⟩ : ∃ C : Int, C = 18446744073709551615 := ⟨_, rfl⟩
    rw [← hC]
    by_cases c : nn = n
    · subst c
      rw [if_neg (by simp)]
      refine brF (bne_eq_false_iff_eq.2 rfl) ?_
      conv => whnf
      by_cases c2 : nn = C
      · rw [if_pos c2]
        refine brT (beq_iff_eq.2 c2) ?_
        conv => whnf
        exact ⟨rfl, rfl⟩
      · rw [if_neg c2]
        have e : IntKind.u64.wrap (nn + 1) = nn + 1 := by rw [Go.Ab.wrap64]; omega
        refine brF (beq_eq_false_iff_ne.2 c2) ?_
        conv => whnf
        rw [e]
        refine ⟨_, sc ⟨nm, ky, nn + 1, cn⟩, ?_⟩
        rintro _ _ ⟨rfl, rfl⟩
        conv => whnf
        exact ⟨rfl, rfl⟩
    · rw [if_pos c]
      refine brT (bne_iff_ne.2 c) ?_
      conv => whnf
      exact ⟨rfl, rfl⟩


theorem rmove_c {l : Lg} {fr to : ByteArray} {n : Int} (hl : l.ok) (hn : U n) : CallR cx 61 [.d l.d, st fr, st to, u64 n] [] fun r S => r = .tup [.d (moveL l fr to n).1.d, i64 (moveL l fr to n).2] ∧ S = [] := by
  have tk := rtake_c (who := fr) hl hn
  have gv := rgive_c (l := (takeL l fr n).1) (who := to) (takeL_ok hl hn) hn
  unfold moveL
  generalize takeL l fr n = T at *
  obtain ⟨m, e⟩ := T
  simp only at tk gv ⊢
  generalize giveL m to n = Q at *
  obtain ⟨k, f⟩ := Q
  simp only at gv ⊢
  obtain ⟨h1, t1, g1, a1, e1⟩ := l
  obtain ⟨h2, t2, g2, a2, e2⟩ := m
  obtain ⟨h3, t3, g3, a3, e3⟩ := k
  refine callR_of (R := R1) cx_ok Tryd.func61 (by kernel_rfl) rfl ?_
  conv => whnf
  refine ⟨_, tk, ?_⟩
  rintro _ _ ⟨rfl, rfl⟩
  conv => whnf
  by_cases c : e = 0
  · subst c
    rw [if_neg (by simp)]
    conv => whnf
    refine ⟨_, gv, ?_⟩
    rintro _ _ ⟨rfl, rfl⟩
    conv => whnf
    by_cases c2 : f = 0
    · subst c2
      rw [if_neg (by simp)]
      conv => whnf
      exact ⟨rfl, rfl⟩
    · rw [if_pos c2]
      refine brT (bne_iff_ne.2 c2) ?_
      conv => whnf
      exact ⟨rfl, rfl⟩
  · rw [if_pos c]
    refine brT (bne_iff_ne.2 c) ?_
    conv => whnf
    exact ⟨rfl, rfl⟩


theorem rspend_c {l : Lg} {n : Int} (hl : l.ok) (hn : U n) : CallR cx 65 [.d l.d, u64 n] [] fun r S => r = .tup [.d (spendL l n).1.d, i64 (spendL l n).2] ∧ S = [] := by
  have h0 := hl.1.2.2
  obtain ⟨h, t, g, al, es⟩ := l
  simp only at h0
  unfold spendL
  simp only
  unfold U at h0 hn
  refine callR_of (R := R1) cx_ok Tryd.func65 (by kernel_rfl) rfl ?_
  conv => whnf
  by_cases c0 : g > 40
  · rw [if_neg (by omega)]
    refine brT (decide_eq_true c0) ?_
    conv => whnf
    exact ⟨rfl, rfl⟩
  have e : IntKind.u64.wrap (40 - g) = 40 - g := by rw [Go.Ab.wrap64]; omega
  refine brF (decide_eq_false c0) ?_
  conv => whnf
  rw [e]
  by_cases c : g + n ≤ 40
  · rw [if_pos c]
    have e2 : IntKind.u64.wrap (g + n) = g + n := by rw [Go.Ab.wrap64]; omega
    refine brF (decide_eq_false (by omega)) ?_
    conv => whnf
    rw [e2]
    exact ⟨rfl, rfl⟩
  · rw [if_neg c]
    refine brT (decide_eq_true (by omega)) ?_
    conv => whnf
    exact ⟨rfl, rfl⟩
end Go.Proofs.YtmdfpifcghmpfaaDoor

namespace Go.Proofs.YtmdfpifcghmpfaaDoor
open Go.Ab Go.RowKit

def tickL (l : Lg) (n : Int) : Lg × Int := if n > 1000000 then (l, 2) else if l.time + n > 1099511627776 then (l, 10) else if l.height = 18446744073709551615 then (l, 10) else ({ l with height := l.height + 1, time := l.time + n, gas := 0 }, 0)

theorem tick_c {l : Lg} {n : Int} (hl : l.ok) (hn : U n) : CallR cx 66 [.d l.d, u64 n] [] fun r S => r = .tup [.d (tickL l n).1.d, i64 (tickL l n).2] ∧ S = [] := by
  have ad := add_c hl.1.2.1 hn
  have h0 := hl.1.1
  have h1 := hl.1.2.1
  obtain ⟨h, t, g, al, es⟩ := l
  simp only at ad h0 h1
  unfold tickL
  simp only
  unfold U at h0 h1 hn
  obtain ⟨A, hA⟩ : ∃ A : Int, A = 1000000 := ⟨_, rfl⟩
  obtain ⟨B, hB⟩ : ∃ B : Int, B = 1099511627776 := ⟨_, rfl⟩
  obtain ⟨C, hC⟩ : ∃ C : Int, C = 18446744073709551615 := ⟨_, rfl⟩
  rw [← hA, ← hB, ← hC]
  refine callR_of (R := R1) cx_ok Tryd.func66 (by kernel_rfl) rfl ?_
  conv => whnf
  rw [← hA]
  by_cases c0 : n > A
  · rw [if_pos c0]
    refine brT (decide_eq_true c0) ?_
    conv => whnf
    exact ⟨rfl, rfl⟩
  rw [if_neg c0]
  refine brF (decide_eq_false c0) ?_
  conv => whnf
  by_cases c9 : t + n < 18446744073709551616
  rotate_left
  · rw [if_neg c9, if_neg c9] at ad
    rw [if_pos (by omega)]
    refine ⟨_, ad, ?_⟩
    rintro _ _ ⟨rfl, rfl⟩
    conv => whnf
    exact ⟨rfl, rfl⟩
  rw [if_pos c9, if_pos c9] at ad
  refine ⟨_, ad, ?_⟩
  rintro _ _ ⟨rfl, rfl⟩
  conv => whnf
  rw [← hB]
  by_cases c : t + n > B
  · rw [if_pos c]
    refine brT (decide_eq_true c) ?_
    conv => whnf
    exact ⟨rfl, rfl⟩
  rw [if_neg c]
  refine brF (decide_eq_false c) ?_
  conv => whnf
  rw [← hC]
  by_cases c2 : h = C
  · rw [if_pos c2]
    refine brT (beq_iff_eq.2 c2) ?_
    conv => whnf
    exact ⟨rfl, rfl⟩
  rw [if_neg c2]
  have e : IntKind.u64.wrap (h + 1) = h + 1 := by rw [Go.Ab.wrap64]; omega
  refine brF (beq_eq_false_iff_ne.2 c2) ?_
  conv => whnf
  rw [e]
  exact ⟨rfl, rfl⟩

theorem rtick_c {l : Lg} {n : Int} (hl : l.ok) (hn : U n) : CallR cx 67 [.d l.d, u64 n] [] fun r S => r = .tup [.d (tickL l n).1.d, i64 (tickL l n).2] ∧ S = [] := by
  have h0 := hl.1.1
  have h1 := hl.1.2.1
  obtain ⟨h, t, g, al, es⟩ := l
  simp only at h0 h1
  unfold tickL
  simp only
  unfold U at h0 h1 hn
  obtain ⟨A, hA⟩ : ∃ A : Int, A = 1000000 := ⟨_, rfl⟩
  obtain ⟨B, hB⟩ : ∃ B : Int, B = 1099511627776 := ⟨_, rfl⟩
  obtain ⟨C, hC⟩ : ∃ C : Int, C = 18446744073709551615 := ⟨_, rfl⟩
  rw [← hA, ← hB, ← hC]
  refine callR_of (R := R1) cx_ok Tryd.func67 (by kernel_rfl) rfl ?_
  conv => whnf
  rw [← hA]
  by_cases c0 : n > A
  · rw [if_pos c0]
    refine brT (decide_eq_true c0) ?_
    conv => whnf
    exact ⟨rfl, rfl⟩
  rw [if_neg c0]
  refine brF (decide_eq_false c0) ?_
  conv => whnf
  rw [← hB]
  by_cases c1 : t > B
  · rw [if_pos (by omega)]
    refine brT (decide_eq_true c1) ?_
    conv => whnf
    exact ⟨rfl, rfl⟩
  have e0 : IntKind.u64.wrap (B - t) = B - t := by rw [Go.Ab.wrap64]; omega
  refine brF (decide_eq_false c1) ?_
  conv => whnf
  rw [e0]
  by_cases c : t + n > B
  · rw [if_pos c]
    refine brT (decide_eq_true (by omega)) ?_
    conv => whnf
    exact ⟨rfl, rfl⟩
  rw [if_neg c]
  refine brF (decide_eq_false (by omega)) ?_
  conv => whnf
  rw [← hC]
  by_cases c2 : h = C
  · rw [if_pos c2]
    refine brT (beq_iff_eq.2 c2) ?_
    conv => whnf
    exact ⟨rfl, rfl⟩
  rw [if_neg c2]
  have e : IntKind.u64.wrap (h + 1) = h + 1 := by rw [Go.Ab.wrap64]; omega
  have e2 : IntKind.u64.wrap (t + n) = t + n := by rw [Go.Ab.wrap64]; omega
  refine brF (beq_eq_false_iff_ne.2 c2) ?_
  conv => whnf
  rw [e, e2]
  exact ⟨rfl, rfl⟩
end Go.Proofs.YtmdfpifcghmpfaaDoor

namespace Go.Proofs.YtmdfpifcghmpfaaDoor
open Go.Ab Go.RowKit

def coinsL (l : List Ac) : List Int := l.map Ac.coins
theorem coinsL_len (l : List Ac) : (coinsL l).length = l.length := List.length_map _
theorem coins_U {l : List Ac} (h : ∀ a ∈ l, a.ok) : ∀ n ∈ coinsL l, U n := by
  intro n hn
  obtain ⟨a, ha, rfl⟩ := List.mem_map.1 hn
  exact (h a ha).2

theorem total_c {l : Lg} (hl : l.ok) (h200 : l.accs.length ≤ 200) : CallR cx 18 [.d l.d] [] fun r S => r = .d (wv (coinsL l.accs).sum) ∧ S = [] := by
  have hok := hl.2.1
  have sm := sum_c (ns := coinsL l.accs) (coins_U hok) (by rw [coinsL_len]; exact h200)
  obtain ⟨h, t, g, al, es⟩ := l
  simp only at hok sm h200 ⊢
  have hlen : (acs al).length = al.length := List.length_map _
  obtain ⟨x0, x1, hrs⟩ : ∃ x0 x1 : Int, wv (coinsL al).sum = wd x0 x1 := ⟨_, _, rfl⟩
  rw [hrs] at sm ⊢
  refine callR_of (R := R1) cx_ok Tryd.func18 (by kernel_rfl) rfl ?_
  conv => whnf
  refine .inr ⟨22, 1, ?_⟩
  conv => whnf
  refine .inr ⟨fun m L S => ∃ (j : Nat) (out : List Int), out ++ coinsL (al.drop j) = coinsL al ∧ out.length = j ∧ j ≤ al.length ∧ m = al.length - j ∧
      L = [(1, .ptr 0 []), (2, .ptr 1 []), (3, .row 2), (7, .d (.sl 35 (acs al))), (8, i64 (((acs al).length : Nat) : Int)), (9, i64 (j : Int))] ∧
      S = [.var (.d (Lg.d ⟨h, t, g, al, es⟩)), .var (.d (wd 0 0)), .row 22 1 (out.map ui)],
    ⟨_, _, ⟨0, [], rfl, rfl, Nat.zero_le _, rfl, rfl, rfl⟩, ⟨rfl, rfl, rfl, rfl, rfl, rfl, trivial⟩⟩, ?_⟩
  rintro _ _ _ ⟨j, out, h1, h2, hj, rfl, rfl, rfl⟩
  have hlo : (out.map ui).length = out.length := List.length_map _
  conv => whnf
  refine brec (fun h4 => ?_) (fun h4 => ?_)
  · have h4 := of_decide_eq_true h4
    rw [hlen] at h4
    have hlt : j < al.length := by omega
    conv => whnf
    refine ⟨⟨by omega, by rw [hlen]; omega⟩, ?_⟩
    rw [acs_getD hlt]
    rw [List.drop_eq_getElem_cons hlt] at h1
    generalize al[j]'hlt = a at *
    have e3 : IntKind.i64.wrap ((j : Int) + 1) = ((j + 1 : Nat) : Int) := by rw [w64 (by omega)]; omega
    obtain ⟨nm, ky, nn, cn⟩ := a
    have ea : out.map ui ++ [ui cn] = (out ++ [cn]).map ui := by rw [List.map_append]; rfl
    conv => whnf
    refine ⟨⟨Nat.succ_pos _, by show ((out.map ui).length + 1) * (8 + 1) ≤ _; omega⟩, ?_⟩
    conv => whnf
    refine ⟨al.length - (j + 1), [(1, .ptr 0 []), (2, .ptr 1 []), (3, .row 4), (7, .d (.sl 35 (acs al))), (8, i64 (((acs al).length : Nat) : Int)), (9, i64 ((j + 1 : Nat) : Int))], [0, 1, 4], by omega, ⟨rfl, rfl, rfl, rfl, rfl, congrArg (fun z => some (i64 z)) e3, trivial⟩, ?_⟩
    conv => whnf
    refine ⟨j + 1, out ++ [cn], by rw [List.append_assoc]; exact h1, by rw [List.length_append, h2]; rfl, by omega, rfl, rfl, ?_⟩
    exact congrArg (fun z => [Blk.var (.d (Lg.d ⟨h, t, g, al, es⟩)), .var (.d (wd 0 0)), .row 22 1 z]) ea
  · have h4 := of_decide_eq_false h4
    rw [hlen] at h4
    obtain rfl : j = al.length := by omega
    rw [List.drop_length] at h1
    have h1 : out = coinsL al := by simpa [coinsL] using h1
    rw [← h1] at sm
    conv => whnf
    refine ⟨_, sm, ?_⟩
    rintro _ _ ⟨rfl, rfl⟩
    conv => whnf
    exact ⟨rfl, rfl⟩

theorem rtotal_c {l : Lg} (hl : l.ok) (h200 : l.accs.length ≤ 200) : CallR cx 26 [.d l.d] [] fun r S => r = .d (w4 ((coinsL l.accs).sum % 340282366920938463463374607431768211456)) ∧ S = [] := by
  have hok := hl.2.1
  have sm := rsum_c (ns := coinsL l.accs) (coins_U hok) (by rw [coinsL_len]; exact h200)
  obtain ⟨h, t, g, al, es⟩ := l
  simp only at hok sm h200 ⊢
  have hlen : (acs al).length = al.length := List.length_map _
  obtain ⟨x0, x1, x2, x3, hrs⟩ : ∃ x0 x1 x2 x3 : Int, w4 ((coinsL al).sum % 340282366920938463463374607431768211456) = a4 x0 x1 x2 x3 := ⟨_, _, _, _, rfl⟩
  rw [hrs] at sm ⊢
  refine callR_of (R := R1) cx_ok Tryd.func26 (by kernel_rfl) rfl ?_
  conv => whnf
  refine .inr ⟨22, 1, ?_⟩
  conv => whnf
  refine .inr ⟨fun m L S => ∃ (j : Nat) (out : List Int), out ++ coinsL (al.drop j) = coinsL al ∧ out.length = j ∧ j ≤ al.length ∧ m = al.length - j ∧
      L = [(1, .ptr 0 []), (2, .ptr 1 []), (3, .row 2), (7, .d (.sl 35 (acs al))), (8, i64 (((acs al).length : Nat) : Int)), (9, i64 (j : Int))] ∧
      S = [.var (.d (Lg.d ⟨h, t, g, al, es⟩)), .var (.d (a4 0 0 0 0)), .row 22 1 (out.map ui)],
    ⟨_, _, ⟨0, [], rfl, rfl, Nat.zero_le _, rfl, rfl, rfl⟩, ⟨rfl, rfl, rfl, rfl, rfl, rfl, trivial⟩⟩, ?_⟩
  rintro _ _ _ ⟨j, out, h1, h2, hj, rfl, rfl, rfl⟩
  have hlo : (out.map ui).length = out.length := List.length_map _
  conv => whnf
  refine brec (fun h4 => ?_) (fun h4 => ?_)
  · have h4 := of_decide_eq_true h4
    rw [hlen] at h4
    have hlt : j < al.length := by omega
    conv => whnf
    refine ⟨⟨by omega, by rw [hlen]; omega⟩, ?_⟩
    rw [acs_getD hlt]
    rw [List.drop_eq_getElem_cons hlt] at h1
    generalize al[j]'hlt = a at *
    have e3 : IntKind.i64.wrap ((j : Int) + 1) = ((j + 1 : Nat) : Int) := by rw [w64 (by omega)]; omega
    obtain ⟨nm, ky, nn, cn⟩ := a
    have ea : out.map ui ++ [ui cn] = (out ++ [cn]).map ui := by rw [List.map_append]; rfl
    conv => whnf
    refine ⟨⟨Nat.succ_pos _, by show ((out.map ui).length + 1) * (8 + 1) ≤ _; omega⟩, ?_⟩
    conv => whnf
    refine ⟨al.length - (j + 1), [(1, .ptr 0 []), (2, .ptr 1 []), (3, .row 4), (7, .d (.sl 35 (acs al))), (8, i64 (((acs al).length : Nat) : Int)), (9, i64 ((j + 1 : Nat) : Int))], [0, 1, 4], by omega, ⟨rfl, rfl, rfl, rfl, rfl, congrArg (fun z => some (i64 z)) e3, trivial⟩, ?_⟩
    conv => whnf
    refine ⟨j + 1, out ++ [cn], by rw [List.append_assoc]; exact h1, by rw [List.length_append, h2]; rfl, by omega, rfl, rfl, ?_⟩
    exact congrArg (fun z => [Blk.var (.d (Lg.d ⟨h, t, g, al, es⟩)), .var (.d (a4 0 0 0 0)), .row 22 1 z]) ea
  · have h4 := of_decide_eq_false h4
    rw [hlen] at h4
    obtain rfl : j = al.length := by omega
    rw [List.drop_length] at h1
    have h1 : out = coinsL al := by simpa [coinsL] using h1
    rw [← h1] at sm
    conv => whnf
    refine ⟨_, sm, ?_⟩
    rintro _ _ ⟨rfl, rfl⟩
    conv => whnf
    exact ⟨rfl, rfl⟩
end Go.Proofs.YtmdfpifcghmpfaaDoor
