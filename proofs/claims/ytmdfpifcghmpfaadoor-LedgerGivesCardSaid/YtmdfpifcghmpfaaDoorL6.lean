/- Ledgers, the model's: who has what; an account set. -/
import Derived.Test.YtmdfpifcghmpfaaDoorL5
namespace Go.Proofs.YtmdfpifcghmpfaaDoor
open Go.Ab Go.RowKit

abbrev zeroA : D := .agg [.str .empty, .arr 32 1 (List.replicate 32 (.int .u8 0)), .int .u64 0, .int .u64 0]

theorem rfind_c {l : Lg} {who : ByteArray} (hl : l.ok) : CallR cx 24 [.d l.d, st who] [] fun r S => r = .tup [.d (findL l who).1, bo (findL l who).2] ∧ S = [] := by
  have hL := hl.2.2
  obtain ⟨h, t, g, al, es⟩ := l
  simp only at hL
  have hlen : (acs al).length = al.length := List.length_map _
  unfold findL
  simp only
  refine callR_of (R := R1) cx_ok Tryd.func24 (by kernel_rfl) rfl ?_
  conv => whnf
  refine .inl ⟨fun m L S => ∃ j : Nat, j ≤ al.length ∧ look (al.drop j) who = look al who ∧ m = al.length - j ∧
      L = [(1, st who), (4, .ptr 1 []), (5, bo false), (9, .d (.sl 35 (acs al))), (10, i64 (((acs al).length : Nat) : Int)), (11, i64 (j : Int))] ∧ S = [.var (.d (Lg.d ⟨h, t, g, al, es⟩)), .var (.d zeroA)],
    ⟨_, _, ⟨0, Nat.zero_le _, rfl, rfl, rfl, rfl⟩, ⟨rfl, rfl, rfl, rfl, rfl, rfl, trivial⟩⟩, ?_⟩
  rintro _ _ _ ⟨j, hj, h1, rfl, rfl, rfl⟩
  conv => whnf
  refine brec (fun h4 => ?_) (fun h4 => ?_)
  · have h4 := of_decide_eq_true h4
    rw [hlen] at h4
    have hlt : j < al.length := by omega
    conv => whnf
    refine ⟨⟨by omega, by rw [hlen]; omega⟩, ?_⟩
    rw [acs_getD hlt]
    rw [List.drop_eq_getElem_cons hlt, look] at h1
    generalize al[j]'hlt = a at *
    obtain ⟨nm, ky, nn, cn⟩ := a
    simp only at h1
    conv => whnf
    by_cases c : nm = who
    · rw [if_pos c] at h1
      refine brT (decide_eq_true c) ?_
      conv => whnf
      rw [← h1]
      exact ⟨rfl, rfl⟩
    · rw [if_neg c] at h1
      have e3 : IntKind.i64.wrap ((j : Int) + 1) = ((j + 1 : Nat) : Int) := by rw [w64 (by omega)]; omega
      refine brF (decide_eq_false c) ?_
      conv => whnf
      exact ⟨_, _, 2, (by omega : al.length - (j + 1) < al.length - j), ⟨j + 1, by omega, h1, rfl, rfl, rfl⟩, ⟨rfl, rfl, rfl, rfl, rfl, congrArg (fun z => some (i64 z)) e3, trivial⟩, rfl⟩
  · have h4 := of_decide_eq_false h4
    rw [hlen] at h4
    obtain rfl : j = al.length := by omega
    rw [List.drop_length, look] at h1
    conv => whnf
    rw [← h1]
    exact ⟨rfl, rfl⟩

theorem set_c {l : Lg} {b : Ac} (hl : l.ok) : CallR cx 113 [.d l.d, .d b.d] [] fun r S => r = .d (Lg.d { l with accs := putA l.accs b }) ∧ S = [] := by
  have hL := hl.2.2
  obtain ⟨h, t, g, al, es⟩ := l
  obtain ⟨bn, bk, bo', bc⟩ := b
  simp only at hL ⊢
  have hlen : (acs al).length = al.length := List.length_map _
  refine callR_of (R := R1) cx_ok Tryd.func113 (by kernel_rfl) rfl ?_
  conv => whnf
  refine .inr ⟨36, 35, ?_⟩
  conv => whnf
  obtain ⟨zl, hzl⟩ : ∃ zl : D, zl = D.agg [.int .u64 0, .int .u64 0, .int .u64 0, .sl 35 [], .sl 35 []] := ⟨_, rfl⟩
  refine .inr ⟨fun m L S => ∃ (j : Nat) (dn : Bool) (out : List Ac), out ++ (if dn then al.drop j else putA (al.drop j) ⟨bn, bk, bo', bc⟩) = putA al ⟨bn, bk, bo', bc⟩ ∧ out.length = j ∧ j ≤ al.length ∧ m = al.length - j ∧
      L = [(2, .ptr 0 []), (3, .ptr 1 []), (4, .ptr 2 []), (5, .row 3), (6, bo dn), (10, .d (.sl 35 (acs al))), (11, i64 (((acs al).length : Nat) : Int)), (12, i64 (j : Int))] ∧
      S = [.var (.d (Lg.d ⟨h, t, g, al, es⟩)), .var (.d (Ac.d ⟨bn, bk, bo', bc⟩)), .var (.d (.agg [.int .u64 0, .int .u64 0, .int .u64 0, .sl 35 [], .sl 35 []])), .row 36 35 (acs out)],
    ⟨_, _, ⟨0, false, [], rfl, rfl, Nat.zero_le _, rfl, rfl, rfl⟩, ⟨rfl, rfl, rfl, rfl, rfl, rfl, rfl, rfl, trivial⟩⟩, ?_⟩
  rintro _ _ _ ⟨j, dn, out, h1, h2, hj, rfl, rfl, rfl⟩
  have hlo : (acs out).length = out.length := List.length_map _
  conv => whnf
  refine brec (fun h4 => ?_) (fun h4 => ?_)
  · have h4 := of_decide_eq_true h4
    rw [hlen] at h4
    have hlt : j < al.length := by omega
    conv => whnf
    refine ⟨⟨by omega, by rw [hlen]; omega⟩, ?_⟩
    rw [acs_getD hlt]
    rw [List.drop_eq_getElem_cons hlt, putA] at h1
    generalize al[j]'hlt = a at *
    have e3 : IntKind.i64.wrap ((j : Int) + 1) = ((j + 1 : Nat) : Int) := by rw [w64 (by omega)]; omega
    have ea : ∀ x : Ac, acs out ++ [x.d] = acs (out ++ [x]) := fun x => by unfold acs; rw [List.map_append]; rfl
    obtain ⟨nm, ky, nn, cn⟩ := a
    simp only at h1
    conv => whnf
    by_cases c : nm = bn
    · refine brT (decide_eq_true c) ?_
      conv => whnf
      cases dn with
      | true =>
        conv => whnf
        refine ⟨⟨Nat.succ_pos _, by show ((acs out).length + 1) * (64 + 1) ≤ _; omega⟩, ?_⟩
        conv => whnf
        refine ⟨al.length - (j + 1), [(2, .ptr 0 []), (3, .ptr 1 []), (4, .ptr 2 []), (5, .row 5), (6, bo true), (10, .d (.sl 35 (acs al))), (11, i64 (((acs al).length : Nat) : Int)), (12, i64 ((j + 1 : Nat) : Int))], [0, 1, 2, 5], by omega, ⟨rfl, rfl, rfl, rfl, rfl, rfl, rfl, congrArg (fun z => some (i64 z)) e3, trivial⟩, ?_⟩
        conv => whnf
        refine ⟨j + 1, true, out ++ [⟨nm, ky, nn, cn⟩], by rw [if_pos rfl] at h1 ⊢; rw [List.append_assoc]; exact h1, by rw [List.length_append, h2]; rfl, by omega, rfl, rfl, ?_⟩
        exact congrArg (fun z => [Blk.var (.d (Lg.d ⟨h, t, g, al, es⟩)), .var (.d (Ac.d ⟨bn, bk, bo', bc⟩)), .var (.d (.agg [.int .u64 0, .int .u64 0, .int .u64 0, .sl 35 [], .sl 35 []])), .row 36 35 z]) (ea ⟨nm, ky, nn, cn⟩)
      | false =>
        conv => whnf
        refine ⟨⟨Nat.succ_pos _, by show ((acs out).length + 1) * (64 + 1) ≤ _; omega⟩, ?_⟩
        conv => whnf
        refine ⟨al.length - (j + 1), [(2, .ptr 0 []), (3, .ptr 1 []), (4, .ptr 2 []), (5, .row 5), (6, bo true), (10, .d (.sl 35 (acs al))), (11, i64 (((acs al).length : Nat) : Int)), (12, i64 ((j + 1 : Nat) : Int))], [0, 1, 2, 5], by omega, ⟨rfl, rfl, rfl, rfl, rfl, rfl, rfl, congrArg (fun z => some (i64 z)) e3, trivial⟩, ?_⟩
        conv => whnf
        refine ⟨j + 1, true, out ++ [⟨bn, bk, bo', bc⟩], by rw [if_neg (by decide), if_pos c] at h1; rw [if_pos rfl, List.append_assoc]; exact h1, by rw [List.length_append, h2]; rfl, by omega, rfl, rfl, ?_⟩
        exact congrArg (fun z => [Blk.var (.d (Lg.d ⟨h, t, g, al, es⟩)), .var (.d (Ac.d ⟨bn, bk, bo', bc⟩)), .var (.d (.agg [.int .u64 0, .int .u64 0, .int .u64 0, .sl 35 [], .sl 35 []])), .row 36 35 z]) (ea ⟨bn, bk, bo', bc⟩)
    · refine brF (decide_eq_false c) ?_
      conv => whnf
      refine ⟨⟨Nat.succ_pos _, by show ((acs out).length + 1) * (64 + 1) ≤ _; omega⟩, ?_⟩
      conv => whnf
      refine ⟨al.length - (j + 1), [(2, .ptr 0 []), (3, .ptr 1 []), (4, .ptr 2 []), (5, .row 5), (6, bo dn), (10, .d (.sl 35 (acs al))), (11, i64 (((acs al).length : Nat) : Int)), (12, i64 ((j + 1 : Nat) : Int))], [0, 1, 2, 5], by omega, ⟨rfl, rfl, rfl, rfl, rfl, rfl, rfl, congrArg (fun z => some (i64 z)) e3, trivial⟩, ?_⟩
      conv => whnf
      refine ⟨j + 1, dn, out ++ [⟨nm, ky, nn, cn⟩], by rw [if_neg c] at h1; rw [List.append_assoc, ← h1]; cases dn <;> rfl, by rw [List.length_append, h2]; rfl, by omega, rfl, rfl, ?_⟩
      exact congrArg (fun z => [Blk.var (.d (Lg.d ⟨h, t, g, al, es⟩)), .var (.d (Ac.d ⟨bn, bk, bo', bc⟩)), .var (.d (.agg [.int .u64 0, .int .u64 0, .int .u64 0, .sl 35 [], .sl 35 []])), .row 36 35 z]) (ea ⟨nm, ky, nn, cn⟩)
  · have h4 := of_decide_eq_false h4
    rw [hlen] at h4
    obtain rfl : j = al.length := by omega
    rw [List.drop_length] at h1
    have h1 : out = putA al ⟨bn, bk, bo', bc⟩ := by cases dn <;> simpa [putA] using h1
    conv => whnf
    rw [← h1]
    exact ⟨rfl, rfl⟩
end Go.Proofs.YtmdfpifcghmpfaaDoor
