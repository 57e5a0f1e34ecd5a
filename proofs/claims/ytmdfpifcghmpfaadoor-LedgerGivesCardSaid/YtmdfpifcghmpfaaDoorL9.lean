/- Ledgers: all coins. -/
import Derived.Test.YtmdfpifcghmpfaaDoorL8
namespace Go.Proofs.YtmdfpifcghmpfaaDoor
open Go.Ab Go.RowKit

def coinsL (l : List Ac) : List Int := l.map Ac.coins
theorem coinsL_len (l : List Ac) : (coinsL l).length = l.length := List.length_map _
theorem coins_U {l : List Ac} (h : ∀ a ∈ l, a.ok) : ∀ n ∈ coinsL l, U n := by
  intro n hn
  obtain ⟨a, ha, rfl⟩ := List.mem_map.1 hn
  exact (h a ha).2

theorem total_c {l : Lg} (hl : l.ok) (h200 : l.accs.length ≤ 200) : CallR cx 18 [.d l.d] [] fun r S => r = .d (wv (coinsL l.accs).sum) ∧ S = [] := by
  have hok := hl.2.1
  have sm := sum_c (ns := coinsL l.accs) (coins_U hok) (by rw [coinsL_len]; exact h200)
  obtain ⟨h, t, g, al, es⟩ := l
  simp only at hok sm h200 ⊢
  have hlen : (acs al).length = al.length := List.length_map _
  obtain ⟨x0, x1, hrs⟩ : ∃ x0 x1 : Int, wv (coinsL al).sum = wd x0 x1 := ⟨_, _, rfl⟩
  rw [hrs] at sm ⊢
  refine callR_of (R := R1) cx_ok Tryd.func18 (by kernel_rfl) rfl ?_
  conv => whnf
  refine .inr ⟨22, 1, ?_⟩
  conv => whnf
  refine .inr ⟨fun m L S => ∃ (j : Nat) (out : List Int), out ++ coinsL (al.drop j) = coinsL al ∧ out.length = j ∧ j ≤ al.length ∧ m = al.length - j ∧
      L = [(1, .ptr 0 []), (2, .ptr 1 []), (3, .row 2), (7, .d (.sl 35 (acs al))), (8, i64 (((acs al).length : Nat) : Int)), (9, i64 (j : Int))] ∧
      S = [.var (.d (Lg.d ⟨h, t, g, al, es⟩)), .var (.d (wd 0 0)), .row 22 1 (out.map ui)],
    ⟨_, _, ⟨0, [], rfl, rfl, Nat.zero_le _, rfl, rfl, rfl⟩, ⟨rfl, rfl, rfl, rfl, rfl, rfl, trivial⟩⟩, ?_⟩
  rintro _ _ _ ⟨j, out, h1, h2, hj, rfl, rfl, rfl⟩
  have hlo : (out.map ui).length = out.length := List.length_map _
  conv => whnf
  refine brec (fun h4 => ?_) (fun h4 => ?_)
  · have h4 := of_decide_eq_true h4
    rw [hlen] at h4
    have hlt : j < al.length := by omega
    conv => whnf
    refine ⟨⟨by omega, by rw [hlen]; omega⟩, ?_⟩
    rw [acs_getD hlt]
    rw [List.drop_eq_getElem_cons hlt] at h1
    generalize al[j]'hlt = a at *
    have e3 : IntKind.i64.wrap ((j : Int) + 1) = ((j + 1 : Nat) : Int) := by rw [w64 (by omega)]; omega
    obtain ⟨nm, ky, nn, cn⟩ := a
    have ea : out.map ui ++ [ui cn] = (out ++ [cn]).map ui := by rw [List.map_append]; rfl
    conv => whnf
    refine ⟨⟨Nat.succ_pos _, by show ((out.map ui).length + 1) * (8 + 1) ≤ _; omega⟩, ?_⟩
    conv => whnf
    refine ⟨al.length - (j + 1), [(1, .ptr 0 []), (2, .ptr 1 []), (3, .row 4), (7, .d (.sl 35 (acs al))), (8, i64 (((acs al).length : Nat) : Int)), (9, i64 ((j + 1 : Nat) : Int))], [0, 1, 4], by omega, ⟨rfl, rfl, rfl, rfl, rfl, congrArg (fun z => some (i64 z)) e3, trivial⟩, ?_⟩
    conv => whnf
    refine ⟨j + 1, out ++ [cn], by rw [List.append_assoc]; exact h1, by rw [List.length_append, h2]; rfl, by omega, rfl, rfl, ?_⟩
    exact congrArg (fun z => [Blk.var (.d (Lg.d ⟨h, t, g, al, es⟩)), .var (.d (wd 0 0)), .row 22 1 z]) ea
  · have h4 := of_decide_eq_false h4
    rw [hlen] at h4
    obtain rfl : j = al.length := by omega
    rw [List.drop_length] at h1
    have h1 : out = coinsL al := by simpa [coinsL] using h1
    rw [← h1] at sm
    conv => whnf
    refine ⟨_, sm, ?_⟩
    rintro _ _ ⟨rfl, rfl⟩
    conv => whnf
    exact ⟨rfl, rfl⟩

theorem rtotal_c {l : Lg} (hl : l.ok) (h200 : l.accs.length ≤ 200) : CallR cx 26 [.d l.d] [] fun r S => r = .d (w4 ((coinsL l.accs).sum % 340282366920938463463374607431768211456)) ∧ S = [] := by
  have hok := hl.2.1
  have sm := rsum_c (ns := coinsL l.accs) (coins_U hok) (by rw [coinsL_len]; exact h200)
  obtain ⟨h, t, g, al, es⟩ := l
  simp only at hok sm h200 ⊢
  have hlen : (acs al).length = al.length := List.length_map _
  obtain ⟨x0, x1, x2, x3, hrs⟩ : ∃ x0 x1 x2 x3 : Int, w4 ((coinsL al).sum % 340282366920938463463374607431768211456) = a4 x0 x1 x2 x3 := ⟨_, _, _, _, rfl⟩
  rw [hrs] at sm ⊢
  refine callR_of (R := R1) cx_ok Tryd.func26 (by kernel_rfl) rfl ?_
  conv => whnf
  refine .inr ⟨22, 1, ?_⟩
  conv => whnf
  refine .inr ⟨fun m L S => ∃ (j : Nat) (out : List Int), out ++ coinsL (al.drop j) = coinsL al ∧ out.length = j ∧ j ≤ al.length ∧ m = al.length - j ∧
      L = [(1, .ptr 0 []), (2, .ptr 1 []), (3, .row 2), (7, .d (.sl 35 (acs al))), (8, i64 (((acs al).length : Nat) : Int)), (9, i64 (j : Int))] ∧
      S = [.var (.d (Lg.d ⟨h, t, g, al, es⟩)), .var (.d (a4 0 0 0 0)), .row 22 1 (out.map ui)],
    ⟨_, _, ⟨0, [], rfl, rfl, Nat.zero_le _, rfl, rfl, rfl⟩, ⟨rfl, rfl, rfl, rfl, rfl, rfl, trivial⟩⟩, ?_⟩
  rintro _ _ _ ⟨j, out, h1, h2, hj, rfl, rfl, rfl⟩
  have hlo : (out.map ui).length = out.length := List.length_map _
  conv => whnf
  refine brec (fun h4 => ?_) (fun h4 => ?_)
  · have h4 := of_decide_eq_true h4
    rw [hlen] at h4
    have hlt : j < al.length := by omega
    conv => whnf
    refine ⟨⟨by omega, by rw [hlen]; omega⟩, ?_⟩
    rw [acs_getD hlt]
    rw [List.drop_eq_getElem_cons hlt] at h1
    generalize al[j]'hlt = a at *
    have e3 : IntKind.i64.wrap ((j : Int) + 1) = ((j + 1 : Nat) : Int) := by rw [w64 (by omega)]; omega
    obtain ⟨nm, ky, nn, cn⟩ := a
    have ea : out.map ui ++ [ui cn] = (out ++ [cn]).map ui := by rw [List.map_append]; rfl
    conv => whnf
    refine ⟨⟨Nat.succ_pos _, by show ((out.map ui).length + 1) * (8 + 1) ≤ _; omega⟩, ?_⟩
    conv => whnf
    refine ⟨al.length - (j + 1), [(1, .ptr 0 []), (2, .ptr 1 []), (3, .row 4), (7, .d (.sl 35 (acs al))), (8, i64 (((acs al).length : Nat) : Int)), (9, i64 ((j + 1 : Nat) : Int))], [0, 1, 4], by omega, ⟨rfl, rfl, rfl, rfl, rfl, congrArg (fun z => some (i64 z)) e3, trivial⟩, ?_⟩
    conv => whnf
    refine ⟨j + 1, out ++ [cn], by rw [List.append_assoc]; exact h1, by rw [List.length_append, h2]; rfl, by omega, rfl, rfl, ?_⟩
    exact congrArg (fun z => [Blk.var (.d (Lg.d ⟨h, t, g, al, es⟩)), .var (.d (a4 0 0 0 0)), .row 22 1 z]) ea
  · have h4 := of_decide_eq_false h4
    rw [hlen] at h4
    obtain rfl : j = al.length := by omega
    rw [List.drop_length] at h1
    have h1 : out = coinsL al := by simpa [coinsL] using h1
    rw [← h1] at sm
    conv => whnf
    refine ⟨_, sm, ?_⟩
    rintro _ _ ⟨rfl, rfl⟩
    conv => whnf
    exact ⟨rfl, rfl⟩
end Go.Proofs.YtmdfpifcghmpfaaDoor
