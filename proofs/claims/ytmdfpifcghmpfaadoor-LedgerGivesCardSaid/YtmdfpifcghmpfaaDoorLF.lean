/- Ledgers, the model's: an event more. -/
import Derived.Test.YtmdfpifcghmpfaaDoorLE
namespace Go.Proofs.YtmdfpifcghmpfaaDoor
open Go.Ab Go.RowKit

def noteL (l : Lg) (e : D) : Lg := { l with evs := l.evs.drop (l.evs.length - 4095) ++ [e] }

theorem rnote_c {l : Lg} {k : Int} {s : ByteArray} {n : Int} {ds : List D} (hl : l.ok) (he : ∀ e ∈ l.evs, evOk e) (hel : l.evs.length ≤ 100000) :
    CallR cx 69 [.d l.d, .d (.agg [.int .i64 k, .str s, .int .u64 n, .arr 32 1 ds])] [] fun r S => r = .d (noteL l (.agg [.int .i64 k, .str s, .int .u64 n, .arr 32 1 ds])).d ∧ S = [] := by
  obtain ⟨h, t, g, al, es⟩ := l
  unfold noteL
  simp only at he hel ⊢
  obtain ⟨W, hW⟩ : ∃ W, W = es.length - 4095 := ⟨_, rfl⟩
  rw [← hW]
  refine callR_of (R := R1) cx_ok Tryd.func69 (by kernel_rfl) rfl ?_
  conv => whnf
  refine .inr ⟨47, 35, ?_⟩
  conv => whnf
  refine .inr ⟨fun m L S => ∃ (j : Nat), j ≤ es.length ∧ m = es.length - j ∧
      L = [(2, .ptr 0 []), (3, .ptr 1 []), (4, .ptr 2 []), (5, .row 3), (9, .d (.sl 35 es)), (10, i64 ((es.length : Nat) : Int)), (11, i64 (j : Int))] ∧
      S = [.var (.d (Lg.d ⟨h, t, g, al, es⟩)), .var (.d (.agg [.int .i64 k, .str s, .int .u64 n, .arr 32 1 ds])), .var (.d (.agg [.int .u64 0, .int .u64 0, .int .u64 0, .sl 35 [], .sl 35 []])), .row 47 35 ((es.take j).drop (W))],
    ⟨_, _, ⟨0, Nat.zero_le _, rfl, rfl, by simp⟩, ⟨rfl, rfl, rfl, rfl, rfl, rfl, rfl, trivial⟩⟩, ?_⟩
  rintro _ _ _ ⟨j, hj, rfl, rfl, rfl⟩
  conv => whnf
  refine brec (fun h4 => ?_) (fun h4 => ?_)
  · have h4 := of_decide_eq_true h4
    have hlt : j < es.length := by omega
    have hgd : es.getD (j : Int).toNat .nilP = es[j]'hlt := by rw [Int.toNat_natCast, List.getD_eq_getElem?_getD, List.getElem?_eq_getElem hlt]; rfl
    have htk : es.take (j + 1) = es.take j ++ [es[j]'hlt] := by rw [List.take_add_one, List.getElem?_eq_getElem hlt]; rfl
    obtain ⟨k', s', n', ds', hev, hds⟩ := he _ (List.getElem_mem hlt)
    rw [hev] at hgd htk
    have e3 : IntKind.i64.wrap ((j : Int) + 1) = ((j + 1 : Nat) : Int) := by rw [w64 (by omega)]; omega
    have e4 : IntKind.i64.wrap ((es.length : Int) - (j : Int)) = ((es.length - j : Nat) : Int) := by rw [w64 (by omega)]; omega
    have hll : ((es.take j).drop (W)).length ≤ 100000 := by rw [List.length_drop, List.length_take]; omega
    conv => whnf
    refine ⟨⟨by omega, h4⟩, ?_⟩
    rw [hgd]
    obtain ⟨C, hC⟩ : ∃ C : Int, C = 4096 := ⟨_, rfl⟩
    rw [← hC]
    conv => whnf
    rw [e4]
    by_cases c : es.length - j < 4096
    · refine brT (decide_eq_true (by omega)) ?_
      conv => whnf
      refine ⟨⟨Nat.succ_pos _, by show (((es.take j).drop (W)).length + 1) * (64 + 1) ≤ _; omega⟩, ?_⟩
      conv => whnf
      refine ⟨es.length - (j + 1), [(2, .ptr 0 []), (3, .ptr 1 []), (4, .ptr 2 []), (5, .row 5), (9, .d (.sl 35 es)), (10, i64 ((es.length : Nat) : Int)), (11, i64 ((j + 1 : Nat) : Int))], [0, 1, 2, 5], by omega, ⟨rfl, rfl, rfl, rfl, rfl, rfl, congrArg (fun z => some (i64 z)) e3, trivial⟩, ?_⟩
      conv => whnf
      refine ⟨j + 1, by omega, rfl, rfl, ?_⟩
      rw [htk, List.drop_append_of_le_length (by rw [List.length_take]; omega)]
      rfl
    · refine brF (decide_eq_false (by omega)) ?_
      conv => whnf
      refine ⟨es.length - (j + 1), [(2, .ptr 0 []), (3, .ptr 1 []), (4, .ptr 2 []), (5, .row 3), (9, .d (.sl 35 es)), (10, i64 ((es.length : Nat) : Int)), (11, i64 ((j + 1 : Nat) : Int))], [0, 1, 2, 3], by omega, ⟨rfl, rfl, rfl, rfl, rfl, rfl, congrArg (fun z => some (i64 z)) e3, trivial⟩, ?_⟩
      conv => whnf
      refine ⟨j + 1, by omega, rfl, rfl, ?_⟩
      have d1 : (es.take j).drop (W) = [] := List.drop_eq_nil_iff.2 (by rw [List.length_take]; omega)
      have d2 : (es.take (j + 1)).drop (W) = [] := List.drop_eq_nil_iff.2 (by rw [List.length_take]; omega)
      rw [d1, d2]
  · have h4 := of_decide_eq_false h4
    obtain rfl : j = es.length := by omega
    rw [List.take_length]
    have hll : (es.drop (W)).length ≤ 100000 := by rw [List.length_drop]; omega
    conv => whnf
    refine ⟨⟨Nat.succ_pos _, by show ((es.drop (W)).length + 1) * (64 + 1) ≤ _; omega⟩, ?_⟩
    conv => whnf
    exact ⟨rfl, rfl⟩
end Go.Proofs.YtmdfpifcghmpfaaDoor
