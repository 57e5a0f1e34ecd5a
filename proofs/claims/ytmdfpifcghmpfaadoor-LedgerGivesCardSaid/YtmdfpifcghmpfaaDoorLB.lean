/- Ledgers: the same ones. -/
import Derived.Test.YtmdfpifcghmpfaaDoorLA
namespace Go.Proofs.YtmdfpifcghmpfaaDoor
open Go.Ab Go.RowKit

theorem deq_self (x : D) : deq x x = true := by simp [deq]

/-- Thirty-two bytes. -/
def keyOk (k : List D) : Prop := k.length = 32 ∧ ∀ y ∈ k, ∃ n, y = .int .u8 n
def evOk (e : D) : Prop := ∃ k s n ds, e = .agg [.int .i64 k, .str s, .int .u64 n, .arr 32 1 ds] ∧ keyOk ds

theorem sideA {nm : ByteArray} {ky : List D} {nn cn : Int} (h : keyOk ky) : ∃ T : Ty, T.fitE cx.tt 36 = true ∧ Nat.blt T.depth 9999 = true ∧ T.is (Ac.d ⟨nm, ky, nn, cn⟩) ∧ T.is (Ac.d ⟨nm, ky, nn, cn⟩) :=
  have q : (Ty.st [.str, .arr 32 1 (.int .u8), .int .u64, .int .u64]).is (Ac.d ⟨nm, ky, nn, cn⟩) := ⟨_, rfl, _, _, rfl, ⟨_, rfl⟩, _, _, rfl, ⟨_, rfl, h.1, h.2⟩, _, _, rfl, ⟨_, rfl⟩, _, _, rfl, ⟨_, rfl⟩, rfl⟩
  ⟨.st [.str, .arr 32 1 (.int .u8), .int .u64, .int .u64], by kernel_rfl, by kernel_rfl, q, q⟩
theorem sideE {k : Int} {s : ByteArray} {n : Int} {ds : List D} (h : keyOk ds) : ∃ T : Ty, T.fitE cx.tt 47 = true ∧ Nat.blt T.depth 9999 = true ∧ T.is (.agg [.int .i64 k, .str s, .int .u64 n, .arr 32 1 ds]) ∧ T.is (.agg [.int .i64 k, .str s, .int .u64 n, .arr 32 1 ds]) :=
  have q : (Ty.st [.int .i64, .str, .int .u64, .arr 32 1 (.int .u8)]).is (.agg [.int .i64 k, .str s, .int .u64 n, .arr 32 1 ds]) := ⟨_, rfl, _, _, rfl, ⟨_, rfl⟩, _, _, rfl, ⟨_, rfl⟩, _, _, rfl, ⟨_, rfl⟩, _, _, rfl, ⟨_, rfl, h.1, h.2⟩, rfl⟩
  ⟨.st [.int .i64, .str, .int .u64, .arr 32 1 (.int .u8)], by kernel_rfl, by kernel_rfl, q, q⟩

theorem same_c {l : Lg} (hl : l.ok) (hk : ∀ a ∈ l.accs, keyOk a.key) (he : ∀ e ∈ l.evs, evOk e) (hel : l.evs.length ≤ 100000) : CallR cx 15 [.d l.d, .d l.d] [] fun r S => r = bo true ∧ S = [] := by
  have hL := hl.2.2
  obtain ⟨h, t, g, al, es⟩ := l
  simp only at hL hk he hel
  have hlen : (acs al).length = al.length := List.length_map _
  refine callR_of (R := R1) cx_ok Tryd.func15 (by kernel_rfl) rfl ?_
  conv => whnf
  refine brF (bne_self_eq_false h) ?_
  conv => whnf
  refine brF (bne_self_eq_false t) ?_
  conv => whnf
  refine brF (bne_self_eq_false g) ?_
  conv => whnf
  refine brF (bne_self_eq_false _) ?_
  conv => whnf
  refine brF (bne_self_eq_false _) ?_
  conv => whnf
  refine .inl ⟨fun m L S => ∃ (j : Nat), j ≤ al.length ∧ m = al.length - j ∧
      L = [(2, .ptr 0 []), (3, .ptr 1 []), (46, i64 (((acs al).length : Nat) : Int)), (47, i64 (j : Int))] ∧ S = [.var (.d (Lg.d ⟨h, t, g, al, es⟩)), .var (.d (Lg.d ⟨h, t, g, al, es⟩))],
    ⟨_, _, ⟨0, Nat.zero_le _, rfl, rfl, rfl⟩, ⟨rfl, rfl, rfl, rfl, trivial⟩⟩, ?_⟩
  rintro _ _ _ ⟨j, hj, rfl, rfl, rfl⟩
  conv => whnf
  refine brec (fun h4 => ?_) (fun h4 => ?_)
  · have h4 := of_decide_eq_true h4
    rw [hlen] at h4
    have hlt : j < al.length := by omega
    have hgd := acs_getD hlt
    conv => whnf
    refine ⟨by kernel_rfl, ?_⟩
    conv => whnf
    refine ⟨⟨by omega, by rw [hlen]; omega⟩, ?_⟩
    rw [hgd]
    have hky := hk _ (List.getElem_mem hlt)
    generalize al[j]'hlt = a at *
    obtain ⟨nm, ky, nn, cn⟩ := a
    simp only at hky
    conv => whnf
    refine ⟨⟨by omega, by rw [hlen]; omega⟩, ?_⟩
    rw [hgd]
    conv => whnf
    refine ⟨sideA hky, ?_⟩
    rw [deq_self]
    conv => whnf
    refine ⟨by kernel_rfl, ?_⟩
    conv => whnf
    have e3 : IntKind.i64.wrap ((j : Int) + 1) = ((j + 1 : Nat) : Int) := by rw [w64 (by omega)]; omega
    exact ⟨_, _, 2, (by omega : al.length - (j + 1) < al.length - j), ⟨j + 1, by omega, rfl, rfl, rfl⟩, ⟨rfl, rfl, rfl, congrArg (fun z => some (i64 z)) e3, trivial⟩, rfl⟩
  · have h4 := of_decide_eq_false h4
    conv => whnf
    refine .inl ⟨fun m L S => ∃ (j : Nat), j ≤ es.length ∧ m = es.length - j ∧
        L = [(2, .ptr 0 []), (3, .ptr 1 []), (64, i64 ((es.length : Nat) : Int)), (65, i64 (j : Int))] ∧ S = [.var (.d (Lg.d ⟨h, t, g, al, es⟩)), .var (.d (Lg.d ⟨h, t, g, al, es⟩))],
      ⟨_, _, ⟨0, Nat.zero_le _, rfl, rfl, rfl⟩, ⟨rfl, rfl, rfl, rfl, trivial⟩⟩, ?_⟩
    rintro _ _ _ ⟨j, hj, rfl, rfl, rfl⟩
    conv => whnf
    refine brec (fun h4 => ?_) (fun h4 => ?_)
    · have h4 := of_decide_eq_true h4
      have hlt : j < es.length := by omega
      have hgd : es.getD (j : Int).toNat .nilP = es[j]'hlt := by rw [Int.toNat_natCast, List.getD_eq_getElem?_getD, List.getElem?_eq_getElem hlt]; rfl
      obtain ⟨k, s, n, ds, hev, hds⟩ := he _ (List.getElem_mem hlt)
      rw [hev] at hgd
      conv => whnf
      refine ⟨by kernel_rfl, ?_⟩
      conv => whnf
      refine ⟨⟨by omega, h4⟩, ?_⟩
      rw [hgd]
      conv => whnf
      refine ⟨⟨by omega, h4⟩, ?_⟩
      rw [hgd]
      conv => whnf
      refine ⟨sideE hds, ?_⟩
      rw [deq_self]
      conv => whnf
      refine ⟨by kernel_rfl, ?_⟩
      conv => whnf
      have e3 : IntKind.i64.wrap ((j : Int) + 1) = ((j + 1 : Nat) : Int) := by rw [w64 (by omega)]; omega
      exact ⟨_, _, 2, (by omega : es.length - (j + 1) < es.length - j), ⟨j + 1, by omega, rfl, rfl, rfl⟩, ⟨rfl, rfl, rfl, congrArg (fun z => some (i64 z)) e3, trivial⟩, rfl⟩
    · conv => whnf
      exact ⟨rfl, rfl⟩
end Go.Proofs.YtmdfpifcghmpfaaDoor
