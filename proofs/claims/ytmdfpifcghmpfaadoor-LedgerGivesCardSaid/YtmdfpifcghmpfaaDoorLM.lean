/- Ledgers: what comes in; the law LedgerGives. -/
import Derived.Test.YtmdfpifcghmpfaaDoorLL
namespace Go.Proofs.YtmdfpifcghmpfaaDoor
open Go.Ab Go.RowKit

abbrev tyAc : Ty := .st [.str, .arr 32 1 (.int .u8), .int .u64, .int .u64]
abbrev tyEv : Ty := .st [.int .i64, .str, .int .u64, .arr 32 1 (.int .u8)]
abbrev tyLg : Ty := .st [.int .u64, .int .u64, .int .u64, .sl 35 tyAc, .sl 35 tyEv]

/-- What comes in of a ledger. -/
structure Lg.fits (l : Lg) : Prop where
  u : U l.height ∧ U l.time ∧ U l.gas
  a : ∀ a ∈ l.accs, a.ok ∧ keyOk a.key
  e : ∀ e ∈ l.evs, evOk e

theorem key_of {ds : List D} (h1 : ds.length = 32) (h2 : ∀ y ∈ ds, (Ty.int .u8).has y) : keyOk ds := ⟨h1, fun y hy => let ⟨n, h, _⟩ := h2 y hy; ⟨n, h⟩⟩

theorem accs_of : ∀ {ys : List D}, (∀ y ∈ ys, tyAc.has y) → ∃ l : List Ac, ys = acs l ∧ ∀ a ∈ l, a.ok ∧ keyOk a.key
  | [], _ => ⟨[], rfl, by simp⟩
  | y :: ys, h => by
    obtain ⟨l, rfl, h2⟩ := accs_of fun z hz => h z (List.mem_cons_of_mem _ hz)
    obtain ⟨_, rfl, _, _, rfl, ⟨nm, rfl, _⟩, _, _, rfl, ⟨ky, rfl, k1, k2⟩, _, _, rfl, ⟨nn, rfl, wn⟩, _, _, rfl, ⟨cn, rfl, wc⟩, rfl⟩ := h y (by simp)
    refine ⟨⟨nm, ky, nn, cn⟩ :: l, rfl, fun a ha => ?_⟩
    rcases List.mem_cons.1 ha with rfl | ha
    · exact ⟨⟨U.of_wf wn, U.of_wf wc⟩, key_of k1 k2⟩
    · exact h2 a ha

theorem ev_of {y : D} (h : tyEv.has y) : evOk y := by
  obtain ⟨_, rfl, _, _, rfl, ⟨k, rfl, _⟩, _, _, rfl, ⟨s, rfl, _⟩, _, _, rfl, ⟨n, rfl, _⟩, _, _, rfl, ⟨ky, rfl, k1, k2⟩, rfl⟩ := h
  exact ⟨k, s, n, ky, rfl, key_of k1 k2⟩

theorem lg_of {x : D} (h : tyLg.has x) : ∃ l : Lg, x = l.d ∧ l.fits := by
  obtain ⟨_, rfl, _, _, rfl, ⟨h, rfl, w1⟩, _, _, rfl, ⟨t, rfl, w2⟩, _, _, rfl, ⟨g, rfl, w3⟩, _, _, rfl, ⟨al, rfl, _, h4⟩, _, _, rfl, ⟨es, rfl, _, h5⟩, rfl⟩ := h
  obtain ⟨l, rfl, h6⟩ := accs_of h4
  exact ⟨⟨h, t, g, l, es⟩, rfl, ⟨⟨U.of_wf w1, U.of_wf w2, U.of_wf w3⟩, h6, fun e he => ev_of (h5 e he)⟩⟩

theorem ledgerGives_c (ys : List D) (hy : Ty.hass [tyLg, .str, .int .u64] ys) : CallR cx 3 (ys.map AV.d) [] fun r S => r = .d (.bool true) ∧ S = [] := by
  obtain ⟨_, _, rfl, hl, _, _, rfl, ⟨who, rfl, _⟩, _, _, rfl, ⟨n, rfl, wn⟩, rfl⟩ := hy
  obtain ⟨l, rfl, hf⟩ := lg_of hl
  exact gives_c hf.u hf.a hf.e (U.of_wf wn)
end Go.Proofs.YtmdfpifcghmpfaaDoor
