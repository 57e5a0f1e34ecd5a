/- WalletDrops: the law. -/
import Derived.Test.YtghblnkplfajjaaDoorWM
set_option linter.unusedVariables false
namespace Go.Proofs.YtghblnkplfajjaaDoor
open Go.Ab Go.RowKit

abbrev tyDg : Ty := .arr 32 1 (.int .u8)

theorem wf_u8 {n : Int} (h : (Lit.int .u8 n).wf = true) : 0 ≤ n ∧ n < 256 := by
  simp [Lit.wf, IntKind.min, IntKind.max, IntKind.signed, IntKind.bits] at h
  omega
theorem wf_u64 {n : Int} (h : (Lit.int .u64 n).wf = true) : ∃ m : Nat, n = m ∧ m < 18446744073709551616 := by
  simp [Lit.wf, IntKind.min, IntKind.max, IntKind.signed, IntKind.bits] at h
  exact ⟨n.toNat, by omega, by omega⟩
theorem bytes_of : ∀ {ys : List D}, (∀ y ∈ ys, (Ty.int .u8).has y) → ∃ l : List UInt8, ys = l.map fun b => .int .u8 b.toNat
  | [], _ => ⟨[], rfl⟩
  | y :: ys, h => by
    obtain ⟨l, rfl⟩ := bytes_of fun z hz => h z (List.mem_cons_of_mem _ hz)
    obtain ⟨n, rfl, hn⟩ := h y List.mem_cons_self
    obtain ⟨h1, h2⟩ := wf_u8 hn
    refine ⟨UInt8.ofNat n.toNat :: l, ?_⟩
    rw [List.map_cons, UInt8.toNat_ofNat']
    congr 2
    omega

theorem dg_of {x : D} (h : tyDg.has x) : ∃ b : ByteArray, x = dgD b ∧ b.size = 32 := by
  obtain ⟨ys, rfl, hl, hy⟩ := h
  obtain ⟨l, rfl⟩ := bytes_of hy
  refine ⟨⟨l.toArray⟩, rfl, ?_⟩
  show l.toArray.size = 32
  simpa using hl

theorem walletDrops_c (ys : List D) (hy : Ty.hass [tyDg, .int .u64, .int .u64] ys) : CallR cx 3 (ys.map AV.d) [] fun r S => r = .d (.bool true) ∧ S = [] := by
  obtain ⟨_, _, rfl, ha, _, _, rfl, ⟨n, rfl, wn⟩, _, _, rfl, ⟨k, rfl, wk⟩, rfl⟩ := hy
  obtain ⟨s, rfl, hs⟩ := dg_of ha
  obtain ⟨n, rfl, hn⟩ := wf_u64 wn
  obtain ⟨k, rfl, hk⟩ := wf_u64 wk
  exact drops_c hs hn hk
end Go.Proofs.YtghblnkplfajjaaDoor
