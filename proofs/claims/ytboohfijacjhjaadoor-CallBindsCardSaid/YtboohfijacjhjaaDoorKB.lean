/- Calls: the arguments of a law as calls. -/
import Derived.Test.YtboohfijacjhjaaDoorK9
set_option linter.unusedVariables false
namespace Go.Proofs.YtboohfijacjhjaaDoor
open Go.Ab Go.RowKit

abbrev tyDg : Ty := .arr 32 1 (.int .u8)
abbrev tySg : Ty := .st [.int .i64, .sl 32 tyDg, .sl 32 tyDg, .sl 32 tyDg]
abbrev tyUp : Ty := .st [.int .u32, tyDg, tyDg, tySg]
abbrev tySp : Ty := .st [.int .u32, tyDg, .int .i64, tySg]
abbrev tyLe : Ty := .st [.int .u32, .int .u32, .int .u32, .str, .str, .str]
abbrev tyAn : Ty := .st [.int .i64, .str, .str, .str, .int .u32, .int .u64, .int .u64, tySg, tyUp, tyUp, tySp, tyDg, .int .u32, .sl 32 tyDg, tyLe]

theorem wf_u8 {n : Int} (h : (Lit.int .u8 n).wf = true) : 0 ≤ n ∧ n < 256 := by
  simp [Lit.wf, IntKind.min, IntKind.max, IntKind.signed, IntKind.bits] at h
  omega
theorem wf_u32 {n : Int} (h : (Lit.int .u32 n).wf = true) : ∃ m : Nat, n = m ∧ m < 4294967296 := by
  simp [Lit.wf, IntKind.min, IntKind.max, IntKind.signed, IntKind.bits] at h
  exact ⟨n.toNat, by omega, by omega⟩
theorem wf_u64 {n : Int} (h : (Lit.int .u64 n).wf = true) : ∃ m : Nat, n = m ∧ m < 18446744073709551616 := by
  simp [Lit.wf, IntKind.min, IntKind.max, IntKind.signed, IntKind.bits] at h
  exact ⟨n.toNat, by omega, by omega⟩
theorem wf_i64 {n : Int} (h : (Lit.int .i64 n).wf = true) : -9223372036854775808 ≤ n ∧ n < 9223372036854775808 := by
  simp [Lit.wf, IntKind.min, IntKind.max, IntKind.signed, IntKind.bits] at h
  omega

theorem bytes_of : ∀ {ys : List D}, (∀ y ∈ ys, (Ty.int .u8).has y) → ∃ l : List UInt8, ys = l.map fun b => .int .u8 b.toNat
  | [], _ => ⟨[], rfl⟩
  | y :: ys, h => by
    obtain ⟨l, rfl⟩ := bytes_of fun z hz => h z (List.mem_cons_of_mem _ hz)
    obtain ⟨n, rfl, hn⟩ := h y List.mem_cons_self
    obtain ⟨h1, h2⟩ := wf_u8 hn
    refine ⟨UInt8.ofNat n.toNat :: l, ?_⟩
    rw [List.map_cons, UInt8.toNat_ofNat']
    congr 2
    omega

theorem dg_of {x : D} (h : tyDg.has x) : ∃ b : ByteArray, x = dgD b ∧ b.size = 32 := by
  obtain ⟨ys, rfl, hl, hy⟩ := h
  obtain ⟨l, rfl⟩ := bytes_of hy
  refine ⟨⟨l.toArray⟩, rfl, ?_⟩
  show l.toArray.size = 32
  simpa using hl

theorem dgs_of : ∀ {ys : List D}, (∀ y ∈ ys, tyDg.has y) → ∃ l : List ByteArray, ys = dgs l ∧ ∀ b ∈ l, b.size = 32
  | [], _ => ⟨[], rfl, by simp⟩
  | y :: ys, h => by
    obtain ⟨l, rfl, h2⟩ := dgs_of fun z hz => h z (List.mem_cons_of_mem _ hz)
    obtain ⟨b, rfl, h3⟩ := dg_of (h y List.mem_cons_self)
    exact ⟨b :: l, rfl, fun z hz => by rcases List.mem_cons.1 hz with rfl | hz; exact h3; exact h2 z hz⟩

theorem sg_of {x : D} (h : tySg.has x) : ∃ s : Sg, x = s.d ∧ (-9223372036854775808 ≤ s.ix ∧ s.ix < 9223372036854775808) ∧ (∀ b ∈ s.pa, b.size = 32) ∧ (∀ b ∈ s.ot, b.size = 32) ∧ (∀ b ∈ s.pt, b.size = 32) := by
  obtain ⟨_, rfl, _, _, rfl, ⟨i, rfl, wi⟩, _, _, rfl, ⟨a, rfl, _, ha⟩, _, _, rfl, ⟨b, rfl, _, hb⟩, _, _, rfl, ⟨c, rfl, _, hc⟩, rfl⟩ := h
  obtain ⟨la, rfl, qa⟩ := dgs_of ha
  obtain ⟨lb, rfl, qb⟩ := dgs_of hb
  obtain ⟨lc, rfl, qc⟩ := dgs_of hc
  exact ⟨⟨i, la, lb, lc⟩, rfl, wf_i64 wi, qa, qb, qc⟩

theorem up_of {x : D} (h : tyUp.has x) : ∃ u : Up, x = u.d ∧ u.home < 4294967296 ∧ u.old.size = 32 ∧ u.new.size = 32 ∧ (-9223372036854775808 ≤ u.sig.ix ∧ u.sig.ix < 9223372036854775808) ∧ (∀ b ∈ u.sig.pa, b.size = 32) ∧ (∀ b ∈ u.sig.ot, b.size = 32) ∧ (∀ b ∈ u.sig.pt, b.size = 32) := by
  obtain ⟨_, rfl, _, _, rfl, ⟨n, rfl, wn⟩, _, _, rfl, ha, _, _, rfl, hb, _, _, rfl, hs, rfl⟩ := h
  obtain ⟨m, rfl, hm⟩ := wf_u32 wn
  obtain ⟨a, rfl, qa⟩ := dg_of ha
  obtain ⟨b, rfl, qb⟩ := dg_of hb
  obtain ⟨s, rfl, q⟩ := sg_of hs
  exact ⟨⟨m, a, b, s⟩, rfl, hm, qa, qb, q⟩

theorem sp_of {x : D} (h : tySp.has x) : ∃ u : Sp, x = u.d ∧ u.home < 4294967296 ∧ u.key.size = 32 ∧ (-9223372036854775808 ≤ u.wat ∧ u.wat < 9223372036854775808) ∧ (-9223372036854775808 ≤ u.sig.ix ∧ u.sig.ix < 9223372036854775808) ∧ (∀ b ∈ u.sig.pa, b.size = 32) ∧ (∀ b ∈ u.sig.ot, b.size = 32) ∧ (∀ b ∈ u.sig.pt, b.size = 32) := by
  obtain ⟨_, rfl, _, _, rfl, ⟨n, rfl, wn⟩, _, _, rfl, ha, _, _, rfl, ⟨w, rfl, ww⟩, _, _, rfl, hs, rfl⟩ := h
  obtain ⟨m, rfl, hm⟩ := wf_u32 wn
  obtain ⟨a, rfl, qa⟩ := dg_of ha
  obtain ⟨s, rfl, q⟩ := sg_of hs
  exact ⟨⟨m, a, w, s⟩, rfl, hm, qa, wf_i64 ww, q⟩

theorem le_of {x : D} (h : tyLe.has x) : ∃ l : Le, x = l.d ∧ l.frm < 4294967296 ∧ l.non < 4294967296 ∧ l.too < 4294967296 := by
  obtain ⟨_, rfl, _, _, rfl, ⟨a, rfl, wa⟩, _, _, rfl, ⟨b, rfl, wb⟩, _, _, rfl, ⟨c, rfl, wc⟩, _, _, rfl, ⟨x, rfl, _⟩, _, _, rfl, ⟨y, rfl, _⟩, _, _, rfl, ⟨z, rfl, _⟩, rfl⟩ := h
  obtain ⟨a, rfl, ha⟩ := wf_u32 wa
  obtain ⟨b, rfl, hb⟩ := wf_u32 wb
  obtain ⟨c, rfl, hc⟩ := wf_u32 wc
  exact ⟨⟨a, b, c, x, y, z⟩, rfl, ha, hb, hc⟩

theorem an_of {x : D} (h : tyAn.has x) : ∃ a : An, x = a.d ∧ a.wf := by
  obtain ⟨_, rfl, _, _, rfl, ⟨k, rfl, wk⟩, _, _, rfl, ⟨A, rfl, _⟩, _, _, rfl, ⟨B, rfl, _⟩, _, _, rfl, ⟨C, rfl, _⟩, _, _, rfl, ⟨o, rfl, wo⟩, _, _, rfl, ⟨n, rfl, wn⟩, _, _, rfl, ⟨m, rfl, wm⟩,
    _, _, rfl, hs, _, _, rfl, hu, _, _, rfl, hv, _, _, rfl, hp, _, _, rfl, hd, _, _, rfl, ⟨i, rfl, wi⟩, _, _, rfl, ⟨br, rfl, _, hbr⟩, _, _, rfl, hl, rfl⟩ := h
  obtain ⟨o, rfl, qo⟩ := wf_u32 wo
  obtain ⟨n, rfl, qn⟩ := wf_u64 wn
  obtain ⟨m, rfl, qm⟩ := wf_u64 wm
  obtain ⟨i, rfl, qi⟩ := wf_u32 wi
  obtain ⟨s, rfl, qs⟩ := sg_of hs
  obtain ⟨u, rfl, qu⟩ := up_of hu
  obtain ⟨v, rfl, qv⟩ := up_of hv
  obtain ⟨p, rfl, qp⟩ := sp_of hp
  obtain ⟨d, rfl, qd⟩ := dg_of hd
  obtain ⟨l, rfl, ql⟩ := dgs_of hbr
  obtain ⟨e, rfl, qe⟩ := le_of hl
  exact ⟨⟨k, A, B, C, o, n, m, s, u, v, p, d, i, l, e⟩, rfl, ⟨wf_i64 wk, qo, qn, qm, qs.1, qs.2, qu, qv, qp, qd, qi, ql, qe⟩⟩
end Go.Proofs.YtboohfijacjhjaaDoor
