/- WalletDrops: the chapter's examples; the law's walk. -/
import Derived.Test.YtghblnkplfajjaaDoorWL
set_option linter.unusedVariables false
namespace Go.Proofs.YtghblnkplfajjaaDoor
open Go.Ab

def s1 : ByteArray := ⟨#[1] ++ Array.replicate 31 0⟩
theorem s1_eq : dgD s1 = .arr 32 1 ((List.replicate 32 (.int .u8 0)).set 0 (.int .u8 1)) := by kernel_rfl
theorem s1_size : s1.size = 32 := by decide
def ada : ByteArray := ⟨#[97, 100, 97]⟩
def bob : ByteArray := ⟨#[98, 111, 98]⟩
theorem paf (n k : Nat) (hn : n < 18446744073709551616) (hk : k < 18446744073709551616) : (Cl.pay ada bob n k sg0).fit :=
  ⟨show ada.size ≤ 1000 by decide, show bob.size ≤ 1000 by decide, hn, hk, sg0_fit⟩

set_option maxRecDepth 100000 in
theorem awake_c : CallR cx 4 [] [] fun r S => r = bo true ∧ S = [] := by
  have kn := knew_c s1_size
  have hl := leaves_len s1 16
  have hf := leaves_32 s1 16
  generalize leavesP s1 16 = lv at *
  have wn := wnew_c (ch := 1) (n := 0) (nm := ada) (s := s1) (l := lv)
  have a1 := addP_c (ch := 1) (m := 0) (nm := ada) (s := s1) (lv := lv) (l := []) (p := z32) (i := 0) (br := [])
  have a2 := add_c (ch := 1) (m := 0) (n := 1) (k := 0) (nm := ada) (b := bob) (s := s1) (lv := lv) (l := []) (g := sg0) (by decide)
  have sp := step_c (ch := 1) (m := 0) (n := 1) (nonce := 4) (nm := ada) (b := bob) s1_size hf hl (by decide) (by decide) (by decide) (paf 1 0 (by decide) (by decide))
  have hw4 : waitsN [od1 1 ada bob 1 4 s1 0 lv] 4 = 1 := rfl
  have hw5 : waitsN [od1 1 ada bob 1 4 s1 0 lv] 5 = 0 := rfl
  have wt4 := waits_c (ch := 1) (nonce := 4) (m := 1) (nm := ada) (s := s1) (lv := lv) (l := [od1 1 ada bob 1 4 s1 0 lv]) (by simp)
  have wt5 := waits_c (ch := 1) (nonce := 5) (m := 1) (nm := ada) (s := s1) (lv := lv) (l := [od1 1 ada bob 1 4 s1 0 lv]) (by simp)
  rw [hw4] at wt4
  rw [hw5] at wt5
  have cs := od_signed (od1 1 ada bob 1 4 s1 0 lv)
  change CallR cx _ _ _ fun r S => r = .tup [st ada, u64 (4 : Int), .d (sigP s1 0 (pdgP 1 ada bob 1 4) lv).d, bo true] ∧ S = [] at cs
  generalize sigP s1 0 (pdgP 1 ada bob 1 4) lv = G at cs
  have e1 : (od1 1 ada bob 1 4 s1 0 lv).d = .agg [(od1 1 ada bob 1 4 s1 0 lv).c.d, .bool true, .int .u64 1] := rfl
  obtain ⟨t2, x2, h2⟩ : ∃ t x, (od1 1 ada bob 1 4 s1 0 lv).c.d = .iface t x := ⟨_, _, rfl⟩
  rw [h2] at e1 cs sp
  simp only [ods, List.map_cons, List.map_nil, List.nil_append] at wt4 wt5 a2
  rw [e1] at wt4 wt5 sp
  have eo : (od0 ada bob 1).d = .agg [(Cl.pay ada bob 1 0 sg0).d, .bool false, .int .u64 0] := rfl
  obtain ⟨t0, x0, h0⟩ := cl_iface ada bob 1 0 sg0
  rw [eo, h0] at a2 sp
  have ep : (Cl.prove z32 0 []).d = .iface 50 (.agg [zD, .int .u32 0, .sl 32 []]) := by kernel_rfl
  rw [ep] at a1
  have h0' : .iface 41 (.agg [.str ada, .str bob, .int .u64 1, .int .u64 0, sg0.d]) = D.iface t0 x0 := h0
  rw [← h0'] at a2 sp
  unfold walD signD at *
  rw [s1_eq] at *
  generalize dgs lv = Z at *
  obtain ⟨gi, g1, g2, g3⟩ := G
  refine callR_of (R := R1) cx_ok Tryd.func4 (by kernel_rfl) rfl ?_
  conv => whnf
  refine ⟨_, kn, ?_⟩
  rintro _ _ ⟨rfl, rfl⟩
  conv => whnf
  refine ⟨_, wn, ?_⟩
  rintro _ _ ⟨rfl, rfl⟩
  conv => whnf
  refine ⟨_, a1, ?_⟩
  rintro _ _ ⟨rfl, rfl⟩
  conv => whnf
  refine ⟨_, a2, ?_⟩
  rintro _ _ ⟨rfl, rfl⟩
  conv => whnf
  refine ⟨_, sp, ?_⟩
  rintro _ _ ⟨rfl, rfl⟩
  conv => whnf
  refine ⟨_, cs, ?_⟩
  rintro _ _ ⟨rfl, rfl⟩
  conv => whnf
  refine ⟨_, wt4, ?_⟩
  rintro _ _ ⟨rfl, rfl⟩
  conv => whnf
  refine ⟨_, wt5, ?_⟩
  rintro _ _ ⟨rfl, rfl⟩
  conv => whnf
  exact ⟨rfl, rfl⟩

set_option maxRecDepth 100000 in
theorem drops_c {s : ByteArray} {n k : Nat} (hs : s.size = 32) (hn : n < 18446744073709551616) (hk : k < 18446744073709551616) :
    CallR cx 3 [.d (dgD s), u64 (n : Int), u64 (k : Int)] [] fun r S => r = bo true ∧ S = [] := by
  have aw := awake_c
  have kn := knew_c hs
  have hl := leaves_len s 16
  have hf := leaves_32 s 16
  generalize leavesP s 16 = lv at *
  have wn := wnew_c (ch := 1) (n := 0) (nm := ada) (s := s) (l := lv)
  have a2 := add_c (ch := 1) (m := 0) (n := n) (k := k) (nm := ada) (b := bob) (s := s) (lv := lv) (l := []) (g := sg0) (by decide)
  have sp := step_c (ch := 1) (m := 0) (n := n) (nonce := k) (nm := ada) (b := bob) hs hf hl (by decide) (by decide) hk (paf n 0 hn (by decide))
  have d0 := drop0_c (ch := 1) (m := 0) (nm := ada) (s := s) (lv := lv)
  have e1 : (od1 1 ada bob n k s 0 lv).d = .agg [(od1 1 ada bob n k s 0 lv).c.d, .bool true, .int .u64 1] := rfl
  obtain ⟨t2, x2, h2⟩ : ∃ t x, (od1 1 ada bob n k s 0 lv).c.d = .iface t x := ⟨_, _, rfl⟩
  have dB := dropB_c (ch := 1) (m := 1) (nm := ada) (s := s) (lv := lv) (t := t2) (x := x2) (k := 1) (l := [])
  have eo : (od0 ada bob n).d = .agg [(Cl.pay ada bob n 0 sg0).d, .bool false, .int .u64 0] := rfl
  obtain ⟨t0, x0, h0⟩ := cl_iface ada bob n 0 sg0
  have dU := dropU_c (ch := 1) (m := 0) (nm := ada) (s := s) (lv := lv) (t := t0) (x := x0) (k := 0)
  rw [h2] at e1 sp
  rw [e1] at sp
  rw [eo, h0] at a2 sp
  simp only [List.nil_append] at a2
  have h0' : (Cl.pay ada bob n k sg0).d = .iface 41 (.agg [.str ada, .str bob, .int .u64 (n : Int), .int .u64 (k : Int), .agg [.int .i64 0, .sl 32 [], .sl 32 [], .sl 32 []]]) := rfl
  rw [h0'] at a2
  unfold walD signD dgD at *
  generalize dgs lv = Z at *
  generalize D.bytes s = Y at *
  refine callR_of (R := R1) cx_ok Tryd.func3 (by kernel_rfl) rfl ?_
  conv => whnf
  refine ⟨_, aw, ?_⟩
  rintro _ _ ⟨rfl, rfl⟩
  conv => whnf
  refine ⟨_, kn, ?_⟩
  rintro _ _ ⟨rfl, rfl⟩
  conv => whnf
  refine ⟨_, wn, ?_⟩
  rintro _ _ ⟨rfl, rfl⟩
  conv => whnf
  refine ⟨_, a2, ?_⟩
  rintro _ _ ⟨rfl, rfl⟩
  conv => whnf
  refine ⟨_, dU, ?_⟩
  rintro _ _ ⟨rfl, rfl⟩
  conv => whnf
  refine ⟨_, sp, ?_⟩
  rintro _ _ ⟨rfl, rfl⟩
  conv => whnf
  refine ⟨_, dB, ?_⟩
  rintro _ _ ⟨rfl, rfl⟩
  conv => whnf
  refine ⟨_, d0, ?_⟩
  rintro _ _ ⟨rfl, rfl⟩
  conv => whnf
  refine ⟨⟨by omega, by simp⟩, ?_⟩
  conv => whnf
  refine ⟨⟨by omega, by simp⟩, ?_⟩
  conv => whnf
  exact ⟨rfl, rfl⟩
end Go.Proofs.YtghblnkplfajjaaDoor
