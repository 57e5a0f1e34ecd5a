/- A seed's keys (layer 6) without a log: signing. -/
import Derived.Test.YtghblnkplfajjaaDoorWH
set_option linter.unusedVariables false
namespace Go.Proofs.YtghblnkplfajjaaDoor
open Go.Ab

/-- A signature by a key. -/
def sigP (s : ByteArray) (ix : Nat) (d : ByteArray) (l : List ByteArray) : Sg := ⟨(ix : Int), partsP s ix d 32, othersP s ix d 32, pathN 4 l ix⟩
theorem sigP_d (s : ByteArray) (ix : Nat) (d : ByteArray) (l : List ByteArray) : (sigP s ix d l).d = .agg [.int .i64 (ix : Int), .sl 32 (dgs (partsP s ix d 32)), .sl 32 (dgs (othersP s ix d 32)), .sl 32 (dgs (pathN 4 l ix))] := rfl
theorem sigP_fit {s : ByteArray} {ix : Nat} {d : ByteArray} {l : List ByteArray} (hx : ix < 16) (hf : ∀ b ∈ l, b.size = 32) : (sigP s ix d l).fit := by
  refine ⟨⟨?_, ?_⟩, ⟨?_, ?_⟩, ⟨?_, ?_⟩, ⟨?_, ?_⟩⟩
  · show -9223372036854775808 ≤ (ix : Int); omega
  · show (ix : Int) < 9223372036854775808; omega
  · show (partsP s ix d 32).length ≤ 100; rw [parts_len]; decide
  · exact parts_32 s ix d 32
  · show (othersP s ix d 32).length ≤ 100; rw [others_len]; decide
  · exact others_32 s ix d 32
  · show (pathN 4 l ix).length ≤ 100; rw [pathN_len]; decide
  · exact pathN_32 4 ix hf

set_option maxRecDepth 100000 in
theorem again_c {s d : ByteArray} {n ix : Nat} {l : List ByteArray} (h : s.size = 32) (hd : d.size = 32) (hf : ∀ b ∈ l, b.size = 32) (hl : l.length = 16) (hx : ix < 16) :
    CallR cx 23 [.d (signD s n l), .d .nilP, i64 (ix : Int), .d (dgD d)] [] fun r S => r = .tup [.d (sigP s ix d l).d, i64 0] ∧ S = [] := by
  have ls := lsign_c (ix := ix) h hd (by omega)
  have pc := path_c (s := s) (n := n) hf hl hx
  have dl := dgs_len l
  rw [sigP_d]
  generalize dgs (partsP s ix d 32) = P at *
  generalize dgs (othersP s ix d 32) = O at *
  generalize dgs (pathN 4 l ix) = A at *
  unfold signD dgD at *
  generalize dgs l = X at *
  generalize D.bytes s = Y at *
  generalize D.bytes d = Z at *
  refine callR_of (R := R1) cx_ok Tryd.func23 (by kernel_rfl) rfl ?_
  conv => whnf
  refine brF (bne_eq_false_iff_eq.2 (by omega)) ?_
  conv => whnf
  refine brF (decide_eq_false (by omega)) ?_
  conv => whnf
  refine ⟨_, ls, ?_⟩
  rintro _ _ ⟨rfl, rfl⟩
  conv => whnf
  refine ⟨_, pc, ?_⟩
  rintro _ _ ⟨rfl, rfl⟩
  conv => whnf
  exact ⟨rfl, rfl⟩

set_option maxRecDepth 100000 in
theorem ksign_c {s d : ByteArray} {n : Nat} {l : List ByteArray} (h : s.size = 32) (hd : d.size = 32) (hf : ∀ b ∈ l, b.size = 32) (hl : l.length = 16) (hx : n < 16) :
    CallR cx 17 [.d (signD s n l), .d .nilP, .d (dgD d)] [] fun r S => r = .tup [.d (signD s (n + 1) l), .d (sigP s n d l).d, i64 0] ∧ S = [] := by
  have ag := again_c (n := n) h hd hf hl hx
  have cc := cloneG_c (l := dgs l) (by rw [dgs_len]; omega)
  have e3 : IntKind.i64.wrap ((n : Int) + 1) = ((n + 1 : Nat) : Int) := by rw [w64 (by omega)]; omega
  generalize sigP s n d l = G at *
  obtain ⟨gi, g1, g2, g3⟩ := G
  unfold signD dgD at *
  generalize dgs l = X at *
  generalize D.bytes s = Y at *
  generalize D.bytes d = Z at *
  refine callR_of (R := R1) cx_ok Tryd.func17 (by kernel_rfl) rfl ?_
  conv => whnf
  refine brF (decide_eq_false (by omega)) ?_
  conv => whnf
  refine ⟨_, ag, ?_⟩
  rintro _ _ ⟨rfl, rfl⟩
  conv => whnf
  rw [e3]
  refine ⟨_, cc, ?_⟩
  rintro _ _ ⟨rfl, rfl⟩
  conv => whnf
  refine ⟨by kernel_rfl, ?_⟩
  conv => whnf
  refine ⟨by kernel_rfl, ?_⟩
  conv => whnf
  exact ⟨rfl, rfl⟩
end Go.Proofs.YtghblnkplfajjaaDoor
