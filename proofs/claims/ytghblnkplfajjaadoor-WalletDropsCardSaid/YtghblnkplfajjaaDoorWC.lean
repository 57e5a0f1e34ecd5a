/- One-time keys (layer 5) without a log: the word of a key; what is revealed. -/
import Derived.Test.YtghblnkplfajjaaDoorWB
set_option linter.unusedVariables false
namespace Go.Proofs.YtghblnkplfajjaaDoor
open Go.Ab

/-- The publics of a key, the first of them. -/
def pubsP (s : ByteArray) (ix : Nat) : Nat → List ByteArray
  | 0 => []
  | j + 1 => pubsP s ix j ++ [pubP (secP s ix (j / 2) (j % 2))]
theorem pubs_len (s : ByteArray) (ix : Nat) : ∀ n, (pubsP s ix n).length = n
  | 0 => rfl
  | n + 1 => by rw [pubsP, List.length_append, pubs_len s ix n]; rfl
theorem pubs_32 (s : ByteArray) (ix : Nat) : ∀ n, ∀ b ∈ pubsP s ix n, b.size = 32
  | 0 => fun b h => absurd h (by simp [pubsP])
  | n + 1 => fun b h => by
    rw [pubsP, List.mem_append] at h
    rcases h with h | h
    · exact pubs_32 s ix n b h
    · rw [List.mem_singleton.1 h]; exact pubP_size _
def wordP (s : ByteArray) (ix : Nat) : ByteArray := pairP (pubsP s ix 64)
theorem wordP_size (s : ByteArray) (ix : Nat) : (wordP s ix).size = 32 := pairP_size _
theorem tiA : ({ k := TK.arr 32 5, size := 32, bytes := 32, zero := some (D.arr 32 1 (List.replicate 32 (D.int IntKind.u8 0))), eq := true, cmp := true } : TI).size = 32 := rfl

set_option maxRecDepth 100000 in
theorem word_c {s : ByteArray} {ix : Nat} (h : s.size = 32) (hx : ix < 4294967296) : CallR cx 12 [.d .nilP, .d (dgD s), i64 (ix : Int)] [] fun r S => r = .d (dgD (wordP s ix)) ∧ S = [] := by
  have pc := pair_c (pubs_len s ix 64) (pubs_32 s ix 64)
  have sc := fun (i b : Nat) (hi : i < 256) (hb : b < 256) => secret_c (ix := ix) h hx hi hb
  have hq : (D.bytes s).length = 32 := by rw [bytes_length, h]
  unfold wordP
  generalize pairP (pubsP s ix 64) = Q at *
  refine callR_of (R := R1) cx_ok Tryd.func12 (by kernel_rfl) rfl ?_
  conv => whnf
  refine .inl ⟨fun p L S => ∃ j : Nat, j ≤ 64 ∧ p = 64 - j ∧
      L = [(0, .d .nilP), (2, i64 (ix : Int)), (4, .ptr 0 []), (6, .ptr 1 []), (7, .ptr 2 []), (9, i64 (j : Int))] ∧ S = [.var (.d (dgD s)), .var (.d zD), .var (.d (.arr 64 32 (arrG 64 (pubsP s ix j))))],
    ⟨_, _, ⟨0, Nat.zero_le _, rfl, rfl, by kernel_rfl⟩, ⟨rfl, rfl, rfl, rfl, rfl, rfl, trivial⟩⟩, ?_⟩
  rintro p _ _ ⟨j, hj, rfl, rfl, rfl⟩
  have hlen := pubs_len s ix j
  have hnx : pubsP s ix (j + 1) = pubsP s ix j ++ [pubP (secP s ix (j / 2) (j % 2))] := rfl
  have hfin : j = 64 → pubsP s ix j = pubsP s ix 64 := fun e => by rw [e]
  generalize pubsP s ix j = l at *
  conv => whnf
  refine brec (fun g => ?_) (fun g => ?_)
  · have g := of_decide_eq_true g
    have hlt : j < 64 := by omega
    have e3 : IntKind.i64.wrap ((j : Int) + 1) = ((j + 1 : Nat) : Int) := by rw [w64 (by omega)]; omega
    have eq : IntKind.i64.wrap (Int.tdiv (j : Int) 2) = ((j / 2 : Nat) : Int) := by
      rw [show Int.tdiv (j : Int) 2 = ((j / 2 : Nat) : Int) from rfl, w64 (by omega)]
    have er : Int.tmod (j : Int) 2 = ((j % 2 : Nat) : Int) := rfl
    have sc := sc (j / 2) (j % 2) (by omega) (by omega)
    rw [← eq, ← er] at sc
    have pb := public_c (secP_size s ix (j / 2) (j % 2))
    generalize pubP (secP s ix (j / 2) (j % 2)) = A at *
    generalize secP s ix (j / 2) (j % 2) = B at *
    conv => whnf
    refine ⟨by decide, ?_⟩
    conv => whnf
    refine ⟨by decide, ?_⟩
    conv => whnf
    refine ⟨_, sc, ?_⟩
    rintro _ _ ⟨rfl, rfl⟩
    conv => whnf
    refine ⟨_, pb, ?_⟩
    rintro _ _ ⟨rfl, rfl⟩
    conv => whnf
    refine ⟨⟨by omega, by omega⟩, ?_⟩
    conv => whnf
    rw [Int.toNat_natCast, tiA, setP_dg (a := z32) (by rw [← hlen]; exact arrG_new (by omega))]
    conv => whnf
    refine ⟨_, _, 3, (by omega : 64 - (j + 1) < 64 - j), ⟨j + 1, by omega, rfl, rfl, ?_⟩, ⟨rfl, rfl, rfl, rfl, rfl, congrArg (fun z => some (i64 z)) e3, trivial⟩, rfl⟩
    rw [hnx, ← arrG_set (by omega), hlen]
    rfl
  · have g := of_decide_eq_false g
    obtain rfl : j = 64 := by omega
    rw [hfin rfl, arrG_full (pubs_len s ix 64)]
    conv => whnf
    refine ⟨_, pc, ?_⟩
    rintro _ _ ⟨rfl, rfl⟩
    conv => whnf
    exact ⟨rfl, rfl⟩
end Go.Proofs.YtghblnkplfajjaaDoor
