/- Payments: what is signed of one, numbered, bare. Wallets: new ones. -/
import Derived.Test.YtghblnkplfajjaaDoorWI
set_option linter.unusedVariables false
namespace Go.Proofs.YtghblnkplfajjaaDoor
open Go.Ab

/-- What is signed of a payment on a chain. -/
def pdgP (ch : Nat) (a b : ByteArray) (n k : Nat) : ByteArray := dgL 8 [bigB ch 4, (Cl.pay a b n k sg0).bytes]
theorem pdgP_size (ch : Nat) (a b : ByteArray) (n k : Nat) : (pdgP ch a b n k).size = 32 := dgL_size _ _
theorem pay_cS (a b : ByteArray) (n k : Nat) (g : Sg) : (Cl.pay a b n k g).cS = (Cl.pay a b n k g).bytes := if_pos rfl
theorem pay_size {a b : ByteArray} {n k : Nat} {g : Sg} (h : (Cl.pay a b n k g).fit) : (Cl.pay a b n k g).bytes.size ≤ 40000 := by
  obtain ⟨h1, h2, _, _, h3⟩ := h
  have := sigB_size h3
  have h1 : a.size ≤ 1000 := h1
  have h2 : b.size ≤ 1000 := h2
  simp only [Cl.bytes, Cl.tail, ByteArray.size_append, bigB_size, textB_size]
  omega

theorem pdigest_c {a b : ByteArray} {n k ch : Nat} {g : Sg} (hf : (Cl.pay a b n k g).fit) (hch : ch < 4294967296) :
    CallR cx 18 [.d .nilP, u32 (ch : Int), .d (Cl.pay a b n k g).d] [] fun r S => r = .d (dgD (pdgP ch a b n k)) ∧ S = [] := by
  have fw : (Cl.pay a b n k sg0).fit := ⟨hf.1, hf.2.1, hf.2.2.1, hf.2.2.2.1, sg0_fit⟩
  have cs := csigned_c (c := Cl.pay a b n k g)
  have cw := cwith_c (c := Cl.pay a b n k g) (g := sg0)
  have cb := cb_pay fw
  have ww := wword_c (n := ch) hch
  have hz := pay_size fw
  rw [pay_cS] at cb
  have po := pofL_c (d := 8) (l := [bigB ch 4, (Cl.pay a b n k sg0).bytes]) (by simp) (by simp only [inL, List.foldl, ByteArray.size_append, textB_size, bigB_size, one_size]; omega)
  unfold pdgP
  change CallR cx _ _ _ fun r S => r = .d (Cl.pay a b n k sg0).d ∧ S = [] at cw
  change CallR cx _ _ _ fun r S => r = .tup [st a, u64 (k : Int), .d g.d, bo true] ∧ S = [] at cs
  generalize dgL 8 _ = Q at *
  generalize (Cl.pay a b n k sg0).d = W at *
  generalize (Cl.pay a b n k sg0).bytes = B at *
  generalize (Cl.pay a b n k sg0).cE = E at *
  generalize (Cl.pay a b n k g).d = X at *
  generalize bigB ch 4 = L at *
  obtain ⟨gi, g1, g2, g3⟩ := g
  refine callR_of (R := R1) cx_ok Tryd.func18 (by kernel_rfl) rfl ?_
  conv => whnf
  refine ⟨_, cs, ?_⟩
  rintro _ _ ⟨rfl, rfl⟩
  conv => whnf
  refine ⟨_, cw, ?_⟩
  rintro _ _ ⟨rfl, rfl⟩
  conv => whnf
  refine ⟨_, cb, ?_⟩
  rintro _ _ ⟨rfl, rfl⟩
  conv => whnf
  refine ⟨_, ww, ?_⟩
  rintro _ _ ⟨rfl, rfl⟩
  conv => whnf
  refine ⟨_, po, ?_⟩
  rintro _ _ ⟨rfl, rfl⟩
  conv => whnf
  exact ⟨rfl, rfl⟩

theorem numbered_c {a b : ByteArray} {n k k' : Nat} {g : Sg} :
    CallR cx 16 [.d (Cl.pay a b n k g).d, u64 (k' : Int)] [] fun r S => r = .d (Cl.pay a b n k' g).d ∧ S = [] := by
  obtain ⟨gi, g1, g2, g3⟩ := g
  refine callR_of (R := R1) cx_ok Tryd.func16 (by kernel_rfl) rfl ?_
  conv => whnf
  exact ⟨rfl, rfl⟩

theorem bare_c {a b : ByteArray} {n k : Nat} {g : Sg} :
    CallR cx 14 [.d (Cl.pay a b n k g).d] [] fun r S => r = .d (Cl.pay a b n 0 sg0).d ∧ S = [] := by
  have nc := numbered_c (a := a) (b := b) (n := n) (k := k) (k' := 0) (g := g)
  have cw := cwith_c (c := Cl.pay a b n 0 g) (g := sg0)
  change CallR cx _ _ _ fun r S => r = .d (Cl.pay a b n 0 sg0).d ∧ S = [] at cw
  generalize (Cl.pay a b n 0 sg0).d = W at *
  generalize (Cl.pay a b n 0 g).d = Y at *
  generalize (Cl.pay a b n k g).d = X at *
  refine callR_of (R := R1) cx_ok Tryd.func14 (by kernel_rfl) rfl ?_
  conv => whnf
  refine ⟨_, nc, ?_⟩
  rintro _ _ ⟨rfl, rfl⟩
  conv => whnf
  refine ⟨_, cw, ?_⟩
  rintro _ _ ⟨rfl, rfl⟩
  conv => whnf
  exact ⟨rfl, rfl⟩

/-- A wallet. -/
abbrev walD (ch : Nat) (nm : ByteArray) (sg : D) (os : List D) : D := .agg [.int .u32 (ch : Int), .str nm, sg, .sl 3 os]

theorem wnew_c {ch n : Nat} {nm s : ByteArray} {l : List ByteArray} :
    CallR cx 5 [u32 (ch : Int), st nm, .d (signD s n l)] [] fun r S => r = .d (walD ch nm (signD s n l) []) ∧ S = [] := by
  unfold signD dgD
  generalize D.bytes s = Y
  refine callR_of (R := R1) cx_ok Tryd.func5 (by kernel_rfl) rfl ?_
  conv => whnf
  exact ⟨rfl, rfl⟩
end Go.Proofs.YtghblnkplfajjaaDoor
