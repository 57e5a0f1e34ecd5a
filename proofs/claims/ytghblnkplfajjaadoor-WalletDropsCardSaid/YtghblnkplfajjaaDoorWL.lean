/- Wallets: the first order dropped; the first order sent. -/
import Derived.Test.YtghblnkplfajjaaDoorWK
set_option linter.unusedVariables false
namespace Go.Proofs.YtghblnkplfajjaaDoor
open Go.Ab

theorem drop0_c {ch m : Nat} {nm s : ByteArray} {lv : List ByteArray} :
    CallR cx 8 [.d (walD ch nm (signD s m lv) [])] [] fun r S => r = .tup [.d (walD ch nm (signD s m lv) []), bo false] ∧ S = [] := by
  unfold walD signD dgD
  generalize D.bytes s = Y
  generalize dgs lv = Z
  refine callR_of (R := R1) cx_ok Tryd.func8 (by kernel_rfl) rfl ?_
  conv => whnf
  exact ⟨rfl, rfl⟩

theorem dropB_c {ch m : Nat} {nm s : ByteArray} {lv : List ByteArray} {t : TypeId} {x : D} {k : Int} {l : List D} :
    CallR cx 8 [.d (walD ch nm (signD s m lv) (.agg [.iface t x, .bool true, .int .u64 k] :: l))] [] fun r S => r = .tup [.d (walD ch nm (signD s m lv) (.agg [.iface t x, .bool true, .int .u64 k] :: l)), bo false] ∧ S = [] := by
  unfold walD signD dgD
  generalize D.bytes s = Y
  generalize dgs lv = Z
  refine callR_of (R := R1) cx_ok Tryd.func8 (by kernel_rfl) rfl ?_
  conv => whnf
  refine ⟨⟨by omega, by simp⟩, ?_⟩
  conv => whnf
  exact ⟨rfl, rfl⟩

theorem dropU_c {ch m : Nat} {nm s : ByteArray} {lv : List ByteArray} {t : TypeId} {x : D} {k : Int} :
    CallR cx 8 [.d (walD ch nm (signD s m lv) [.agg [.iface t x, .bool false, .int .u64 k]])] [] fun r S => r = .tup [.d (walD ch nm (signD s m lv) []), bo true] ∧ S = [] := by
  have cc := cloneO_c (l := []) (by decide)
  unfold walD signD dgD
  generalize D.bytes s = Y
  generalize dgs lv = Z
  refine callR_of (R := R1) cx_ok Tryd.func8 (by kernel_rfl) rfl ?_
  conv => whnf
  refine ⟨⟨by omega, by simp⟩, ?_⟩
  conv => whnf
  refine ⟨⟨by decide, by simp, by simp⟩, ?_⟩
  conv => whnf
  refine ⟨_, cc, ?_⟩
  rintro _ _ ⟨rfl, rfl⟩
  conv => whnf
  exact ⟨rfl, rfl⟩

/-- The order that was sent. -/
def od1 (ch : Nat) (a b : ByteArray) (n nonce : Nat) (s : ByteArray) (m : Nat) (lv : List ByteArray) : Od := ⟨a, b, n, nonce, sigP s m (pdgP ch a b n nonce) lv, true, 1⟩

theorem step_c {ch m n nonce : Nat} {nm b s : ByteArray} {lv : List ByteArray} (h : s.size = 32) (hf : ∀ b ∈ lv, b.size = 32) (hl : lv.length = 16) (hm : m < 16) (hch : ch < 4294967296) (hk : nonce < 18446744073709551616) (hp : (Cl.pay nm b n 0 sg0).fit) :
    CallR cx 9 [.d .nilP, .d (walD ch nm (signD s m lv) [(od0 nm b n).d]), u64 (nonce : Int)] [] fun r S =>
      r = .tup [.d (walD ch nm (signD s (m + 1) lv) [(od1 ch nm b n nonce s m lv).d]), .d (od1 ch nm b n nonce s m lv).c.d, i64 0] ∧ S = [] := by
  have e0 : (od0 nm b n).d = .agg [(Cl.pay nm b n 0 sg0).d, .bool false, .int .u64 0] := rfl
  have e1 : (od1 ch nm b n nonce s m lv).d = .agg [(od1 ch nm b n nonce s m lv).c.d, .bool true, .int .u64 1] := rfl
  have e2 : (od1 ch nm b n nonce s m lv).c.d = (Cl.pay nm b n nonce (sigP s m (pdgP ch nm b n nonce) lv)).d := rfl
  have cc := cloneO_c (l := [(od0 nm b n).d]) (by simp)
  have dc := done_c (o := od0 nm b n) (nonce := nonce)
  have cs := od_signed (od0 nm b n)
  have nc := numbered_c (a := nm) (b := b) (n := n) (k := 0) (k' := nonce) (g := sg0)
  have pd := pdigest_c (ch := ch) (g := sg0) (show (Cl.pay nm b n nonce sg0).fit from ⟨hp.1, hp.2.1, hp.2.2.1, hk, hp.2.2.2.2⟩) hch
  have ks := ksign_c (n := m) h (pdgP_size ch nm b n nonce) hf hl hm
  have cw := cwith_c (c := Cl.pay nm b n nonce sg0) (g := sigP s m (pdgP ch nm b n nonce) lv)
  change CallR cx _ _ _ fun r S => r = .d (Cl.pay nm b n nonce (sigP s m (pdgP ch nm b n nonce) lv)).d ∧ S = [] at cw
  change CallR cx _ _ _ fun r S => r = bo false ∧ S = [] at dc
  change CallR cx _ [.d (Cl.pay nm b n 0 sg0).d] _ fun r S => r = .tup [st nm, u64 (0 : Int), .d sg0.d, bo true] ∧ S = [] at cs
  rw [e1, e2]
  rw [e0] at cc dc ⊢
  obtain ⟨t0, x0, h0⟩ := cl_iface nm b n 0 sg0
  obtain ⟨t1, x1, h1⟩ := cl_iface nm b n nonce sg0
  obtain ⟨t2, x2, h2⟩ := cl_iface nm b n nonce (sigP s m (pdgP ch nm b n nonce) lv)
  rw [h0] at cc dc cs nc ⊢
  rw [h1] at nc pd cw
  rw [h2] at cw ⊢
  generalize sigP s m (pdgP ch nm b n nonce) lv = G at *
  generalize pdgP ch nm b n nonce = Q at *
  obtain ⟨gi, g1, g2, g3⟩ := G
  unfold walD signD dgD at *
  generalize D.bytes s = Y at *
  generalize D.bytes Q = Q at *
  generalize dgs lv = Z at *
  refine callR_of (R := R1) cx_ok Tryd.func9 (by kernel_rfl) rfl ?_
  conv => whnf
  refine ⟨_, cc, ?_⟩
  rintro _ _ ⟨rfl, rfl⟩
  conv => whnf
  refine .inl ⟨fun p L S => p = 0 ∧ L = [(0, .d .nilP), (2, u64 (nonce : Int)), (4, .ptr 0 []), (6, .ptr 1 []), (9, .row 2)] ∧
      S = [.var (.d (.agg [.int .u32 (ch : Int), .str nm, .agg [.arr 32 1 Y, .int .i64 (m : Int), .sl 32 Z], .sl 3 [.agg [.iface t0 x0, .bool false, .int .u64 0]]])),
        .var (.d (.agg [.int .u32 0, .str .empty, .agg [zD, .int .i64 0, .sl 32 []], .sl 3 []])),
        .own 47 3 [.agg [.iface t0 x0, .bool false, .int .u64 0]]],
    ⟨_, _, ⟨rfl, rfl, rfl⟩, ⟨rfl, rfl, rfl, rfl, rfl, trivial⟩⟩, ?_⟩
  rintro _ _ _ ⟨rfl, rfl, rfl⟩
  conv => whnf
  refine ⟨⟨by omega, by simp⟩, ?_⟩
  conv => whnf
  refine ⟨by simp, ?_⟩
  conv => whnf
  refine ⟨_, dc, ?_⟩
  rintro _ _ ⟨rfl, rfl⟩
  conv => whnf
  refine ⟨⟨by omega, by simp⟩, ?_⟩
  conv => whnf
  refine ⟨by simp, ?_⟩
  conv => whnf
  refine ⟨_, cs, ?_⟩
  rintro _ _ ⟨rfl, rfl⟩
  conv => whnf
  refine ⟨_, nc, ?_⟩
  rintro _ _ ⟨rfl, rfl⟩
  conv => whnf
  refine ⟨by kernel_rfl, ?_⟩
  conv => whnf
  refine ⟨_, pd, ?_⟩
  conv => whnf
  refine ⟨_, ks, ?_⟩
  conv => whnf
  refine ⟨by kernel_rfl, ?_⟩
  conv => whnf
  refine ⟨by kernel_rfl, ?_⟩
  conv => whnf
  refine ⟨_, cw, ?_⟩
  conv => whnf
  refine ⟨by kernel_rfl, ?_⟩
  conv => whnf
  refine ⟨⟨by omega, by simp⟩, ?_⟩
  conv => whnf
  refine ⟨by simp, ?_⟩
  conv => whnf
  refine ⟨by kernel_rfl, ?_⟩
  conv => whnf
  refine ⟨by kernel_rfl, ?_⟩
  conv => whnf
  exact ⟨rfl, rfl⟩
end Go.Proofs.YtghblnkplfajjaaDoor
