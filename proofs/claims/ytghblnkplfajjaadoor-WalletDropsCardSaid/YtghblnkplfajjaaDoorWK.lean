/- Wallets: an order more, one that was done, how many wait, one dropped. -/
import Derived.Test.YtghblnkplfajjaaDoorWJ
set_option linter.unusedVariables false
namespace Go.Proofs.YtghblnkplfajjaaDoor
open Go.Ab

/-- An order of a payment. -/
structure Od where
  a : ByteArray
  b : ByteArray
  n : Nat
  k : Nat
  g : Sg
  bd : Bool
  st : Nat
def Od.c (o : Od) : Cl := .pay o.a o.b o.n o.k o.g
abbrev Od.d (o : Od) : D := .agg [o.c.d, .bool o.bd, .int .u64 (o.st : Int)]
def Od.done (o : Od) (nonce : Nat) : Bool := o.bd && decide ((o.k : Int) < (nonce : Int))
abbrev ods (l : List Od) : List D := l.map Od.d

theorem od_signed (o : Od) : CallR cx 10 [.d o.c.d] [] fun r S => r = .tup [st o.a, u64 (o.k : Int), .d o.g.d, bo true] ∧ S = [] := csigned_c (c := o.c)

theorem done_c {o : Od} {nonce : Nat} : CallR cx 15 [.d o.d, u64 (nonce : Int)] [] fun r S => r = bo (o.done nonce) ∧ S = [] := by
  have cs := od_signed o
  obtain ⟨a, b, n, k, ⟨gi, g1, g2, g3⟩, bd, sn⟩ := o
  unfold Od.d Od.done
  generalize hX : Od.c _ = X at *
  generalize hY : X.d = Y at *
  have hYi : ∃ t x, Y = .iface t x := by rw [← hY, ← hX]; exact ⟨_, _, rfl⟩
  obtain ⟨t, x, rfl⟩ := hYi
  cases bd with
  | false =>
    refine callR_of (R := R1) cx_ok Tryd.func15 (by kernel_rfl) rfl ?_
    conv => whnf
    refine ⟨_, cs, ?_⟩
    rintro _ _ ⟨rfl, rfl⟩
    conv => whnf
    exact ⟨rfl, rfl⟩
  | true =>
    refine callR_of (R := R1) cx_ok Tryd.func15 (by kernel_rfl) rfl ?_
    conv => whnf
    refine ⟨_, cs, ?_⟩
    rintro _ _ ⟨rfl, rfl⟩
    conv => whnf
    exact ⟨rfl, rfl⟩

/-- How many orders weren't done. -/
def waitsN (l : List Od) (nonce : Nat) : Nat := (l.filter fun o => !o.done nonce).length
theorem waitsN_take {l : List Od} {nonce j : Nat} (h : j < l.length) : waitsN (l.take (j + 1)) nonce = waitsN (l.take j) nonce + (if (l[j]'h).done nonce = true then 0 else 1) := by
  unfold waitsN
  rw [List.take_succ_eq_append_getElem h, List.filter_append, List.length_append]
  congr 1
  cases hd : (l[j]'h).done nonce <;> simp [hd]
theorem waitsN_le (l : List Od) (nonce : Nat) : waitsN l nonce ≤ l.length := List.length_filter_le _ _
theorem ods_at {l : List Od} {j : Nat} (h : j < l.length) : (ods l).getD j .nilP = (l[j]'h).d := by
  rw [List.getD_eq_getElem?_getD, List.getElem?_map, List.getElem?_eq_getElem h]; rfl

theorem waits_c {ch nonce m : Nat} {nm s : ByteArray} {lv : List ByteArray} {l : List Od} (hl : l.length ≤ 1000) :
    CallR cx 11 [.d (walD ch nm (signD s m lv) (ods l)), u64 (nonce : Int)] [] fun r S => r = i64 (waitsN l nonce : Int) ∧ S = [] := by
  have hlen : (ods l).length = l.length := List.length_map _
  have oa := fun j h => ods_at (l := l) (j := j) h
  generalize hX : ods l = X at *
  unfold walD signD dgD
  generalize D.bytes s = Y
  refine callR_of (R := R1) cx_ok Tryd.func11 (by kernel_rfl) rfl ?_
  conv => whnf
  rw [hlen]
  refine .inr ⟨fun p L S => ∃ j : Nat, j ≤ l.length ∧ p = l.length - j ∧
      L = [(1, u64 (nonce : Int)), (5, i64 (waitsN (l.take j) nonce : Int)), (9, .d (.sl 3 X)), (10, i64 (l.length : Int)), (11, i64 (j : Int))] ∧ S = [.var (.d (.agg [.int .u32 (ch : Int), .str nm, .agg [.arr 32 1 Y, .int .i64 (m : Int), .sl 32 (dgs lv)], .sl 3 X]))],
    ⟨_, _, ⟨0, Nat.zero_le _, rfl, rfl, rfl⟩, ⟨rfl, rfl, rfl, rfl, rfl, trivial⟩⟩, ?_⟩
  rintro _ _ _ ⟨j, hj, rfl, rfl, rfl⟩
  conv => whnf
  refine brec (fun g => ?_) (fun g => ?_)
  · have g := of_decide_eq_true g
    have hlt : j < l.length := by omega
    have e3 : IntKind.i64.wrap ((j : Int) + 1) = ((j + 1 : Nat) : Int) := by rw [w64 (by omega)]; omega
    have hwl := waitsN_le (l.take j) nonce
    rw [List.length_take] at hwl
    have e4 : IntKind.i64.wrap ((waitsN (l.take j) nonce : Int) + 1) = ((waitsN (l.take j) nonce + 1 : Nat) : Int) := by rw [w64 (by omega)]; omega
    have hw := waitsN_take (nonce := nonce) hlt
    have oa := oa j hlt
    generalize l[j]'hlt = o at *
    have dc := done_c (o := o) (nonce := nonce)
    generalize o.done nonce = dn at *
    obtain ⟨a, b, n, k, ⟨gi, g1, g2, g3⟩, bd, sn⟩ := o
    unfold Od.d at *
    generalize hX : Od.c _ = C at *
    generalize hY : C.d = Z at *
    have hYi : ∃ t x, Z = .iface t x := by rw [← hY, ← hX]; exact ⟨_, _, rfl⟩
    obtain ⟨t, x, rfl⟩ := hYi
    conv => whnf
    refine ⟨⟨by omega, by omega⟩, ?_⟩
    rw [Int.toNat_natCast, oa]
    conv => whnf
    refine ⟨_, dc, ?_⟩
    rintro _ _ ⟨rfl, rfl⟩
    cases dn with
    | false =>
      rw [if_neg (by decide)] at hw
      conv => whnf
      refine ⟨l.length - (j + 1), [(1, u64 (nonce : Int)), (5, i64 ((waitsN (l.take j) nonce + 1 : Nat) : Int)), (9, .d (.sl 3 X)), (10, i64 (l.length : Int)), (11, i64 ((j + 1 : Nat) : Int))], [0], by omega, ⟨rfl, congrArg (fun z => some (i64 z)) e4, rfl, rfl, congrArg (fun z => some (i64 z)) e3, trivial⟩, ?_⟩
      conv => whnf
      exact ⟨j + 1, by omega, rfl, by rw [hw]; rfl, rfl⟩
    | true =>
      rw [if_pos rfl] at hw
      conv => whnf
      refine ⟨l.length - (j + 1), [(1, u64 (nonce : Int)), (5, i64 (waitsN (l.take j) nonce : Int)), (9, .d (.sl 3 X)), (10, i64 (l.length : Int)), (11, i64 ((j + 1 : Nat) : Int))], [0], by omega, ⟨rfl, rfl, rfl, rfl, congrArg (fun z => some (i64 z)) e3, trivial⟩, ?_⟩
      conv => whnf
      exact ⟨j + 1, by omega, rfl, by rw [hw, Nat.add_zero]; rfl, rfl⟩
  · have g := of_decide_eq_false g
    obtain rfl : j = l.length := by omega
    rw [List.take_length]
    conv => whnf
    exact ⟨rfl, rfl⟩

/-- The order of a payment that is added. -/
def od0 (a b : ByteArray) (n : Nat) : Od := ⟨a, b, n, 0, sg0, false, 0⟩
theorem cl_iface (a b : ByteArray) (n k : Nat) (g : Sg) : ∃ t x, (Cl.pay a b n k g).d = .iface t x := ⟨_, _, rfl⟩

theorem add_c {ch m n k : Nat} {nm b s : ByteArray} {lv : List ByteArray} {l : List D} {g : Sg} (hl : l.length < 64) :
    CallR cx 7 [.d (walD ch nm (signD s m lv) l), .d (Cl.pay nm b n k g).d] [] fun r S => r = .tup [.d (walD ch nm (signD s m lv) (l ++ [(od0 nm b n).d])), i64 0] ∧ S = [] := by
  have cs := csigned_c (c := Cl.pay nm b n k g)
  change CallR cx _ _ _ fun r S => r = .tup [st nm, u64 (k : Int), .d g.d, bo true] ∧ S = [] at cs
  have cc := cloneO_c (l := l) (by omega)
  have bc := bare_c (a := nm) (b := b) (n := n) (k := k) (g := g)
  have e0 : (od0 nm b n).d = .agg [(Cl.pay nm b n 0 sg0).d, .bool false, .int .u64 0] := rfl
  rw [e0]
  obtain ⟨t1, x1, h1⟩ := cl_iface nm b n 0 sg0
  obtain ⟨t2, x2, h2⟩ := cl_iface nm b n k g
  rw [h1] at bc ⊢
  rw [h2] at bc cs ⊢
  obtain ⟨gi, g1, g2, g3⟩ := g
  unfold walD signD dgD
  generalize D.bytes s = Y
  generalize dgs lv = Z
  refine callR_of (R := R1) cx_ok Tryd.func7 (by kernel_rfl) rfl ?_
  conv => whnf
  refine ⟨_, cs, ?_⟩
  rintro _ _ ⟨rfl, rfl⟩
  conv => whnf
  refine brF (by rw [decide_eq_true rfl]; rfl) ?_
  conv => whnf
  refine brF (decide_eq_false (by omega)) ?_
  conv => whnf
  refine ⟨_, cc, ?_⟩
  rintro _ _ ⟨rfl, rfl⟩
  conv => whnf
  refine ⟨_, bc, ?_⟩
  rintro _ _ ⟨rfl, rfl⟩
  conv => whnf
  refine ⟨⟨by simp, by simp; omega⟩, ?_⟩
  conv => whnf
  exact ⟨rfl, rfl⟩

theorem addP_c {ch m : Nat} {nm s : ByteArray} {lv : List ByteArray} {l : List D} {p : ByteArray} {i : Nat} {br : List ByteArray} :
    CallR cx 7 [.d (walD ch nm (signD s m lv) l), .d (Cl.prove p i br).d] [] fun r S => r = .tup [.d (walD ch nm (signD s m lv) l), i64 2] ∧ S = [] := by
  have cs := csigned_c (c := Cl.prove p i br)
  change CallR cx _ _ _ fun r S => r = .tup [st .empty, u64 0, .d sg0.d, bo false] ∧ S = [] at cs
  obtain ⟨t2, x2, h2⟩ : ∃ t x, (Cl.prove p i br).d = .iface t x := ⟨_, _, rfl⟩
  rw [h2] at cs ⊢
  unfold walD signD dgD
  generalize D.bytes s = Y
  generalize dgs lv = Z
  refine callR_of (R := R1) cx_ok Tryd.func7 (by kernel_rfl) rfl ?_
  conv => whnf
  refine ⟨_, cs, ?_⟩
  rintro _ _ ⟨rfl, rfl⟩
  conv => whnf
  exact ⟨rfl, rfl⟩
end Go.Proofs.YtghblnkplfajjaaDoor
