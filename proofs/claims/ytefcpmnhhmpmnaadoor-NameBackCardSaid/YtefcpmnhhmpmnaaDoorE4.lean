/- Numbers in sixteens read: internal/strconv.ParseUint, strconv.ParseUint, of 32 bits. -/
import Derived.Test.YtefcpmnhhmpmnaaDoorE3
set_option linter.unusedVariables false
namespace Go.Proofs.YtefcpmnhhmpmnaaDoor
open Go.Ab Go.RowKit
variable [Errs]

/-- What a byte stands for as a digit; 255: nothing. -/
def hexV (c : UInt8) : Nat := if 48 ≤ c.toNat ∧ c.toNat ≤ 57 then c.toNat - 48 else if 97 ≤ (c ||| 32).toNat ∧ (c ||| 32).toNat ≤ 122 then (c ||| 32).toNat - 87 else 255
inductive PU where
  | ok (n : Nat)
  | bad
  | far
def pu : List UInt8 → Nat → PU
  | [], n => .ok n
  | c :: l, n => if 16 ≤ hexV c then .bad else if 4294967295 < 16 * n + hexV c then .far else pu l (16 * n + hexV c)
def parP : List UInt8 → PU
  | [] => .bad
  | c :: l => pu (c :: l) 0
def PU.v : PU → Nat
  | .ok n => n
  | .bad => 0
  | .far => 4294967295
def PU.e : PU → D
  | .ok _ => .nilI
  | .bad => .iface 81 (.int .i64 2)
  | .far => .iface 81 (.int .i64 1)

omit [Errs] in
theorem or32 (c : UInt8) : IntKind.u8.wrap (BitVec.ofInt IntKind.u8.bits (c.toNat : Int) ||| BitVec.ofInt IntKind.u8.bits 32).toNat = ((c ||| 32).toNat : Int) := by
  have h : ∀ c : Fin 256, IntKind.u8.wrap (BitVec.ofInt IntKind.u8.bits ((UInt8.ofNat c.val).toNat : Int) ||| BitVec.ofInt IntKind.u8.bits 32).toNat = (((UInt8.ofNat c.val) ||| 32).toNat : Int) := by decide +kernel
  have e : UInt8.ofNat c.toNat = c := by simp
  have := h ⟨c.toNat, c.toNat_lt⟩
  simp only at this
  rw [e] at this
  exact this

theorem lower_c {c : UInt8} : CallR cxE 63 [u8 (c.toNat : Int)] [] fun r S => r = u8 ((c ||| 32).toNat : Int) ∧ S = [] := by
  rw [← or32]
  generalize (c.toNat : Int) = k
  refine callR_of (R := R1) cxE_ok Tryd.func63 (by kernel_rfl) rfl ?_
  conv => whnf
  exact ⟨rfl, rfl⟩

omit [Errs] in
theorem bytes_getD {l : List UInt8} {j : Nat} (h : j < l.length) : (D.bytes (baL l)).getD j .nilP = .int .u8 (((l[j]'h).toNat : Nat) : Int) := by
  have e : D.bytes (baL l) = l.map fun b => D.int .u8 (b.toNat : Int) := by
    show (l.toArray.toList.map fun b => D.int .u8 (b.toNat : Int)) = _
    simp
  rw [e, List.getD_eq_getElem?_getD, List.getElem?_map, List.getElem?_eq_getElem h]
  rfl
omit [Errs] in
theorem pu_step {l : List UInt8} {j n : Nat} (h : j < l.length) : pu (l.drop j) n = (if 16 ≤ hexV (l[j]'h) then .bad else if 4294967295 < 16 * n + hexV (l[j]'h) then .far else pu (l.drop (j + 1)) (16 * n + hexV (l[j]'h))) := by
  rw [List.drop_eq_getElem_cons h]; rfl
omit [Errs] in
theorem w8 {n : Int} (h : 0 ≤ n ∧ n < 256) : IntKind.u8.wrap n = n := by simp [IntKind.wrap, IntKind.bits, IntKind.signed]; omega
omit [Errs] in
theorem wu64 {n : Int} (h : 0 ≤ n ∧ n < 18446744073709551616) : IntKind.u64.wrap n = n := by simp [IntKind.wrap, IntKind.bits, IntKind.signed]; omega

theorem ipu0_c : CallR cxE 56 [st ⟨#[]⟩, i64 16, i64 32] [] fun r S => r = .tup [u64 0, .d (.iface 81 (.int .i64 2))] ∧ S = [] := by
  refine callR_of (R := R1) cxE_ok Tryd.func56 (by kernel_rfl) rfl ?_
  conv => whnf
  exact ⟨rfl, rfl⟩

theorem ipu1_c {q : List UInt8} {s : ByteArray} (hl : q.length ≤ 1000000000) (hne : s ≠ (⟨#[]⟩ : ByteArray)) (hlen : (D.bytes s).length = q.length)
    (hget : ∀ (j : Nat) (h : j < q.length), (D.bytes s).getD j .nilP = .int .u8 (((q[j]'h).toNat : Nat) : Int)) {P : PU} (hP : pu (q.drop 0) 0 = P) :
    CallR cxE 56 [st s, i64 16, i64 32] [] fun r S => r = .tup [u64 (P.v : Int), .d P.e] ∧ S = [] := by
  refine callR_of (R := R1) cxE_ok Tryd.func56 (by kernel_rfl) rfl ?_
  conv => whnf
  refine brF (decide_eq_false hne) ?_
  conv => whnf
  refine ⟨by decide, ?_⟩
  conv => whnf
  refine ⟨by unfold maxLen; rw [← bytes_length, hlen]; omega, ?_⟩
  conv => whnf
  rw [hlen]
  have e32 : IntKind.u64.wrap (IntKind.u64.wrap (1 * 2 ^ min (IntKind.u64.wrap 32).toNat IntKind.u64.bits) - 1) = 4294967295 := by decide
  rw [e32]
  generalize hxs : D.bytes s = xs at *
  refine .inl ⟨fun m L S => ∃ (j n : Nat), j ≤ q.length ∧ m = q.length - j ∧ n ≤ 4294967295 ∧ pu (q.drop j) n = P ∧
      L = [(0, st s), (1, i64 16), (8, bo false), (9, st s), (10, u64 1152921504606846976), (11, u64 4294967295), (12, bo false), (13, u64 (n : Int)), (99, .d (.sl 1 xs)), (100, i64 ((q.length : Nat) : Int)), (101, i64 (j : Int))] ∧ S = [],
    ⟨_, _, ⟨0, 0, Nat.zero_le _, rfl, by decide, hP, rfl, rfl⟩, ⟨rfl, rfl, rfl, rfl, rfl, rfl, rfl, rfl, rfl, rfl, rfl, trivial⟩⟩, ?_⟩
  rintro _ _ _ ⟨j, n, hj, rfl, hn, hp, rfl, rfl⟩
  conv => whnf
  refine brec (fun h => ?_) (fun h => ?_)
  case refine_2 =>
    have h := of_decide_eq_false h
    obtain rfl : j = q.length := by omega
    rw [List.drop_length] at hp
    subst hp
    conv => whnf
    exact ⟨rfl, rfl⟩
  have h := of_decide_eq_true h
  have hlt : j < q.length := by omega
  have hg := hget j hlt
  rw [pu_step hlt] at hp
  have lc := lower_c (c := q[j]'hlt)
  have hc0 := (q[j]'hlt).toNat_lt
  have hl0 := ((q[j]'hlt) ||| 32).toNat_lt
  have h95 : (q[j]'hlt).toNat = 95 → ((q[j]'hlt) ||| 32).toNat = 127 := fun h => by
    have : q[j]'hlt = 95 := UInt8.toNat_inj.1 h
    rw [this]; rfl
  unfold hexV at hp
  generalize ((q[j]'hlt) ||| 32).toNat = o at *
  generalize (q[j]'hlt).toNat = c at *
  generalize hv : (if 48 ≤ c ∧ c ≤ 57 then c - 48 else if 97 ≤ o ∧ o ≤ 122 then o - 87 else 255) = v at hp
  have e3 : IntKind.i64.wrap ((j : Int) + 1) = ((j + 1 : Nat) : Int) := by rw [w64 (by omega)]; omega
  conv => whnf
  refine ⟨⟨by omega, by rw [hlen]; omega⟩, ?_⟩
  conv => whnf
  rw [show xs.getD ((j : Int)).toNat .nilP = D.int .u8 (c : Int) by rw [Int.toNat_natCast]; exact hg]
  conv => whnf
  by_cases A : 48 ≤ c ∧ c ≤ 57
  case pos =>
    rw [if_pos A] at hv
    refine brF (beq_eq_false_iff_ne.2 (by omega)) ?_
    conv => whnf
    refine brT (decide_eq_true (by omega)) ?_
    conv => whnf
    refine brT (decide_eq_true (by omega)) ?_
    conv => whnf
    rw [show IntKind.u8.wrap ((c : Int) - 48) = ((v : Nat) : Int) by rw [w8 (by omega)]; omega]
    refine brec (fun k => ?_) (fun k => ?_)
    · have k : (v : Int) ≥ IntKind.u8.wrap 16 := of_decide_eq_true k
      rw [w8 (by omega)] at k
      rw [if_pos (by omega)] at hp
      subst hp
      conv => whnf
      exact ⟨rfl, rfl⟩
    have k : ¬ (v : Int) ≥ IntKind.u8.wrap 16 := of_decide_eq_false k
    rw [w8 (by omega)] at k
    rw [if_neg (by omega)] at hp
    conv => whnf
    refine brF (decide_eq_false (by omega)) ?_
    conv => whnf
    have ea : IntKind.u64.wrap ((n : Int) * IntKind.u64.wrap 16) = ((16 * n : Nat) : Int) := by rw [show IntKind.u64.wrap 16 = 16 by decide, wu64 (by omega)]; omega
    have eb : IntKind.u64.wrap (IntKind.u64.wrap ((n : Int) * IntKind.u64.wrap 16) + IntKind.u64.wrap (v : Int)) = ((16 * n + v : Nat) : Int) := by rw [ea, wu64 (n := (v : Int)) (by omega), wu64 (by omega)]; omega
    rw [eb, ea]
    refine brF (decide_eq_false (by omega)) ?_
    conv => whnf
    refine brec (fun u => ?_) (fun u => ?_)
    · have u : ((16 * n + v : Nat) : Int) > 4294967295 := of_decide_eq_true u
      rw [if_pos (by omega)] at hp
      subst hp
      conv => whnf
      exact ⟨rfl, rfl⟩
    have u : ¬ ((16 * n + v : Nat) : Int) > 4294967295 := of_decide_eq_false u
    rw [if_neg (by omega)] at hp
    conv => whnf
    rw [e3]
    exact ⟨_, _, 0, (by omega : q.length - (j + 1) < q.length - j), ⟨j + 1, 16 * n + v, by omega, rfl, by omega, hp, rfl, rfl⟩, ⟨rfl, rfl, rfl, rfl, rfl, rfl, rfl, rfl, rfl, rfl, rfl, trivial⟩, rfl⟩
  rw [if_neg A] at hv
  by_cases B : 97 ≤ o ∧ o ≤ 122
  case pos =>
    rw [if_pos B] at hv
    have h95 : c ≠ 95 := fun h => by have := h95 h; omega
    refine brF (beq_eq_false_iff_ne.2 (by omega)) ?_
    conv => whnf
    have ew : IntKind.u8.wrap (IntKind.u8.wrap ((o : Int) - 97) + 10) = ((v : Nat) : Int) := by rw [w8 (n := (o : Int) - 97) (by omega), w8 (by omega)]; omega
    by_cases k0 : 48 ≤ c
    all_goals
      first
        | (refine brF (decide_eq_false (by omega)) ?_; conv => whnf)
        | (refine brT (decide_eq_true (by omega)) ?_; conv => whnf
           refine brF (decide_eq_false (by omega)) ?_; conv => whnf)
      refine ⟨_, lc, ?_⟩
      rintro _ _ ⟨rfl, rfl⟩
      conv => whnf
      refine brT (decide_eq_true (by omega)) ?_
      conv => whnf
      refine ⟨_, lc, ?_⟩
      rintro _ _ ⟨rfl, rfl⟩
      conv => whnf
      refine brT (decide_eq_true (by omega)) ?_
      conv => whnf
      refine ⟨_, lc, ?_⟩
      rintro _ _ ⟨rfl, rfl⟩
      conv => whnf
      rw [ew]
      refine brec (fun k => ?_) (fun k => ?_)
      · have k : (v : Int) ≥ IntKind.u8.wrap 16 := of_decide_eq_true k
        rw [w8 (by omega)] at k
        rw [if_pos (by omega)] at hp
        subst hp
        conv => whnf
        exact ⟨rfl, rfl⟩
      have k : ¬ (v : Int) ≥ IntKind.u8.wrap 16 := of_decide_eq_false k
      rw [w8 (by omega)] at k
      rw [if_neg (by omega)] at hp
      conv => whnf
      refine brF (decide_eq_false (by omega)) ?_
      conv => whnf
      have ea : IntKind.u64.wrap ((n : Int) * IntKind.u64.wrap 16) = ((16 * n : Nat) : Int) := by rw [show IntKind.u64.wrap 16 = 16 by decide, wu64 (by omega)]; omega
      have eb : IntKind.u64.wrap (IntKind.u64.wrap ((n : Int) * IntKind.u64.wrap 16) + IntKind.u64.wrap (v : Int)) = ((16 * n + v : Nat) : Int) := by rw [ea, wu64 (n := (v : Int)) (by omega), wu64 (by omega)]; omega
      rw [eb, ea]
      refine brF (decide_eq_false (by omega)) ?_
      conv => whnf
      refine brec (fun u => ?_) (fun u => ?_)
      · have u : ((16 * n + v : Nat) : Int) > 4294967295 := of_decide_eq_true u
        rw [if_pos (by omega)] at hp
        subst hp
        conv => whnf
        exact ⟨rfl, rfl⟩
      have u : ¬ ((16 * n + v : Nat) : Int) > 4294967295 := of_decide_eq_false u
      rw [if_neg (by omega)] at hp
      conv => whnf
      rw [e3]
      exact ⟨_, _, 0, (by omega : q.length - (j + 1) < q.length - j), ⟨j + 1, 16 * n + v, by omega, rfl, by omega, hp, rfl, rfl⟩, ⟨rfl, rfl, rfl, rfl, rfl, rfl, rfl, rfl, rfl, rfl, rfl, trivial⟩, rfl⟩
  rw [if_neg B] at hv
  rw [if_pos (by omega)] at hp
  subst hp
  by_cases k95 : c = 95
  · refine brT (beq_iff_eq.2 (by omega)) ?_
    conv => whnf
    refine brT (decide_eq_true (by omega)) ?_
    conv => whnf
    refine brF (decide_eq_false (by omega)) ?_
    conv => whnf
    refine ⟨_, lc, ?_⟩
    rintro _ _ ⟨rfl, rfl⟩
    conv => whnf
    refine brT (decide_eq_true (by have := h95 k95; omega)) ?_
    conv => whnf
    refine ⟨_, lc, ?_⟩
    rintro _ _ ⟨rfl, rfl⟩
    conv => whnf
    refine brF (decide_eq_false (by have := h95 k95; omega)) ?_
    conv => whnf
    exact ⟨rfl, rfl⟩
  · refine brF (beq_eq_false_iff_ne.2 (by omega)) ?_
    conv => whnf
    by_cases k0 : 48 ≤ c
    all_goals
      first
        | (refine brF (decide_eq_false (by omega)) ?_; conv => whnf)
        | (refine brT (decide_eq_true (by omega)) ?_; conv => whnf
           refine brF (decide_eq_false (by omega)) ?_; conv => whnf)
      refine ⟨_, lc, ?_⟩
      rintro _ _ ⟨rfl, rfl⟩
      conv => whnf
      by_cases k1 : 97 ≤ o
      · refine brT (decide_eq_true (by omega)) ?_
        conv => whnf
        refine ⟨_, lc, ?_⟩
        rintro _ _ ⟨rfl, rfl⟩
        conv => whnf
        refine brF (decide_eq_false (by omega)) ?_
        conv => whnf
        exact ⟨rfl, rfl⟩
      · refine brF (decide_eq_false (by omega)) ?_
        conv => whnf
        exact ⟨rfl, rfl⟩

theorem ipu_c {l : List UInt8} (hl : l.length ≤ 1000000000) : CallR cxE 56 [st (baL l), i64 16, i64 32] [] fun r S => r = .tup [u64 ((parP l).v : Int), .d (parP l).e] ∧ S = [] := by
  cases l with
  | nil => exact ipu0_c
  | cons a l =>
    refine ipu1_c (q := a :: l) hl (fun h => ?_) (by rw [bytes_length, baL_size]) (fun j h => bytes_getD h) rfl
    have := congrArg ByteArray.size h
    rw [baL_size] at this
    exact absurd this (by show ¬ l.length + 1 = 0; omega)
/-- What strconv.ParseUint makes of it. -/
def PU.E (s : ByteArray) : PU → D
  | .ok _ => .nilI
  | .bad => .iface 83 (.cptr (.agg [.str ⟨#[80, 97, 114, 115, 101, 85, 105, 110, 116]⟩, .str s, Errs.s]))
  | .far => .iface 83 (.cptr (.agg [.str ⟨#[80, 97, 114, 115, 101, 85, 105, 110, 116]⟩, .str s, Errs.r]))
theorem parseUint_c {l : List UInt8} (hl : l.length ≤ 1000000000) : CallR cxE 48 [st (baL l), i64 16, i64 32] [] fun r S => r = .tup [u64 ((parP l).v : Int), .d ((parP l).E (baL l))] ∧ S = [] := by
  have h := ipu_c hl
  have hz : (baL l).size ≤ 281474976710656 := by rw [baL_size]; omega
  generalize baL l = s at *
  have hs := toErrS_c (fn := ⟨#[80, 97, 114, 115, 101, 85, 105, 110, 116]⟩) (s := s) (b := 16) (z := 32) hz
  have hr := toErrR_c (fn := ⟨#[80, 97, 114, 115, 101, 85, 105, 110, 116]⟩) (s := s) (b := 16) (z := 32) hz
  generalize parP l = P at *
  cases P with
  | ok n =>
    refine callR_of (R := R1) cxE_ok Tryd.func48 (by kernel_rfl) rfl ?_
    conv => whnf
    refine ⟨_, h, ?_⟩
    rintro _ _ ⟨rfl, rfl⟩
    conv => whnf
    exact ⟨rfl, rfl⟩
  | bad =>
    refine callR_of (R := R1) cxE_ok Tryd.func48 (by kernel_rfl) rfl ?_
    conv => whnf
    refine ⟨_, h, ?_⟩
    rintro _ _ ⟨rfl, rfl⟩
    conv => whnf
    refine ⟨_, hs, ?_⟩
    rintro _ _ ⟨rfl, rfl⟩
    conv => whnf
    exact ⟨rfl, rfl⟩
  | far =>
    refine callR_of (R := R1) cxE_ok Tryd.func48 (by kernel_rfl) rfl ?_
    conv => whnf
    refine ⟨_, h, ?_⟩
    rintro _ _ ⟨rfl, rfl⟩
    conv => whnf
    refine ⟨_, hr, ?_⟩
    rintro _ _ ⟨rfl, rfl⟩
    conv => whnf
    exact ⟨rfl, rfl⟩
end Go.Proofs.YtefcpmnhhmpmnaaDoor
