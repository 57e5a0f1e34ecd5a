/- Amounts' texts: contracts. -/
import Derived.Test.YtmmgdbcppmabaaaDoorFP
set_option linter.unusedVariables false
namespace Go.Proofs.YtmmgdbcppmabaaaDoor
open Go.Ab
variable [Errs]

theorem htab_of {B : Base} {S μ G w} (hc : B.c = cx) (st : St B S μ G w) : ∀ q, q < 20 → w.cell? ⟨4, q, none⟩ = some (.int .u64 ((10 ^ q : Nat) : Int)) := by
  have h := glob_ints st (g := 4) (k := .u64) (l := pwL) (by rw [hc]; rfl)
  intro q hq
  refine h q _ ?_
  have : ∀ q : Fin 20, pwL[q.val]? = some ((10 ^ q.val : Nat) : Int) := by decide
  exact this ⟨q, hq⟩

omit [Errs] in
theorem VS.one' {μ k w G x vals} (h : VS μ k w G [x] vals) : ∃ v, vals = [v] ∧ VA μ k w G x v := by
  cases h with
  | cons h1 h2 => cases h2; exact ⟨_, rfl, h1⟩

omit [Errs] in
theorem va_d {μ k w G x v} (h : CL w G [x] [v]) (ha : vAgg v = x.isAgg) (hc : v.cells.toList = [v]) : VA μ k w G (.d x) v := VA.d_iff.2 ⟨by rw [hc]; exact h, ha⟩

theorem text_c {n : Nat} (hn : n < 18446744073709551616) : CallR cx 7 [u64 (n : Int)] [] fun r S => r = st (decB n) ∧ S = [] := by
  refine callR_raw (c := cx) Tryd.func7 (by kernel_rfl) rfl fun μ G w vals st0 hv => ?_
  obtain ⟨v, rfl, h1⟩ := VS.one' hv
  obtain rfl := (VA.d_iff.1 h1).int_inv
  refine (text_raw n hn w (htab_of rfl st0)).mono ?_
  rintro e w' ⟨rfl, hb⟩
  exact ⟨_, st (decB n), [], μ, G, rfl, ⟨rfl, rfl⟩, St.below st0 hb, va_d (.str .nil) rfl rfl⟩

theorem read_c {s : ByteArray} (hs : s.size ≤ 200) : CallR cx 5 [st s] [] fun r S => r = .tup [u64 ((readP s).1 : Int), bo (readP s).2] ∧ S = [] := by
  refine callR_raw (c := cx) Tryd.func5 (by kernel_rfl) rfl fun μ G w vals st0 hv => ?_
  obtain ⟨v, rfl, h1⟩ := VS.one' hv
  obtain rfl := (VA.d_iff.1 h1).str_inv
  refine (read_raw s hs w (htab_of rfl st0) (glob_err st0 Errs.hs rfl) (glob_err st0 Errs.hr rfl)).mono ?_
  rintro e w' ⟨rfl, hb⟩
  exact ⟨_, .tup [u64 ((readP s).1 : Int), bo (readP s).2], [], μ, G, rfl, ⟨rfl, rfl⟩, St.below st0 hb, _, rfl, .cons (va_d (.int .nil) rfl rfl) (.cons (va_d (.bool .nil) rfl rfl) .nil)⟩

theorem add64 {S : List Blk} {x y z : Int} (hx : U x) (hy : U y) (hz : 0 ≤ z ∧ z ≤ 1) :
    CallR cx 13 [u64 x, u64 y, u64 z] S fun r S' => r = .tup [u64 ((x + y + z) % 18446744073709551616), u64 ((x + y + z) / 18446744073709551616)] ∧ S' = S :=
  add64_c Tryd.func13 (by kernel_rfl) (by kernel_rfl) (by kernel_rfl) (by kernel_rfl) hx.1 hy.1 hz

omit [Errs] in
theorem brT {b : Bool} {A A' : Prop} (h : b = true) (ha : A) : @Bool.rec (fun _ => Prop) A' A b := by
  subst h; exact ha
omit [Errs] in
theorem brF {b : Bool} {A A' : Prop} (h : b = false) (ha : A') : @Bool.rec (fun _ => Prop) A' A b := by
  subst h; exact ha

theorem add1_c : CallR cx 9 [u64 18446744073709551615, u64 1] [] fun r S => r = .tup [u64 0, i64 10] ∧ S = [] := by
  refine callR_of (R := R1) cx_ok Tryd.func9 (by kernel_rfl) rfl ?_
  conv => whnf
  refine ⟨_, add64 ⟨by decide, by decide⟩ ⟨by decide, by decide⟩ (by decide), ?_⟩
  rintro _ _ ⟨rfl, rfl⟩
  conv => whnf
  exact ⟨rfl, rfl⟩

theorem mul1_c : CallR cx 14 [u64 100, u64 1] [] fun r S => r = .tup [u64 0, u64 100] ∧ S = [] := by
  refine callR_of (R := R1) cx_ok Tryd.func14 (by kernel_rfl) rfl ?_
  conv => whnf
  refine ⟨by decide, ?_⟩
  conv => whnf
  refine ⟨by decide, ?_⟩
  conv => whnf
  refine ⟨by decide, ?_⟩
  conv => whnf
  refine ⟨by decide, ?_⟩
  conv => whnf
  refine ⟨by decide, ?_⟩
  conv => whnf
  exact ⟨by kernel_rfl, rfl⟩

theorem div1_c : CallR cx 15 [u64 0, u64 100, u64 3] [] fun r S => r = .tup [u64 33, u64 1] ∧ S = [] := by
  refine callR_of (R := R1) cx_ok Tryd.func15 (by kernel_rfl) rfl ?_
  conv => whnf
  refine ⟨by kernel_rfl, ?_⟩
  conv => whnf
  refine ⟨by decide, ?_⟩
  conv => whnf
  refine ⟨by decide, ?_⟩
  conv => whnf
  refine ⟨by kernel_rfl, ?_⟩
  conv => whnf
  exact ⟨by kernel_rfl, rfl⟩

theorem split1_c : CallR cx 10 [u64 100, u64 1, u64 3] [] fun r S => r = .tup [u64 33, u64 67] ∧ S = [] := by
  refine callR_of (R := R1) cx_ok Tryd.func10 (by kernel_rfl) rfl ?_
  conv => whnf
  refine ⟨_, mul1_c, ?_⟩
  rintro _ _ ⟨rfl, rfl⟩
  conv => whnf
  refine ⟨_, div1_c, ?_⟩
  rintro _ _ ⟨rfl, rfl⟩
  conv => whnf
  exact ⟨by kernel_rfl, rfl⟩

theorem awake_c : CallR cx 4 [] [] fun r S => r = bo true ∧ S = [] := by
  refine callR_of (R := R1) cx_ok Tryd.func4 (by kernel_rfl) rfl ?_
  conv => whnf
  refine ⟨_, add1_c, ?_⟩
  rintro _ _ ⟨rfl, rfl⟩
  conv => whnf
  refine ⟨_, split1_c, ?_⟩
  rintro _ _ ⟨rfl, rfl⟩
  conv => whnf
  exact ⟨rfl, rfl⟩

omit [Errs] in
theorem dgw (p : Nat) : IntKind.u8.wrap (IntKind.u64.wrap (48 + ((p : Int)).tmod 10)) = ((UInt8.ofNat (48 + p % 10)).toNat : Int) := by
  rw [ofNat_dg (Nat.mod_lt _ (by decide)), Int.tmod_eq_emod_of_nonneg (by omega), IntKind.wrap_u8, IntKind.wrap_u64]
  omega

theorem rtext_c {n : Nat} (hn : n < 18446744073709551616) : CallR cx 8 [u64 (n : Int)] [] fun r S => r = st (decB n) ∧ S = [] := by
  refine callR_of (R := R1) cx_ok Tryd.func8 (by kernel_rfl) rfl ?_
  conv => whnf
  refine .inl ⟨fun p L S => ∃ (m : Nat) (A : ByteArray), m ≤ n ∧ p = m ∧ Lib.decDigits m ++ A.data.toList = Lib.decDigits n ∧
      L = [(0, u64 (m : Int)), (3, st A)] ∧ S = [],
    ⟨_, _, ⟨n, .empty, Nat.le_refl _, rfl, List.append_nil _, rfl, rfl⟩, ⟨rfl, rfl, trivial⟩⟩, ?_⟩
  rintro p _ _ ⟨m, A, hm, rfl, hA, rfl, rfl⟩
  have hlen := congrArg List.length hA
  rw [List.length_append] at hlen
  have hl2 := (dec_len hn).2
  have hs : A.size ≤ 20 := by
    have : A.data.toList.length = A.size := Array.length_toList
    omega
  have hap : ∀ d : UInt8, ((⟨#[d]⟩ : ByteArray) ++ A).data.toList = d :: A.data.toList := fun d => by simp
  conv => whnf
  refine ⟨by decide, ?_⟩
  conv => whnf
  refine ⟨⟨#[UInt8.ofNat (48 + p % 10)]⟩, by rw [dgw]; rfl, ?_⟩
  conv => whnf
  refine ⟨by show 1 + A.size ≤ _; omega, ?_⟩
  conv => whnf
  refine ⟨by decide, ?_⟩
  conv => whnf
  have eq : IntKind.u64.wrap (((p : Int)).tdiv 10) = ((p / 10 : Nat) : Int) := by rw [Int.tdiv_eq_ediv_of_nonneg (by omega), IntKind.wrap_u64]; omega
  rw [eq]
  refine brec (fun g => ?_) (fun g => ?_)
  · have g : p / 10 = 0 := by have := eq_of_beq g; omega
    conv => whnf
    refine ⟨?_, rfl⟩
    have : (⟨#[UInt8.ofNat (48 + p % 10)]⟩ : ByteArray) ++ A = decB n := by
      refine ByteArray.ext (Array.toList_inj.1 ?_)
      rw [hap]
      unfold decB
      rw [show (Lib.decDigits n).toArray.toList = Lib.decDigits n by simp, ← hA, Lib.decDigits, dif_pos (by omega), show p % 10 = p by omega]
      rfl
    exact congrArg st this
  · have g : p / 10 ≠ 0 := by have := ne_of_beq_false g; omega
    conv => whnf
    refine ⟨_, _, 0, (by omega : p / 10 < p), ⟨p / 10, (⟨#[UInt8.ofNat (48 + p % 10)]⟩ : ByteArray) ++ A, by omega, rfl, ?_, rfl, rfl⟩, ⟨rfl, rfl, trivial⟩, rfl⟩
    rw [hap, ← hA]
    conv => rhs; rw [Lib.decDigits, dif_neg (by omega)]
    rw [List.append_assoc]
    rfl
end Go.Proofs.YtmmgdbcppmabaaaDoor
