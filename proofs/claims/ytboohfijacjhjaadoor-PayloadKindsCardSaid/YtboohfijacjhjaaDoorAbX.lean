/-
  An own logic over the kit's 'Calls' (AbX): functions without a body: carries; and helpers for contracts.
-/
import Derived.Test.YtboohfijacjhjaaDoorAbF
import Derived.Laws.Externs
namespace Go.Ab
open Go.RowKit

/-- A number of 64 bits. -/
def U (n : Int) : Prop := 0 ≤ n ∧ n < 18446744073709551616
theorem U.of_wf {n : Int} (h : (Lit.int .u64 n).wf = true) : U n := by
  simp [Lit.wf, IntKind.min, IntKind.max, IntKind.signed, IntKind.bits] at h
  unfold U; omega

theorem wrap64 (n : Int) : IntKind.u64.wrap n = n % 18446744073709551616 := by simp [IntKind.wrap, IntKind.bits, IntKind.signed]

theorem wrapU {n : Int} (h : U n) : IntKind.u64.wrap n = n := by
  rw [wrap64]; exact Int.emod_eq_of_lt h.1 h.2
theorem U_wrap (n : Int) : U (IntKind.u64.wrap n) := by
  rw [wrap64]; unfold U; omega

/-- A function that the model answers at once, of numbers alone. -/
theorem callR_three {c : Ctx} {f : FuncId} {fn : Func} {e : Array Value → Sem Value} {S : List Blk} {x y z p q : Int} (hf : c.P.funcs[f]? = some fn) (hname : (fn.name == "runtime.NumGoroutine") = false)
    (hb : fn.body.isNone = true) (hn : Extern.findNext fn = none) (he : Extern.find fn = some e)
    (hr : ∀ w, (e #[.int .u64 x, .int .u64 y, .int .u64 z]).run c.P w = .ok (.tuple #[.int .u64 p, .int .u64 q]) w) :
    CallR c f [.d (.int .u64 x), .d (.int .u64 y), .d (.int .u64 z)] S fun r S' => r = .tup [.d (.int .u64 p), .d (.int .u64 q)] ∧ S' = S := by
  intro μ G w vals st hv
  right
  cases hv with
  | cons h1 hv =>
    cases hv with
    | cons h2 hv =>
      cases hv with
      | cons h3 hv =>
        cases hv
        have e1 := (VA.d_iff.1 h1).int_inv
        have e2 := (VA.d_iff.1 h2).int_inv
        have e3 := (VA.d_iff.1 h3).int_inv
        subst e1; subst e2; subst e3
        refine ⟨.tuple #[.int .u64 p, .int .u64 q], w, ?_, ⟨_, _, S, μ, G, rfl, ⟨rfl, rfl⟩, st, ?_⟩⟩
        · rw [run_callFunc_extern hf hname hb hn he]
          show ((e #[.int .u64 x, .int .u64 y, .int .u64 z]).run c.P w).andThen _ = _
          rw [hr]
          rfl
        · exact ⟨[.int .u64 p, .int .u64 q], rfl, .cons (VA.d_iff.2 VD.int) (.cons (VA.d_iff.2 VD.int) .nil)⟩

theorem add64_c {c : Ctx} {f : FuncId} {fn : Func} {S : List Blk} {x y z : Int} (hf : c.P.funcs[f]? = some fn) (hname : (fn.name == "runtime.NumGoroutine") = false)
    (hb : fn.body.isNone = true) (hn : Extern.findNext fn = none) (he : Extern.find fn = some add64Entry) (hx : 0 ≤ x) (hy : 0 ≤ y) (hz : 0 ≤ z ∧ z ≤ 1) :
    CallR c f [.d (.int .u64 x), .d (.int .u64 y), .d (.int .u64 z)] S fun r S' => r = .tup [.d (.int .u64 ((x + y + z) % 18446744073709551616)), .d (.int .u64 ((x + y + z) / 18446744073709551616))] ∧ S' = S :=
  callR_three hf hname hb hn he fun w => run_add64 x y z hx hy hz.1 hz.2 w

def sub64Entry : Array Value → Sem Value := fun args => do
  let (x, y, b) ← Extern.MathBitsCarry.three "Sub64" args
  pure (Extern.MathBitsCarry.pair ((x + Extern.MathBitsCarry.m64 - y - b) % Extern.MathBitsCarry.m64) (if x < y + b then 1 else 0))

theorem run_sub64 {P : Program} (x y b : Nat) (hb : b ≤ 1) (w : World) :
    (sub64Entry #[.int .u64 x, .int .u64 y, .int .u64 b]).run P w =
      .ok (.tuple #[.int .u64 (((x + 18446744073709551616 - y - b) % 18446744073709551616 : Nat) : Int), .int .u64 ((if x < y + b then 1 else 0 : Nat) : Int)]) w := by
  have : b = 0 ∨ b = 1 := by omega
  rcases this with rfl | rfl <;> rfl

theorem sub64_c {c : Ctx} {f : FuncId} {fn : Func} {S : List Blk} {x y z : Int} (hf : c.P.funcs[f]? = some fn) (hname : (fn.name == "runtime.NumGoroutine") = false)
    (hb : fn.body.isNone = true) (hn : Extern.findNext fn = none) (he : Extern.find fn = some sub64Entry) (hx : U x) (hy : U y) (hz : 0 ≤ z ∧ z ≤ 1) :
    CallR c f [.d (.int .u64 x), .d (.int .u64 y), .d (.int .u64 z)] S fun r S' => r = .tup [.d (.int .u64 ((x - y - z) % 18446744073709551616)), .d (.int .u64 (if x < y + z then 1 else 0))] ∧ S' = S := by
  refine callR_three hf hname hb hn he fun w => ?_
  obtain ⟨hx1, hx2⟩ := hx
  obtain ⟨hy1, hy2⟩ := hy
  obtain ⟨X, rfl⟩ := Int.eq_ofNat_of_zero_le hx1
  obtain ⟨Y, rfl⟩ := Int.eq_ofNat_of_zero_le hy1
  obtain ⟨Z, rfl⟩ := Int.eq_ofNat_of_zero_le hz.1
  rw [run_sub64 X Y Z (by omega)]
  congr 4
  · congr 1
    omega
  · congr 3
    split <;> split <;> first | rfl | omega

end Go.Ab
