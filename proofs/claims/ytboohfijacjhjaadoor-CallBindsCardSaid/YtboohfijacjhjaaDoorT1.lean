/- Calls with another signature; what is signed of them. -/
import Derived.Test.YtboohfijacjhjaaDoorKL
import Derived.Test.YtboohfijacjhjaaDoorS7
set_option linter.unusedVariables false
namespace Go.Proofs.YtboohfijacjhjaaDoor
open Go.Ab

def Cl.withS (g : Sg) : Cl → Cl
  | .pay a b n k _ => .pay a b n k g
  | .send a o t b n k _ => .send a o t b n k g
  | .say a b k _ => .say a b k g
  | .tell a b k _ => .tell a b k g
  | c => c

theorem cwith_c {c : Cl} {g : Sg} : CallR cx 43 [.d c.d, .d g.d] [] fun r S => r = .d (c.withS g).d ∧ S = [] := by
  obtain ⟨wi0, w1, w2, w3⟩ := g
  cases c with
  | pay a b n k g =>
    obtain ⟨gi, g1, g2, g3⟩ := g
    refine callR_of (R := R1) cx_ok Tryd.func43 (by kernel_rfl) rfl ?_
    conv => whnf
    exact ⟨rfl, rfl⟩
  | send a o t b n k g =>
    obtain ⟨gi, g1, g2, g3⟩ := g
    refine callR_of (R := R1) cx_ok Tryd.func43 (by kernel_rfl) rfl ?_
    conv => whnf
    exact ⟨rfl, rfl⟩
  | say a b k g =>
    obtain ⟨gi, g1, g2, g3⟩ := g
    refine callR_of (R := R1) cx_ok Tryd.func43 (by kernel_rfl) rfl ?_
    conv => whnf
    exact ⟨rfl, rfl⟩
  | tell a b k g =>
    obtain ⟨gi, g1, g2, g3⟩ := g
    refine callR_of (R := R1) cx_ok Tryd.func43 (by kernel_rfl) rfl ?_
    conv => whnf
    exact ⟨rfl, rfl⟩
  | submit u =>
    refine callR_of (R := R1) cx_ok Tryd.func43 (by kernel_rfl) rfl ?_
    conv => whnf
    exact ⟨rfl, rfl⟩
  | improp u c =>
    refine callR_of (R := R1) cx_ok Tryd.func43 (by kernel_rfl) rfl ?_
    conv => whnf
    exact ⟨rfl, rfl⟩
  | double u v c =>
    refine callR_of (R := R1) cx_ok Tryd.func43 (by kernel_rfl) rfl ?_
    conv => whnf
    exact ⟨rfl, rfl⟩
  | accept u =>
    refine callR_of (R := R1) cx_ok Tryd.func43 (by kernel_rfl) rfl ?_
    conv => whnf
    exact ⟨rfl, rfl⟩
  | doubled u v =>
    refine callR_of (R := R1) cx_ok Tryd.func43 (by kernel_rfl) rfl ?_
    conv => whnf
    exact ⟨rfl, rfl⟩
  | halt s =>
    refine callR_of (R := R1) cx_ok Tryd.func43 (by kernel_rfl) rfl ?_
    conv => whnf
    exact ⟨rfl, rfl⟩
  | prove l i br =>
    refine callR_of (R := R1) cx_ok Tryd.func43 (by kernel_rfl) rfl ?_
    conv => whnf
    exact ⟨rfl, rfl⟩
  | process l =>
    refine callR_of (R := R1) cx_ok Tryd.func43 (by kernel_rfl) rfl ?_
    conv => whnf
    exact ⟨rfl, rfl⟩
  | no =>
    refine callR_of (R := R1) cx_ok Tryd.func43 (by kernel_rfl) rfl ?_
    conv => whnf
    exact ⟨rfl, rfl⟩
  | word =>
    refine callR_of (R := R1) cx_ok Tryd.func43 (by kernel_rfl) rfl ?_
    conv => whnf
    exact ⟨rfl, rfl⟩
end Go.Proofs.YtboohfijacjhjaaDoor
