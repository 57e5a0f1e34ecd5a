/- Ledgers: cloning accounts; an account's place. -/
import Derived.Test.YtmdfpifcghmpfaaDoorCl
import Derived.Test.YtmdfpifcghmpfaaDoorA5
namespace Go.Proofs.YtmdfpifcghmpfaaDoor
open Go.Shelf Go.Ab Go.RowKit

def renA : Go.Shelf.Ren := ⟨fun | 41 => 72 | n => n, fun | 4 => 4 | 22 => 23 | 23 => 36 | n => n, fun n => n⟩
theorem laysA : SlLaysE0.n41 Tryd.prog renA := {
  mixed := by kernel_rfl
  f41 := ⟨Tryd.f72.name, by kernel_rfl, Tryd.func72.trans (congrArg some (by kernel_rfl))⟩
  t4 := Tryd.underlying4
  a4 := Tryd.isAgg4
  z4 := Tryd.sizeOf4
  v4 := Tryd.zeroValue4
  t22 := Tryd.underlying23
  a22 := Tryd.isAgg23
  z22 := Tryd.sizeOf23
  v22 := Tryd.zeroValue23 }

/-- An account. -/
structure Ac where
  name : ByteArray
  key : List D
  nonce : Int
  coins : Int
def Ac.d (a : Ac) : D := .agg [.str a.name, .arr 32 1 a.key, .int .u64 a.nonce, .int .u64 a.coins]
abbrev acs (l : List Ac) : List D := l.map Ac.d

theorem cloneA_c {l : List Ac} (h : l.length ≤ 100000) : CallR cx 72 [.d (.sl 35 (acs l))] [] fun r S => r = .row 0 ∧ S = [.own 36 35 (acs l)] := by
  have hl : (acs l).length = l.length := List.length_map _
  exact clone_c (ρ := renA) laysA (e := 36) (sz := 35) rfl Tryd.func72 (by kernel_rfl) (by kernel_rfl) rfl rfl rfl rfl (by decide) Tryd.sizeOf36 (by rw [hl]; unfold maxLen; omega) (by rw [hl]; show l.length * 64 ≤ _; omega)
end Go.Proofs.YtmdfpifcghmpfaaDoor
