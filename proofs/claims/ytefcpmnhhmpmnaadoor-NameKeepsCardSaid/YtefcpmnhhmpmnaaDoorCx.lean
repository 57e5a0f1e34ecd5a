/- The program's context in the own logic: types, utf8's tables; a builder's bytes are a row of its own. -/
import Derived.Test.YtefcpmnhhmpmnaaDoorTy
import Derived.Test.YtefcpmnhhmpmnaaDoorAbZ
namespace Go.Proofs.YtefcpmnhhmpmnaaDoor
open Go.Ab
/-- What math/bits.deBruijn64tab holds. -/
def tzL : List Int := [0, 1, 56, 2, 57, 49, 28, 3, 61, 58, 42, 50, 38, 29, 17, 4, 62, 47, 59, 36, 45, 43, 51, 22, 53, 39, 33, 30, 24, 18, 12, 5, 63, 55, 48, 27, 60, 41, 37, 16, 46, 35, 44, 21, 52, 32, 23, 11, 54, 26, 40, 15, 34, 20, 31, 10, 25, 14, 19, 9, 13, 8, 7, 6]
def tzF (j : Nat) : Int := tzL.getD j 0
def gl (g : Nat) : Option D := match Nat.beq g 0 with
  | true => some (tabD 256 firstF)
  | false => match Nat.beq g 1 with
    | true => some (tabD 32 accF)
    | false => match Nat.beq g 7 && true with
      | true => some (tabD 64 tzF)
      | false => none
def rwsOf (t : Nat) : Option (List (Option TypeId)) := match Nat.beq t 44 with
  | true => some [none, some 5]
  | false => none
def rowfOf (f : Nat) : Bool := match Nat.beq f 52 with | true => true | false => match Nat.beq f 43 with | true => true | false => false
noncomputable def cx : Ctx := { P := Tryd.prog, tt := ty.look, glob := gl, rws := rwsOf, rowf := rowfOf }
theorem cx_ok : cx.ok := tab_ok ty_fits
theorem laid : laidOutB Tryd.prog = true := by kernel_rfl
abbrev u64 (n : Int) : AV := .d (.int .u64 n)
abbrev i64 (n : Int) : AV := .d (.int .i64 n)
abbrev i32 (n : Int) : AV := .d (.int .i32 n)
abbrev u8 (n : Int) : AV := .d (.int .u8 n)
abbrev bo (b : Bool) : AV := .d (.bool b)
abbrev st (s : ByteArray) : AV := .d (.str s)
end Go.Proofs.YtefcpmnhhmpmnaaDoor
