/- The library's contract of utf8.DecodeRuneInString at this program (laid by the kit's own tools, in plain words). -/
import Derived.Shelf.Unicode.DecodeAny
import Derived.Test.YtmdfpifcghmpfaaDoorProg
namespace Go.Proofs
open Go.Shelf
def Tryd.lays197_ren : Go.Shelf.Ren := ⟨fun | 197 => 159 | 260 => 164 | n => n, fun | 9 => 9 | 21 => 21 | 3 => 3 | 4 => 4 | 5 => 5 | 105 => 215 | 119 => 222 | 0 => 0 | 46 => 214 | 139 => 225 | 138 => 224 | n => n, fun | 3 => 0 | 4 => 1 | n => n⟩
theorem Tryd.lays197 : Go.Proofs.Lays.n197 Tryd.prog Tryd.lays197_ren := {
  mixed := by kernel_rfl
  f197 := Tryd.func159.trans (congrArg some (by kernel_rfl))
  f260 := Tryd.func164.trans (congrArg some (by kernel_rfl))
  t0 := Tryd.underlying0
  a0 := Tryd.isAgg0
  z0 := Tryd.sizeOf0
  v0 := Tryd.zeroValue0
  t3 := Tryd.underlying3
  a3 := Tryd.isAgg3
  z3 := Tryd.sizeOf3
  v3 := Tryd.zeroValue3
  t4 := Tryd.underlying4
  a4 := Tryd.isAgg4
  z4 := Tryd.sizeOf4
  v4 := Tryd.zeroValue4
  t5 := Tryd.underlying5
  a5 := Tryd.isAgg5
  z5 := Tryd.sizeOf5
  v5 := Tryd.zeroValue5
  t9 := Tryd.underlying9
  a9 := Tryd.isAgg9
  z9 := Tryd.sizeOf9
  v9 := Tryd.zeroValue9
  t21 := Tryd.underlying21
  a21 := Tryd.isAgg21
  z21 := Tryd.sizeOf21
  v21 := Tryd.zeroValue21
  t46 := Tryd.underlying214
  a46 := Tryd.isAgg214
  z46 := Tryd.sizeOf214
  v46 := Tryd.zeroValue214
  t105 := Tryd.underlying215
  a105 := Tryd.isAgg215
  z105 := Tryd.sizeOf215
  v105 := Tryd.zeroValue215
  t119 := Tryd.underlying222
  a119 := Tryd.isAgg222
  z119 := Tryd.sizeOf222
  t138 := Tryd.underlying224
  a138 := Tryd.isAgg224
  z138 := Tryd.sizeOf224
  v138 := Tryd.zeroValue224
  t139 := Tryd.underlying225
  a139 := Tryd.isAgg225
  z139 := Tryd.sizeOf225
  v139 := Tryd.zeroValue225
  g3 := by kernel_rfl
  g4 := by kernel_rfl }
open Go.RowKit Go.Lib in
theorem Tryd.utf8_DecodeRuneInString (s : ByteArray) (w : World) (hT : Lib.Utf8Tabs 0 1 w) :
    Calls Tryd.prog 159 #[.string s] w fun e w' => e = .returned (.tuple #[.int .i32 (Lib.decodeGo s).1, .int .i64 (Lib.decodeGo s).2]) ∧ Below w.heap.size w w' := Any.utf8_DecodeRuneInString Tryd.lays197 s w hT
end Go.Proofs
