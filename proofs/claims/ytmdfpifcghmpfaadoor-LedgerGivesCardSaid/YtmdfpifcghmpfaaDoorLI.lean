/- Ledgers: an account more, by the program. -/
import Derived.Test.YtmdfpifcghmpfaaDoorLH
import Derived.Test.YtmdfpifcghmpfaaDoorIn2
namespace Go.Proofs.YtmdfpifcghmpfaaDoor
open Go.Shelf Go.Ab Go.RowKit

def renI : Go.Shelf.Ren := ⟨fun | 22 => 110 | 29 => 147 | 30 => 148 | n => n, fun | 3 => 3 | 4 => 4 | 9 => 36 | 24 => 23 | n => n, fun n => n⟩

theorem laysI : ∃ z, InsL Tryd.prog renI 35 64 z := by
  obtain ⟨_, info, f1, f2, f3, f4⟩ := cx_ok 36 _ rfl
  obtain ⟨zv, f5, f6⟩ := f4 _ rfl
  exact ⟨zv, {
    mixed := by kernel_rfl
    f22 := ⟨Tryd.f110.name, Tryd.func110.trans (congrArg some (by kernel_rfl))⟩
    ov := fun args w v w' h => by
      rw [run_callFunc_extern (P := Tryd.prog) (f := renI.f 29) Tryd.func147 (by kernel_rfl) (by kernel_rfl) (by kernel_rfl) (e := Extern.SlicesOverlaps.overlaps #[renI.t 24, renI.t 24] #[renI.t 4]) (by kernel_rfl), h]
      rfl
    t3 := Tryd.underlying3
    a3 := Tryd.isAgg3
    z3 := Tryd.sizeOf3
    v3 := Tryd.zeroValue3
    t4 := Tryd.underlying4
    a4 := Tryd.isAgg4
    z4 := Tryd.sizeOf4
    v4 := Tryd.zeroValue4
    t24 := Tryd.underlying23
    a24 := Tryd.isAgg23
    z24 := Tryd.sizeOf23
    v24 := Tryd.zeroValue23
    z9 := Tryd.sizeOf36
    i9 := ⟨info, f1, f5, f2, f3⟩
    zs := (f6 default (fun _ _ => False)).cells_size
    s0 := by decide }⟩

theorem insertA_c {l : List Ac} {b : Ac} {i : Nat} (hi : i ≤ l.length) (h : l.length ≤ 100000) : CallR cx 110 [.row 0, i64 (i : Int), .d (.sl 35 [b.d])] [.own 36 35 (acs l)] fun r S =>
    r = .row 1 ∧ S = [.dead, .own 36 35 (acs (l.take i ++ b :: l.drop i))] := by
  obtain ⟨z, L⟩ := laysI
  have hl : (acs l).length = l.length := List.length_map _
  have := insert_c L (xs := acs l) (x := b.d) (e := 36) (i := i) rfl Tryd.func110 (by kernel_rfl) rfl (by omega) (by rw [hl]; unfold maxLen; omega) (by rw [hl]; omega)
  have e : acs (l.take i ++ b :: l.drop i) = (acs l).take i ++ b.d :: (acs l).drop i := by simp [acs, List.map_take, List.map_drop]
  rw [e]
  exact this
end Go.Proofs.YtmdfpifcghmpfaaDoor
