/- Posts: items, their slices. -/
import Derived.Test.YtboohfijacjhjaaP3
set_option linter.unusedVariables false
namespace Go.Proofs.Ytboohfijacjhjaa
open Go.Shelf Go.RowKit Go.Lib Go.Ab

/-- An item: to whom, what. -/
structure It where
  to : Nat
  tx : ByteArray
def It.d (i : It) : D := .agg [.int .u32 i.to, .str i.tx]
def its (l : List It) : List D := l.map It.d
theorem It.size (i : It) : i.d.size = 2 := rfl

def renP : Go.Shelf.Ren := ⟨fun | 41 => 31 | n => n, fun | 4 => 4 | 22 => 22 | 23 => 55 | n => n, fun n => n⟩
theorem laysP : SlLaysE0.n41 Try.prog renP := {
  mixed := by kernel_rfl
  f41 := ⟨Try.f31.name, by kernel_rfl, Try.func31.trans (congrArg some (by kernel_rfl))⟩
  t4 := Try.underlying4
  a4 := Try.isAgg4
  z4 := Try.sizeOf4
  v4 := Try.zeroValue4
  t22 := Try.underlying22
  a22 := Try.isAgg22
  z22 := Try.sizeOf22
  v22 := Try.zeroValue22 }
theorem cloneP_c {l : List It} (h : l.length ≤ 100000) : CallR cx 31 [.d (.sl 2 (its l))] [] fun r S => r = .row 0 ∧ S = [.own 55 2 (its l)] := by
  have hl : (its l).length = l.length := List.length_map _
  exact clone_c (ρ := renP) laysP (e := 55) (sz := 2) rfl Try.func31 (by kernel_rfl) (by kernel_rfl) rfl rfl rfl rfl (by decide) Try.sizeOf55 (by rw [hl]; unfold maxLen; omega) (by rw [hl]; show l.length * 24 ≤ _; omega)

def renIP : Go.Shelf.Ren := ⟨fun | 22 => 35 | 29 => 75 | 30 => 76 | n => n, fun | 3 => 3 | 4 => 4 | 9 => 55 | 24 => 22 | n => n, fun n => n⟩
theorem laysIP : ∃ z, InsL Try.prog renIP 2 24 z := by
  obtain ⟨_, info, f1, f2, f3, f4⟩ := cx_ok 55 _ rfl
  obtain ⟨zv, f5, f6⟩ := f4 _ rfl
  exact ⟨zv, {
    mixed := by kernel_rfl
    f22 := ⟨Try.f35.name, Try.func35.trans (congrArg some (by kernel_rfl))⟩
    ov := fun args w v w' h => by
      rw [run_callFunc_extern (P := Try.prog) (f := renIP.f 29) Try.func75 (by kernel_rfl) (by kernel_rfl) (by kernel_rfl) (e := Extern.SlicesOverlaps.overlaps #[renIP.t 24, renIP.t 24] #[renIP.t 4]) (by kernel_rfl), h]
      rfl
    t3 := Try.underlying3
    a3 := Try.isAgg3
    z3 := Try.sizeOf3
    v3 := Try.zeroValue3
    t4 := Try.underlying4
    a4 := Try.isAgg4
    z4 := Try.sizeOf4
    v4 := Try.zeroValue4
    t24 := Try.underlying22
    a24 := Try.isAgg22
    z24 := Try.sizeOf22
    v24 := Try.zeroValue22
    z9 := Try.sizeOf55
    i9 := ⟨info, f1, f5, f2, f3⟩
    zs := (f6 default (fun _ _ => False)).cells_size
    s0 := by decide }⟩
theorem insertP_c {l : List It} {b : It} {i : Nat} (hi : i ≤ l.length) (h : l.length ≤ 100000) : CallR cx 35 [.row 0, i64 (i : Int), .d (.sl 2 [b.d])] [.own 55 2 (its l)] fun r S =>
    r = .row 1 ∧ S = [.dead, .own 55 2 (its (l.take i ++ b :: l.drop i))] := by
  obtain ⟨z, L⟩ := laysIP
  have hl : (its l).length = l.length := List.length_map _
  have := insert_c L (xs := its l) (x := b.d) (e := 55) (i := i) rfl Try.func35 (by kernel_rfl) rfl (by omega) (by rw [hl]; unfold maxLen; omega) (by rw [hl]; omega)
  have e : its (l.take i ++ b :: l.drop i) = (its l).take i ++ b.d :: (its l).drop i := by simp [its, List.map_take, List.map_drop]
  rw [e]
  exact this

def renDP : Go.Shelf.Ren := ⟨fun | 45 => 34 | n => n, fun | 3 => 3 | 4 => 4 | 23 => 55 | 22 => 22 | n => n, fun n => n⟩
theorem laysDP : ∃ z, DelL Try.prog renDP 2 24 z := by
  obtain ⟨_, info, f1, f2, f3, f4⟩ := cx_ok 55 _ rfl
  obtain ⟨zv, f5, f6⟩ := f4 _ rfl
  exact ⟨zv, {
    mixed := by kernel_rfl
    f45 := ⟨Try.f34.name, by kernel_rfl, Try.func34.trans (congrArg some (by kernel_rfl))⟩
    t3 := Try.underlying3
    a3 := Try.isAgg3
    z3 := Try.sizeOf3
    v3 := Try.zeroValue3
    t4 := Try.underlying4
    a4 := Try.isAgg4
    z4 := Try.sizeOf4
    v4 := Try.zeroValue4
    t22 := Try.underlying22
    a22 := Try.isAgg22
    z22 := Try.sizeOf22
    v22 := Try.zeroValue22
    z23 := Try.sizeOf55
    v23 := fun w => by
      have hf : Try.prog.info? (renDP.t 23) = some info := f1
      simp only [zeroValue, typeInfo, Sem.run_bind, run_program, Result.andThen_ok, hf, f5, Sem.run_pure]
    i23 := ⟨info, f1, f5, f2, f3⟩
    zs := (f6 default (fun _ _ => False)).cells_size
    zo := (f6 default (fun _ _ => False)).1.oneCell
    s0 := by decide }⟩
theorem deleteP_c {l : List It} {i : Nat} (hi : i < l.length) : CallR cx 34 [.row 0, i64 (i : Int), i64 ((i + 1 : Nat) : Int)] [.own 55 2 (its l)] fun r S =>
    r = .row 1 ∧ S = [.dead, .own 55 2 (its (l.take i ++ l.drop (i + 1)))] := by
  obtain ⟨z, L⟩ := laysDP
  have hl : (its l).length = l.length := List.length_map _
  have := delete_c L (xs := its l) (e := 55) (i := i) rfl Try.func34 (by kernel_rfl) rfl (by omega)
  have e : its (l.take i ++ l.drop (i + 1)) = (its l).take i ++ (its l).drop (i + 1) := by simp [its, List.map_take, List.map_drop]
  rw [e]
  exact this

end Go.Proofs.Ytboohfijacjhjaa
