/- What the rows say of the program's tables, as this logic wants it. -/
import Derived.Test.YtefcpmnhhmpmnaaDoorU2
import Derived.Test.YtefcpmnhhmpmnaaDoorRows
import Derived.Lib.LaidU8T
namespace Go.Proofs.YtefcpmnhhmpmnaaDoor
open Go.Ab Go.RowKit Go.Lib

theorem tz_reads {w : World} (h : VarReads Tryd.prog w "math/bits.deBruijn64tab" Rows.laid_math_bits_deBruijn64tab) : ∀ j, j < 64 → w.cell? ⟨7, j, none⟩ = some (.int .u8 (tzF j)) := by
  intro j hj
  obtain ⟨g, t, cs, fuel, p, hg, hty, hvar, hd⟩ := h
  obtain rfl := Option.some.inj ((show Tryd.prog.globalNamed "math/bits.deBruijn64tab" = some 7 by kernel_rfl).symm.trans hg)
  obtain rfl := Option.some.inj ((show (Tryd.prog.globals[7]?).map (·.type) = some 102 by kernel_rfl).symm.trans hty)
  have hcs := cells_of_tab (zs := tzL) (n := 64) Tryd.underlying102 Tryd.underlying5 (by kernel_rfl) (by kernel_rfl) hd
  rw [World.var?_cell hg hvar j, ← Array.getElem?_toList, hcs, List.getElem?_map]
  have hl : j < tzL.length := hj
  rw [List.getElem?_eq_getElem hl]
  unfold tzF
  rw [List.getD_eq_getElem?_getD, List.getElem?_eq_getElem hl]
  rfl
end Go.Proofs.YtefcpmnhhmpmnaaDoor
