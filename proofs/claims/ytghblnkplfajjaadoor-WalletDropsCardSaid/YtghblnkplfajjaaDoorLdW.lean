/- What the rows say of the numbers of sha, as this logic wants it. -/
import Derived.Test.YtghblnkplfajjaaDoorW1
import Derived.Test.YtghblnkplfajjaaDoorRows
import Derived.Lib.LaidU8T
namespace Go.Proofs.YtghblnkplfajjaaDoor
open Go.Ab Go.RowKit Go.Lib

theorem f_reads {w : World} (h : VarReads Tryd.prog w "pontoon/sha.first" Rows.laid_pontoon_sha_first) : ∀ j v, (fiL.map fun z => Value.int .u32 z)[j]? = some v → w.cell? ⟨0, j, none⟩ = some v := by
  intro j v hj
  obtain ⟨g, t, cs, fuel, p, hg, hty, hvar, hd⟩ := h
  obtain rfl := Option.some.inj ((show Tryd.prog.globalNamed "pontoon/sha.first" = some 0 by kernel_rfl).symm.trans hg)
  obtain rfl := Option.some.inj ((show (Tryd.prog.globals[0]?).map (·.type) = some 134 by kernel_rfl).symm.trans hty)
  have hcs := cells_of_tab (zs := fiL) (n := 8) Tryd.underlying134 Tryd.underlying26 (by kernel_rfl) (by kernel_rfl) hd
  rw [World.var?_cell hg hvar j, ← Array.getElem?_toList, hcs]
  exact hj
theorem c_reads {w : World} (h : VarReads Tryd.prog w "pontoon/sha.constants" Rows.laid_pontoon_sha_constants) : ∀ j v, (coL.map fun z => Value.int .u32 z)[j]? = some v → w.cell? ⟨1, j, none⟩ = some v := by
  intro j v hj
  obtain ⟨g, t, cs, fuel, p, hg, hty, hvar, hd⟩ := h
  obtain rfl := Option.some.inj ((show Tryd.prog.globalNamed "pontoon/sha.constants" = some 1 by kernel_rfl).symm.trans hg)
  obtain rfl := Option.some.inj ((show (Tryd.prog.globals[1]?).map (·.type) = some 153 by kernel_rfl).symm.trans hty)
  have hcs := cells_of_tab (zs := coL) (n := 64) Tryd.underlying153 Tryd.underlying26 (by kernel_rfl) (by kernel_rfl) hd
  rw [World.var?_cell hg hvar j, ← Array.getElem?_toList, hcs]
  exact hj
end Go.Proofs.YtghblnkplfajjaaDoor
