/- What the rows say of the weights of calls and of the numbers of sha, as this logic wants it. -/
import Derived.Test.YtboohfijacjhjaaDoorP1
import Derived.Test.YtboohfijacjhjaaDoorRows
import Derived.Lib.LaidU8T
namespace Go.Proofs.YtboohfijacjhjaaDoor
open Go.Ab Go.RowKit Go.Lib

theorem w_reads {w : World} (h : VarReads Tryd.prog w "pontoon/call.weights" Rows.laid_pontoon_call_weights) : ∀ j v, (wgL.map fun z => Value.int .u64 z)[j]? = some v → w.cell? ⟨0, j, none⟩ = some v := by
  intro j v hj
  obtain ⟨g, t, cs, fuel, p, hg, hty, hvar, hd⟩ := h
  obtain rfl := Option.some.inj ((show Tryd.prog.globalNamed "pontoon/call.weights" = some 0 by kernel_rfl).symm.trans hg)
  obtain rfl := Option.some.inj ((show (Tryd.prog.globals[0]?).map (·.type) = some 176 by kernel_rfl).symm.trans hty)
  have hcs := cells_of_tab (zs := wgL) (n := 13) Tryd.underlying176 Tryd.underlying23 (by kernel_rfl) (by kernel_rfl) hd
  rw [World.var?_cell hg hvar j, ← Array.getElem?_toList, hcs]
  exact hj
theorem f_reads {w : World} (h : VarReads Tryd.prog w "pontoon/sha.first" Rows.laid_pontoon_sha_first) : ∀ j v, (fiL.map fun z => Value.int .u32 z)[j]? = some v → w.cell? ⟨2, j, none⟩ = some v := by
  intro j v hj
  obtain ⟨g, t, cs, fuel, p, hg, hty, hvar, hd⟩ := h
  obtain rfl := Option.some.inj ((show Tryd.prog.globalNamed "pontoon/sha.first" = some 2 by kernel_rfl).symm.trans hg)
  obtain rfl := Option.some.inj ((show (Tryd.prog.globals[2]?).map (·.type) = some 222 by kernel_rfl).symm.trans hty)
  have hcs := cells_of_tab (zs := fiL) (n := 8) Tryd.underlying222 Tryd.underlying22 (by kernel_rfl) (by kernel_rfl) hd
  rw [World.var?_cell hg hvar j, ← Array.getElem?_toList, hcs]
  exact hj
theorem c_reads {w : World} (h : VarReads Tryd.prog w "pontoon/sha.constants" Rows.laid_pontoon_sha_constants) : ∀ j v, (coL.map fun z => Value.int .u32 z)[j]? = some v → w.cell? ⟨5, j, none⟩ = some v := by
  intro j v hj
  obtain ⟨g, t, cs, fuel, p, hg, hty, hvar, hd⟩ := h
  obtain rfl := Option.some.inj ((show Tryd.prog.globalNamed "pontoon/sha.constants" = some 5 by kernel_rfl).symm.trans hg)
  obtain rfl := Option.some.inj ((show (Tryd.prog.globals[5]?).map (·.type) = some 246 by kernel_rfl).symm.trans hty)
  have hcs := cells_of_tab (zs := coL) (n := 64) Tryd.underlying246 Tryd.underlying22 (by kernel_rfl) (by kernel_rfl) hd
  rw [World.var?_cell hg hvar j, ← Array.getElem?_toList, hcs]
  exact hj
end Go.Proofs.YtboohfijacjhjaaDoor
