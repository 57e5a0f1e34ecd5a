/- What the rows say of the weights of calls, as this logic wants it. -/
import Derived.Test.YtboohfijacjhjaaDoorP1
import Derived.Test.YtboohfijacjhjaaDoorRows
import Derived.Lib.LaidU8T
namespace Go.Proofs.YtboohfijacjhjaaDoor
open Go.Ab Go.RowKit Go.Lib

theorem w_reads {w : World} (h : VarReads Tryd.prog w "pontoon/call.weights" Rows.laid_pontoon_call_weights) : ∀ j v, (wgL.map fun z => Value.int .u64 z)[j]? = some v → w.cell? ⟨0, j, none⟩ = some v := by
  intro j v hj
  obtain ⟨g, t, cs, fuel, p, hg, hty, hvar, hd⟩ := h
  obtain rfl := Option.some.inj ((show Tryd.prog.globalNamed "pontoon/call.weights" = some 0 by kernel_rfl).symm.trans hg)
  obtain rfl := Option.some.inj ((show (Tryd.prog.globals[0]?).map (·.type) = some 176 by kernel_rfl).symm.trans hty)
  have hcs := cells_of_tab (zs := wgL) (n := 13) Tryd.underlying176 Tryd.underlying23 (by kernel_rfl) (by kernel_rfl) hd
  rw [World.var?_cell hg hvar j, ← Array.getElem?_toList, hcs]
  exact hj
end Go.Proofs.YtboohfijacjhjaaDoor
