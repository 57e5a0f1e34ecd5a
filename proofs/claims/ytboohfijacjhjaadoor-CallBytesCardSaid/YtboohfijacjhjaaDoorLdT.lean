/- What the rows say of the weights and the words of calls, as this logic wants it. -/
import Derived.Test.YtboohfijacjhjaaDoorP1
import Derived.Test.YtboohfijacjhjaaDoorRows
import Derived.Lib.LaidU8T
namespace Go.Proofs.YtboohfijacjhjaaDoor
open Go.Ab Go.RowKit Go.Lib

theorem w_reads {w : World} (h : VarReads Tryd.prog w "pontoon/call.weights" Rows.laid_pontoon_call_weights) : ∀ j v, (wgL.map fun z => Value.int .u64 z)[j]? = some v → w.cell? ⟨0, j, none⟩ = some v := by
  intro j v hj
  obtain ⟨g, t, cs, fuel, p, hg, hty, hvar, hd⟩ := h
  obtain rfl := Option.some.inj ((show Tryd.prog.globalNamed "pontoon/call.weights" = some 0 by kernel_rfl).symm.trans hg)
  obtain rfl := Option.some.inj ((show (Tryd.prog.globals[0]?).map (·.type) = some 176 by kernel_rfl).symm.trans hty)
  have hcs := cells_of_tab (zs := wgL) (n := 13) Tryd.underlying176 Tryd.underlying23 (by kernel_rfl) (by kernel_rfl) hd
  rw [World.var?_cell hg hvar j, ← Array.getElem?_toList, hcs]
  exact hj

theorem cells_of_strs {H : Type} {enc : TypeId × Value → H} {P : Program} {w : World} {base : Nat} {sp : Nat → Bool} {held : Bool} {fuel : Nat} {t e : TypeId} {n : Nat} {cs : List Value} {zs : List ByteArray} {p : List MemPlace}
    (ht : P.underlying t = some (.array n e)) (he : P.underlying e = some .string) (hce : P.cellsOf e = 1) (hct : P.cellsOf t = n)
    (h : DataW.trod enc P w base sp held fuel t cs = some (DataW.agg (zs.map fun z => .lit (.string z.data.toList)), p)) : cs = zs.map fun z => Value.string z := by
  cases fuel with
  | zero => simp [DataW.trod] at h
  | succ fuel =>
    simp only [DataW.trod, ht, hce, hct, Nat.mul_one] at h
    split at h
    · rename_i hl
      obtain ⟨xs, hm, hx⟩ := Option.map_eq_some_iff.1 h
      have hxs : xs.map (·.1) = zs.map fun z => (DataW.lit (.string z.data.toList) : DataW H) := by
        have := congrArg Prod.fst hx
        simpa using this
      have hxl : xs.length = n := by simpa using mapM_length hm
      have hzl : zs.length = n := by
        have := congrArg List.length hxs
        simp at this
        omega
      apply List.ext_getElem?
      intro i
      by_cases hi : i < n
      · obtain ⟨b, hb, hf⟩ := mapM_at hm i i (by simp [hi])
        obtain ⟨z, hc, rfl, _⟩ := DataW.trod_string he hf
        have h1 : cs[i]? = some (.string z) := by
          have := congrArg (·[0]?) hc
          simpa [List.getElem?_take, List.getElem?_drop] using this
        have h2 : (xs.map (·.1))[i]? = some (DataW.lit (.string z.data.toList) : DataW H) := by simp [hb]
        rw [hxs] at h2
        simp only [List.getElem?_map, Option.map_eq_some_iff, DataW.lit.injEq, Lit.string.injEq] at h2
        obtain ⟨z', hz', hzz⟩ := h2
        have : z' = z := by
          obtain ⟨⟨l⟩⟩ := z
          obtain ⟨⟨l'⟩⟩ := z'
          simp at hzz
          rw [hzz]
        subst this
        simp [h1, hz']
      · rw [List.getElem?_eq_none (by omega), List.getElem?_eq_none (by simp; omega)]
    · cases h

theorem wd_reads {w : World} (h : VarReads Tryd.prog w "pontoon/call.words" Rows.laid_pontoon_call_words) : ∀ j v, (wdL.map fun z => Value.string z)[j]? = some v → w.cell? ⟨1, j, none⟩ = some v := by
  intro j v hj
  obtain ⟨g, t, cs, fuel, p, hg, hty, hvar, hd⟩ := h
  obtain rfl := Option.some.inj ((show Tryd.prog.globalNamed "pontoon/call.words" = some 1 by kernel_rfl).symm.trans hg)
  obtain rfl := Option.some.inj ((show (Tryd.prog.globals[1]?).map (·.type) = some 178 by kernel_rfl).symm.trans hty)
  have hcs := cells_of_strs (zs := wdL) (n := 13) Tryd.underlying178 Tryd.underlying9 (by kernel_rfl) (by kernel_rfl) hd
  rw [World.var?_cell hg hvar j, ← Array.getElem?_toList, hcs]
  exact hj
end Go.Proofs.YtboohfijacjhjaaDoor
