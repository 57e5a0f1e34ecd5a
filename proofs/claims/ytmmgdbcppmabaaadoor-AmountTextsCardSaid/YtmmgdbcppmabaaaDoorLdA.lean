/- What the row says of the powers of ten and of strconv's two errors, as this logic wants it. -/
import Derived.Test.YtmmgdbcppmabaaaDoorCxA
import Derived.Test.YtmmgdbcppmabaaaDoorRows
import Derived.Lib.LaidU8T
import Derived.LaidLaws
import Derived.ChangeArms
namespace Go.Proofs.YtmmgdbcppmabaaaDoor
open Go.Ab Go.RowKit Go.Lib Go.ChangeShapes

theorem pw_reads {w : World} (h : VarReads Tryd.prog w "internal/strconv.uint64pow10" Rows.laid_internal_strconv_uint64pow10) : ∀ j v, (pwL.map fun z => Value.int .u64 z)[j]? = some v → w.cell? ⟨4, j, none⟩ = some v := by
  intro j v hj
  obtain ⟨g, t, cs, fuel, p, hg, hty, hvar, hd⟩ := h
  obtain rfl := Option.some.inj ((show Tryd.prog.globalNamed "internal/strconv.uint64pow10" = some 4 by kernel_rfl).symm.trans hg)
  obtain rfl := Option.some.inj ((show (Tryd.prog.globals[4]?).map (·.type) = some 60 by kernel_rfl).symm.trans hty)
  have hcs := cells_of_tab (zs := pwL) (n := 20) Tryd.underlying60 Tryd.underlying22 (by kernel_rfl) (by kernel_rfl) hd
  rw [World.var?_cell hg hvar j, ← Array.getElem?_toList, hcs]
  exact hj

theorem CL.intsK {w G} {k : IntKind} : ∀ l : List Int, CL w G (l.map fun z => D.int k z) (l.map fun z => Value.int k z)
  | [] => .nil
  | _ :: l => .int (CL.intsK l)

theorem ints_glob {w : World} {g : Nat} {k : IntKind} {l : List Int} (h : ∀ j v, (l.map fun z => Value.int k z)[j]? = some v → w.cell? ⟨g, j, none⟩ = some v) : VD w (Old w) (.cptr (intsD k l)) (.pointer (some ⟨g, 0, none⟩)) := by
  refine VD.of_single (.cptr (c := l.map fun z => Value.int k z) ?_ ?_ .nil) rfl
  · have := CL.arr (n := l.length) (sz := 1) (CL.intsK (w := w) (G := Old w) (k := k) l) (by simp) (fun x hx => by obtain ⟨j, _, rfl⟩ := List.mem_map.1 hx; rfl) (r := []) (cs := []) .nil
    rw [List.append_nil] at this
    exact this
  · intro j v hj
    rw [Nat.zero_add]
    exact ⟨h j v hj, World.block_lt_of_cell? w _ (h j v hj)⟩

theorem star : "*" ++ "errors.errorString" = "*errors.errorString" := by decide
theorem err_type (u : TypeId) (h : Tryd.prog.typeName? 3 u = some "*errors.errorString") : u = 66 :=
  typeName_ptr_named (nm := "errors.errorString") (by rw [star]; kernel_rfl) (by kernel_rfl) (by decide) u (by rw [star]; exact h)

theorem err_reads {w : World} {n : String} {x : DataW Unit} {g0 : Nat} (hn : Tryd.prog.globalNamed n = some g0) (ht : (Tryd.prog.globals[g0]?).map (·.type) = some 34)
    (h : VarReads Tryd.prog w n (.iface "*errors.errorString" (.ptr x))) : ∃ e : D, (∃ t y, e = .iface t y) ∧ VD w (Old w) (.cptr e) (.pointer (some ⟨g0, 0, none⟩)) := by
  obtain ⟨g, t, cs, fuel, p, hg, hty, hvar, hd⟩ := h
  obtain rfl := Option.some.inj (hn.symm.trans hg)
  obtain rfl := Option.some.inj (ht.symm.trans hty)
  have hu := Tryd.underlying34
  obtain ⟨u, v, y, fuel, hc, hnm, hin⟩ : ∃ u v y fuel, cs.toList = [.iface u v] ∧ Tryd.prog.typeName? 3 u = some "*errors.errorString" ∧ DataW.trod (fun _ => ()) Tryd.prog w 0 (fun _ => true) false fuel u v.cells.toList = some (.ptr x, y) := by
    cases fuel with
    | zero => simp [DataW.trod] at hd
    | succ fuel =>
      unfold DataW.trod at hd
      rw [hu] at hd
      split at hd <;> simp_all
      split at hd <;> simp_all
      exact ⟨_, _, ⟨rfl, rfl⟩, by assumption, _, _, hd.1⟩
  obtain rfl := err_type u hnm
  have hcell : w.cell? ⟨g0, 0, none⟩ = some (.iface 66 v) := by
    rw [World.var?_cell hn hvar 0, ← Array.getElem?_toList, hc]
    rfl
  obtain ⟨b1, b2, hv⟩ : ∃ b1 b2, v.cells.toList = [.pointer (some ⟨b1, b2, none⟩)] := by
    rcases DataW.trod_pointer Tryd.underlying66 hin with ⟨_, h2⟩ | ⟨a, cs', y', m, _, h2, _, h3, _⟩
    · cases h2
    · have hs : a.spot = none := by
        unfold World.cells? at h3
        rw [show Tryd.prog.cellsOf 68 = 1 by kernel_rfl] at h3
        split at h3
        · obtain ⟨b, _, hb⟩ := mapM_at h3 0 0 (by simp)
          have := World.cell?_spot hb
          unfold Addr.add at this
          split at this <;> simp_all
        · cases h3
      obtain ⟨b1, b2, b3⟩ := a
      simp only at hs
      subst hs
      exact ⟨b1, b2, h2⟩
  have hptr : CL w (Old w) [.cptr (.agg [])] [.pointer (some ⟨b1, b2, none⟩)] := .cptr (c := []) (.agg .nil .nil) (fun j v h => by simp at h) .nil
  have fin : ∀ y : D, CL w (Old w) [y] v.cells.toList → vAgg v = y.isAgg → VD w (Old w) (.cptr (.iface 66 y)) (.pointer (some ⟨g0, 0, none⟩)) := by
    intro y h1 h2
    refine VD.of_single (.cptr (c := [.iface 66 v]) (.iface h1 h2 .nil) ?_ .nil) rfl
    intro j z hj
    cases j with
    | zero =>
      simp only [List.getElem?_cons_zero, Option.some.injEq] at hj
      subst hj
      exact ⟨hcell, World.block_lt_of_cell? w _ hcell⟩
    | succ j => simp at hj
  cases hg : vAgg v with
  | false => exact ⟨_, ⟨_, _, rfl⟩, fin (.cptr (.agg [])) (by rw [hv]; exact hptr) hg⟩
  | true => exact ⟨_, ⟨_, _, rfl⟩, fin (.agg [.cptr (.agg [])]) (by rw [hv]; exact .agg (cs := []) hptr .nil) hg⟩

theorem gla_reads {w : World} [E : Errs] (h1 : ∀ j v, (pwL.map fun z => Value.int .u64 z)[j]? = some v → w.cell? ⟨4, j, none⟩ = some v)
    (h2 : VD w (Old w) (.cptr E.s) (.pointer (some ⟨2, 0, none⟩))) (h3 : VD w (Old w) (.cptr E.r) (.pointer (some ⟨3, 0, none⟩))) :
    ∀ g x, cx.glob g = some x → VD w (Old w) (.cptr x) (.pointer (some ⟨g, 0, none⟩)) := by
  intro g x hx
  change gl g = some x at hx
  unfold gl at hx
  split at hx
  · rename_i e
    obtain rfl := Nat.eq_of_beq_eq_true e
    cases hx
    exact ints_glob h1
  · split at hx
    · rename_i e
      obtain rfl := Nat.eq_of_beq_eq_true e
      cases hx
      exact h2
    · split at hx
      · rename_i e
        obtain rfl := Nat.eq_of_beq_eq_true e
        cases hx
        exact h3
      · cases hx
end Go.Proofs.YtmmgdbcppmabaaaDoor
