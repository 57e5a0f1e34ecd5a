/- What the rows say of the program's tables and of strconv's two errors, as this logic wants it. -/
import Derived.Test.YtefcpmnhhmpmnaaDoorE0
import Derived.Test.YtefcpmnhhmpmnaaDoorU2
import Derived.Test.YtefcpmnhhmpmnaaDoorRows
import Derived.Lib.LaidU8T
import Derived.LaidLaws
import Derived.ChangeArms
namespace Go.Proofs.YtefcpmnhhmpmnaaDoor
open Go.Ab Go.RowKit Go.Lib Go.ChangeShapes

theorem tz_reads {w : World} (h : VarReads Tryd.prog w "math/bits.deBruijn64tab" Rows.laid_math_bits_deBruijn64tab) : ∀ j, j < 64 → w.cell? ⟨7, j, none⟩ = some (.int .u8 (tzF j)) := by
  intro j hj
  obtain ⟨g, t, cs, fuel, p, hg, hty, hvar, hd⟩ := h
  obtain rfl := Option.some.inj ((show Tryd.prog.globalNamed "math/bits.deBruijn64tab" = some 7 by kernel_rfl).symm.trans hg)
  obtain rfl := Option.some.inj ((show (Tryd.prog.globals[7]?).map (·.type) = some 102 by kernel_rfl).symm.trans hty)
  have hcs := cells_of_tab (zs := tzL) (n := 64) Tryd.underlying102 Tryd.underlying5 (by kernel_rfl) (by kernel_rfl) hd
  rw [World.var?_cell hg hvar j, ← Array.getElem?_toList, hcs, List.getElem?_map]
  have hl : j < tzL.length := hj
  rw [List.getElem?_eq_getElem hl]
  unfold tzF
  rw [List.getD_eq_getElem?_getD, List.getElem?_eq_getElem hl]
  rfl
theorem star : "*" ++ "errors.errorString" = "*errors.errorString" := by decide
theorem err_type (u : TypeId) (h : Tryd.prog.typeName? 3 u = some "*errors.errorString") : u = 98 :=
  typeName_ptr_named (nm := "errors.errorString") (by rw [star]; kernel_rfl) (by kernel_rfl) (by decide) u (by rw [star]; exact h)

theorem err_reads {w : World} {n : String} {x : DataW Unit} {g0 : Nat} (hn : Tryd.prog.globalNamed n = some g0) (ht : (Tryd.prog.globals[g0]?).map (·.type) = some 46)
    (h : VarReads Tryd.prog w n (.iface "*errors.errorString" (.ptr x))) : ∃ e : D, (∃ t y, e = .iface t y) ∧ VD w (Old w) (.cptr e) (.pointer (some ⟨g0, 0, none⟩)) := by
  obtain ⟨g, t, cs, fuel, p, hg, hty, hvar, hd⟩ := h
  obtain rfl := Option.some.inj (hn.symm.trans hg)
  obtain rfl := Option.some.inj (ht.symm.trans hty)
  have hu := Tryd.underlying46
  obtain ⟨u, v, y, fuel, hc, hnm, hin⟩ : ∃ u v y fuel, cs.toList = [.iface u v] ∧ Tryd.prog.typeName? 3 u = some "*errors.errorString" ∧ DataW.trod (fun _ => ()) Tryd.prog w 0 (fun _ => true) false fuel u v.cells.toList = some (.ptr x, y) := by
    cases fuel with
    | zero => simp [DataW.trod] at hd
    | succ fuel =>
      unfold DataW.trod at hd
      rw [hu] at hd
      split at hd <;> simp_all
      split at hd <;> simp_all
      exact ⟨_, _, ⟨rfl, rfl⟩, by assumption, _, _, hd.1⟩
  obtain rfl := err_type u hnm
  have hcell : w.cell? ⟨g0, 0, none⟩ = some (.iface 98 v) := by
    rw [World.var?_cell hn hvar 0, ← Array.getElem?_toList, hc]
    rfl
  obtain ⟨b1, b2, hv⟩ : ∃ b1 b2, v.cells.toList = [.pointer (some ⟨b1, b2, none⟩)] := by
    rcases DataW.trod_pointer Tryd.underlying98 hin with ⟨_, h2⟩ | ⟨a, cs', y', m, _, h2, _, h3, _⟩
    · cases h2
    · have hs : a.spot = none := by
        unfold World.cells? at h3
        rw [show Tryd.prog.cellsOf 100 = 1 by kernel_rfl] at h3
        split at h3
        · obtain ⟨b, _, hb⟩ := mapM_at h3 0 0 (by simp)
          have := World.cell?_spot hb
          unfold Addr.add at this
          split at this <;> simp_all
        · cases h3
      obtain ⟨b1, b2, b3⟩ := a
      simp only at hs
      subst hs
      exact ⟨b1, b2, h2⟩
  have hptr : CL w (Old w) [.cptr (.agg [])] [.pointer (some ⟨b1, b2, none⟩)] := .cptr (c := []) (.agg .nil .nil) (fun j v h => by simp at h) .nil
  have fin : ∀ y : D, CL w (Old w) [y] v.cells.toList → vAgg v = y.isAgg → VD w (Old w) (.cptr (.iface 98 y)) (.pointer (some ⟨g0, 0, none⟩)) := by
    intro y h1 h2
    refine VD.of_single (.cptr (c := [.iface 98 v]) (.iface h1 h2 .nil) ?_ .nil) rfl
    intro j z hj
    cases j with
    | zero =>
      simp only [List.getElem?_cons_zero, Option.some.injEq] at hj
      subst hj
      exact ⟨hcell, World.block_lt_of_cell? w _ hcell⟩
    | succ j => simp at hj
  cases hg : vAgg v with
  | false => exact ⟨_, ⟨_, _, rfl⟩, fin (.cptr (.agg [])) (by rw [hv]; exact hptr) hg⟩
  | true => exact ⟨_, ⟨_, _, rfl⟩, fin (.agg [.cptr (.agg [])]) (by rw [hv]; exact .agg (cs := []) hptr .nil) hg⟩

theorem glE_reads {w : World} [E : Errs] (h1 : Lib.Utf8Tabs 0 1 w) (hz : ∀ j, j < 64 → w.cell? ⟨7, j, none⟩ = some (.int .u8 (tzF j)))
    (h2 : VD w (Old w) (.cptr E.s) (.pointer (some ⟨4, 0, none⟩))) (h3 : VD w (Old w) (.cptr E.r) (.pointer (some ⟨5, 0, none⟩))) :
    ∀ g x, cxE.glob g = some x → VD w (Old w) (.cptr x) (.pointer (some ⟨g, 0, none⟩)) := by
  intro g x hx
  change glE g = some x at hx
  unfold glE at hx
  split at hx
  · rename_i y hy
    cases hx
    exact gl_reads h1 (fun _ => hz) g _ hy
  · split at hx
    · rename_i e
      obtain rfl := Nat.eq_of_beq_eq_true e
      cases hx
      exact h2
    · split at hx
      · rename_i e
        obtain rfl := Nat.eq_of_beq_eq_true e
        cases hx
        exact h3
      · cases hx
end Go.Proofs.YtefcpmnhhmpmnaaDoor
