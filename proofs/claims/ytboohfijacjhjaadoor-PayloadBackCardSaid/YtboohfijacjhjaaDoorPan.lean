/- 'panics' of the law's package: whether 'Must' panics. Walked with the guide's rules for a deferred closure that recovers. -/
import Derived.Test.YtboohfijacjhjaaDoorP3
import Derived.Tactics
import Derived.Tactics2
import Derived.Defers
import Derived.Recover
import Derived.Laws.Pointers
namespace Go.Proofs.YtboohfijacjhjaaDoor
open Go.Ab

theorem catch_panicking (p : Addr) (x : Bool) (u : TypeId) (pv : Value) (older : List PanicEntry) (w : World) (hc : w.cell? p = some (.bool x)) (hz : w.frozen? p = false) :
    CallsD Tryd.prog 49 #[.pointer (some p)] (.panicking ({ v := .iface u pv, recovered := false } :: older)) w fun e u' w' =>
      e = .returned (.tuple #[]) ∧ u' = .panicking ({ v := .iface u pv, recovered := true } :: older) ∧ w' = w.setCell p (.bool true) := by
  refine callsD_of_wpS Tryd.func49 rfl fun c₀ cs hu => ?_
  apply wpS_region
  simp [wpOpsS, go_sem, recoverD, hu, Tryd.ntmps49, hc, hz, bodyPostS, results, Tryd.results49]

theorem catch_idle (p : Addr) (x : Bool) (w : World) (hc : w.cell? p = some (.bool x)) (hz : w.frozen? p = false) :
    CallsD Tryd.prog 49 #[.pointer (some p)] .returning w fun e u' w' => e = .returned (.tuple #[]) ∧ u' = .returning ∧ w' = w.setCell p (.bool false) := by
  refine callsD_of_wpS Tryd.func49 rfl fun c₀ cs hu => ?_
  apply wpS_region
  cases c₀
  simp_all [wpOpsS, go_sem, recoverD, Tryd.ntmps49, bodyPostS, results, Tryd.results49]

theorem three_first (w : World) (x : Value) (T : TypeId) (o p : Obj) : (((w.alloc (.cells #[x] T)).alloc o).alloc p).heap[w.heap.size]? = some (.cells #[x] T (0, 0)) := by
  show (((w.heap.push _).push _).push _)[w.heap.size]? = _
  rw [Array.getElem?_push, if_neg (by simp; omega), Array.getElem?_push, if_neg (by simp), Array.getElem?_push, if_pos rfl]

theorem two_first (w : World) (x : Value) (T : TypeId) (o : Obj) : ((w.alloc (.cells #[x] T)).alloc o).heap[w.heap.size]? = some (.cells #[x] T (0, 0)) := by
  show ((w.heap.push _).push _)[w.heap.size]? = _
  rw [Array.getElem?_push, if_neg (by simp), Array.getElem?_push, if_pos rfl]

theorem first_cell {w : World} {b : Nat} {x : Value} {T : TypeId} (h : w.heap[b]? = some (.cells #[x] T (0, 0))) : w.cell? ⟨b, 0, none⟩ = some x ∧ w.frozen? ⟨b, 0, none⟩ = false := by
  constructor
  · simp [World.cell?, h]
  · simp [World.frozen?, h]

theorem set_first {w : World} {b : Nat} {x : Value} {T : TypeId} (h : w.heap[b]? = some (.cells #[x] T (0, 0))) (y : Value) : (w.setCell ⟨b, 0, none⟩ y).heap[b]? = some (.cells #[y] T (0, 0)) := by
  simp [World.setCell, Array.getElem?_modify, h]

theorem next_set {w W : World} (h : Ab.Next w W none) (y : Value) : Ab.Next w (W.setCell ⟨w.heap.size, 0, none⟩ y) none :=
  ⟨h.os, h.tape, h.output, by show w.heap.size ≤ (W.heap.modify _ _).size; rw [Array.size_modify]; exact h.size, fun k hk hn => by
    rw [← h.heap k hk hn]
    show (W.heap.modify _ _)[k]? = _
    rw [Array.getElem?_modify, if_neg (by show ¬ w.heap.size = k; omega)]⟩

theorem next_alloc {w W : World} (h : Ab.Next w W none) (o : Obj) : Ab.Next w (W.alloc o) none :=
  ⟨h.os, h.tape, h.output, by show w.heap.size ≤ (W.heap.push _).size; rw [Array.size_push]; have := h.size; omega, fun k hk hn => by
    rw [← h.heap k hk hn]
    show (W.heap.push _)[k]? = _
    rw [Array.getElem?_push, if_neg (by have := h.size; omega)]⟩

theorem next_refl (w : World) : Ab.Next w w none := ⟨rfl, rfl, rfl, Nat.le_refl _, fun _ _ _ => rfl⟩

theorem ta_panics (i c : Option TypeId) (a : TypeId) (m : String) : ∃ cs, ∀ w : World, (runtimePanic (.typeAssertion i c a m) : Sem Value).run Tryd.prog w =
    .halt (.panic (.iface Tryd.prog.rt.typeAssertionError (.pointer (some ⟨w.heap.size, 0, none⟩)))) (w.alloc (.cells cs 261)) := by
  have h : Tryd.prog.underlying Tryd.prog.rt.typeAssertionError = some (.pointer 261) := by kernel_rfl
  refine ⟨#[match i with | some t => typeHandle Tryd.prog t | none => .pointer none, match c with | some t => typeHandle Tryd.prog t | none => .pointer none, typeHandle Tryd.prog a, strVal m], fun w => ?_⟩
  simp only [runtimePanic, Sem.run_bind, run_program, Result.andThen_ok, elemOf, run_underlying h, Sem.run_pure, newVar, newRow]
  rfl

theorem ta_fails {v : Value} (hv : v = .nilIface ∨ ∃ t u, v = .iface t u ∧ t ≠ 32) : ∃ cs, ∀ w : World, (Instr.typeAssert v 20 32 false).run Tryd.prog w =
    .halt (.panic (.iface Tryd.prog.rt.typeAssertionError (.pointer (some ⟨w.heap.size, 0, none⟩)))) (w.alloc (.cells cs 261)) := by
  rcases hv with rfl | ⟨t, u, rfl, hn⟩
  · obtain ⟨cs, h⟩ := ta_panics (some 20) none 32 ""
    exact ⟨cs, fun w => by simp [Instr.typeAssert, run_underlying Tryd.underlying32, h]⟩
  · obtain ⟨cs, h⟩ := ta_panics (some 20) (some t) 32 ""
    exact ⟨cs, fun w => by simp [Instr.typeAssert, run_underlying Tryd.underlying32, h, hn]⟩

set_option maxRecDepth 100000 in
theorem panics_yes {v : Value} (hv : v = .nilIface ∨ ∃ t u, v = .iface t u ∧ t ≠ 32) (w : World) :
    Calls Tryd.prog 16 #[v] w fun e w' => e = .returned (.bool true) ∧ Ab.Next w w' none := by
  have hmf : ∀ (fn : Fn) (first cap : Array Value) (w : World), (Instr.makeFunc fn first cap).run Tryd.prog w = .ok (.func fn first cap) w := fun _ _ _ _ => rfl
  obtain ⟨cs, hta⟩ := ta_fails hv
  clear hv
  generalize Tryd.prog.rt.typeAssertionError = tae at hta
  go_enter_defers Tryd.func16, Tryd.ntmps16
  go_wp2
  refine ⟨rfl, ?_⟩
  change Leaves Tryd.prog Tryd.f16 _ _ _ _ _
  refine leaves_cons (f := 49) (args := #[.pointer (some ⟨w.heap.size, 0, none⟩)]) (by simp) (by simp [go_sem]) ?_
  refine (catch_panicking ⟨w.heap.size, 0, none⟩ false _ _ [] _ ?_ ?_).mono ?_
  · exact (first_cell (three_first w _ _ _ _)).1
  · exact (first_cell (three_first w _ _ _ _)).2
  rintro e u' w'' ⟨rfl, rfl, rfl⟩
  simp [Leaves, settle, results, Tryd.results16, go_sem]
  first | exact next_alloc (next_alloc (next_alloc (next_refl w) _) _) _ | exact next_set (next_alloc (next_alloc (next_alloc (next_refl w) _) _) _) _

theorem must_c {o n : Int} {a b : ByteArray} : CallR cx 17 [.d (.iface 32 (.agg [.int .u32 o, .str a, .str b, .int .u64 n]))] [] fun r S => r = .d (.agg [.int .u32 o, .str a, .str b, .int .u64 n]) ∧ S = [] := by
  refine callR_of (R := R1) cx_ok Tryd.func17 (by kernel_rfl) rfl ?_
  conv => whnf
  exact ⟨rfl, rfl⟩

/-- The same program, where no package variable is spoken of. -/
noncomputable def cx0 : Ctx := { P := Tryd.prog, tt := ty.look, glob := fun _ => none }
theorem cx0_ok : cx0.ok := tab_ok ty_fits
theorem must0_c {o n : Int} {a b : ByteArray} : CallR cx0 17 [.d (.iface 32 (.agg [.int .u32 o, .str a, .str b, .int .u64 n]))] [] fun r S => r = .d (.agg [.int .u32 o, .str a, .str b, .int .u64 n]) ∧ S = [] := by
  refine callR_of (R := R1) cx0_ok Tryd.func17 (by kernel_rfl) rfl ?_
  conv => whnf
  exact ⟨rfl, rfl⟩

theorem st_nil (w : World) : St (base cx0 [] (fun _ => undef) (fun _ _ => False) w) [] (fun _ => undef) (fun _ _ => False) w where
  blks := fun i b h => by simp at h
  apart := fun i j b d h => by simp at h
  free := fun i b n h => by simp at h
  gv := fun _ _ h => h.elim
  k0 := Nat.le_refl _
  keep := fun _ _ => rfl
  g0 := fun _ _ h => h
  gn := fun _ _ h => h.elim
  new := fun i b n _ h => by simp at h
  os := rfl
  tape := rfl
  output := rfl
  size := Nat.le_refl _
  fr := fun _ _ _ => rfl
  lv := fun i b _ h => by simp at h
  glob := fun g x h => by cases h
  gw := fun _ _ _ _ h => h

theorem cells_four (o n : Int) (a b : ByteArray) (w : World) (G : Nat → Nat → Prop) : VD w G (.iface 32 (.agg [.int .u32 o, .str a, .str b, .int .u64 n])) (.iface 32 (.agg #[.int .u32 o, .string a, .string b, .int .u64 n])) :=
  VD.of_single (.iface (by simpa [Value.cells] using CL.agg (w := w) (G := G) (.int (.str (.str (.int .nil)))) .nil) rfl .nil) rfl

theorem must_calls (o n : Int) (a b : ByteArray) (w : World) :
    Calls Tryd.prog 17 #[.iface 32 (.agg #[.int .u32 o, .string a, .string b, .int .u64 n])] w fun e w' => ∃ v, e = .returned v ∧ Ab.Next w w' none := by
  have h := must0_c (o := o) (n := n) (a := a) (b := b) (fun _ => undef) (fun _ _ => False) w [.iface 32 (.agg #[.int .u32 o, .string a, .string b, .int .u64 n])] (st_nil w) (.cons (VA.d_iff.2 (cells_four o n a b w _)) .nil)
  rcases h with ⟨_, h⟩ | ⟨v, w', h, _⟩
  · refine h.mono ?_
    rintro e w' ⟨v, r, S', μ', G', rfl, _, st', _⟩
    exact ⟨v, rfl, st'.os, st'.tape, st'.output, st'.size, fun k hk _ => st'.fr k hk (fun ⟨i, hi, _⟩ => by simp [base] at hi)⟩
  · have hent : (callFunc 17 #[.iface 32 (.agg #[.int .u32 o, .string a, .string b, .int .u64 n])]).run Tryd.prog w = .ok (.enter 17 #[.iface 32 (.agg #[.int .u32 o, .string a, .string b, .int .u64 n])]) w := by
      simp only [callFunc, Sem.run_bind, run_program, Result.andThen_ok, Tryd.func17]
      rfl
    have h' := h.symm.trans hent
    cases h'

theorem alloc_first (w : World) (x : Value) (T : TypeId) : (w.alloc (.cells #[x] T)).heap[w.heap.size]? = some (.cells #[x] T (0, 0)) := by
  show (w.heap.push _)[w.heap.size]? = _
  rw [Array.getElem?_push, if_pos rfl]

theorem next_first {w w1 : World} {x : Value} {T : TypeId} (h : Ab.Next (w.alloc (.cells #[x] T)) w1 none) : w1.heap[w.heap.size]? = some (.cells #[x] T (0, 0)) := by
  rw [h.heap _ (by show w.heap.size < (w.heap.push _).size; simp) (by simp)]
  exact alloc_first w x T

theorem next_trans {w w1 w2 : World} (h : Ab.Next w w1 none) (g : Ab.Next w1 w2 none) : Ab.Next w w2 none :=
  ⟨g.os.trans h.os, g.tape.trans h.tape, g.output.trans h.output, Nat.le_trans h.size g.size, fun k hk hn => by rw [g.heap k (Nat.lt_of_lt_of_le hk h.size) hn, h.heap k hk hn]⟩

set_option maxRecDepth 100000 in
theorem panics_no (o n : Int) (a b : ByteArray) (w : World) :
    Calls Tryd.prog 16 #[.iface 32 (.agg #[.int .u32 o, .string a, .string b, .int .u64 n])] w fun e w' => e = .returned (.bool false) ∧ Ab.Next w w' none := by
  have hmf : ∀ (fn : Fn) (first cap : Array Value) (w : World), (Instr.makeFunc fn first cap).run Tryd.prog w = .ok (.func fn first cap) w := fun _ _ _ _ => rfl
  go_enter_defers Tryd.func16, Tryd.ntmps16
  go_wp2_with (go_at_call 17; refine (must_calls o n a b _).mono ?_; rintro e w1 ⟨v, rfl, hn⟩; have hc1 := (first_cell (next_first hn)).1; have hz1 := (first_cell (next_first hn)).2)
  have hs := set_first (next_first hn) (.bool false)
  refine leaves_cons (f := 49) (args := #[.pointer (some ⟨w.heap.size, 0, none⟩)]) (by simp) (by simp [go_sem]) ?_
  refine (catch_idle ⟨w.heap.size, 0, none⟩ false _ (first_cell hs).1 (first_cell hs).2).mono ?_
  rintro e u' w'' ⟨rfl, rfl, rfl⟩
  have h1 := (first_cell (set_first hs (.bool false))).1
  simp [Leaves, settle, results, Tryd.results16, go_sem, h1]
  exact next_set (next_set (next_trans (next_alloc (next_refl w) _) hn) _) _

theorem ent16 (v : Value) (w : World) : (callFunc 16 #[v]).run Tryd.prog w = .ok (.enter 16 #[v]) w := by
  simp only [callFunc, Sem.run_bind, run_program, Result.andThen_ok, Tryd.func16]
  rfl

theorem panics_of {x : D} {b : Bool} (h : ∀ (G : Nat → Nat → Prop) (w : World) (v : Value), VD w G x v → Calls Tryd.prog 16 #[v] w fun e w' => e = .returned (.bool b) ∧ Ab.Next w w' none) :
    CallR cx 16 [.d x] [] fun r S => r = bo b ∧ S = [] := by
  intro μ G w vals st hv
  cases hv with
  | cons h1 hv =>
    cases hv
    refine .inl ⟨ent16 _ w, (h G w _ (VA.d_iff.1 h1)).mono ?_⟩
    rintro e w' ⟨rfl, hn⟩
    exact ⟨_, _, [], μ, G, rfl, ⟨rfl, rfl⟩, st.quiet hn, VD.bool.ra⟩

theorem four_inv {w : World} {G : Nat → Nat → Prop} {o n : Int} {a b : ByteArray} {u : Value} (h : VD w G (.agg [.int .u32 o, .str a, .str b, .int .u64 n]) u) : u = .agg #[.int .u32 o, .string a, .string b, .int .u64 n] := by
  rcases h.inv with ⟨_, cs, rfl, h2⟩ | ⟨h2, _⟩
  · have h := h2.agg_inv
    clear h2
    generalize hl : cs.toList = l at h
    cases h with | int h => cases h with | str h => cases h with | str h => cases h with | int h =>
      cases h
      congr 1
      exact Array.ext' hl
  · cases h2

theorem panics_no_c {o n : Int} {a b : ByteArray} : CallR cx 16 [.d (.iface 32 (.agg [.int .u32 o, .str a, .str b, .int .u64 n]))] [] fun r S => r = bo false ∧ S = [] :=
  panics_of fun G w v hv => by
    obtain ⟨u, rfl, hu⟩ := hv.iface_inv
    rw [four_inv hu]
    exact panics_no o n a b w

theorem panics_yes_c {x : D} (hx : x = .nilI ∨ ∃ t y, x = .iface t y ∧ t ≠ 32) : CallR cx 16 [.d x] [] fun r S => r = bo true ∧ S = [] :=
  panics_of fun G w v hv => by
    refine panics_yes ?_ w
    rcases hx with rfl | ⟨t, y, rfl, hn⟩
    · exact .inl hv.nilI_inv
    · obtain ⟨u, rfl, _⟩ := hv.iface_inv
      exact .inr ⟨t, u, rfl, hn⟩
end Go.Proofs.YtboohfijacjhjaaDoor
