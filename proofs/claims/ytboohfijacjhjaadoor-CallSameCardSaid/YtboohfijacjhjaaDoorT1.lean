/- What one statement needs of the texts, by slice.py. -/
import Derived.Test.YtboohfijacjhjaaDoorTy
import Derived.Test.YtboohfijacjhjaaDoorAbZ
import Derived.Shelf.RegionOpenPlain
import Derived.Lib.Walk
import Derived.Lib.Builder
import Derived.Lib.AppendStr
import Derived.Lib.UnsafeStr
import Derived.WalkKit
import Derived.Laws.Externs
import Derived.Shelf.Unicode.DecodeAny
import Derived.Test.YtboohfijacjhjaaDoorProg
import Derived.Lib.DecodeN

/- The program's context in the own logic: types, the weights of calls. -/
namespace Go.Proofs.YtboohfijacjhjaaDoor
open Go.Ab
/-- What call.weights holds. -/
def wgL : List Int := [0, 1, 3, 2, 2, 4, 6, 8, 4, 8, 4, 4, 5]
def intsD (k : IntKind) (l : List Int) : D := .arr l.length 1 (l.map fun z => .int k z)
def gl (g : Nat) : Option D := match Nat.beq g 0 with
  | true => some (intsD .u64 wgL)
  | false => none
def rwsOf (t : Nat) : Option (List (Option TypeId)) := match Nat.beq t 199 with
  | true => some [none, some 5]
  | false => none
def rowfOf (_ : Nat) : Bool := false
def mksOf (_ : Nat) : Bool := false
noncomputable def cx : Ctx := { P := Tryd.prog, tt := ty.look, glob := gl, rws := rwsOf, rowf := rowfOf, mks := mksOf }
theorem cx_ok : cx.ok := tab_ok ty_fits
theorem laid : laidOutB Tryd.prog = true := by kernel_rfl
abbrev u64 (n : Int) : AV := .d (.int .u64 n)
abbrev i64 (n : Int) : AV := .d (.int .i64 n)
abbrev u8 (n : Int) : AV := .d (.int .u8 n)
abbrev bo (b : Bool) : AV := .d (.bool b)
abbrev st (s : ByteArray) : AV := .d (.str s)

theorem CL.intsK {w G} {k : IntKind} : ∀ l : List Int, CL w G (l.map fun z => D.int k z) (l.map fun z => Value.int k z)
  | [] => .nil
  | _ :: l => .int (CL.intsK l)

theorem ints_glob {w : World} {g : Nat} {k : IntKind} {l : List Int} (h : ∀ j v, (l.map fun z => Value.int k z)[j]? = some v → w.cell? ⟨g, j, none⟩ = some v) : VD w (Old w) (.cptr (intsD k l)) (.pointer (some ⟨g, 0, none⟩)) := by
  refine VD.of_single (.cptr (c := l.map fun z => Value.int k z) ?_ ?_ .nil) rfl
  · have := CL.arr (n := l.length) (sz := 1) (CL.intsK (w := w) (G := Old w) (k := k) l) (by simp) (fun x hx => by obtain ⟨j, _, rfl⟩ := List.mem_map.1 hx; rfl) (r := []) (cs := []) .nil
    rw [List.append_nil] at this
    exact this
  · intro j v hj
    rw [Nat.zero_add]
    exact ⟨h j v hj, World.block_lt_of_cell? w _ (h j v hj)⟩

theorem glw_reads {w : World} (h : ∀ j v, (wgL.map fun z => Value.int .u64 z)[j]? = some v → w.cell? ⟨0, j, none⟩ = some v) : ∀ g x, cx.glob g = some x → VD w (Old w) (.cptr x) (.pointer (some ⟨g, 0, none⟩)) := by
  intro g x hx
  change gl g = some x at hx
  unfold gl at hx
  split at hx
  · rename_i e
    obtain rfl := Nat.eq_of_beq_eq_true e
    cases hx
    exact ints_glob h
  · cases hx
/-- A contract out of a run of a function that has a body. -/
theorem callR_raw {c : Ctx} {f : FuncId} {fn : Func} {args : List AV} {S : List Blk} {Post : AV → List Blk → Prop} (hf : c.P.funcs[f]? = some fn) (hname : (fn.name == "runtime.NumGoroutine") = false) (hb : fn.body.isSome = true)
    (h : ∀ (μ : Nat → Value) (G : Nat → Nat → Prop) (w : World) (vals : List Value), St (base c S μ G w) S μ G w → VS μ S.length w G args vals →
      Calls c.P f vals.toArray w fun e w' => ∃ v r S' μ' G', e = .returned v ∧ Post r S' ∧ St (base c S μ G w) S' μ' G' w' ∧ RA μ' S'.length w' G' r v) : CallR c f args S Post := by
  intro μ G w vals st hv
  left
  constructor
  · cases hbb : fn.body with
    | none => rw [hbb] at hb; cases hb
    | some code =>
      simp only [callFunc, Sem.run_bind, run_program, Result.andThen_ok, hf, hname, hbb]
      rfl
  · exact h μ G w vals st hv
end Go.Proofs.YtboohfijacjhjaaDoor

/- strings.Builder: copyCheck, WriteString, WriteByte, Write, String, in the own logic: a builder is a variable that holds its own place and a row of bytes. -/
namespace Go.Ab
open Go.RowKit

/-- A live block's own memory turns, but not its cells. -/
theorem St.turn {B S μ G w} (st : St B S μ G w) {w' : World} {n g : Nat} {b : Blk} (hn : S[n]? = some b) (hl : b.live = true) (hg : bid (μ n) = some g) (h : Next w w' (some g))
    (hcell : ∀ o, w'.cell? ⟨g, o, none⟩ = w.cell? ⟨g, o, none⟩) (hb : BlkOk μ S.length w' G (μ n) b) : St B S μ G w' := by
  have hc := h.cells st.gv (G := G) (fun k hk o v _ hv => by cases hk; rw [hcell]; exact hv)
  exact {
    blks := by
      intro i d hd
      by_cases e : i = n
      · subst e; rw [hn] at hd; cases hd; exact hb
      · refine (st.blks i d hd).mono (Nat.le_refl _) (fun _ _ _ => rfl) (fun _ _ h => h) hc (fun hl1 m hm => h.heap m ((st.blks i d hd).bid_lt hl1 m hm) ?_)
        intro e'
        cases e'
        exact st.apart n i b d hn hd hl hl1 (Ne.symm e) g hg hm
    apart := st.apart
    free := st.free
    gv := fun b o hG => Nat.lt_of_lt_of_le (st.gv b o hG) h.size
    k0 := st.k0
    keep := st.keep
    g0 := st.g0
    gn := st.gn
    new := st.new
    os := h.os.trans st.os
    tape := h.tape.trans st.tape
    output := h.output.trans st.output
    size := Nat.le_trans st.size h.size
    fr := by
      intro k hk hx
      refine (h.heap k (Nat.lt_of_lt_of_le hk st.size) ?_).trans (st.fr k hk hx)
      intro e
      cases e
      by_cases hi : n < B.k0
      · exact hx (st.xx hi hn hl hg)
      · rcases st.new n b g (by omega) hn hl hg with h | h
        · omega
        · exact hx h
    lv := st.lv
    glob := fun g x hg => (st.glob g x hg).mono (fun _ _ h => h) hc
    gw := fun b o v h1 h2 => hc b o v (st.g0 b o h1) (st.gw b o v h1 h2) }

theorem VS.ptr0 {μ k w G vals} (h : VS μ k w G [.ptr 0 []] vals) : ∃ b, vals = [.pointer (some ⟨b, 0, none⟩)] ∧ μ 0 = .pointer (some ⟨b, 0, none⟩) := by
  obtain ⟨v, rfl, h1⟩ := VS.one h
  obtain ⟨b, _, h3, _, e⟩ := h1.ptr_inv
  exact ⟨b, by rw [e]; rfl, h3.nil⟩

theorem bytes_append (s t : ByteArray) : D.bytes (s ++ t) = D.bytes s ++ D.bytes t := by
  unfold D.bytes
  rw [ByteArray.data_append, Array.toList_append, List.map_append]

theorem freeze_next (w : World) (g n : Nat) : Next w (w.freeze ⟨g, 0, none⟩ n) (some g) := by
  unfold World.freeze
  split
  · exact ⟨rfl, rfl, rfl, Nat.le_refl _, fun _ _ _ => rfl⟩
  · refine ⟨rfl, rfl, rfl, by simp, fun k hk hne => ?_⟩
    simp only [Array.getElem?_modify]
    rw [if_neg (fun e => hne (by rw [e]))]

theorem freeze_heap {w : World} {g n : Nat} {cur : Array Value} {t : TypeId} {fz : Nat × Nat} (h : w.heap[g]? = some (.cells cur t fz)) :
    ∃ fz' : Nat × Nat, (w.freeze ⟨g, 0, none⟩ n).heap[g]? = some (.cells cur t fz') ∧ (fz.2 ≤ n → fz'.2 ≤ n) := by
  unfold World.freeze
  split
  · exact ⟨fz, h, fun h => h⟩
  · obtain ⟨lo, hi⟩ := fz
    refine ⟨if lo == hi then (0, 0 + n) else (min lo 0, max hi (0 + n)), ?_, ?_⟩
    · simp [Array.getElem?_modify, h]
    · intro hle
      simp only at hle
      split
      · simp
      · simp only [Nat.zero_add]; omega
end Go.Ab
namespace Go.Proofs.YtboohfijacjhjaaDoor
open Go.Ab Go.RowKit

/-- A builder and its bytes. -/
abbrev bd (p : AV) (s : ByteArray) : List Blk := [.tvar 199 (.agg [p, .row 1]), .row 5 1 (D.bytes s)]

set_option maxHeartbeats 1000000 in
set_option maxRecDepth 100000 in
theorem raw_copy_used (b : Nat) (w : World) (h0 : w.cell? ⟨b, 0, none⟩ = some (.pointer (some ⟨b, 0, none⟩))) :
    Calls Tryd.prog 134 #[.pointer (some ⟨b, 0, none⟩)] w fun e w' => e = .returned (.tuple #[]) ∧ w' = w := by
  obtain ⟨j, hj, _⟩ := Option.map_eq_some_iff.1 (show (Tryd.prog.info? 199).map (·.size) = some 2 by kernel_rfl)
  have mixed : Tryd.prog.follows .mixedOrders = true := by kernel_rfl
  have t72 := Tryd.underlying199; have a72 := Tryd.isAgg199; have z72 := Tryd.sizeOf199; have v72 := Tryd.zeroValue199; have u72 := run_underlying t72
  have t70 := Tryd.underlying197; have a70 := Tryd.isAgg197; have z70 := Tryd.sizeOf197; have v70 := Tryd.zeroValue197; have u70 := run_underlying t70
  have t9 := Tryd.underlying9; have a9 := Tryd.isAgg9; have z9 := Tryd.sizeOf9; have v9 := Tryd.zeroValue9; have u9 := run_underlying t9
  have t4 := Tryd.underlying4; have a4 := Tryd.isAgg4; have z4 := Tryd.sizeOf4; have v4 := Tryd.zeroValue4; have u4 := run_underlying t4
  have t164 := Tryd.underlying237; have a164 := Tryd.isAgg237; have z164 := Tryd.sizeOf237; have v164 := Tryd.zeroValue237; have u164 := run_underlying t164
  go_enter Tryd.func134, Tryd.ntmps134
  go_wp2
  rw [Lib.run_neq_ptr_same w _ t70 hj]
  go_wp2
  go_end0
  exact ⟨rfl, rfl⟩

set_option maxHeartbeats 1000000 in
set_option maxRecDepth 100000 in
theorem raw_copy_fresh (b : Nat) (w : World) (h0 : w.cell? ⟨b, 0, none⟩ = some (.pointer none)) (hsh : w.shape? b = some (199, 2)) (hfz : w.frozen? ⟨b, 0, none⟩ = false) :
    Calls Tryd.prog 134 #[.pointer (some ⟨b, 0, none⟩)] w fun e w' => e = .returned (.tuple #[]) ∧ w' = w.setCell ⟨b, 0, none⟩ (.pointer (some ⟨b, 0, none⟩)) := by
  obtain ⟨j, hj, hjs⟩ := Option.map_eq_some_iff.1 (show (Tryd.prog.info? 199).map (·.size) = some 2 by kernel_rfl)
  have hlies : liesAt Tryd.prog Tryd.prog.depth 199 (2 / Tryd.prog.cellsOf 199) 0 199 1 = true := by kernel_rfl
  have mixed : Tryd.prog.follows .mixedOrders = true := by kernel_rfl
  have t72 := Tryd.underlying199; have a72 := Tryd.isAgg199; have z72 := Tryd.sizeOf199; have v72 := Tryd.zeroValue199; have u72 := run_underlying t72
  have t70 := Tryd.underlying197; have a70 := Tryd.isAgg197; have z70 := Tryd.sizeOf197; have v70 := Tryd.zeroValue197; have u70 := run_underlying t70
  have t9 := Tryd.underlying9; have a9 := Tryd.isAgg9; have z9 := Tryd.sizeOf9; have v9 := Tryd.zeroValue9; have u9 := run_underlying t9
  have t4 := Tryd.underlying4; have a4 := Tryd.isAgg4; have z4 := Tryd.sizeOf4; have v4 := Tryd.zeroValue4; have u4 := run_underlying t4
  have t164 := Tryd.underlying237; have a164 := Tryd.isAgg237; have z164 := Tryd.sizeOf237; have v164 := Tryd.zeroValue237; have u164 := run_underlying t164
  go_enter Tryd.func134, Tryd.ntmps134
  go_wp2
  rw [Lib.run_to_unsafe w ⟨b, 0, none⟩ t70 t164 hj (by rw [hjs]; decide) hsh (Nat.zero_lt_succ 1)]
  simp only [Result.andThen]
  rw [Oper.upon_value]
  go_wp2
  rw [run_callFunc_extern Tryd.func144 (by kernel_rfl) (by kernel_rfl) (by kernel_rfl) (e := Extern.AbiNoEscape.same) (by kernel_rfl)]
  rw [Lib.run_noEscape]
  simp only [Result.andThen]
  rw [Oper.upon_value]
  go_wp2
  rw [Lib.run_from_unsafe w ⟨b, 0, none⟩ t164 t70 hj hsh hlies]
  simp only [Result.andThen]
  rw [Oper.upon_value]
  go_wp2
  go_end0
  exact ⟨rfl, rfl⟩
end Go.Proofs.YtboohfijacjhjaaDoor

/- strings.Builder: String, in the own logic. -/
namespace Go.Ab
open Go.RowKit
theorem Next.ofDrew {w w' : World} {n : Option Nat} (h : Next w.drew w' n) : Next w w' n := ⟨h.os, h.tape, h.output, h.size, h.heap⟩
theorem Next.toDrew {w w' : World} {n : Option Nat} (h : Next w w' n) : Next w w'.drew n := ⟨h.os, h.tape, h.output, h.size, h.heap⟩
theorem next_alloc1 (w : World) (o : Obj) (q : Option Nat) : Next w (w.alloc o) q :=
  ⟨rfl, rfl, rfl, by show w.heap.size ≤ (w.heap.push _).size; simp, fun k hk _ => by
    show (w.heap.push _)[k]? = _
    rw [Array.getElem?_push, if_neg (by omega)]⟩
end Go.Ab
namespace Go.Proofs.YtboohfijacjhjaaDoor
open Go.Ab Go.RowKit

set_option maxHeartbeats 2000000 in
set_option maxRecDepth 100000 in
theorem raw_string_some (b g cap : Nat) (p : Value) (cur : Array Value) (fz : Nat × Nat) (l : List UInt8) (w : World) (h0 : l ≠ []) (hbk : w.heap[b]? = some (.cells #[p, .slice (some ⟨g, 0, none⟩) l.length cap] 199 (0, 0)))
    (hg : w.heap[g]? = some (.cells cur 5 fz)) (hnc : l.length ≤ cap) (hcm : cap ≤ maxLen) (hcs : cur.size = cap) (hcells : ∀ j x, l[j]? = some x → w.cell? ((⟨g, 0, none⟩ : Addr).add j) = some (.int .u8 x.toNat)) :
    Calls Tryd.prog 117 #[.pointer (some ⟨b, 0, none⟩)] w fun e w' => e = .returned (.string ⟨l.toArray⟩) ∧ w' = w.drew.freeze ⟨g, 0, none⟩ l.length := by
  have hl0 : l.length ≠ 0 := by simpa using h0
  have c1 : w.drew.cell? ⟨b, 1, none⟩ = some (.slice (some ⟨g, 0, none⟩) l.length cap) := by
    have : w.drew.heap[b]? = some (.cells #[p, .slice (some ⟨g, 0, none⟩) l.length cap] 199 (0, 0)) := hbk
    rw [Lib.cell_of_heap this]; rfl
  have hSD : (Builtin.unsafeSliceData_ #[187] 220 #[.slice (some ⟨g, 0, none⟩) l.length cap]).run Tryd.prog w.drew = .ok (.pointer (some ⟨g, 0, none⟩)) w.drew :=
    Lib.run_unsafeSliceData_row _ _ _ _ _ _ (by omega)
  have hUS : (Builtin.unsafeString_ #[220, 3] 9 #[.pointer (some ⟨g, 0, none⟩), .int .i64 l.length]).run Tryd.prog w.drew = .ok (.string ⟨l.toArray⟩) (w.drew.freeze ⟨g, 0, none⟩ l.length) := by
    refine Lib.run_unsafeString_row w.drew 220 3 9 5 Tryd.underlying220 (by kernel_rfl) g cur.size (by have hg' : w.drew.heap[g]? = some (.cells cur 5 fz) := hg; simp [World.shape?, hg']) l h0 (by omega) (by unfold maxLen at hcm; omega) ?_
    intro j x hx
    exact hcells j x hx
  have mixed : Tryd.prog.follows .mixedOrders = true := by kernel_rfl
  have t72 := Tryd.underlying199; have a72 := Tryd.isAgg199; have z72 := Tryd.sizeOf199; have v72 := Tryd.zeroValue199; have u72 := run_underlying t72
  have t70 := Tryd.underlying197; have a70 := Tryd.isAgg197; have z70 := Tryd.sizeOf197; have v70 := Tryd.zeroValue197; have u70 := run_underlying t70
  have t37 := Tryd.underlying187; have a37 := Tryd.isAgg187; have z37 := Tryd.sizeOf187; have v37 := Tryd.zeroValue187; have u37 := run_underlying t37
  have t127 := Tryd.underlying220; have a127 := Tryd.isAgg220; have z127 := Tryd.sizeOf220; have v127 := Tryd.zeroValue220; have u127 := run_underlying t127
  have t3 := Tryd.underlying3; have a3 := Tryd.isAgg3; have z3 := Tryd.sizeOf3; have v3 := Tryd.zeroValue3; have u3 := run_underlying t3
  have t9 := Tryd.underlying9; have a9 := Tryd.isAgg9; have z9 := Tryd.sizeOf9; have v9 := Tryd.zeroValue9; have u9 := run_underlying t9
  have t5 := Tryd.underlying5; have a5 := Tryd.isAgg5; have z5 := Tryd.sizeOf5; have v5 := Tryd.zeroValue5; have u5 := run_underlying t5
  go_enter Tryd.func117, Tryd.ntmps117
  go_wp2
  go_region_o
  all_goals (go_wp2; go_ret; exact ⟨rfl, rfl⟩)

set_option maxHeartbeats 2000000 in
set_option maxRecDepth 100000 in
theorem raw_string_nil (b : Nat) (p : Value) (w : World) (hbk : w.heap[b]? = some (.cells #[p, .slice none 0 0] 199 (0, 0))) :
    Calls Tryd.prog 117 #[.pointer (some ⟨b, 0, none⟩)] w fun e w' => e = .returned (.string ⟨#[]⟩) ∧ w' = w.drew := by
  have hUS : ∀ (W : World) (q : Option Addr), (Builtin.unsafeString_ #[220, 3] 9 #[.pointer q, .int .i64 0]).run Tryd.prog W = .ok (.string .empty) W := fun W q => Lib.run_unsafeString_none W _ _ _ q
  have c1 : w.drew.cell? ⟨b, 1, none⟩ = some (.slice none 0 0) := by
    have : w.drew.heap[b]? = some (.cells #[p, .slice none 0 0] 199 (0, 0)) := hbk
    rw [Lib.cell_of_heap this]; rfl
  have hSD : (Builtin.unsafeSliceData_ #[187] 220 #[.slice none 0 0]).run Tryd.prog w.drew = .ok (.pointer none) w.drew := rfl
  have mixed : Tryd.prog.follows .mixedOrders = true := by kernel_rfl
  have t72 := Tryd.underlying199; have a72 := Tryd.isAgg199; have z72 := Tryd.sizeOf199; have v72 := Tryd.zeroValue199; have u72 := run_underlying t72
  have t70 := Tryd.underlying197; have a70 := Tryd.isAgg197; have z70 := Tryd.sizeOf197; have v70 := Tryd.zeroValue197; have u70 := run_underlying t70
  have t37 := Tryd.underlying187; have a37 := Tryd.isAgg187; have z37 := Tryd.sizeOf187; have v37 := Tryd.zeroValue187; have u37 := run_underlying t37
  have t127 := Tryd.underlying220; have a127 := Tryd.isAgg220; have z127 := Tryd.sizeOf220; have v127 := Tryd.zeroValue220; have u127 := run_underlying t127
  have t3 := Tryd.underlying3; have a3 := Tryd.isAgg3; have z3 := Tryd.sizeOf3; have v3 := Tryd.zeroValue3; have u3 := run_underlying t3
  have t9 := Tryd.underlying9; have a9 := Tryd.isAgg9; have z9 := Tryd.sizeOf9; have v9 := Tryd.zeroValue9; have u9 := run_underlying t9
  have t5 := Tryd.underlying5; have a5 := Tryd.isAgg5; have z5 := Tryd.sizeOf5; have v5 := Tryd.zeroValue5; have u5 := run_underlying t5
  go_enter Tryd.func117, Tryd.ntmps117
  go_wp2
  go_region_o
  all_goals (go_wp2; go_ret; exact ⟨rfl, rfl⟩)

set_option maxHeartbeats 2000000 in
set_option maxRecDepth 100000 in
theorem raw_string_room (b g cap : Nat) (p : Value) (w : World) (hc0 : cap ≠ 0) (hbk : w.heap[b]? = some (.cells #[p, .slice (some ⟨g, 0, none⟩) 0 cap] 199 (0, 0))) :
    Calls Tryd.prog 117 #[.pointer (some ⟨b, 0, none⟩)] w fun e w' => e = .returned (.string ⟨#[]⟩) ∧ w' = w.drew := by
  have hUS : ∀ (W : World) (q : Option Addr), (Builtin.unsafeString_ #[220, 3] 9 #[.pointer q, .int .i64 0]).run Tryd.prog W = .ok (.string .empty) W := fun W q => Lib.run_unsafeString_none W _ _ _ q
  have c1 : w.drew.cell? ⟨b, 1, none⟩ = some (.slice (some ⟨g, 0, none⟩) 0 cap) := by
    have : w.drew.heap[b]? = some (.cells #[p, .slice (some ⟨g, 0, none⟩) 0 cap] 199 (0, 0)) := hbk
    rw [Lib.cell_of_heap this]; rfl
  have hSD : (Builtin.unsafeSliceData_ #[187] 220 #[.slice (some ⟨g, 0, none⟩) 0 cap]).run Tryd.prog w.drew = .ok (.pointer (some ⟨g, 0, none⟩)) w.drew :=
    Lib.run_unsafeSliceData_row _ _ _ _ _ _ hc0
  clear hc0
  have mixed : Tryd.prog.follows .mixedOrders = true := by kernel_rfl
  have t72 := Tryd.underlying199; have a72 := Tryd.isAgg199; have z72 := Tryd.sizeOf199; have v72 := Tryd.zeroValue199; have u72 := run_underlying t72
  have t70 := Tryd.underlying197; have a70 := Tryd.isAgg197; have z70 := Tryd.sizeOf197; have v70 := Tryd.zeroValue197; have u70 := run_underlying t70
  have t37 := Tryd.underlying187; have a37 := Tryd.isAgg187; have z37 := Tryd.sizeOf187; have v37 := Tryd.zeroValue187; have u37 := run_underlying t37
  have t127 := Tryd.underlying220; have a127 := Tryd.isAgg220; have z127 := Tryd.sizeOf220; have v127 := Tryd.zeroValue220; have u127 := run_underlying t127
  have t3 := Tryd.underlying3; have a3 := Tryd.isAgg3; have z3 := Tryd.sizeOf3; have v3 := Tryd.zeroValue3; have u3 := run_underlying t3
  have t9 := Tryd.underlying9; have a9 := Tryd.isAgg9; have z9 := Tryd.sizeOf9; have v9 := Tryd.zeroValue9; have u9 := run_underlying t9
  have t5 := Tryd.underlying5; have a5 := Tryd.isAgg5; have z5 := Tryd.sizeOf5; have v5 := Tryd.zeroValue5; have u5 := run_underlying t5
  go_enter Tryd.func117, Tryd.ntmps117
  go_wp2
  go_region_o
  all_goals (go_wp2; go_ret; exact ⟨rfl, rfl⟩)

set_option maxHeartbeats 2000000 in
set_option maxRecDepth 100000 in
theorem raw_string_noroom (b g : Nat) (p : Value) (cur : Array Value) (fz : Nat × Nat) (w : World) (hbk : w.heap[b]? = some (.cells #[p, .slice (some ⟨g, 0, none⟩) 0 0] 199 (0, 0))) (hg : w.heap[g]? = some (.cells cur 5 fz)) :
    Calls Tryd.prog 117 #[.pointer (some ⟨b, 0, none⟩)] w fun e w' => e = .returned (.string ⟨#[]⟩) ∧ Ab.Next w w' none := by
  have hUS : ∀ (W : World) (q : Option Addr), (Builtin.unsafeString_ #[220, 3] 9 #[.pointer q, .int .i64 0]).run Tryd.prog W = .ok (.string .empty) W := fun W q => Lib.run_unsafeString_none W _ _ _ q
  have hlt : b < w.heap.size := (Array.getElem?_eq_some_iff.1 hbk).1
  have c1 : w.drew.cell? ⟨b, 1, none⟩ = some (.slice (some ⟨g, 0, none⟩) 0 0) := by
    have : w.drew.heap[b]? = some (.cells #[p, .slice (some ⟨g, 0, none⟩) 0 0] 199 (0, 0)) := hbk
    rw [Lib.cell_of_heap this]; rfl
  have hSD : (Builtin.unsafeSliceData_ #[187] 220 #[.slice (some ⟨g, 0, none⟩) 0 0]).run Tryd.prog w.drew = .ok (.pointer (some ⟨w.drew.heap.size, 0, none⟩)) (w.drew.alloc (.view ⟨g, 0, none⟩ 5)) :=
    Lib.run_unsafeSliceData_zero w.drew _ _ 5 Tryd.underlying220 ⟨g, 0, none⟩ 0 (5, cur.size) (by have hg' : w.drew.heap[g]? = some (.cells cur 5 fz) := hg; simp [World.shape?, hg'])
  have c2 : (w.drew.alloc (.view ⟨g, 0, none⟩ 5)).cell? ⟨b, 1, none⟩ = some (.slice (some ⟨g, 0, none⟩) 0 0) := by
    have : (w.drew.alloc (.view ⟨g, 0, none⟩ 5)).heap[b]? = _ := (Lib.alloc_old w.drew _ b hlt).trans hbk
    rw [Lib.cell_of_heap this]; rfl
  have c3 : (w.alloc (.view ⟨g, 0, none⟩ 5)).drew.cell? ⟨b, 1, none⟩ = some (.slice (some ⟨g, 0, none⟩) 0 0) := c2
  have c0 : w.cell? ⟨b, 1, none⟩ = some (.slice (some ⟨g, 0, none⟩) 0 0) := c1
  have mixed : Tryd.prog.follows .mixedOrders = true := by kernel_rfl
  have t72 := Tryd.underlying199; have a72 := Tryd.isAgg199; have z72 := Tryd.sizeOf199; have v72 := Tryd.zeroValue199; have u72 := run_underlying t72
  have t70 := Tryd.underlying197; have a70 := Tryd.isAgg197; have z70 := Tryd.sizeOf197; have v70 := Tryd.zeroValue197; have u70 := run_underlying t70
  have t37 := Tryd.underlying187; have a37 := Tryd.isAgg187; have z37 := Tryd.sizeOf187; have v37 := Tryd.zeroValue187; have u37 := run_underlying t37
  have t127 := Tryd.underlying220; have a127 := Tryd.isAgg220; have z127 := Tryd.sizeOf220; have v127 := Tryd.zeroValue220; have u127 := run_underlying t127
  have t3 := Tryd.underlying3; have a3 := Tryd.isAgg3; have z3 := Tryd.sizeOf3; have v3 := Tryd.zeroValue3; have u3 := run_underlying t3
  have t9 := Tryd.underlying9; have a9 := Tryd.isAgg9; have z9 := Tryd.sizeOf9; have v9 := Tryd.zeroValue9; have u9 := run_underlying t9
  have t5 := Tryd.underlying5; have a5 := Tryd.isAgg5; have z5 := Tryd.sizeOf5; have v5 := Tryd.zeroValue5; have u5 := run_underlying t5
  go_enter Tryd.func117, Tryd.ntmps117
  go_wp2
  go_region_o
  all_goals (go_wp2; go_ret; first | exact ⟨rfl, next_alloc1 w _ none⟩ | exact ⟨rfl, (next_alloc1 w _ none).toDrew⟩ | exact ⟨rfl, (next_alloc1 w.drew _ none).ofDrew⟩)
end Go.Proofs.YtboohfijacjhjaaDoor

/- strings.Builder: the contracts. -/
namespace Go.Proofs.YtboohfijacjhjaaDoor
open Go.Ab Go.RowKit

/-- What a builder's store means. -/
theorem bd_inv {B : Base} {μ G w} {p : AV} {s : ByteArray} (st : St B (bd p s) μ G w) (hp : p = .d .nilP ∨ p = .ptr 0 []) :
    ∃ b pv, μ 0 = .pointer (some ⟨b, 0, none⟩) ∧ w.heap[b]? = some (.cells #[pv, μ 1] 199 (0, 0)) ∧ ((p = .d .nilP ∧ pv = .pointer none) ∨ (p = .ptr 0 [] ∧ pv = .pointer (some ⟨b, 0, none⟩))) ∧
      w.ownsRowF 0 5 1 (μ 1) s.size (Lib.strCells s) := by
  obtain ⟨b, cs, h1, h2, h3⟩ := st.blks 0 _ rfl
  obtain ⟨cs', g1, g2, _, _⟩ := st.blks 1 _ rfl
  have e := CL.bytes (l := s.data.toList) g2
  have e : cs' = Lib.strCells s := e
  subst e
  rw [bytes_length] at g1
  generalize hcs : cs.toList = l at h3
  cases h3 with
  | agg h4 h5 =>
    cases h5
    rw [List.append_nil] at hcs
    rcases hp with rfl | rfl
    · cases h4 with
      | d h6 h7 =>
        cases h6 with
        | nilP h8 =>
          cases h8
          cases h7 with
          | row q1 q2 q3 =>
            cases q3
            rw [← q2] at hcs
            refine ⟨b, _, h1, ?_, .inl ⟨rfl, rfl⟩, g1⟩
            rw [h2]
            congr 2
            exact Array.toList_inj.1 hcs
    · cases h4 with
      | ptr q0 q1 q2 q3 =>
        cases q3 with
        | row q4 q5 q6 =>
          cases q6
          rw [← q5] at hcs
          replace q1 := q1.nil
          rw [h1] at q1
          cases q1
          refine ⟨b, _, h1, ?_, .inr ⟨rfl, rfl⟩, g1⟩
          rw [h2]
          congr 2
          exact Array.toList_inj.1 hcs

theorem bd_row {B : Base} {μ G w} {p : AV} {s : ByteArray} (st : St B (bd p s) μ G w) {w' : World} (hc : ∀ b o v, G b o → w.cell? ⟨b, o, none⟩ = some v → w'.cell? ⟨b, o, none⟩ = some v) (h : w'.ownsRowF 0 5 1 (μ 1) s.size (Lib.strCells s)) :
    BlkOk μ (bd p s).length w' G (μ 1) (.row 5 1 (D.bytes s)) := by
  obtain ⟨cs', g1, g2, g3, g4⟩ := st.blks 1 _ rfl
  have e : cs' = Lib.strCells s := CL.bytes (l := s.data.toList) g2
  subst e
  exact ⟨_, by rw [bytes_length]; exact h, g2.mono (fun _ _ h => h) hc, g3, g4⟩

theorem copyCheck_c {p : AV} {s : ByteArray} (hp : p = .d .nilP ∨ p = .ptr 0 []) : CallR cx 134 [.ptr 0 []] (bd p s) fun r S => r = .tup [] ∧ S = bd (.ptr 0 []) s := by
  refine callR_raw (c := cx) Tryd.func134 (by kernel_rfl) (by kernel_rfl) fun μ G w vals st hv => ?_
  obtain ⟨b, rfl, hμ⟩ := VS.ptr0 hv
  obtain ⟨b', pv, h1, h2, h3, h4⟩ := bd_inv st hp
  rw [hμ] at h1
  cases h1
  have hra : ∀ (μ : Nat → Value) (k : Nat) (w : World) (G : Nat → Nat → Prop), RA μ k w G (.tup []) (.tuple #[]) := fun μ k w G => ⟨[], rfl, .nil⟩
  rcases h3 with ⟨rfl, rfl⟩ | ⟨rfl, rfl⟩
  · refine (raw_copy_fresh b w (by rw [Lib.cell_of_heap h2]; rfl) (by simp [World.shape?, h2]) (Lib.frozen_of_heap h2 0)).mono ?_
    rintro e w' ⟨rfl, rfl⟩
    have hset : w.setCell ⟨b, 0, none⟩ (.pointer (some ⟨b, 0, none⟩)) = w.setRow b #[.pointer (some ⟨b, 0, none⟩), μ 1] := by
      rw [setCell_eq_setRow w b 0 _ _ _ _ h2]; rfl
    refine ⟨_, _, bd (.ptr 0 []) s, μ, G, rfl, ⟨rfl, rfl⟩, ?_, hra _ _ _ _⟩
    rw [hset]
    have hrow : μ 1 = μ 1 := rfl
    refine st.write (n := 0) (g := b) (b' := .tvar 199 (.agg [.ptr 0 [], .row 1])) rfl rfl rfl rfl rfl (by rw [hμ]; rfl) (setRow_next w b _) ?_
    refine ⟨b, _, hμ, setRow_heap w b _ _ _ _ h2, ?_⟩
    have hsl : ∃ a l c, μ 1 = .slice a l c := by
      rcases h4.2 with ⟨q, _⟩ | ⟨_, _, _, _, q, _⟩
      · exact ⟨_, _, _, q⟩
      · exact ⟨_, _, _, q⟩
    obtain ⟨a, l, c, hs⟩ := hsl
    rw [hs]
    have : CA μ 2 (w.setRow b #[.pointer (some ⟨b, 0, none⟩), .slice a l c]) G [.ptr 0 [], .row 1] [.pointer (some ⟨b, 0, none⟩), .slice a l c] :=
      .ptr (p := []) (by omega) (.inl hμ) (fun s hs => by cases hs) (.row (by omega) hs .nil)
    simpa using CA.agg this .nil
  · refine (raw_copy_used b w (by rw [Lib.cell_of_heap h2]; rfl)).mono ?_
    rintro e w' ⟨rfl, rfl⟩
    exact ⟨_, _, _, μ, G, rfl, ⟨rfl, rfl⟩, st, hra _ _ _ _⟩

theorem string_c {p : AV} {s : ByteArray} (hp : p = .d .nilP ∨ p = .ptr 0 []) : CallR cx 117 [.ptr 0 []] (bd p s) fun r S => r = AV.d (.str s) ∧ S = bd p s := by
  refine callR_raw (c := cx) Tryd.func117 (by kernel_rfl) (by kernel_rfl) fun μ G w vals st hv => ?_
  obtain ⟨b, rfl, hμ⟩ := VS.ptr0 hv
  obtain ⟨b', pv, h1, h2, _, h4⟩ := bd_inv st hp
  rw [hμ] at h1
  cases h1
  have hra : ∀ (x : ByteArray), x = s → ∀ (μ : Nat → Value) (k : Nat) (w : World) (G : Nat → Nat → Prop), RA μ k w G (.d (.str s)) (.string x) := fun x e μ k w G => by subst e; exact VD.str.ra
  have quiet : ∀ w' : World, Ab.Next w w' none → St (base cx (bd p s) μ G w) (bd p s) μ G w' := fun w' h => st.quiet h
  have hem : s.size = 0 → (⟨#[]⟩ : ByteArray) = s := fun h => (size0 h).symm
  rcases h4.2 with ⟨q1, q2⟩ | ⟨g, cap, cur, fz, q1, _, q3, q4, q5, q6, q7, q8⟩
  · rw [q1] at h2
    refine (raw_string_nil b pv w h2).mono ?_
    rintro e w' ⟨rfl, rfl⟩
    exact ⟨_, _, _, μ, G, rfl, ⟨rfl, rfl⟩, quiet _ ⟨rfl, rfl, rfl, Nat.le_refl _, fun _ _ _ => rfl⟩, hra _ (hem q2) _ _ _ _⟩
  · rw [q1] at h2
    by_cases hz : s.size = 0
    · rw [hz] at h2
      by_cases hc : cap = 0
      · subst hc
        refine (raw_string_noroom b g pv cur fz w h2 q3).mono ?_
        rintro e w' ⟨rfl, hn⟩
        exact ⟨_, _, _, μ, G, rfl, ⟨rfl, rfl⟩, quiet _ hn, hra _ (hem hz) _ _ _ _⟩
      · refine (raw_string_room b g cap pv w hc h2).mono ?_
        rintro e w' ⟨rfl, rfl⟩
        exact ⟨_, _, _, μ, G, rfl, ⟨rfl, rfl⟩, quiet _ ⟨rfl, rfl, rfl, Nat.le_refl _, fun _ _ _ => rfl⟩, hra _ (hem hz) _ _ _ _⟩
    · have hlen : s.data.toList.length = s.size := Array.length_toList
      have hne : s.data.toList ≠ [] := by intro e; rw [e] at hlen; simp at hlen; omega
      rw [Nat.mul_one] at q7 q4
      refine (raw_string_some b g cap pv cur fz s.data.toList w hne (by rw [hlen]; exact h2) q3 (by omega) q6 q7 ?_).mono ?_
      · intro j x hx
        have := h4.cells (g := g) (by rw [q1]; rfl) j (.int .u8 x.toNat) (by unfold Lib.strCells; rw [List.getElem?_map, hx]; rfl)
        exact this
      · rintro e w' ⟨rfl, rfl⟩
        obtain ⟨fz', f1, f2⟩ := freeze_heap (n := s.data.toList.length) (show w.drew.heap[g]? = some (.cells cur 5 fz) from q3)
        have hn : Ab.Next w (w.drew.freeze ⟨g, 0, none⟩ s.data.toList.length) (some g) := (freeze_next w.drew g _).ofDrew
        have hcell : ∀ o, (w.drew.freeze ⟨g, 0, none⟩ s.data.toList.length).cell? ⟨g, o, none⟩ = w.cell? ⟨g, o, none⟩ := fun o => by
          rw [Lib.cell_of_heap f1, Lib.cell_of_heap q3]
        refine ⟨_, _, _, μ, G, rfl, ⟨rfl, rfl⟩, st.turn (n := 1) (g := g) rfl rfl (by rw [q1]; rfl) hn hcell ?_, hra _ (by cases s; rfl) _ _ _ _⟩
        refine bd_row st (hn.cells st.gv (fun k hk o v _ hv => by cases hk; rw [hcell]; exact hv)) ⟨h4.1, .inr ⟨g, cap, cur, fz', q1, Nat.zero_le _, f1, ?_, q5, q6, by rw [Nat.mul_one]; exact q7, q8⟩⟩
        rw [Nat.mul_one, ← hlen]
        exact f2 (by omega)

theorem writeString_c {p : AV} {s t : ByteArray} (hp : p = .d .nilP ∨ p = .ptr 0 []) (hb : s.size + t.size ≤ 140737488355328) : CallR cx 115 [.ptr 0 [], .d (.str t)] (bd p s) fun r S =>
    r = .tup [.d (.int .i64 t.size), .d .nilI] ∧ S = [.tvar 199 (.agg [.ptr 0 [], .row 2]), .sealed (.sl 1 (D.bytes s)), .row 5 1 (D.bytes (s ++ t))] := by
  have cc := copyCheck_c (p := p) (s := s) hp
  unfold bd at cc ⊢
  rw [bytes_append]
  have hl := bytes_length s
  generalize D.bytes s = xs at *
  have go : ∀ q : AV, CallR cx 134 [.ptr 0 []] [.tvar 199 (.agg [q, .row 1]), .row 5 1 xs] (fun r S => r = .tup [] ∧ S = [.tvar 199 (.agg [.ptr 0 [], .row 1]), .row 5 1 xs]) →
      (q = .d .nilP ∨ q = .ptr 0 []) → CallR cx 115 [.ptr 0 [], .d (.str t)] [.tvar 199 (.agg [q, .row 1]), .row 5 1 xs] fun r S =>
    r = .tup [.d (.int .i64 t.size), .d .nilI] ∧ S = [.tvar 199 (.agg [.ptr 0 [], .row 2]), .sealed (.sl 1 xs), .row 5 1 (xs ++ D.bytes t)] := by
    rintro q cc (rfl | rfl) <;>
    · refine callR_of (R := R1) cx_ok Tryd.func115 (by kernel_rfl) rfl ?_
      conv => whnf
      refine ⟨_, cc, ?_⟩
      rintro _ _ ⟨rfl, rfl⟩
      conv => whnf
      refine ⟨by rw [hl]; exact hb, ?_⟩
      conv => whnf
      exact ⟨rfl, rfl⟩
  exact go p cc hp
end Go.Proofs.YtboohfijacjhjaaDoor

/- The runes of a text by their numbers: plain laws, no program. -/
namespace Go.Proofs.YtboohfijacjhjaaDoor
open Go.Ab

/-- The number of the rune at a place, and how many bytes it has; a stray's byte and 2000000, and 1. -/
def keyN (n b0 b1 b2 b3 : Nat) : Nat × Nat := if Lib.decodeN n b0 b1 b2 b3 = (65533, 1) then (b0 + 2000000, 1) else Lib.decodeN n b0 b1 b2 b3
def key (s : ByteArray) (i : Nat) : Nat × Nat := keyN (s.size - i) (s.get! i).toNat (s.get! (i + 1)).toNat (s.get! (i + 2)).toNat (s.get! (i + 3)).toNat

/-- A stray stands here. -/
def stray (s : ByteArray) (i : Nat) : Bool := decide (Utf8.decode s i = (65533, 1))

theorem key_stray {s : ByteArray} {i : Nat} (h : stray s i = true) : key s i = ((s.get! i).toNat + 2000000, 1) ∧ Utf8.decode s i = (65533, 1) := by
  have h := of_decide_eq_true h
  refine ⟨?_, h⟩
  rw [Lib.decode_at] at h
  unfold key keyN
  rw [if_pos h]

theorem key_plain {s : ByteArray} {i : Nat} (h : stray s i = false) : key s i = Utf8.decode s i := by
  have h := of_decide_eq_false h
  rw [Lib.decode_at] at h ⊢
  unfold key keyN
  rw [if_neg h]

theorem decodeN_range (n b0 b1 b2 b3 : Nat) (h0 : b0 < 256) : (Lib.decodeN n b0 b1 b2 b3).1 ≤ 1114111 ∧ 1 ≤ (Lib.decodeN n b0 b1 b2 b3).2 ∧ (Lib.decodeN n b0 b1 b2 b3).2 ≤ 4 := by
  unfold Lib.decodeN
  repeat' split
  all_goals simp only
  all_goals omega

theorem key_two {s : ByteArray} {i : Nat} : (key s i).2 = (Utf8.decode s i).2 := by
  cases h : stray s i with
  | true => obtain ⟨h1, h2⟩ := key_stray h; rw [h1, h2]
  | false => rw [key_plain h]

theorem decode_range (s : ByteArray) (i : Nat) : (Utf8.decode s i).1 ≤ 1114111 ∧ 1 ≤ (Utf8.decode s i).2 ∧ (Utf8.decode s i).2 ≤ 4 := by
  rw [Lib.decode_at]
  exact decodeN_range _ _ _ _ _ (s.get! i).toNat_lt

theorem key_pos (s : ByteArray) (i : Nat) : 1 ≤ (key s i).2 := by rw [key_two]; exact (decode_range s i).2.1
/-- A text's runes from a place on. -/
def keysAt (s : ByteArray) (i : Nat) : List Nat := if i < s.size then (key s i).1 :: keysAt s (i + (key s i).2) else []
termination_by s.size - i
decreasing_by have := key_pos s i; omega

/-- The slow table's conditions, by classes of the first byte. -/
def smallI (r : Int) : Prop := (97 ≤ r ∧ r ≤ 122) ∨ (945 ≤ r ∧ r ≤ 969)
instance (r : Int) : Decidable (smallI r) := by unfold smallI; infer_instance

/-- Is a rune right at its place? -/
def okR (first : Bool) (k : Int) : Bool := decide (smallI k) || (!first && (decide (48 ≤ k) && decide (k ≤ 57)))

def goR : List Nat → Nat → Bool
  | [], n => decide (1 ≤ n) && decide (n ≤ 12)
  | k :: l, n => okR (n == 0) (k : Int) && goR l (n + 1)

def goS : List Nat → Nat → Bool
  | [], n => decide (n ≤ 64)
  | k :: l, n => !(decide (k < 32) || decide (k = 127) || decide (2000000 ≤ k)) && goS l (n + 1)

def rightT (s : ByteArray) : Bool := goR (keysAt s 0) 0
def saysT (s : ByteArray) : Bool := goS (keysAt s 0) 0
end Go.Proofs.YtboohfijacjhjaaDoor

/- The document's rune at a place: 'One', by the classes of the first byte. -/
namespace Go.Proofs.YtboohfijacjhjaaDoor
open Go.Ab Go.RowKit

theorem brT {A B : Prop} {b : Bool} (h : b = true) (x : A) : @Bool.rec (fun _ => Prop) B A b := by subst h; exact x
theorem brF {A B : Prop} {b : Bool} (h : b = false) (x : B) : @Bool.rec (fun _ => Prop) B A b := by subst h; exact x

theorem w64 {n : Int} (h : -9223372036854775808 ≤ n ∧ n < 9223372036854775808) : IntKind.i64.wrap n = n := by rw [IntKind.wrap_i64]; omega

end Go.Proofs.YtboohfijacjhjaaDoor

/- Texts as runes: what a rune's bytes are, that they are found again, that texts without capitals stay so. Plain laws, no program. -/
namespace Go.Proofs.YtboohfijacjhjaaDoor
open Go.Ab

/-- A rune's bytes. -/
inductive Val : List UInt8 → Nat → Prop
  | one {b : UInt8} : b.toNat < 128 → Val [b] b.toNat
  | two {b0 b1 : UInt8} : 194 ≤ b0.toNat ∧ b0.toNat ≤ 223 → 128 ≤ b1.toNat ∧ b1.toNat ≤ 191 → Val [b0, b1] (b0.toNat % 32 * 64 + b1.toNat % 64)
  | three {b0 b1 b2 : UInt8} : 224 ≤ b0.toNat ∧ b0.toNat ≤ 239 → 128 ≤ b1.toNat ∧ b1.toNat ≤ 191 → 128 ≤ b2.toNat ∧ b2.toNat ≤ 191 → (b0.toNat = 224 → 160 ≤ b1.toNat) → (b0.toNat = 237 → b1.toNat ≤ 159) →
      Val [b0, b1, b2] (b0.toNat % 16 * 4096 + b1.toNat % 64 * 64 + b2.toNat % 64)
  | four {b0 b1 b2 b3 : UInt8} : 240 ≤ b0.toNat ∧ b0.toNat ≤ 244 → 128 ≤ b1.toNat ∧ b1.toNat ≤ 191 → 128 ≤ b2.toNat ∧ b2.toNat ≤ 191 → 128 ≤ b3.toNat ∧ b3.toNat ≤ 191 → (b0.toNat = 240 → 144 ≤ b1.toNat) → (b0.toNat = 244 → b1.toNat ≤ 143) →
      Val [b0, b1, b2, b3] (b0.toNat % 8 * 262144 + b1.toNat % 64 * 4096 + b2.toNat % 64 * 64 + b3.toNat % 64)

theorem Val.lt {u k} (h : Val u k) : k < 1114112 := by cases h <;> omega

/-- What is no surrogate and not too great is a rune. -/
def okRune (k : Nat) : Prop := k < 55296 ∨ (57343 < k ∧ k < 1114112)

theorem Val.ok {u k} (h : Val u k) : okRune k := by unfold okRune; cases h <;> omega

end Go.Proofs.YtboohfijacjhjaaDoor

/- Readers of bytes: what they do. Payloads: what they are, their bytes. Payloads: read; what is written is read as it was. -/
set_option linter.unusedVariables false
namespace Go.Proofs.YtboohfijacjhjaaDoor
open Go.Ab Go.RowKit

/-- A reader: what is left, what is wrong. -/
abbrev rd (s : ByteArray) (e : Int) : D := .agg [.str s, .int .i64 e]

def tkS (s : ByteArray) (e n : Int) : ByteArray := if e = 0 ∧ n ≤ s.size then s.extract 0 n.toNat else .empty

def tkR (s : ByteArray) (e n : Int) : ByteArray := if e = 0 ∧ n ≤ s.size then s.extract n.toNat s.size else s

def rd_tkE (s : ByteArray) (e n : Int) : Int := if e = 0 then (if n ≤ s.size then 0 else 3) else e

/-- Bytes as a number, the highest first. -/
def be (l : List UInt8) (a : Nat) : Nat := l.foldl (fun a b => (a * 256 + b.toNat) % 18446744073709551616) a

theorem wrapN {n : Nat} (h : n < 18446744073709551616) : IntKind.u64.wrap (n : Int) = n := wrapU ⟨by omega, by omega⟩

end Go.Proofs.YtboohfijacjhjaaDoor

set_option linter.unusedVariables false
namespace Go.Proofs.YtboohfijacjhjaaDoor
open Go.Ab Go.RowKit

/-- A payload: a transfer, a saying, a detail, nothing, a number. -/
inductive Pl where
  | tr (o : Int) (a b : ByteArray) (n : Int)
  | sy (a b : ByteArray)
  | de (o : Int) (a : ByteArray) (n : Int)
  | no
  | nu

def Pl.d : Pl → D
  | .tr o a b n => .iface 32 (.agg [.int .u32 o, .str a, .str b, .int .u64 n])
  | .sy a b => .iface 89 (.agg [.str a, .str b])
  | .de o a n => .iface 91 (.agg [.int .u32 o, .str a, .int .u64 n])
  | .no => .nilI
  | .nu => .iface 3 (.int .i64 7)

/-- A number's bytes, the highest first. -/
def bigB (n k : Nat) : ByteArray := ⟨((List.range k).map fun i => UInt8.ofNat (n / 256 ^ (k - 1 - i))).toArray⟩

abbrev by8 (n e : Nat) : D := .int .u8 ((UInt8.ofNat (n / 256 ^ e)).toNat : Int)

theorem bigB_bytes (n k : Nat) : D.bytes (bigB n k) = (List.range k).map fun i => by8 n (k - 1 - i) := by
  unfold D.bytes bigB
  rw [List.toList_toArray, List.map_map]
  rfl

theorem bigB_size (n k : Nat) : (bigB n k).size = k := by
  show ((List.range k).map _).toArray.size = k
  rw [List.size_toArray, List.length_map, List.length_range]

theorem pow256 (e : Nat) : 256 ^ e = 2 ^ (8 * e) := by rw [Nat.pow_mul]

theorem by8_eq (n e : Nat) {z : Int} (h : z = ((n / 256 ^ e : Nat) : Int)) : D.int .u8 (IntKind.u8.wrap z) = by8 n e := by
  subst h
  have e1 : IntKind.u8.wrap ((n / 256 ^ e : Nat) : Int) = ((n / 256 ^ e : Nat) : Int) % 256 := by simp [IntKind.wrap, IntKind.bits, IntKind.signed]
  show D.int .u8 _ = D.int .u8 _
  rw [e1, UInt8.toNat_ofNat']
  congr 1

theorem shr_e (n e : Nat) (b : Int) (hb : b = ((8 * e : Nat) : Int)) (h8 : 8 * e ≤ 64) : (n : Int).fdiv (2 ^ min b.toNat IntKind.u64.bits) = ((n / 256 ^ e : Nat) : Int) := by
  subst hb
  have : min ((8 * e : Nat) : Int).toNat IntKind.u64.bits = 8 * e := by rw [Int.toNat_natCast]; exact Nat.min_eq_left h8
  rw [this, Int.fdiv_eq_ediv_of_nonneg _ (by exact Int.le_of_lt (Int.pow_pos (by decide))), pow256, Int.natCast_ediv, Int.natCast_pow]
  rfl

abbrev z8 : D := .int .u8 0

theorem big1_c {n : Nat} : CallR cx 105 [u64 n, i64 1] [] fun r S => r = st (bigB n 1) ∧ S = [] := by
  let f : Nat → List D := fun i => match i with
    | 0 => [z8, z8, z8, z8, z8, z8, z8, z8]
    | _ => [by8 n 0, z8, z8, z8, z8, z8, z8, z8]
  refine callR_of (R := R1) cx_ok Tryd.func105 (by kernel_rfl) rfl ?_
  conv => whnf
  refine .inl ⟨fun m l S => ∃ i : Nat, i ≤ 1 ∧ m = 1 - i ∧ l = [(0, u64 n), (1, i64 1), (5, .ptr 0 []), (7, i64 1), (8, i64 (i : Int))] ∧
    S = [.var (.d (.arr 8 1 (f i)))], ⟨1, _, ⟨0, by decide, rfl, rfl, rfl⟩, ⟨rfl, rfl, rfl, rfl, rfl, trivial⟩⟩, ?_⟩
  rintro _ _ _ ⟨i, hi, rfl, rfl, rfl⟩
  rcases i with _ | _ | i
  · conv => whnf
    refine ⟨by decide, ?_⟩
    conv => whnf
    refine ⟨by decide, ?_⟩
    conv => whnf
    exact ⟨0, _, 1, by decide, ⟨1, by decide, rfl, rfl, congrArg (fun z => [Blk.var (.d (.arr 8 1 [z, z8, z8, z8, z8, z8, z8, z8]))]) (by8_eq n 0 (shr_e n 0 _ (by rfl) (by decide)))⟩, ⟨rfl, rfl, rfl, rfl, rfl, trivial⟩, rfl⟩
  · conv => whnf
    refine ⟨by decide, ?_⟩
    conv => whnf
    refine ⟨bigB n 1, ⟨by rw [bigB_bytes]; rfl, by rw [bigB_size]; rfl⟩, ?_⟩
    conv => whnf
    exact ⟨rfl, rfl⟩
  · omega

theorem big4_c {n : Nat} : CallR cx 105 [u64 n, i64 4] [] fun r S => r = st (bigB n 4) ∧ S = [] := by
  let f : Nat → List D := fun i => match i with
    | 0 => [z8, z8, z8, z8, z8, z8, z8, z8]
    | 1 => [by8 n 3, z8, z8, z8, z8, z8, z8, z8]
    | 2 => [by8 n 3, by8 n 2, z8, z8, z8, z8, z8, z8]
    | 3 => [by8 n 3, by8 n 2, by8 n 1, z8, z8, z8, z8, z8]
    | _ => [by8 n 3, by8 n 2, by8 n 1, by8 n 0, z8, z8, z8, z8]
  refine callR_of (R := R1) cx_ok Tryd.func105 (by kernel_rfl) rfl ?_
  conv => whnf
  refine .inl ⟨fun m l S => ∃ i : Nat, i ≤ 4 ∧ m = 4 - i ∧ l = [(0, u64 n), (1, i64 4), (5, .ptr 0 []), (7, i64 4), (8, i64 (i : Int))] ∧
    S = [.var (.d (.arr 8 1 (f i)))], ⟨4, _, ⟨0, by decide, rfl, rfl, rfl⟩, ⟨rfl, rfl, rfl, rfl, rfl, trivial⟩⟩, ?_⟩
  rintro _ _ _ ⟨i, hi, rfl, rfl, rfl⟩
  rcases i with _ | _ | _ | _ | _ | i
  · conv => whnf
    refine ⟨by decide, ?_⟩
    conv => whnf
    refine ⟨by decide, ?_⟩
    conv => whnf
    exact ⟨3, _, 1, by decide, ⟨1, by decide, rfl, rfl, congrArg (fun z => [Blk.var (.d (.arr 8 1 [z, z8, z8, z8, z8, z8, z8, z8]))]) (by8_eq n 3 (shr_e n 3 _ (by rfl) (by decide)))⟩, ⟨rfl, rfl, rfl, rfl, rfl, trivial⟩, rfl⟩
  · conv => whnf
    refine ⟨by decide, ?_⟩
    conv => whnf
    refine ⟨by decide, ?_⟩
    conv => whnf
    exact ⟨2, _, 1, by decide, ⟨2, by decide, rfl, rfl, congrArg (fun z => [Blk.var (.d (.arr 8 1 [by8 n 3, z, z8, z8, z8, z8, z8, z8]))]) (by8_eq n 2 (shr_e n 2 _ (by rfl) (by decide)))⟩, ⟨rfl, rfl, rfl, rfl, rfl, trivial⟩, rfl⟩
  · conv => whnf
    refine ⟨by decide, ?_⟩
    conv => whnf
    refine ⟨by decide, ?_⟩
    conv => whnf
    exact ⟨1, _, 1, by decide, ⟨3, by decide, rfl, rfl, congrArg (fun z => [Blk.var (.d (.arr 8 1 [by8 n 3, by8 n 2, z, z8, z8, z8, z8, z8]))]) (by8_eq n 1 (shr_e n 1 _ (by rfl) (by decide)))⟩, ⟨rfl, rfl, rfl, rfl, rfl, trivial⟩, rfl⟩
  · conv => whnf
    refine ⟨by decide, ?_⟩
    conv => whnf
    refine ⟨by decide, ?_⟩
    conv => whnf
    exact ⟨0, _, 1, by decide, ⟨4, by decide, rfl, rfl, congrArg (fun z => [Blk.var (.d (.arr 8 1 [by8 n 3, by8 n 2, by8 n 1, z, z8, z8, z8, z8]))]) (by8_eq n 0 (shr_e n 0 _ (by rfl) (by decide)))⟩, ⟨rfl, rfl, rfl, rfl, rfl, trivial⟩, rfl⟩
  · conv => whnf
    refine ⟨by decide, ?_⟩
    conv => whnf
    refine ⟨bigB n 4, ⟨by rw [bigB_bytes]; rfl, by rw [bigB_size]; rfl⟩, ?_⟩
    conv => whnf
    exact ⟨rfl, rfl⟩
  · omega

theorem big8_c {n : Nat} : CallR cx 105 [u64 n, i64 8] [] fun r S => r = st (bigB n 8) ∧ S = [] := by
  let f : Nat → List D := fun i => match i with
    | 0 => [z8, z8, z8, z8, z8, z8, z8, z8]
    | 1 => [by8 n 7, z8, z8, z8, z8, z8, z8, z8]
    | 2 => [by8 n 7, by8 n 6, z8, z8, z8, z8, z8, z8]
    | 3 => [by8 n 7, by8 n 6, by8 n 5, z8, z8, z8, z8, z8]
    | 4 => [by8 n 7, by8 n 6, by8 n 5, by8 n 4, z8, z8, z8, z8]
    | 5 => [by8 n 7, by8 n 6, by8 n 5, by8 n 4, by8 n 3, z8, z8, z8]
    | 6 => [by8 n 7, by8 n 6, by8 n 5, by8 n 4, by8 n 3, by8 n 2, z8, z8]
    | 7 => [by8 n 7, by8 n 6, by8 n 5, by8 n 4, by8 n 3, by8 n 2, by8 n 1, z8]
    | _ => [by8 n 7, by8 n 6, by8 n 5, by8 n 4, by8 n 3, by8 n 2, by8 n 1, by8 n 0]
  refine callR_of (R := R1) cx_ok Tryd.func105 (by kernel_rfl) rfl ?_
  conv => whnf
  refine .inl ⟨fun m l S => ∃ i : Nat, i ≤ 8 ∧ m = 8 - i ∧ l = [(0, u64 n), (1, i64 8), (5, .ptr 0 []), (7, i64 8), (8, i64 (i : Int))] ∧
    S = [.var (.d (.arr 8 1 (f i)))], ⟨8, _, ⟨0, by decide, rfl, rfl, rfl⟩, ⟨rfl, rfl, rfl, rfl, rfl, trivial⟩⟩, ?_⟩
  rintro _ _ _ ⟨i, hi, rfl, rfl, rfl⟩
  rcases i with _ | _ | _ | _ | _ | _ | _ | _ | _ | i
  · conv => whnf
    refine ⟨by decide, ?_⟩
    conv => whnf
    refine ⟨by decide, ?_⟩
    conv => whnf
    exact ⟨7, _, 1, by decide, ⟨1, by decide, rfl, rfl, congrArg (fun z => [Blk.var (.d (.arr 8 1 [z, z8, z8, z8, z8, z8, z8, z8]))]) (by8_eq n 7 (shr_e n 7 _ (by rfl) (by decide)))⟩, ⟨rfl, rfl, rfl, rfl, rfl, trivial⟩, rfl⟩
  · conv => whnf
    refine ⟨by decide, ?_⟩
    conv => whnf
    refine ⟨by decide, ?_⟩
    conv => whnf
    exact ⟨6, _, 1, by decide, ⟨2, by decide, rfl, rfl, congrArg (fun z => [Blk.var (.d (.arr 8 1 [by8 n 7, z, z8, z8, z8, z8, z8, z8]))]) (by8_eq n 6 (shr_e n 6 _ (by rfl) (by decide)))⟩, ⟨rfl, rfl, rfl, rfl, rfl, trivial⟩, rfl⟩
  · conv => whnf
    refine ⟨by decide, ?_⟩
    conv => whnf
    refine ⟨by decide, ?_⟩
    conv => whnf
    exact ⟨5, _, 1, by decide, ⟨3, by decide, rfl, rfl, congrArg (fun z => [Blk.var (.d (.arr 8 1 [by8 n 7, by8 n 6, z, z8, z8, z8, z8, z8]))]) (by8_eq n 5 (shr_e n 5 _ (by rfl) (by decide)))⟩, ⟨rfl, rfl, rfl, rfl, rfl, trivial⟩, rfl⟩
  · conv => whnf
    refine ⟨by decide, ?_⟩
    conv => whnf
    refine ⟨by decide, ?_⟩
    conv => whnf
    exact ⟨4, _, 1, by decide, ⟨4, by decide, rfl, rfl, congrArg (fun z => [Blk.var (.d (.arr 8 1 [by8 n 7, by8 n 6, by8 n 5, z, z8, z8, z8, z8]))]) (by8_eq n 4 (shr_e n 4 _ (by rfl) (by decide)))⟩, ⟨rfl, rfl, rfl, rfl, rfl, trivial⟩, rfl⟩
  · conv => whnf
    refine ⟨by decide, ?_⟩
    conv => whnf
    refine ⟨by decide, ?_⟩
    conv => whnf
    exact ⟨3, _, 1, by decide, ⟨5, by decide, rfl, rfl, congrArg (fun z => [Blk.var (.d (.arr 8 1 [by8 n 7, by8 n 6, by8 n 5, by8 n 4, z, z8, z8, z8]))]) (by8_eq n 3 (shr_e n 3 _ (by rfl) (by decide)))⟩, ⟨rfl, rfl, rfl, rfl, rfl, trivial⟩, rfl⟩
  · conv => whnf
    refine ⟨by decide, ?_⟩
    conv => whnf
    refine ⟨by decide, ?_⟩
    conv => whnf
    exact ⟨2, _, 1, by decide, ⟨6, by decide, rfl, rfl, congrArg (fun z => [Blk.var (.d (.arr 8 1 [by8 n 7, by8 n 6, by8 n 5, by8 n 4, by8 n 3, z, z8, z8]))]) (by8_eq n 2 (shr_e n 2 _ (by rfl) (by decide)))⟩, ⟨rfl, rfl, rfl, rfl, rfl, trivial⟩, rfl⟩
  · conv => whnf
    refine ⟨by decide, ?_⟩
    conv => whnf
    refine ⟨by decide, ?_⟩
    conv => whnf
    exact ⟨1, _, 1, by decide, ⟨7, by decide, rfl, rfl, congrArg (fun z => [Blk.var (.d (.arr 8 1 [by8 n 7, by8 n 6, by8 n 5, by8 n 4, by8 n 3, by8 n 2, z, z8]))]) (by8_eq n 1 (shr_e n 1 _ (by rfl) (by decide)))⟩, ⟨rfl, rfl, rfl, rfl, rfl, trivial⟩, rfl⟩
  · conv => whnf
    refine ⟨by decide, ?_⟩
    conv => whnf
    refine ⟨by decide, ?_⟩
    conv => whnf
    exact ⟨0, _, 1, by decide, ⟨8, by decide, rfl, rfl, congrArg (fun z => [Blk.var (.d (.arr 8 1 [by8 n 7, by8 n 6, by8 n 5, by8 n 4, by8 n 3, by8 n 2, by8 n 1, z]))]) (by8_eq n 0 (shr_e n 0 _ (by rfl) (by decide)))⟩, ⟨rfl, rfl, rfl, rfl, rfl, trivial⟩, rfl⟩
  · conv => whnf
    refine ⟨by decide, ?_⟩
    conv => whnf
    refine ⟨bigB n 8, ⟨by rw [bigB_bytes]; rfl, by rw [bigB_size]; rfl⟩, ?_⟩
    conv => whnf
    exact ⟨rfl, rfl⟩
  · omega

abbrev u32 (n : Int) : AV := .d (.int .u32 n)

theorem wrap32 {n : Int} (h : 0 ≤ n ∧ n < 4294967296) : IntKind.u32.wrap n = n := by
  simp [IntKind.wrap, IntKind.bits, IntKind.signed]; omega

theorem wrap8 {n : Int} (h : 0 ≤ n ∧ n < 256) : IntKind.u8.wrap n = n := by
  simp [IntKind.wrap, IntKind.bits, IntKind.signed]; omega

/-- A text's length, and it. -/
def textB (s : ByteArray) : ByteArray := bigB s.size 4 ++ s

theorem textB_size (s : ByteArray) : (textB s).size = 4 + s.size := by unfold textB; rw [ByteArray.size_append, bigB_size]

theorem wbyte_c {n : Nat} (h : n < 256) : CallR cx 57 [u8 n] [] fun r S => r = st (bigB n 1) ∧ S = [] := by
  have w : CallR cx 105 [u64 (IntKind.u64.wrap (n : Int)), i64 1] [] fun r S => r = st (bigB n 1) ∧ S = [] := by rw [wrapN (by omega)]; exact big1_c
  refine callR_of (R := R1) cx_ok Tryd.func57 (by kernel_rfl) rfl ?_
  conv => whnf
  refine ⟨_, w, ?_⟩
  rintro _ _ ⟨rfl, rfl⟩
  conv => whnf
  exact ⟨rfl, rfl⟩

theorem wword_c {n : Nat} (h : n < 4294967296) : CallR cx 58 [u32 n] [] fun r S => r = st (bigB n 4) ∧ S = [] := by
  have w : CallR cx 105 [u64 (IntKind.u64.wrap (n : Int)), i64 4] [] fun r S => r = st (bigB n 4) ∧ S = [] := by rw [wrapN (by omega)]; exact big4_c
  refine callR_of (R := R1) cx_ok Tryd.func58 (by kernel_rfl) rfl ?_
  conv => whnf
  refine ⟨_, w, ?_⟩
  rintro _ _ ⟨rfl, rfl⟩
  conv => whnf
  exact ⟨rfl, rfl⟩

theorem wlong_c {n : Nat} : CallR cx 60 [u64 n] [] fun r S => r = st (bigB n 8) ∧ S = [] := by
  refine callR_of (R := R1) cx_ok Tryd.func60 (by kernel_rfl) rfl ?_
  conv => whnf
  refine ⟨_, big8_c, ?_⟩
  rintro _ _ ⟨rfl, rfl⟩
  conv => whnf
  exact ⟨rfl, rfl⟩

theorem wtext_c {s : ByteArray} (h : s.size < 4294967296) : CallR cx 59 [st s] [] fun r S => r = st (textB s) ∧ S = [] := by
  have w : CallR cx 58 [u32 (IntKind.u32.wrap (s.size : Int))] [] fun r S => r = st (bigB s.size 4) ∧ S = [] := by rw [wrap32 (by omega)]; exact wword_c h
  refine callR_of (R := R1) cx_ok Tryd.func59 (by kernel_rfl) rfl ?_
  conv => whnf
  refine ⟨_, w, ?_⟩
  rintro _ _ ⟨rfl, rfl⟩
  conv => whnf
  refine ⟨by rw [bigB_size]; omega, ?_⟩
  conv => whnf
  exact ⟨rfl, rfl⟩

/-- A payload whose numbers are in range and whose texts are no longer than so much. -/
def Pl.fit : Pl → Prop
  | .tr o a b n => (0 ≤ o ∧ o < 4294967296) ∧ (0 ≤ n ∧ n < 18446744073709551616) ∧ a.size < 100000 ∧ b.size < 100000
  | .sy a b => a.size < 100000 ∧ b.size < 100000
  | .de o a n => (0 ≤ o ∧ o < 4294967296) ∧ (0 ≤ n ∧ n < 18446744073709551616) ∧ a.size < 100000
  | _ => True

def Pl.right : Pl → Bool
  | .tr _ a b n => (rightT a && rightT b) && decide (n ≠ 0)
  | .sy a b => rightT a && saysT b
  | .de _ a _ => rightT a
  | _ => false

/-- A payload's bytes. -/
def Pl.bytes : Pl → ByteArray
  | .tr o a b n => bigB 1 1 ++ (((bigB o.toNat 4 ++ textB a) ++ textB b) ++ bigB n.toNat 8)
  | .sy a b => bigB 2 1 ++ (textB a ++ textB b)
  | .de o a n => bigB 3 1 ++ ((bigB o.toNat 4 ++ textB a) ++ bigB n.toNat 8)
  | _ => .empty

end Go.Proofs.YtboohfijacjhjaaDoor

set_option linter.unusedVariables false
namespace Go.Proofs.YtboohfijacjhjaaDoor
open Go.Ab Go.RowKit

/-- A reader: what is left, what is wrong. -/
structure Rs where
  s : ByteArray
  e : Int

def Rs.d (r : Rs) : D := rd r.s r.e

def Rs.got (r : Rs) (n : Int) : ByteArray := tkS r.s r.e n

def Rs.take (r : Rs) (n : Int) : Rs := ⟨tkR r.s r.e n, rd_tkE r.s r.e n⟩

def Rs.num (r : Rs) (n : Int) : Nat := be (r.got n).data.toList 0

def Rs.fail (r : Rs) (f : Int) : Rs := ⟨r.s, if r.e = 0 then f else r.e⟩

def Rs.cnt (r : Rs) (m : Int) : Int := if (r.num 4 : Int) > m then 0 else r.num 4

def Rs.cntR (r : Rs) (m : Int) : Rs := if (r.num 4 : Int) > m then (r.take 4).fail 5 else r.take 4

def bigL (n k : Nat) : List UInt8 := (List.range k).map fun i => UInt8.ofNat (n / 256 ^ (k - 1 - i))

theorem bigL_succ (n k : Nat) : bigL n (k + 1) = bigL (n / 256) k ++ [UInt8.ofNat n] := by
  unfold bigL
  rw [List.range_succ, List.map_append]
  congr 1
  · refine List.map_congr_left fun i hi => ?_
    have hi := List.mem_range.1 hi
    rw [Nat.div_div_eq_div_mul, ← Nat.pow_succ', show (k - 1 - i).succ = k + 1 - 1 - i by omega]
  · simp

theorem be_append (l : List UInt8) (b : UInt8) (a : Nat) : be (l ++ [b]) a = (be l a * 256 + b.toNat) % 18446744073709551616 := by
  unfold be; rw [List.foldl_append]; rfl

theorem pow_le8 {k : Nat} (h : k ≤ 8) : 256 ^ k ≤ 18446744073709551616 := Nat.pow_le_pow_right (n := 256) (by decide) h

theorem be_bigL : ∀ (k n : Nat), k ≤ 8 → be (bigL n k) 0 = n % 256 ^ k
  | 0, n, _ => by rw [Nat.pow_zero, Nat.mod_one]; rfl
  | k + 1, n, h => by
    rw [bigL_succ, be_append, be_bigL k _ (by omega), UInt8.toNat_ofNat']
    have h1 : n / 256 % 256 ^ k * 256 + n % 256 = n % 256 ^ (k + 1) := by
      rw [Nat.pow_succ, Nat.mul_comm (256 ^ k) 256, Nat.mod_mul]
      omega
    have h2 : n % 256 ^ (k + 1) < 256 ^ (k + 1) := Nat.mod_lt _ (Nat.pow_pos (by decide))
    have h3 := pow_le8 h
    rw [show (2 : Nat) ^ 8 = 256 from rfl, h1]
    exact Nat.mod_eq_of_lt (by omega)

theorem bigB_list (n k : Nat) : (bigB n k).data.toList = bigL n k := by unfold bigB bigL; rw [List.toList_toArray]

theorem ba_ext {a b : ByteArray} (h : a.data.toList = b.data.toList) : a = b := by
  cases a; cases b; congr 1; exact Array.toList_inj.1 h

theorem be_bigB {n k : Nat} (hk : k ≤ 8) (hn : n < 256 ^ k) : be (bigB n k).data.toList 0 = n := by
  rw [bigB_list, be_bigL k n hk, Nat.mod_eq_of_lt hn]

end Go.Proofs.YtboohfijacjhjaaDoor

/- Calls: what they are, their bytes, and what the bytes tell (plain). -/
set_option linter.unusedVariables false
namespace Go.Proofs.YtboohfijacjhjaaDoor
open Go.Ab Go.RowKit

/-- A signature. -/
structure Sg where
  ix : Int
  pa : List ByteArray
  ot : List ByteArray
  pt : List ByteArray
/-- An update. -/
structure Up where
  home : Nat
  old : ByteArray
  new : ByteArray
  sig : Sg
/-- A stop. -/
structure Sp where
  home : Nat
  key : ByteArray
  wat : Int
  sig : Sg
/-- A letter. -/
structure Le where
  frm : Nat
  non : Nat
  too : Nat
  snd : ByteArray
  rcv : ByteArray
  bod : ByteArray

def dgD (b : ByteArray) : D := .arr 32 1 (D.bytes b)
def dgs (l : List ByteArray) : List D := l.map dgD
def Sg.d (s : Sg) : D := .agg [.int .i64 s.ix, .sl 32 (dgs s.pa), .sl 32 (dgs s.ot), .sl 32 (dgs s.pt)]
def Up.d (u : Up) : D := .agg [.int .u32 u.home, dgD u.old, dgD u.new, u.sig.d]
def Sp.d (u : Sp) : D := .agg [.int .u32 u.home, dgD u.key, .int .i64 u.wat, u.sig.d]
def Le.d (l : Le) : D := .agg [.int .u32 l.frm, .int .u32 l.non, .int .u32 l.too, .str l.snd, .str l.rcv, .str l.bod]

/-- So many digests, of their size. -/
def dgF (l : List ByteArray) : Prop := l.length ≤ 100 ∧ ∀ b ∈ l, b.size = 32
def tx (s : ByteArray) : Prop := s.size ≤ 1000
def Sg.fit (s : Sg) : Prop := (-9223372036854775808 ≤ s.ix ∧ s.ix < 9223372036854775808) ∧ dgF s.pa ∧ dgF s.ot ∧ dgF s.pt
def Up.fit (u : Up) : Prop := u.home < 4294967296 ∧ u.old.size = 32 ∧ u.new.size = 32 ∧ u.sig.fit
def Sp.fit (u : Sp) : Prop := u.home < 4294967296 ∧ u.key.size = 32 ∧ (-9223372036854775808 ≤ u.wat ∧ u.wat < 9223372036854775808) ∧ u.sig.fit
def Le.fit (l : Le) : Prop := l.frm < 4294967296 ∧ l.non < 4294967296 ∧ l.too < 4294967296 ∧ tx l.snd ∧ tx l.rcv ∧ tx l.bod

def catB : List ByteArray → ByteArray
  | [] => .empty
  | b :: l => b ++ catB l
def dgsB (l : List ByteArray) : ByteArray := bigB l.length 4 ++ catB l
/-- What four bytes tell of a number. -/
def low4 (n : Int) : Nat := (n % 4294967296).toNat
def sigB (s : Sg) : ByteArray := bigB (low4 s.ix) 4 ++ dgsB s.pa ++ dgsB s.ot ++ dgsB s.pt
def upB (u : Up) : ByteArray := bigB u.home 4 ++ u.old ++ u.new ++ sigB u.sig
def spB (u : Sp) : ByteArray := bigB u.home 4 ++ u.key ++ bigB (low4 u.wat) 4 ++ sigB u.sig
def leB (l : Le) : ByteArray := bigB l.frm 4 ++ bigB l.non 4 ++ bigB l.too 4 ++ textB l.snd ++ textB l.rcv ++ textB l.bod

/-- A call, nothing, a text that is none. -/
inductive Cl where
  | pay (a b : ByteArray) (n k : Nat) (g : Sg)
  | send (a : ByteArray) (o : Nat) (t b : ByteArray) (n k : Nat) (g : Sg)
  | say (a b : ByteArray) (k : Nat) (g : Sg)
  | tell (a b : ByteArray) (k : Nat) (g : Sg)
  | submit (u : Up)
  | improp (u : Up) (c : ByteArray)
  | double (u v : Up) (c : ByteArray)
  | accept (u : Up)
  | doubled (u v : Up)
  | halt (s : Sp)
  | prove (l : ByteArray) (i : Nat) (br : List ByteArray)
  | process (l : Le)
  | no
  | word

def Cl.tag : Cl → Nat
  | .pay .. => 1 | .send .. => 2 | .say .. => 3 | .tell .. => 4 | .submit .. => 5 | .improp .. => 6 | .double .. => 7 | .accept .. => 8
  | .doubled .. => 9 | .halt .. => 10 | .prove .. => 11 | .process .. => 12 | .no => 0 | .word => 0

/-- What stands behind the tag. -/
def Cl.tail : Cl → ByteArray
  | .pay a b n k g => textB a ++ textB b ++ bigB n 8 ++ bigB k 8 ++ sigB g
  | .send a o t b n k g => textB a ++ bigB o 4 ++ textB t ++ textB b ++ bigB n 8 ++ bigB k 8 ++ sigB g
  | .say a b k g => textB a ++ textB b ++ bigB k 8 ++ sigB g
  | .tell a b k g => textB a ++ textB b ++ bigB k 8 ++ sigB g
  | .submit u => textB (upB u)
  | .improp u c => textB (upB u) ++ textB c
  | .double u v c => textB (upB u) ++ textB (upB v) ++ textB c
  | .accept u => textB (upB u)
  | .doubled u v => textB (upB u) ++ textB (upB v)
  | .halt s => textB (spB s)
  | .prove l i br => l ++ bigB i 4 ++ dgsB br
  | .process l => textB (leB l)
  | .no => .empty
  | .word => .empty

/-- What is told beside the bytes. -/
def Cl.idx : Cl → Int × Int
  | .pay _ _ _ _ g => (g.ix, 0)
  | .send _ _ _ _ _ _ g => (g.ix, 0)
  | .say _ _ _ g => (g.ix, 0)
  | .tell _ _ _ g => (g.ix, 0)
  | .submit u => (u.sig.ix, 0)
  | .improp u _ => (u.sig.ix, 0)
  | .double u v _ => (u.sig.ix, v.sig.ix)
  | .accept u => (u.sig.ix, 0)
  | .doubled u v => (u.sig.ix, v.sig.ix)
  | .halt s => (s.sig.ix, s.wat)
  | _ => (0, 0)

def Cl.fit : Cl → Prop
  | .pay a b n k g => tx a ∧ tx b ∧ n < 18446744073709551616 ∧ k < 18446744073709551616 ∧ g.fit
  | .send a o t b n k g => tx a ∧ o < 4294967296 ∧ tx t ∧ tx b ∧ n < 18446744073709551616 ∧ k < 18446744073709551616 ∧ g.fit
  | .say a b k g => tx a ∧ tx b ∧ k < 18446744073709551616 ∧ g.fit
  | .tell a b k g => tx a ∧ tx b ∧ k < 18446744073709551616 ∧ g.fit
  | .submit u => u.fit
  | .improp u c => u.fit ∧ tx c
  | .double u v c => u.fit ∧ v.fit ∧ tx c
  | .accept u => u.fit
  | .doubled u v => u.fit ∧ v.fit
  | .halt s => s.fit
  | .prove l i br => l.size = 32 ∧ i < 4294967296 ∧ dgF br
  | .process l => l.fit
  | .no => True
  | .word => True

theorem app_inj {a b x y : ByteArray} (h : a ++ x = b ++ y) (hs : a.size = b.size) : a = b ∧ x = y := by
  have e : a.data.toList ++ x.data.toList = b.data.toList ++ y.data.toList := by
    have := congrArg (fun z => z.data.toList) h
    simpa [ByteArray.data_append] using this
  have hl : a.data.toList.length = b.data.toList.length := by rw [Array.length_toList, Array.length_toList]; exact hs
  obtain ⟨e1, e2⟩ := List.append_inj e hl
  exact ⟨ba_ext e1, ba_ext e2⟩

theorem big_inj {n m k : Nat} {x y : ByteArray} (hk : k ≤ 8) (hn : n < 256 ^ k) (hm : m < 256 ^ k) (h : bigB n k ++ x = bigB m k ++ y) : n = m ∧ x = y := by
  obtain ⟨e1, e2⟩ := app_inj h (by rw [bigB_size, bigB_size])
  have e3 : be (bigB n k).data.toList 0 = be (bigB m k).data.toList 0 := by rw [e1]
  rw [be_bigB hk hn, be_bigB hk hm] at e3
  exact ⟨e3, e2⟩

theorem big8_inj {n m : Nat} {x y : ByteArray} (hn : n < 18446744073709551616) (hm : m < 18446744073709551616) (h : bigB n 8 ++ x = bigB m 8 ++ y) : n = m ∧ x = y := big_inj (k := 8) (by decide) hn hm h
theorem big4_inj {n m : Nat} {x y : ByteArray} (hn : n < 4294967296) (hm : m < 4294967296) (h : bigB n 4 ++ x = bigB m 4 ++ y) : n = m ∧ x = y := big_inj (k := 4) (by decide) hn hm h

theorem text_inj {a b x y : ByteArray} (ha : a.size < 4294967296) (hb : b.size < 4294967296) (h : textB a ++ x = textB b ++ y) : a = b ∧ x = y := by
  unfold textB at h
  rw [ByteArray.append_assoc, ByteArray.append_assoc] at h
  obtain ⟨e1, e2⟩ := big4_inj ha hb h
  exact app_inj e2 e1

theorem cat_inj : ∀ {l m : List ByteArray} {x y : ByteArray}, (∀ b ∈ l, b.size = 32) → (∀ b ∈ m, b.size = 32) → l.length = m.length → catB l ++ x = catB m ++ y → l = m ∧ x = y
  | [], [], x, y, _, _, _, h => by
    unfold catB at h
    exact ⟨rfl, by rwa [ByteArray.empty_append, ByteArray.empty_append] at h⟩
  | a :: l, b :: m, x, y, hl, hm, hs, h => by
    unfold catB at h
    rw [ByteArray.append_assoc, ByteArray.append_assoc] at h
    obtain ⟨e1, e2⟩ := app_inj h (by rw [hl a List.mem_cons_self, hm b List.mem_cons_self])
    obtain ⟨e3, e4⟩ := cat_inj (fun b hb => hl b (List.mem_cons_of_mem _ hb)) (fun b hb => hm b (List.mem_cons_of_mem _ hb)) (by simpa using hs) e2
    exact ⟨by rw [e1, e3], e4⟩

theorem dgs_inj {l m : List ByteArray} {x y : ByteArray} (hl : dgF l) (hm : dgF m) (h : dgsB l ++ x = dgsB m ++ y) : l = m ∧ x = y := by
  unfold dgsB at h
  rw [ByteArray.append_assoc, ByteArray.append_assoc] at h
  obtain ⟨h1, h2⟩ := hl
  obtain ⟨h3, h4⟩ := hm
  obtain ⟨e1, e2⟩ := big4_inj (by omega) (by omega) h
  exact cat_inj h2 h4 e1 e2

theorem low4_lt (n : Int) : low4 n < 4294967296 := by unfold low4; omega

theorem sig_inj {s t : Sg} {x y : ByteArray} (hs : s.fit) (ht : t.fit) (hi : low4 s.ix = low4 t.ix → s.ix = t.ix) (h : sigB s ++ x = sigB t ++ y) : s = t ∧ x = y := by
  obtain ⟨i, p, o, q⟩ := s
  obtain ⟨i', p', o', q'⟩ := t
  obtain ⟨_, h1, h2, h3⟩ := hs
  obtain ⟨_, h4, h5, h6⟩ := ht
  simp only at hi h1 h2 h3 h4 h5 h6
  unfold sigB at h
  simp only [ByteArray.append_assoc] at h
  obtain ⟨e0, k1⟩ := big4_inj (low4_lt _) (low4_lt _) h
  obtain rfl := hi e0
  obtain ⟨e1, k2⟩ := dgs_inj h1 h4 k1
  obtain ⟨e2, k3⟩ := dgs_inj h2 h5 k2
  obtain ⟨e3, k4⟩ := dgs_inj h3 h6 k3
  subst e1 e2 e3
  exact ⟨rfl, k4⟩

theorem up_inj {u v : Up} {x y : ByteArray} (hu : u.fit) (hv : v.fit) (hi : low4 u.sig.ix = low4 v.sig.ix → u.sig.ix = v.sig.ix) (h : upB u ++ x = upB v ++ y) : u = v ∧ x = y := by
  obtain ⟨a, b, c, s⟩ := u
  obtain ⟨a', b', c', s'⟩ := v
  obtain ⟨h1, h2, h3, h4⟩ := hu
  obtain ⟨h5, h6, h7, h8⟩ := hv
  simp only at hi h1 h2 h3 h4 h5 h6 h7 h8
  unfold upB at h
  simp only [ByteArray.append_assoc] at h
  obtain ⟨e1, k1⟩ := big4_inj h1 h5 h
  obtain ⟨e2, k1⟩ := app_inj k1 (by rw [h2, h6])
  obtain ⟨e3, k1⟩ := app_inj k1 (by rw [h3, h7])
  obtain ⟨e4, k2⟩ := sig_inj h4 h8 hi k1
  subst e1 e2 e3 e4
  exact ⟨rfl, k2⟩

theorem up_inj' {u v : Up} (hu : u.fit) (hv : v.fit) (hi : low4 u.sig.ix = low4 v.sig.ix → u.sig.ix = v.sig.ix) (h : upB u = upB v) : u = v :=
  (up_inj (x := .empty) (y := .empty) hu hv hi (by rw [h])).1

theorem sp_inj' {u v : Sp} (hu : u.fit) (hv : v.fit) (hi : low4 u.sig.ix = low4 v.sig.ix → u.sig.ix = v.sig.ix) (hw : low4 u.wat = low4 v.wat → u.wat = v.wat) (h : spB u = spB v) : u = v := by
  have h : spB u ++ .empty = spB v ++ .empty := by rw [h]
  obtain ⟨a, b, c, s⟩ := u
  obtain ⟨a', b', c', s'⟩ := v
  obtain ⟨h1, h2, h3, h4⟩ := hu
  obtain ⟨h5, h6, h7, h8⟩ := hv
  simp only at hi hw h1 h2 h3 h4 h5 h6 h7 h8
  unfold spB at h
  simp only [ByteArray.append_assoc] at h
  obtain ⟨e1, k1⟩ := big4_inj h1 h5 h
  obtain ⟨e2, k1⟩ := app_inj k1 (by rw [h2, h6])
  obtain ⟨e0, k2⟩ := big4_inj (low4_lt _) (low4_lt _) k1
  obtain rfl := hw e0
  obtain ⟨e4, k3⟩ := sig_inj h4 h8 hi k2
  subst e1 e2 e4
  rfl

theorem cat_size : ∀ {l : List ByteArray}, (∀ b ∈ l, b.size = 32) → (catB l).size = 32 * l.length
  | [], _ => rfl
  | a :: l, h => by
    unfold catB
    rw [ByteArray.size_append, h a List.mem_cons_self, cat_size fun b hb => h b (List.mem_cons_of_mem _ hb), List.length_cons]
    omega

theorem dgsB_size {l : List ByteArray} (h : dgF l) : (dgsB l).size ≤ 4 + 3200 := by
  unfold dgsB
  rw [ByteArray.size_append, bigB_size, cat_size h.2]
  have := h.1
  omega

theorem sigB_size {s : Sg} (h : s.fit) : (sigB s).size ≤ 10000 := by
  unfold sigB
  have h1 := dgsB_size h.2.1
  have h2 := dgsB_size h.2.2.1
  have h3 := dgsB_size h.2.2.2
  simp only [ByteArray.size_append, bigB_size]
  omega

theorem upB_size {u : Up} (h : u.fit) : (upB u).size ≤ 20000 := by
  unfold upB
  have h1 := sigB_size h.2.2.2
  have h2 := h.2.1
  have h3 := h.2.2.1
  simp only [ByteArray.size_append, bigB_size]
  omega

theorem spB_size {u : Sp} (h : u.fit) : (spB u).size ≤ 20000 := by
  unfold spB
  have h1 := sigB_size h.2.2.2
  have h2 := h.2.1
  simp only [ByteArray.size_append, bigB_size]
  omega

theorem leB_size {l : Le} (h : l.fit) : (leB l).size ≤ 20000 := by
  unfold leB
  obtain ⟨_, _, _, h1, h2, h3⟩ := h
  unfold tx at h1 h2 h3
  simp only [ByteArray.size_append, bigB_size, textB_size]
  omega

theorem app_e {a b : ByteArray} (h : a = b) : a ++ ByteArray.empty = b ++ ByteArray.empty := by rw [h]

/-- Of one tag, calls of one tail and one index are one (but a letter's). -/
theorem tail_inj {c d : Cl} (hc : c.fit) (hd : d.fit) (ht : c.tag = d.tag) (h0 : 0 < c.tag) (h12 : c.tag < 12) (h : c.tail = d.tail) (hi : (low4 c.idx.1 = low4 d.idx.1 → c.idx.1 = d.idx.1) ∧ (low4 c.idx.2 = low4 d.idx.2 → c.idx.2 = d.idx.2)) : c = d := by
  have hh := app_e h
  have tl : ∀ {s : ByteArray}, tx s → s.size < 4294967296 := fun {s} hs => Nat.lt_of_le_of_lt hs (by decide)
  have ul : ∀ {u : Up}, u.fit → (upB u).size < 4294967296 := fun {u} hs => Nat.lt_of_le_of_lt (upB_size hs) (by decide)
  cases c with
  | no => exact absurd h0 (Nat.lt_irrefl 0)
  | word => exact absurd h0 (Nat.lt_irrefl 0)
  | process l => exact absurd h12 (Nat.lt_irrefl 12)
  | pay a b n k g =>
    cases d <;> first | (simp [Cl.tag] at ht; done) | skip
    rename_i a' b' n' k' g'
    obtain ⟨c1, c2, c3, c4, c5⟩ := hc
    obtain ⟨d1, d2, d3, d4, d5⟩ := hd
    have gi : low4 g.ix = low4 g'.ix → g.ix = g'.ix := hi.1
    simp only [Cl.tail, ByteArray.append_assoc] at hh
    obtain ⟨rfl, k1⟩ := text_inj (tl c1) (tl d1) hh
    obtain ⟨rfl, k2⟩ := text_inj (tl c2) (tl d2) k1
    obtain ⟨rfl, k3⟩ := big8_inj c3 d3 k2
    obtain ⟨rfl, k4⟩ := big8_inj c4 d4 k3
    obtain ⟨rfl, k5⟩ := sig_inj c5 d5 gi k4
    rfl
  | send a o t b n k g =>
    cases d <;> first | (simp [Cl.tag] at ht; done) | skip
    rename_i a' o' t' b' n' k' g'
    obtain ⟨c1, c0, c6, c2, c3, c4, c5⟩ := hc
    obtain ⟨d1, d0, d6, d2, d3, d4, d5⟩ := hd
    have gi : low4 g.ix = low4 g'.ix → g.ix = g'.ix := hi.1
    simp only [Cl.tail, ByteArray.append_assoc] at hh
    obtain ⟨rfl, k1⟩ := text_inj (tl c1) (tl d1) hh
    obtain ⟨rfl, k2⟩ := big4_inj c0 d0 k1
    obtain ⟨rfl, k3⟩ := text_inj (tl c6) (tl d6) k2
    obtain ⟨rfl, k4⟩ := text_inj (tl c2) (tl d2) k3
    obtain ⟨rfl, k5⟩ := big8_inj c3 d3 k4
    obtain ⟨rfl, k6⟩ := big8_inj c4 d4 k5
    obtain ⟨rfl, k7⟩ := sig_inj c5 d5 gi k6
    rfl
  | say a b k g =>
    cases d <;> first | (simp [Cl.tag] at ht; done) | skip
    rename_i a' b' k' g'
    obtain ⟨c1, c2, c4, c5⟩ := hc
    obtain ⟨d1, d2, d4, d5⟩ := hd
    have gi : low4 g.ix = low4 g'.ix → g.ix = g'.ix := hi.1
    simp only [Cl.tail, ByteArray.append_assoc] at hh
    obtain ⟨rfl, k1⟩ := text_inj (tl c1) (tl d1) hh
    obtain ⟨rfl, k2⟩ := text_inj (tl c2) (tl d2) k1
    obtain ⟨rfl, k3⟩ := big8_inj c4 d4 k2
    obtain ⟨rfl, k4⟩ := sig_inj c5 d5 gi k3
    rfl
  | tell a b k g =>
    cases d <;> first | (simp [Cl.tag] at ht; done) | skip
    rename_i a' b' k' g'
    obtain ⟨c1, c2, c4, c5⟩ := hc
    obtain ⟨d1, d2, d4, d5⟩ := hd
    have gi : low4 g.ix = low4 g'.ix → g.ix = g'.ix := hi.1
    simp only [Cl.tail, ByteArray.append_assoc] at hh
    obtain ⟨rfl, k1⟩ := text_inj (tl c1) (tl d1) hh
    obtain ⟨rfl, k2⟩ := text_inj (tl c2) (tl d2) k1
    obtain ⟨rfl, k3⟩ := big8_inj c4 d4 k2
    obtain ⟨rfl, k4⟩ := sig_inj c5 d5 gi k3
    rfl
  | submit u =>
    cases d <;> first | (simp [Cl.tag] at ht; done) | skip
    rename_i u'
    have gi : low4 u.sig.ix = low4 u'.sig.ix → u.sig.ix = u'.sig.ix := hi.1
    simp only [Cl.tail, ByteArray.append_assoc] at hh
    obtain ⟨k1, _⟩ := text_inj (ul hc) (ul hd) hh
    rw [up_inj' hc hd gi k1]
  | improp u x =>
    cases d <;> first | (simp [Cl.tag] at ht; done) | skip
    rename_i u' x'
    have gi : low4 u.sig.ix = low4 u'.sig.ix → u.sig.ix = u'.sig.ix := hi.1
    simp only [Cl.tail, ByteArray.append_assoc] at hh
    obtain ⟨g, k1⟩ := text_inj (ul hc.1) (ul hd.1) hh
    obtain ⟨rfl, _⟩ := text_inj (tl hc.2) (tl hd.2) k1
    rw [up_inj' hc.1 hd.1 gi g]
  | double u v x =>
    cases d <;> first | (simp [Cl.tag] at ht; done) | skip
    rename_i u' v' x'
    have hi2 : low4 v.sig.ix = low4 v'.sig.ix → v.sig.ix = v'.sig.ix := hi.2
    have gi : low4 u.sig.ix = low4 u'.sig.ix → u.sig.ix = u'.sig.ix := hi.1
    simp only [Cl.tail, ByteArray.append_assoc] at hh
    obtain ⟨g, k1⟩ := text_inj (ul hc.1) (ul hd.1) hh
    obtain ⟨g2, k2⟩ := text_inj (ul hc.2.1) (ul hd.2.1) k1
    obtain ⟨rfl, _⟩ := text_inj (tl hc.2.2) (tl hd.2.2) k2
    rw [up_inj' hc.1 hd.1 gi g, up_inj' hc.2.1 hd.2.1 hi2 g2]
  | accept u =>
    cases d <;> first | (simp [Cl.tag] at ht; done) | skip
    rename_i u'
    have gi : low4 u.sig.ix = low4 u'.sig.ix → u.sig.ix = u'.sig.ix := hi.1
    simp only [Cl.tail, ByteArray.append_assoc] at hh
    obtain ⟨k1, _⟩ := text_inj (ul hc) (ul hd) hh
    rw [up_inj' hc hd gi k1]
  | doubled u v =>
    cases d <;> first | (simp [Cl.tag] at ht; done) | skip
    rename_i u' v'
    have hi2 : low4 v.sig.ix = low4 v'.sig.ix → v.sig.ix = v'.sig.ix := hi.2
    have gi : low4 u.sig.ix = low4 u'.sig.ix → u.sig.ix = u'.sig.ix := hi.1
    simp only [Cl.tail, ByteArray.append_assoc] at hh
    obtain ⟨g, k1⟩ := text_inj (ul hc.1) (ul hd.1) hh
    obtain ⟨g2, k2⟩ := text_inj (ul hc.2) (ul hd.2) k1
    rw [up_inj' hc.1 hd.1 gi g, up_inj' hc.2 hd.2 hi2 g2]
  | halt s =>
    cases d <;> first | (simp [Cl.tag] at ht; done) | skip
    rename_i s'
    have hi2 : low4 s.wat = low4 s'.wat → s.wat = s'.wat := hi.2
    have gi : low4 s.sig.ix = low4 s'.sig.ix → s.sig.ix = s'.sig.ix := hi.1
    simp only [Cl.tail, ByteArray.append_assoc] at hh
    obtain ⟨k1, _⟩ := text_inj (Nat.lt_of_le_of_lt (spB_size hc) (by decide)) (Nat.lt_of_le_of_lt (spB_size hd) (by decide)) hh
    rw [sp_inj' hc hd gi hi2 k1]
  | prove l i br =>
    cases d <;> first | (simp [Cl.tag] at ht; done) | skip
    rename_i l' i' br'
    simp only [Cl.tail, ByteArray.append_assoc] at hh
    obtain ⟨rfl, k0⟩ := app_inj hh (by rw [hc.1, hd.1])
    obtain ⟨rfl, k1⟩ := big4_inj hc.2.1 hd.2.1 k0
    obtain ⟨rfl, k2⟩ := dgs_inj hc.2.2 hd.2.2 k1
    rfl
end Go.Proofs.YtboohfijacjhjaaDoor

/- Calls: their fields, side by side; what a drawn value is (plain). -/
set_option linter.unusedVariables false
namespace Go.Proofs.YtboohfijacjhjaaDoor
open Go.Ab Go.RowKit

/-- A call's fields, whatever its tag. -/
structure Fd where
  tag : Nat
  A : ByteArray
  B : ByteArray
  C : ByteArray
  org : Nat
  n : Nat
  k : Nat
  sig : Sg
  u : Up
  v : Up
  stop : Sp
  leaf : ByteArray
  ix : Nat
  br : List ByteArray
  let' : Le

def z32 : ByteArray := ⟨Array.replicate 32 0⟩
def sg0 : Sg := ⟨0, [], [], []⟩
def up0 : Up := ⟨0, z32, z32, sg0⟩
def sp0 : Sp := ⟨0, z32, 0, sg0⟩
def le0 : Le := ⟨0, 0, 0, .empty, .empty, .empty⟩
def fd0 : Fd := ⟨0, .empty, .empty, .empty, 0, 0, 0, sg0, up0, up0, sp0, z32, 0, [], le0⟩
def Fd.d (f : Fd) : D := .agg [.int .i64 (f.tag : Int), .str f.A, .str f.B, .str f.C, .int .u32 f.org, .int .u64 f.n, .int .u64 f.k, f.sig.d, f.u.d, f.v.d, f.stop.d, dgD f.leaf, .int .u32 f.ix, .sl 32 (dgs f.br), f.let'.d]

def Cl.fd : Cl → Fd
  | .pay a b n k g => { fd0 with tag := 1, A := a, B := b, n := n, k := k, sig := g }
  | .send a o t b n k g => { fd0 with tag := 2, A := a, org := o, B := t, C := b, n := n, k := k, sig := g }
  | .say a b k g => { fd0 with tag := 3, A := a, B := b, k := k, sig := g }
  | .tell a b k g => { fd0 with tag := 4, A := a, B := b, k := k, sig := g }
  | .submit u => { fd0 with tag := 5, u := u }
  | .improp u c => { fd0 with tag := 6, u := u, C := c }
  | .double u v c => { fd0 with tag := 7, u := u, v := v, C := c }
  | .accept u => { fd0 with tag := 8, u := u }
  | .doubled u v => { fd0 with tag := 9, u := u, v := v }
  | .halt s => { fd0 with tag := 10, stop := s }
  | .prove l i br => { fd0 with tag := 11, leaf := l, ix := i, br := br }
  | .process l => { fd0 with tag := 12, let' := l }
  | .no => fd0
  | .word => fd0

theorem fd_tag (c : Cl) : c.fd.tag = c.tag := by cases c <;> rfl

theorem fd_inj {c d : Cl} (h0 : 0 < c.tag) (h : c.fd = d.fd) : c = d := by
  have ht : c.tag = d.tag := by rw [← fd_tag, ← fd_tag, h]
  cases c <;> first | (exact absurd h0 (Nat.lt_irrefl 0)) | skip
  all_goals
    cases d <;> first | (simp [Cl.tag] at ht; done) | skip
  all_goals
    simp only [Cl.fd, Fd.mk.injEq] at h
    simp_all

/-- A value that the law draws. -/
structure An where
  kind : Int
  A : ByteArray
  B : ByteArray
  C : ByteArray
  org : Nat
  n : Nat
  k : Nat
  sig : Sg
  u : Up
  v : Up
  stop : Sp
  leaf : ByteArray
  ix : Nat
  br : List ByteArray
  let' : Le
def An.d (f : An) : D := .agg [.int .i64 f.kind, .str f.A, .str f.B, .str f.C, .int .u32 f.org, .int .u64 f.n, .int .u64 f.k, f.sig.d, f.u.d, f.v.d, f.stop.d, dgD f.leaf, .int .u32 f.ix, .sl 32 (dgs f.br), f.let'.d]

def An.clN (x : An) : Nat → Cl
  | 0 => .pay x.A x.B x.n x.k x.sig
  | 1 => .send x.A x.org x.B x.C x.n x.k x.sig
  | 2 => .say x.A x.B x.k x.sig
  | 3 => .tell x.A x.B x.k x.sig
  | 4 => .submit x.u
  | 5 => .improp x.u x.C
  | 6 => .double x.u x.v x.C
  | 7 => .accept x.u
  | 8 => .doubled x.u x.v
  | 9 => .halt x.stop
  | 10 => .prove x.leaf x.ix x.br
  | 11 => .process x.let'
  | 12 => .no
  | _ => .word
def An.cl (x : An) : Cl := x.clN (x.kind.tmod 14).natAbs

/-- What the types let in. -/
structure An.wf (x : An) : Prop where
  kind : -9223372036854775808 ≤ x.kind ∧ x.kind < 9223372036854775808
  org : x.org < 4294967296
  n : x.n < 18446744073709551616
  k : x.k < 18446744073709551616
  sig : -9223372036854775808 ≤ x.sig.ix ∧ x.sig.ix < 9223372036854775808
  sigL : (∀ b ∈ x.sig.pa, b.size = 32) ∧ (∀ b ∈ x.sig.ot, b.size = 32) ∧ (∀ b ∈ x.sig.pt, b.size = 32)
  u : x.u.home < 4294967296 ∧ x.u.old.size = 32 ∧ x.u.new.size = 32 ∧ (-9223372036854775808 ≤ x.u.sig.ix ∧ x.u.sig.ix < 9223372036854775808) ∧ (∀ b ∈ x.u.sig.pa, b.size = 32) ∧ (∀ b ∈ x.u.sig.ot, b.size = 32) ∧ (∀ b ∈ x.u.sig.pt, b.size = 32)
  v : x.v.home < 4294967296 ∧ x.v.old.size = 32 ∧ x.v.new.size = 32 ∧ (-9223372036854775808 ≤ x.v.sig.ix ∧ x.v.sig.ix < 9223372036854775808) ∧ (∀ b ∈ x.v.sig.pa, b.size = 32) ∧ (∀ b ∈ x.v.sig.ot, b.size = 32) ∧ (∀ b ∈ x.v.sig.pt, b.size = 32)
  s : x.stop.home < 4294967296 ∧ x.stop.key.size = 32 ∧ (-9223372036854775808 ≤ x.stop.wat ∧ x.stop.wat < 9223372036854775808) ∧ (-9223372036854775808 ≤ x.stop.sig.ix ∧ x.stop.sig.ix < 9223372036854775808) ∧ (∀ b ∈ x.stop.sig.pa, b.size = 32) ∧ (∀ b ∈ x.stop.sig.ot, b.size = 32) ∧ (∀ b ∈ x.stop.sig.pt, b.size = 32)
  leaf : x.leaf.size = 32
  ix : x.ix < 4294967296
  br : ∀ b ∈ x.br, b.size = 32
  lt : x.let'.frm < 4294967296 ∧ x.let'.non < 4294967296 ∧ x.let'.too < 4294967296

def Sg.short (s : Sg) : Prop := s.pa.length ≤ 60 ∧ s.ot.length ≤ 60 ∧ s.pt.length ≤ 60
/-- What the law goes through. -/
structure An.light (x : An) : Prop where
  a : x.A.size ≤ 1000
  b : x.B.size ≤ 1000
  c : x.C.size ≤ 1000
  s : x.let'.snd.size ≤ 1000
  r : x.let'.rcv.size ≤ 1000
  t : x.let'.bod.size ≤ 1000
  br : x.br.length ≤ 100
  sig : x.sig.short
  u : x.u.sig.short
  v : x.v.sig.short
  st : x.stop.sig.short

theorem An.fit {x : An} (h : x.wf) (l : x.light) : x.cl.fit := by
  have fs : x.sig.fit := ⟨h.sig, ⟨Nat.le_trans l.sig.1 (by decide), h.sigL.1⟩, ⟨Nat.le_trans l.sig.2.1 (by decide), h.sigL.2.1⟩, ⟨Nat.le_trans l.sig.2.2 (by decide), h.sigL.2.2⟩⟩
  have fu : x.u.fit := ⟨h.u.1, h.u.2.1, h.u.2.2.1, h.u.2.2.2.1, ⟨Nat.le_trans l.u.1 (by decide), h.u.2.2.2.2.1⟩, ⟨Nat.le_trans l.u.2.1 (by decide), h.u.2.2.2.2.2.1⟩, ⟨Nat.le_trans l.u.2.2 (by decide), h.u.2.2.2.2.2.2⟩⟩
  have fv : x.v.fit := ⟨h.v.1, h.v.2.1, h.v.2.2.1, h.v.2.2.2.1, ⟨Nat.le_trans l.v.1 (by decide), h.v.2.2.2.2.1⟩, ⟨Nat.le_trans l.v.2.1 (by decide), h.v.2.2.2.2.2.1⟩, ⟨Nat.le_trans l.v.2.2 (by decide), h.v.2.2.2.2.2.2⟩⟩
  have fp : x.stop.fit := ⟨h.s.1, h.s.2.1, h.s.2.2.1, h.s.2.2.2.1, ⟨Nat.le_trans l.st.1 (by decide), h.s.2.2.2.2.1⟩, ⟨Nat.le_trans l.st.2.1 (by decide), h.s.2.2.2.2.2.1⟩, ⟨Nat.le_trans l.st.2.2 (by decide), h.s.2.2.2.2.2.2⟩⟩
  have H : ∀ k, (x.clN k).fit := by
    intro k
    match k with
    | 0 => exact ⟨l.a, l.b, h.n, h.k, fs⟩
    | 1 => exact ⟨l.a, h.org, l.b, l.c, h.n, h.k, fs⟩
    | 2 => exact ⟨l.a, l.b, h.k, fs⟩
    | 3 => exact ⟨l.a, l.b, h.k, fs⟩
    | 4 => exact fu
    | 5 => exact ⟨fu, l.c⟩
    | 6 => exact ⟨fu, fv, l.c⟩
    | 7 => exact fu
    | 8 => exact ⟨fu, fv⟩
    | 9 => exact fp
    | 10 => exact ⟨h.leaf, h.ix, l.br, h.br⟩
    | 11 => exact ⟨h.lt.1, h.lt.2.1, h.lt.2.2, l.s, l.r, l.t⟩
    | 12 => trivial
    | k + 13 => trivial
  exact H _
end Go.Proofs.YtboohfijacjhjaaDoor

/- Calls: read; what was read is written so (plain). -/
set_option linter.unusedVariables false
namespace Go.Proofs.YtboohfijacjhjaaDoor
open Go.Ab Go.RowKit

def chunkN : Nat → ByteArray → List ByteArray
  | 0, _ => []
  | n + 1, t => t.extract 0 32 :: chunkN n (t.extract 32 t.size)
def chunk (t : ByteArray) : List ByteArray := chunkN (t.size / 32) t

def Rs.dgl (r : Rs) (m : Int) : List ByteArray := chunk ((r.cntR m).got (r.cnt m * 32))
def Rs.dglR (r : Rs) (m : Int) : Rs := (r.cntR m).take (r.cnt m * 32)
/-- A signature's index was read. -/
def Rs.sg1 (r : Rs) : Rs := if (r.num 4 : Int) > 2147483647 then (r.take 4).fail 8 else r.take 4
def Rs.sg2 (r : Rs) : Rs := r.sg1.dglR 32
def Rs.sg3 (r : Rs) : Rs := r.sg2.dglR 32
def Rs.sgR (r : Rs) : Rs := r.sg3.dglR 32
def Rs.sg (r : Rs) : Sg := if r.sgR.e = 0 then ⟨(r.num 4 : Nat), r.sg1.dgl 32, r.sg2.dgl 32, r.sg3.dgl 32⟩ else sg0

def Le.right (l : Le) : Bool := (rightT l.snd && rightT l.rcv) && decide ((l.bod.size : Int) ≤ 300)
/-- What a call is when it is written: it is right. -/
def Cl.ok (c : Cl) : Prop := match c with
  | .process l => l.right = true
  | .no => False
  | .word => False
  | _ => True
def Cl.bytes (c : Cl) : ByteArray := bigB c.tag 1 ++ c.tail
end Go.Proofs.YtboohfijacjhjaaDoor

/- Calls: what was read is written so; what is written binds (plain). -/
set_option linter.unusedVariables false
namespace Go.Proofs.YtboohfijacjhjaaDoor
open Go.Ab Go.RowKit

theorem le_inj' {l m : Le} (hl : l.fit) (hm : m.fit) (h : leB l = leB m) : l = m := by
  have hh : leB l ++ .empty = leB m ++ .empty := by rw [h]
  obtain ⟨a, b, c, x, y, z⟩ := l
  obtain ⟨a', b', c', x', y', z'⟩ := m
  obtain ⟨h1, h2, h3, h4, h5, h6⟩ := hl
  obtain ⟨g1, g2, g3, g4, g5, g6⟩ := hm
  simp only at h1 h2 h3 h4 h5 h6 g1 g2 g3 g4 g5 g6
  unfold tx at h4 h5 h6 g4 g5 g6
  unfold leB at hh
  simp only [ByteArray.append_assoc] at hh
  obtain ⟨rfl, k1⟩ := big4_inj h1 g1 hh
  obtain ⟨rfl, k2⟩ := big4_inj h2 g2 k1
  obtain ⟨rfl, k3⟩ := big4_inj h3 g3 k2
  obtain ⟨rfl, k4⟩ := text_inj (by omega) (by omega) k3
  obtain ⟨rfl, k5⟩ := text_inj (by omega) (by omega) k4
  obtain ⟨rfl, k6⟩ := text_inj (by omega) (by omega) k5
  rfl

/-- Calls of the same bytes and index are one. -/
theorem bytes_inj {c d : Cl} (hc : c.fit) (hd : d.fit) (h0 : 0 < c.tag) (h : c.bytes = d.bytes) (hi : (low4 c.idx.1 = low4 d.idx.1 → c.idx.1 = d.idx.1) ∧ (low4 c.idx.2 = low4 d.idx.2 → c.idx.2 = d.idx.2)) : c = d := by
  unfold Cl.bytes at h
  have t256 : ∀ c : Cl, c.tag < 256 := fun c => by cases c <;> (unfold Cl.tag; simp only; decide)
  obtain ⟨ht, hb⟩ := big_inj (k := 1) (by decide) (t256 c) (t256 d) h
  by_cases h12 : c.tag < 12
  · exact tail_inj hc hd ht h0 h12 hb hi
  · cases c <;> first | (exact absurd (show (_ : Nat) < 12 by unfold Cl.tag; simp only; decide) h12) | skip
    cases d <;> first | (simp [Cl.tag] at ht; done) | skip
    rename_i l m
    have hb : textB (leB l) ++ .empty = textB (leB m) ++ .empty := app_e hb
    obtain ⟨hb, _⟩ := text_inj (Nat.lt_of_le_of_lt (leB_size hc) (by decide)) (Nat.lt_of_le_of_lt (leB_size hd) (by decide)) hb
    rw [le_inj' hc hd hb]

end Go.Proofs.YtboohfijacjhjaaDoor

/- Digests, signatures, updates, stops, letters: their bytes, the program's and the document's (printed by gen/cbytes.py). -/
set_option linter.unusedVariables false
namespace Go.Proofs.YtboohfijacjhjaaDoor
open Go.Ab Go.RowKit

theorem wrapLow (n : Int) : IntKind.u32.wrap n = ((low4 n : Nat) : Int) := by
  unfold low4
  simp [IntKind.wrap, IntKind.bits, IntKind.signed]
  omega

theorem bytes32 {b : ByteArray} (h : b.size = 32) : ((D.bytes b).drop 0).take 32 = D.bytes b := by
  rw [List.drop_zero]
  exact List.take_of_length_le (by rw [bytes_length]; omega)

theorem wdig_c {b : ByteArray} (hb : b.size = 32) : CallR cx 78 [.d (dgD b)] [] fun r S => r = st b ∧ S = [] := by
  have e := bytes32 hb
  unfold dgD
  generalize hq : D.bytes b = q at *
  refine callR_of (R := R1) cx_ok Tryd.func78 (by kernel_rfl) rfl ?_
  conv => whnf
  refine ⟨by decide, ?_⟩
  conv => whnf
  refine ⟨b, ⟨by rw [hq]; exact e, by rw [hb]; rfl⟩, ?_⟩
  conv => whnf
  exact ⟨rfl, rfl⟩

theorem write_c {p : AV} {s b : ByteArray} (hp : p = .d .nilP ∨ p = .ptr 0 []) (hb : b.size = 32) (hs : s.size ≤ 1000000000) : CallR cx 116 [.ptr 0 [], .d (.sl 1 (((D.bytes b).drop 0).take 32))] (bd p s) fun r S =>
    r = .tup [.d (.int .i64 32), .d .nilI] ∧ S = [.tvar 199 (.agg [.ptr 0 [], .row 2]), .sealed (.sl 1 (D.bytes s)), .row 5 1 (D.bytes (s ++ b))] := by
  have cc := copyCheck_c (p := p) (s := s) hp
  rw [bytes32 hb]
  have hl := bytes_length s
  have hl2 := bytes_length b
  unfold bd at cc ⊢
  rw [bytes_append]
  rw [hb] at hl2
  generalize D.bytes s = xs at *
  generalize D.bytes b = ys at *
  have go : ∀ q : AV, CallR cx 134 [.ptr 0 []] [.tvar 199 (.agg [q, .row 1]), .row 5 1 xs] (fun r S => r = .tup [] ∧ S = [.tvar 199 (.agg [.ptr 0 [], .row 1]), .row 5 1 xs]) →
      (q = .d .nilP ∨ q = .ptr 0 []) → CallR cx 116 [.ptr 0 [], .d (.sl 1 ys)] [.tvar 199 (.agg [q, .row 1]), .row 5 1 xs] fun r S =>
    r = .tup [.d (.int .i64 32), .d .nilI] ∧ S = [.tvar 199 (.agg [.ptr 0 [], .row 2]), .sealed (.sl 1 xs), .row 5 1 (xs ++ ys)] := by
    rintro q cc (rfl | rfl) <;>
    · refine callR_of (R := R1) cx_ok Tryd.func116 (by kernel_rfl) rfl ?_
      conv => whnf
      refine ⟨_, cc, ?_⟩
      rintro _ _ ⟨rfl, rfl⟩
      conv => whnf
      refine ⟨⟨by omega, by show (xs.length + ys.length) * (1 + 1) ≤ _; omega⟩, ?_⟩
      conv => whnf
      refine ⟨?_, rfl⟩
      rw [hl2]; rfl
  exact go p cc hp

theorem dgs_getD {l : List ByteArray} {j : Nat} (h : j < l.length) : (dgs l).getD (j : Int).toNat .nilP = dgD (l[j]'h) := by
  unfold dgs
  rw [Int.toNat_natCast, List.getD_eq_getElem?_getD, List.getElem?_map, List.getElem?_eq_getElem h]
  rfl

theorem cat_snoc (l : List ByteArray) (b : ByteArray) : catB (l ++ [b]) = catB l ++ b := by
  induction l with
  | nil => show b ++ .empty = .empty ++ b; rw [ByteArray.append_empty, ByteArray.empty_append]
  | cons a l ih => show a ++ catB (l ++ [b]) = a ++ catB l ++ b; rw [ih, ByteArray.append_assoc]

theorem cat_take {l : List ByteArray} {j : Nat} (h : j < l.length) : catB (l.take (j + 1)) = catB (l.take j) ++ l[j]'h := by
  rw [List.take_add_one, List.getElem?_eq_getElem h]
  exact cat_snoc _ _

theorem wdgs_c {l : List ByteArray} (hl : dgF l) : CallR cx 79 [.d (.sl 32 (dgs l))] [] fun r S => r = st (dgsB l) ∧ S = [] := by
  obtain ⟨h1, h2⟩ := hl
  have hlen : (dgs l).length = l.length := List.length_map _
  have bc : CallR cx 58 [u32 (IntKind.u32.wrap (((dgs l).length : Nat) : Int))] [] fun r S => r = st (bigB l.length 4) ∧ S = [] := by
    rw [hlen, wrap32 (by omega)]; exact wword_c (by omega)
  unfold dgsB
  generalize hB : bigB l.length 4 = B at *
  have hBs : B.size = 4 := by rw [← hB, bigB_size]
  refine callR_of (R := R1) cx_ok Tryd.func79 (by kernel_rfl) rfl ?_
  conv => whnf
  refine ⟨_, bc, ?_⟩
  rintro _ _ ⟨rfl, rfl⟩
  conv => whnf
  refine ⟨_, writeString_c (s := .empty) (.inl rfl) (by rw [hBs]; decide), ?_⟩
  rintro _ _ ⟨rfl, rfl⟩
  conv => whnf
  have e0 : D.bytes (ByteArray.empty ++ B) = D.bytes (B ++ catB (l.take 0)) := by rw [ByteArray.empty_append]; show _ = D.bytes (B ++ .empty); rw [ByteArray.append_empty]
  refine .inr ⟨fun m L S => ∃ j : Nat, j ≤ l.length ∧ m = l.length - j ∧
      L = [(3, .ptr 1 []), (11, .d (.sl 32 (dgs l))), (12, i64 (((dgs l).length : Nat) : Int)), (13, i64 (j : Int))] ∧
      S = [.sealed (.sl 1 (D.bytes .empty)), .tvar 199 (.agg [.ptr 1 [], .row 2]), .row 5 1 (D.bytes (B ++ catB (l.take j)))],
    ⟨_, _, ⟨0, Nat.zero_le _, rfl, rfl, congrArg (fun z => [Blk.sealed (.sl 1 (D.bytes .empty)), .tvar 199 (.agg [.ptr 1 [], .row 2]), .row 5 1 z]) e0⟩, ⟨rfl, rfl, rfl, rfl, trivial⟩⟩, ?_⟩
  rintro _ _ _ ⟨j, hj, rfl, rfl, rfl⟩
  have hc := cat_size (l := l.take j) (fun b hb => h2 b (List.mem_of_mem_take hb))
  rw [List.length_take] at hc
  conv => whnf
  refine brec (fun h4 => ?_) (fun h4 => ?_)
  · have h4 := of_decide_eq_true h4
    rw [hlen] at h4
    have hlt : j < l.length := by omega
    conv => whnf
    refine ⟨⟨by omega, by rw [hlen]; omega⟩, ?_⟩
    rw [dgs_getD hlt]
    have hct := cat_take hlt
    have hsz := h2 _ (List.getElem_mem hlt)
    generalize l[j]'hlt = b at *
    have e3 : IntKind.i64.wrap ((j : Int) + 1) = ((j + 1 : Nat) : Int) := by rw [w64 (by omega)]; omega
    generalize catB (l.take j) = C at *
    have wc := write_c (p := .ptr 0 []) (s := B ++ C) (b := b) (.inr rfl) hsz (by simp only [ByteArray.size_append]; omega)
    conv => whnf
    refine ⟨by decide, ?_⟩
    conv => whnf
    refine ⟨_, wc, ?_⟩
    rintro _ _ ⟨rfl, rfl⟩
    conv => whnf
    refine ⟨l.length - (j + 1), [(3, .ptr 1 []), (11, .d (.sl 32 (dgs l))), (12, i64 (((dgs l).length : Nat) : Int)), (13, i64 ((j + 1 : Nat) : Int))], [0, 1, 4], by omega, ⟨rfl, rfl, rfl, congrArg (fun z => some (i64 z)) e3, trivial⟩, ?_⟩
    conv => whnf
    refine ⟨j + 1, by omega, rfl, rfl, ?_⟩
    rw [hct, ← ByteArray.append_assoc]
  · have h4 := of_decide_eq_false h4
    rw [hlen] at h4
    obtain rfl : j = l.length := by omega
    rw [List.take_length]
    conv => whnf
    refine ⟨_, string_c (.inr rfl), ?_⟩
    rintro _ _ ⟨rfl, rfl⟩
    conv => whnf
    exact ⟨rfl, rfl⟩
theorem wsig_c {s : Sg} (hs : s.fit) : CallR cx 75 [.d s.d] [] fun r S => r = st (sigB s) ∧ S = [] := by
  obtain ⟨_, h1, h2, h3⟩ := hs
  obtain ⟨i, pa, ot, pt⟩ := s
  simp only at h1 h2 h3
  have d1 := wdgs_c h1
  have d2 := wdgs_c h2
  have d3 := wdgs_c h3
  have s1 := dgsB_size h1
  have s2 := dgsB_size h2
  have s3 := dgsB_size h3
  unfold sigB Sg.d
  have wo : CallR cx 58 [u32 (IntKind.u32.wrap i)] [] fun r S => r = st (bigB (low4 i) 4) ∧ S = [] := by
    rw [wrapLow]; exact wword_c (low4_lt i)
  generalize dgs pa = l1 at *
  generalize dgs ot = l2 at *
  generalize dgs pt = l3 at *
  simp only
  generalize dgsB pa = P at *
  generalize dgsB ot = O at *
  generalize dgsB pt = Q at *
  generalize low4 i = k at *
  refine callR_of (R := R1) cx_ok Tryd.func75 (by kernel_rfl) rfl ?_
  conv => whnf
  refine ⟨by kernel_rfl, ?_⟩
  conv => whnf
  refine ⟨_, wo, ?_⟩
  conv => whnf
  refine ⟨_, d1, ?_⟩
  conv => whnf
  refine ⟨by (repeat (first | rw [ByteArray.size_append] | rw [bigB_size])); omega, ?_⟩
  conv => whnf
  refine ⟨_, d2, ?_⟩
  conv => whnf
  refine ⟨by (repeat (first | rw [ByteArray.size_append] | rw [bigB_size])); omega, ?_⟩
  conv => whnf
  refine ⟨_, d3, ?_⟩
  conv => whnf
  refine ⟨by (repeat (first | rw [ByteArray.size_append] | rw [bigB_size])); omega, ?_⟩
  conv => whnf
  refine ⟨by kernel_rfl, ?_⟩
  conv => whnf
  exact ⟨rfl, rfl⟩

theorem wup_c {u : Up} (hu : u.fit) : CallR cx 114 [.d u.d] [] fun r S => r = st (upB u) ∧ S = [] := by
  obtain ⟨h1, h2, h3, h4⟩ := hu
  obtain ⟨n, a, b, s⟩ := u
  simp only at h1 h2 h3 h4
  have wo := wword_c (n := n) h1
  have d1 := wdig_c h2
  have d2 := wdig_c h3
  have d3 := wsig_c h4
  have s3 := sigB_size h4
  unfold upB Up.d
  simp only
  generalize sigB s = Q at *
  obtain ⟨si, sa, sb, sc⟩ := s
  unfold Sg.d at *
  simp only at *
  generalize dgs sa = la at *
  generalize dgs sb = lb at *
  generalize dgs sc = lc at *
  unfold dgD at *
  generalize D.bytes a = ad at *
  generalize D.bytes b = bd at *
  refine callR_of (R := R1) cx_ok Tryd.func114 (by kernel_rfl) rfl ?_
  conv => whnf
  refine ⟨by kernel_rfl, ?_⟩
  conv => whnf
  refine ⟨_, wo, ?_⟩
  conv => whnf
  refine ⟨_, d1, ?_⟩
  conv => whnf
  refine ⟨by (repeat (first | rw [ByteArray.size_append] | rw [bigB_size])); omega, ?_⟩
  conv => whnf
  refine ⟨_, d2, ?_⟩
  conv => whnf
  refine ⟨by (repeat (first | rw [ByteArray.size_append] | rw [bigB_size])); omega, ?_⟩
  conv => whnf
  refine ⟨_, d3, ?_⟩
  conv => whnf
  refine ⟨by (repeat (first | rw [ByteArray.size_append] | rw [bigB_size])); omega, ?_⟩
  conv => whnf
  refine ⟨by kernel_rfl, ?_⟩
  conv => whnf
  exact ⟨rfl, rfl⟩

theorem wsp_c {u : Sp} (hu : u.fit) : CallR cx 77 [.d u.d] [] fun r S => r = st (spB u) ∧ S = [] := by
  obtain ⟨h1, h2, _, h4⟩ := hu
  obtain ⟨n, a, i, s⟩ := u
  simp only at h1 h2 h4
  have wo := wword_c (n := n) h1
  have w2 : CallR cx 58 [u32 (IntKind.u32.wrap i)] [] fun r S => r = st (bigB (low4 i) 4) ∧ S = [] := by
    rw [wrapLow]; exact wword_c (low4_lt i)
  have d1 := wdig_c h2
  have d3 := wsig_c h4
  have s3 := sigB_size h4
  unfold spB Sp.d
  simp only
  generalize sigB s = Q at *
  obtain ⟨si, sa, sb, sc⟩ := s
  unfold Sg.d at *
  simp only at *
  generalize dgs sa = la at *
  generalize dgs sb = lb at *
  generalize dgs sc = lc at *
  unfold dgD at *
  generalize D.bytes a = ad at *
  generalize low4 i = k at *
  refine callR_of (R := R1) cx_ok Tryd.func77 (by kernel_rfl) rfl ?_
  conv => whnf
  refine ⟨by kernel_rfl, ?_⟩
  conv => whnf
  refine ⟨_, wo, ?_⟩
  conv => whnf
  refine ⟨_, d1, ?_⟩
  conv => whnf
  refine ⟨by (repeat (first | rw [ByteArray.size_append] | rw [bigB_size])); omega, ?_⟩
  conv => whnf
  refine ⟨_, w2, ?_⟩
  conv => whnf
  refine ⟨by (repeat (first | rw [ByteArray.size_append] | rw [bigB_size])); omega, ?_⟩
  conv => whnf
  refine ⟨_, d3, ?_⟩
  conv => whnf
  refine ⟨by (repeat (first | rw [ByteArray.size_append] | rw [bigB_size])); omega, ?_⟩
  conv => whnf
  refine ⟨by kernel_rfl, ?_⟩
  conv => whnf
  exact ⟨rfl, rfl⟩

theorem ctext_c {u : Up} (hu : u.fit) : CallR cx 76 [.d u.d] [] fun r S => r = st (textB (upB u)) ∧ S = [] := by
  have c1 := wup_c hu
  have c2 := wtext_c (s := upB u) (Nat.lt_of_le_of_lt (upB_size hu) (by decide))
  generalize upB u = b at *
  obtain ⟨n, a, c, ⟨si, sa, sb, sc⟩⟩ := u
  unfold Up.d Sg.d dgD at *
  simp only at *
  generalize dgs sa = la at *
  generalize dgs sb = lb at *
  generalize dgs sc = lc at *
  generalize D.bytes a = ad at *
  generalize D.bytes c = cd at *
  refine callR_of (R := R1) cx_ok Tryd.func76 (by kernel_rfl) rfl ?_
  conv => whnf
  refine ⟨_, c1, ?_⟩
  rintro _ _ ⟨rfl, rfl⟩
  conv => whnf
  refine ⟨_, c2, ?_⟩
  rintro _ _ ⟨rfl, rfl⟩
  conv => whnf
  exact ⟨rfl, rfl⟩

end Go.Proofs.YtboohfijacjhjaaDoor

/- Calls: which one, its bytes, its signature's index (printed by gen/ccall.py). -/
set_option linter.unusedVariables false
namespace Go.Proofs.YtboohfijacjhjaaDoor
open Go.Ab Go.RowKit

def pay3 : ByteArray := ⟨#[112, 97, 121]⟩
def Cl.d : Cl → D
  | .pay a b n k g => .iface 97 (.agg [.str a, .str b, .int .u64 n, .int .u64 k, g.d])
  | .send a o t b n k g => .iface 95 (.agg [.str a, .int .u32 o, .str t, .str b, .int .u64 n, .int .u64 k, g.d])
  | .say a b k g => .iface 99 (.agg [.str a, .str b, .int .u64 k, g.d])
  | .tell a b k g => .iface 101 (.agg [.str a, .str b, .int .u64 k, g.d])
  | .submit u => .iface 103 (.agg [u.d])
  | .improp u c => .iface 105 (.agg [u.d, .str c])
  | .double u v c => .iface 107 (.agg [u.d, v.d, .str c])
  | .accept u => .iface 108 (.agg [u.d])
  | .doubled u v => .iface 110 (.agg [u.d, v.d])
  | .halt s => .iface 112 (.agg [s.d])
  | .prove l i br => .iface 114 (.agg [dgD l, .int .u32 i, .sl 32 (dgs br)])
  | .process l => .iface 116 (.agg [l.d])
  | .no => .nilI
  | .word => .iface 9 (.str pay3)

theorem ctag_c {c : Cl} : CallR cx 36 [.d c.d] [] fun r S => r = i64 (c.tag : Int) ∧ S = [] := by
  cases c <;>
  · refine callR_of (R := R1) cx_ok Tryd.func36 (by kernel_rfl) rfl ?_
    conv => whnf
    exact ⟨rfl, rfl⟩

def Cl.cE : Cl → Int
  | .process l => if l.right = true then 0 else 4
  | .no => 2
  | .word => 2
  | _ => 0
def Cl.cS (c : Cl) : ByteArray := if c.cE = 0 then c.bytes else .empty

theorem cb_pay {a : ByteArray} {b : ByteArray} {n : Nat} {k : Nat} {g : Sg} (h : (Cl.pay a b n k g).fit) : CallR cx 32 [.d (Cl.pay a b n k g).d] [] fun r S => r = .tup [st (Cl.pay a b n k g).cS, i64 (Cl.pay a b n k g).cE] ∧ S = [] := by
  have tg := ctag_c (c := Cl.pay a b n k g)
  obtain ⟨h0, h1, h2, h3, h4⟩ := h
  have wb : CallR cx 57 [u8 (IntKind.u8.wrap (1 : Int))] [] fun r S => r = st (bigB 1 1) ∧ S = [] := by rw [wrap8 (by omega)]; exact wbyte_c (n := 1) (by omega)
  unfold tx at h0
  have c_a := wtext_c (s := a) (by omega)
  have z_a := textB_size a
  unfold tx at h1
  have c_b := wtext_c (s := b) (by omega)
  have z_b := textB_size b
  have c_n := wlong_c (n := n)
  have c_k := wlong_c (n := k)
  have c_g := wsig_c h4
  have z_g := sigB_size h4
  unfold Cl.cS Cl.cE Cl.bytes Cl.tail Cl.tag Cl.d at *
  simp only at *
  rw [if_pos trivial]
  generalize textB a = B_a at *
  generalize textB b = B_b at *
  generalize sigB g = B_g at *
  obtain ⟨gi, g1, g2, g3⟩ := g
  unfold Sg.d at *
  try simp only at *
  generalize dgs g1 = gA at *
  generalize dgs g2 = gB at *
  generalize dgs g3 = gC at *
  refine callR_of (R := R1) cx_ok Tryd.func32 (by kernel_rfl) rfl ?_
  conv => whnf
  refine ⟨_, tg, ?_⟩
  rintro _ _ ⟨rfl, rfl⟩
  conv => whnf
  refine ⟨_, wb, ?_⟩
  rintro _ _ ⟨rfl, rfl⟩
  conv => whnf
  refine ⟨by kernel_rfl, ?_⟩
  conv => whnf
  refine ⟨_, c_a, ?_⟩
  conv => whnf
  refine ⟨_, c_b, ?_⟩
  conv => whnf
  refine ⟨by (repeat (first | rw [ByteArray.size_append] | rw [bigB_size])); omega, ?_⟩
  conv => whnf
  refine ⟨_, c_n, ?_⟩
  conv => whnf
  refine ⟨by (repeat (first | rw [ByteArray.size_append] | rw [bigB_size])); omega, ?_⟩
  conv => whnf
  refine ⟨_, c_k, ?_⟩
  conv => whnf
  refine ⟨by (repeat (first | rw [ByteArray.size_append] | rw [bigB_size])); omega, ?_⟩
  conv => whnf
  refine ⟨_, c_g, ?_⟩
  conv => whnf
  refine ⟨by (repeat (first | rw [ByteArray.size_append] | rw [bigB_size])); omega, ?_⟩
  conv => whnf
  refine ⟨by (repeat (first | rw [ByteArray.size_append] | rw [bigB_size])); omega, ?_⟩
  conv => whnf
  refine ⟨by kernel_rfl, ?_⟩
  conv => whnf
  exact ⟨rfl, rfl⟩

theorem cb_send {a : ByteArray} {o : Nat} {t : ByteArray} {b : ByteArray} {n : Nat} {k : Nat} {g : Sg} (h : (Cl.send a o t b n k g).fit) : CallR cx 32 [.d (Cl.send a o t b n k g).d] [] fun r S => r = .tup [st (Cl.send a o t b n k g).cS, i64 (Cl.send a o t b n k g).cE] ∧ S = [] := by
  have tg := ctag_c (c := Cl.send a o t b n k g)
  obtain ⟨h0, h1, h2, h3, h4, h5, h6⟩ := h
  have wb : CallR cx 57 [u8 (IntKind.u8.wrap (2 : Int))] [] fun r S => r = st (bigB 2 1) ∧ S = [] := by rw [wrap8 (by omega)]; exact wbyte_c (n := 2) (by omega)
  unfold tx at h0
  have c_a := wtext_c (s := a) (by omega)
  have z_a := textB_size a
  have c_o := wword_c (n := o) h1
  unfold tx at h2
  have c_t := wtext_c (s := t) (by omega)
  have z_t := textB_size t
  unfold tx at h3
  have c_b := wtext_c (s := b) (by omega)
  have z_b := textB_size b
  have c_n := wlong_c (n := n)
  have c_k := wlong_c (n := k)
  have c_g := wsig_c h6
  have z_g := sigB_size h6
  unfold Cl.cS Cl.cE Cl.bytes Cl.tail Cl.tag Cl.d at *
  simp only at *
  rw [if_pos trivial]
  generalize textB a = B_a at *
  generalize textB t = B_t at *
  generalize textB b = B_b at *
  generalize sigB g = B_g at *
  obtain ⟨gi, g1, g2, g3⟩ := g
  unfold Sg.d at *
  try simp only at *
  generalize dgs g1 = gA at *
  generalize dgs g2 = gB at *
  generalize dgs g3 = gC at *
  refine callR_of (R := R1) cx_ok Tryd.func32 (by kernel_rfl) rfl ?_
  conv => whnf
  refine ⟨_, tg, ?_⟩
  rintro _ _ ⟨rfl, rfl⟩
  conv => whnf
  refine ⟨_, wb, ?_⟩
  rintro _ _ ⟨rfl, rfl⟩
  conv => whnf
  refine ⟨by kernel_rfl, ?_⟩
  conv => whnf
  refine ⟨_, c_a, ?_⟩
  conv => whnf
  refine ⟨_, c_o, ?_⟩
  conv => whnf
  refine ⟨by (repeat (first | rw [ByteArray.size_append] | rw [bigB_size])); omega, ?_⟩
  conv => whnf
  refine ⟨_, c_t, ?_⟩
  conv => whnf
  refine ⟨by (repeat (first | rw [ByteArray.size_append] | rw [bigB_size])); omega, ?_⟩
  conv => whnf
  refine ⟨_, c_b, ?_⟩
  conv => whnf
  refine ⟨by (repeat (first | rw [ByteArray.size_append] | rw [bigB_size])); omega, ?_⟩
  conv => whnf
  refine ⟨_, c_n, ?_⟩
  conv => whnf
  refine ⟨by (repeat (first | rw [ByteArray.size_append] | rw [bigB_size])); omega, ?_⟩
  conv => whnf
  refine ⟨_, c_k, ?_⟩
  conv => whnf
  refine ⟨by (repeat (first | rw [ByteArray.size_append] | rw [bigB_size])); omega, ?_⟩
  conv => whnf
  refine ⟨_, c_g, ?_⟩
  conv => whnf
  refine ⟨by (repeat (first | rw [ByteArray.size_append] | rw [bigB_size])); omega, ?_⟩
  conv => whnf
  refine ⟨by (repeat (first | rw [ByteArray.size_append] | rw [bigB_size])); omega, ?_⟩
  conv => whnf
  refine ⟨by kernel_rfl, ?_⟩
  conv => whnf
  exact ⟨rfl, rfl⟩

theorem cb_say {a : ByteArray} {b : ByteArray} {k : Nat} {g : Sg} (h : (Cl.say a b k g).fit) : CallR cx 32 [.d (Cl.say a b k g).d] [] fun r S => r = .tup [st (Cl.say a b k g).cS, i64 (Cl.say a b k g).cE] ∧ S = [] := by
  have tg := ctag_c (c := Cl.say a b k g)
  obtain ⟨h0, h1, h2, h3⟩ := h
  have wb : CallR cx 57 [u8 (IntKind.u8.wrap (3 : Int))] [] fun r S => r = st (bigB 3 1) ∧ S = [] := by rw [wrap8 (by omega)]; exact wbyte_c (n := 3) (by omega)
  unfold tx at h0
  have c_a := wtext_c (s := a) (by omega)
  have z_a := textB_size a
  unfold tx at h1
  have c_b := wtext_c (s := b) (by omega)
  have z_b := textB_size b
  have c_k := wlong_c (n := k)
  have c_g := wsig_c h3
  have z_g := sigB_size h3
  unfold Cl.cS Cl.cE Cl.bytes Cl.tail Cl.tag Cl.d at *
  simp only at *
  rw [if_pos trivial]
  generalize textB a = B_a at *
  generalize textB b = B_b at *
  generalize sigB g = B_g at *
  obtain ⟨gi, g1, g2, g3⟩ := g
  unfold Sg.d at *
  try simp only at *
  generalize dgs g1 = gA at *
  generalize dgs g2 = gB at *
  generalize dgs g3 = gC at *
  refine callR_of (R := R1) cx_ok Tryd.func32 (by kernel_rfl) rfl ?_
  conv => whnf
  refine ⟨_, tg, ?_⟩
  rintro _ _ ⟨rfl, rfl⟩
  conv => whnf
  refine ⟨_, wb, ?_⟩
  rintro _ _ ⟨rfl, rfl⟩
  conv => whnf
  refine ⟨by kernel_rfl, ?_⟩
  conv => whnf
  refine ⟨_, c_a, ?_⟩
  conv => whnf
  refine ⟨_, c_b, ?_⟩
  conv => whnf
  refine ⟨by (repeat (first | rw [ByteArray.size_append] | rw [bigB_size])); omega, ?_⟩
  conv => whnf
  refine ⟨_, c_k, ?_⟩
  conv => whnf
  refine ⟨by (repeat (first | rw [ByteArray.size_append] | rw [bigB_size])); omega, ?_⟩
  conv => whnf
  refine ⟨_, c_g, ?_⟩
  conv => whnf
  refine ⟨by (repeat (first | rw [ByteArray.size_append] | rw [bigB_size])); omega, ?_⟩
  conv => whnf
  refine ⟨by (repeat (first | rw [ByteArray.size_append] | rw [bigB_size])); omega, ?_⟩
  conv => whnf
  refine ⟨by kernel_rfl, ?_⟩
  conv => whnf
  exact ⟨rfl, rfl⟩

theorem cb_tell {a : ByteArray} {b : ByteArray} {k : Nat} {g : Sg} (h : (Cl.tell a b k g).fit) : CallR cx 32 [.d (Cl.tell a b k g).d] [] fun r S => r = .tup [st (Cl.tell a b k g).cS, i64 (Cl.tell a b k g).cE] ∧ S = [] := by
  have tg := ctag_c (c := Cl.tell a b k g)
  obtain ⟨h0, h1, h2, h3⟩ := h
  have wb : CallR cx 57 [u8 (IntKind.u8.wrap (4 : Int))] [] fun r S => r = st (bigB 4 1) ∧ S = [] := by rw [wrap8 (by omega)]; exact wbyte_c (n := 4) (by omega)
  unfold tx at h0
  have c_a := wtext_c (s := a) (by omega)
  have z_a := textB_size a
  unfold tx at h1
  have c_b := wtext_c (s := b) (by omega)
  have z_b := textB_size b
  have c_k := wlong_c (n := k)
  have c_g := wsig_c h3
  have z_g := sigB_size h3
  unfold Cl.cS Cl.cE Cl.bytes Cl.tail Cl.tag Cl.d at *
  simp only at *
  rw [if_pos trivial]
  generalize textB a = B_a at *
  generalize textB b = B_b at *
  generalize sigB g = B_g at *
  obtain ⟨gi, g1, g2, g3⟩ := g
  unfold Sg.d at *
  try simp only at *
  generalize dgs g1 = gA at *
  generalize dgs g2 = gB at *
  generalize dgs g3 = gC at *
  refine callR_of (R := R1) cx_ok Tryd.func32 (by kernel_rfl) rfl ?_
  conv => whnf
  refine ⟨_, tg, ?_⟩
  rintro _ _ ⟨rfl, rfl⟩
  conv => whnf
  refine ⟨_, wb, ?_⟩
  rintro _ _ ⟨rfl, rfl⟩
  conv => whnf
  refine ⟨by kernel_rfl, ?_⟩
  conv => whnf
  refine ⟨_, c_a, ?_⟩
  conv => whnf
  refine ⟨_, c_b, ?_⟩
  conv => whnf
  refine ⟨by (repeat (first | rw [ByteArray.size_append] | rw [bigB_size])); omega, ?_⟩
  conv => whnf
  refine ⟨_, c_k, ?_⟩
  conv => whnf
  refine ⟨by (repeat (first | rw [ByteArray.size_append] | rw [bigB_size])); omega, ?_⟩
  conv => whnf
  refine ⟨_, c_g, ?_⟩
  conv => whnf
  refine ⟨by (repeat (first | rw [ByteArray.size_append] | rw [bigB_size])); omega, ?_⟩
  conv => whnf
  refine ⟨by (repeat (first | rw [ByteArray.size_append] | rw [bigB_size])); omega, ?_⟩
  conv => whnf
  refine ⟨by kernel_rfl, ?_⟩
  conv => whnf
  exact ⟨rfl, rfl⟩

theorem cb_submit {u : Up} (h : (Cl.submit u).fit) : CallR cx 32 [.d (Cl.submit u).d] [] fun r S => r = .tup [st (Cl.submit u).cS, i64 (Cl.submit u).cE] ∧ S = [] := by
  have tg := ctag_c (c := Cl.submit u)
  have h0 := h
  have wb : CallR cx 57 [u8 (IntKind.u8.wrap (5 : Int))] [] fun r S => r = st (bigB 5 1) ∧ S = [] := by rw [wrap8 (by omega)]; exact wbyte_c (n := 5) (by omega)
  have c_u := ctext_c h0
  have z_u := upB_size h0
  rw [← Nat.add_le_add_iff_left (n := 4), ← textB_size] at z_u
  unfold Cl.cS Cl.cE Cl.bytes Cl.tail Cl.tag Cl.d at *
  simp only at *
  rw [if_pos trivial]
  generalize textB (upB u) = B_u at *
  obtain ⟨uh, uo, un, ⟨ui, u1, u2, u3⟩⟩ := u
  unfold Up.d Sg.d dgD at *
  try simp only at *
  generalize dgs u1 = uA at *
  generalize dgs u2 = uB at *
  generalize dgs u3 = uC at *
  generalize D.bytes uo = uD at *
  generalize D.bytes un = uE at *
  refine callR_of (R := R1) cx_ok Tryd.func32 (by kernel_rfl) rfl ?_
  conv => whnf
  refine ⟨_, tg, ?_⟩
  rintro _ _ ⟨rfl, rfl⟩
  conv => whnf
  refine ⟨_, wb, ?_⟩
  rintro _ _ ⟨rfl, rfl⟩
  conv => whnf
  refine ⟨_, c_u, ?_⟩
  rintro _ _ ⟨rfl, rfl⟩
  conv => whnf
  refine ⟨by (repeat (first | rw [ByteArray.size_append] | rw [bigB_size])); omega, ?_⟩
  conv => whnf
  exact ⟨rfl, rfl⟩

theorem cb_improp {u : Up} {c : ByteArray} (h : (Cl.improp u c).fit) : CallR cx 32 [.d (Cl.improp u c).d] [] fun r S => r = .tup [st (Cl.improp u c).cS, i64 (Cl.improp u c).cE] ∧ S = [] := by
  have tg := ctag_c (c := Cl.improp u c)
  obtain ⟨h0, h1⟩ := h
  have wb : CallR cx 57 [u8 (IntKind.u8.wrap (6 : Int))] [] fun r S => r = st (bigB 6 1) ∧ S = [] := by rw [wrap8 (by omega)]; exact wbyte_c (n := 6) (by omega)
  have c_u := ctext_c h0
  have z_u := upB_size h0
  rw [← Nat.add_le_add_iff_left (n := 4), ← textB_size] at z_u
  unfold tx at h1
  have c_c := wtext_c (s := c) (by omega)
  have z_c := textB_size c
  unfold Cl.cS Cl.cE Cl.bytes Cl.tail Cl.tag Cl.d at *
  simp only at *
  rw [if_pos trivial]
  generalize textB (upB u) = B_u at *
  generalize textB c = B_c at *
  obtain ⟨uh, uo, un, ⟨ui, u1, u2, u3⟩⟩ := u
  unfold Up.d Sg.d dgD at *
  try simp only at *
  generalize dgs u1 = uA at *
  generalize dgs u2 = uB at *
  generalize dgs u3 = uC at *
  generalize D.bytes uo = uD at *
  generalize D.bytes un = uE at *
  refine callR_of (R := R1) cx_ok Tryd.func32 (by kernel_rfl) rfl ?_
  conv => whnf
  refine ⟨_, tg, ?_⟩
  rintro _ _ ⟨rfl, rfl⟩
  conv => whnf
  refine ⟨_, wb, ?_⟩
  rintro _ _ ⟨rfl, rfl⟩
  conv => whnf
  refine ⟨by kernel_rfl, ?_⟩
  conv => whnf
  refine ⟨_, c_u, ?_⟩
  conv => whnf
  refine ⟨_, c_c, ?_⟩
  conv => whnf
  refine ⟨by (repeat (first | rw [ByteArray.size_append] | rw [bigB_size])); omega, ?_⟩
  conv => whnf
  refine ⟨by (repeat (first | rw [ByteArray.size_append] | rw [bigB_size])); omega, ?_⟩
  conv => whnf
  refine ⟨by kernel_rfl, ?_⟩
  conv => whnf
  exact ⟨rfl, rfl⟩

theorem cb_double {u : Up} {v : Up} {c : ByteArray} (h : (Cl.double u v c).fit) : CallR cx 32 [.d (Cl.double u v c).d] [] fun r S => r = .tup [st (Cl.double u v c).cS, i64 (Cl.double u v c).cE] ∧ S = [] := by
  have tg := ctag_c (c := Cl.double u v c)
  obtain ⟨h0, h1, h2⟩ := h
  have wb : CallR cx 57 [u8 (IntKind.u8.wrap (7 : Int))] [] fun r S => r = st (bigB 7 1) ∧ S = [] := by rw [wrap8 (by omega)]; exact wbyte_c (n := 7) (by omega)
  have c_u := ctext_c h0
  have z_u := upB_size h0
  rw [← Nat.add_le_add_iff_left (n := 4), ← textB_size] at z_u
  have c_v := ctext_c h1
  have z_v := upB_size h1
  rw [← Nat.add_le_add_iff_left (n := 4), ← textB_size] at z_v
  unfold tx at h2
  have c_c := wtext_c (s := c) (by omega)
  have z_c := textB_size c
  unfold Cl.cS Cl.cE Cl.bytes Cl.tail Cl.tag Cl.d at *
  simp only at *
  rw [if_pos trivial]
  generalize textB (upB u) = B_u at *
  generalize textB (upB v) = B_v at *
  generalize textB c = B_c at *
  obtain ⟨uh, uo, un, ⟨ui, u1, u2, u3⟩⟩ := u
  obtain ⟨vh, vo, vn, ⟨vi, v1, v2, v3⟩⟩ := v
  unfold Up.d Sg.d dgD at *
  try simp only at *
  generalize dgs u1 = uA at *
  generalize dgs u2 = uB at *
  generalize dgs u3 = uC at *
  generalize D.bytes uo = uD at *
  generalize D.bytes un = uE at *
  generalize dgs v1 = vA at *
  generalize dgs v2 = vB at *
  generalize dgs v3 = vC at *
  generalize D.bytes vo = vD at *
  generalize D.bytes vn = vE at *
  refine callR_of (R := R1) cx_ok Tryd.func32 (by kernel_rfl) rfl ?_
  conv => whnf
  refine ⟨_, tg, ?_⟩
  rintro _ _ ⟨rfl, rfl⟩
  conv => whnf
  refine ⟨_, wb, ?_⟩
  rintro _ _ ⟨rfl, rfl⟩
  conv => whnf
  refine ⟨by kernel_rfl, ?_⟩
  conv => whnf
  refine ⟨_, c_u, ?_⟩
  conv => whnf
  refine ⟨_, c_v, ?_⟩
  conv => whnf
  refine ⟨by (repeat (first | rw [ByteArray.size_append] | rw [bigB_size])); omega, ?_⟩
  conv => whnf
  refine ⟨_, c_c, ?_⟩
  conv => whnf
  refine ⟨by (repeat (first | rw [ByteArray.size_append] | rw [bigB_size])); omega, ?_⟩
  conv => whnf
  refine ⟨by (repeat (first | rw [ByteArray.size_append] | rw [bigB_size])); omega, ?_⟩
  conv => whnf
  refine ⟨by kernel_rfl, ?_⟩
  conv => whnf
  exact ⟨rfl, rfl⟩

theorem cb_accept {u : Up} (h : (Cl.accept u).fit) : CallR cx 32 [.d (Cl.accept u).d] [] fun r S => r = .tup [st (Cl.accept u).cS, i64 (Cl.accept u).cE] ∧ S = [] := by
  have tg := ctag_c (c := Cl.accept u)
  have h0 := h
  have wb : CallR cx 57 [u8 (IntKind.u8.wrap (8 : Int))] [] fun r S => r = st (bigB 8 1) ∧ S = [] := by rw [wrap8 (by omega)]; exact wbyte_c (n := 8) (by omega)
  have c_u := ctext_c h0
  have z_u := upB_size h0
  rw [← Nat.add_le_add_iff_left (n := 4), ← textB_size] at z_u
  unfold Cl.cS Cl.cE Cl.bytes Cl.tail Cl.tag Cl.d at *
  simp only at *
  rw [if_pos trivial]
  generalize textB (upB u) = B_u at *
  obtain ⟨uh, uo, un, ⟨ui, u1, u2, u3⟩⟩ := u
  unfold Up.d Sg.d dgD at *
  try simp only at *
  generalize dgs u1 = uA at *
  generalize dgs u2 = uB at *
  generalize dgs u3 = uC at *
  generalize D.bytes uo = uD at *
  generalize D.bytes un = uE at *
  refine callR_of (R := R1) cx_ok Tryd.func32 (by kernel_rfl) rfl ?_
  conv => whnf
  refine ⟨_, tg, ?_⟩
  rintro _ _ ⟨rfl, rfl⟩
  conv => whnf
  refine ⟨_, wb, ?_⟩
  rintro _ _ ⟨rfl, rfl⟩
  conv => whnf
  refine ⟨_, c_u, ?_⟩
  rintro _ _ ⟨rfl, rfl⟩
  conv => whnf
  refine ⟨by (repeat (first | rw [ByteArray.size_append] | rw [bigB_size])); omega, ?_⟩
  conv => whnf
  exact ⟨rfl, rfl⟩

theorem cb_doubled {u : Up} {v : Up} (h : (Cl.doubled u v).fit) : CallR cx 32 [.d (Cl.doubled u v).d] [] fun r S => r = .tup [st (Cl.doubled u v).cS, i64 (Cl.doubled u v).cE] ∧ S = [] := by
  have tg := ctag_c (c := Cl.doubled u v)
  obtain ⟨h0, h1⟩ := h
  have wb : CallR cx 57 [u8 (IntKind.u8.wrap (9 : Int))] [] fun r S => r = st (bigB 9 1) ∧ S = [] := by rw [wrap8 (by omega)]; exact wbyte_c (n := 9) (by omega)
  have c_u := ctext_c h0
  have z_u := upB_size h0
  rw [← Nat.add_le_add_iff_left (n := 4), ← textB_size] at z_u
  have c_v := ctext_c h1
  have z_v := upB_size h1
  rw [← Nat.add_le_add_iff_left (n := 4), ← textB_size] at z_v
  unfold Cl.cS Cl.cE Cl.bytes Cl.tail Cl.tag Cl.d at *
  simp only at *
  rw [if_pos trivial]
  generalize textB (upB u) = B_u at *
  generalize textB (upB v) = B_v at *
  obtain ⟨uh, uo, un, ⟨ui, u1, u2, u3⟩⟩ := u
  obtain ⟨vh, vo, vn, ⟨vi, v1, v2, v3⟩⟩ := v
  unfold Up.d Sg.d dgD at *
  try simp only at *
  generalize dgs u1 = uA at *
  generalize dgs u2 = uB at *
  generalize dgs u3 = uC at *
  generalize D.bytes uo = uD at *
  generalize D.bytes un = uE at *
  generalize dgs v1 = vA at *
  generalize dgs v2 = vB at *
  generalize dgs v3 = vC at *
  generalize D.bytes vo = vD at *
  generalize D.bytes vn = vE at *
  refine callR_of (R := R1) cx_ok Tryd.func32 (by kernel_rfl) rfl ?_
  conv => whnf
  refine ⟨_, tg, ?_⟩
  rintro _ _ ⟨rfl, rfl⟩
  conv => whnf
  refine ⟨_, wb, ?_⟩
  rintro _ _ ⟨rfl, rfl⟩
  conv => whnf
  refine ⟨by kernel_rfl, ?_⟩
  conv => whnf
  refine ⟨_, c_u, ?_⟩
  conv => whnf
  refine ⟨_, c_v, ?_⟩
  conv => whnf
  refine ⟨by (repeat (first | rw [ByteArray.size_append] | rw [bigB_size])); omega, ?_⟩
  conv => whnf
  refine ⟨by (repeat (first | rw [ByteArray.size_append] | rw [bigB_size])); omega, ?_⟩
  conv => whnf
  refine ⟨by kernel_rfl, ?_⟩
  conv => whnf
  exact ⟨rfl, rfl⟩

theorem cb_halt {s : Sp} (h : (Cl.halt s).fit) : CallR cx 32 [.d (Cl.halt s).d] [] fun r S => r = .tup [st (Cl.halt s).cS, i64 (Cl.halt s).cE] ∧ S = [] := by
  have tg := ctag_c (c := Cl.halt s)
  have h0 := h
  have wb : CallR cx 57 [u8 (IntKind.u8.wrap (10 : Int))] [] fun r S => r = st (bigB 10 1) ∧ S = [] := by rw [wrap8 (by omega)]; exact wbyte_c (n := 10) (by omega)
  have c_s := wsp_c h0
  have e_s := wtext_c (s := spB s) (Nat.lt_of_le_of_lt (spB_size h0) (by decide))
  have z_s := spB_size h0
  have y_s := textB_size (spB s)
  unfold Cl.cS Cl.cE Cl.bytes Cl.tail Cl.tag Cl.d at *
  simp only at *
  rw [if_pos trivial]
  generalize textB (spB s) = B_s at *
  generalize spB s = P_s at *
  obtain ⟨sh, so, sw, ⟨si, s1, s2, s3⟩⟩ := s
  unfold Sp.d Sg.d dgD at *
  try simp only at *
  generalize dgs s1 = sA at *
  generalize dgs s2 = sB at *
  generalize dgs s3 = sC at *
  generalize D.bytes so = sD at *
  refine callR_of (R := R1) cx_ok Tryd.func32 (by kernel_rfl) rfl ?_
  conv => whnf
  refine ⟨_, tg, ?_⟩
  rintro _ _ ⟨rfl, rfl⟩
  conv => whnf
  refine ⟨_, wb, ?_⟩
  rintro _ _ ⟨rfl, rfl⟩
  conv => whnf
  refine ⟨_, c_s, ?_⟩
  rintro _ _ ⟨rfl, rfl⟩
  conv => whnf
  refine ⟨_, e_s, ?_⟩
  rintro _ _ ⟨rfl, rfl⟩
  conv => whnf
  refine ⟨by (repeat (first | rw [ByteArray.size_append] | rw [bigB_size])); omega, ?_⟩
  conv => whnf
  exact ⟨rfl, rfl⟩

theorem cb_prove {l : ByteArray} {i : Nat} {br : List ByteArray} (h : (Cl.prove l i br).fit) : CallR cx 32 [.d (Cl.prove l i br).d] [] fun r S => r = .tup [st (Cl.prove l i br).cS, i64 (Cl.prove l i br).cE] ∧ S = [] := by
  have tg := ctag_c (c := Cl.prove l i br)
  obtain ⟨h0, h1, h2⟩ := h
  have wb : CallR cx 57 [u8 (IntKind.u8.wrap (11 : Int))] [] fun r S => r = st (bigB 11 1) ∧ S = [] := by rw [wrap8 (by omega)]; exact wbyte_c (n := 11) (by omega)
  have c_l := wdig_c h0
  have c_i := wword_c (n := i) h1
  have c_br := wdgs_c h2
  have z_br := dgsB_size h2
  unfold Cl.cS Cl.cE Cl.bytes Cl.tail Cl.tag Cl.d at *
  simp only at *
  rw [if_pos trivial]
  generalize dgsB br = B_br at *
  unfold dgD at *
  try simp only at *
  generalize D.bytes l = lD at *
  generalize dgs br = brA at *
  refine callR_of (R := R1) cx_ok Tryd.func32 (by kernel_rfl) rfl ?_
  conv => whnf
  refine ⟨_, tg, ?_⟩
  rintro _ _ ⟨rfl, rfl⟩
  conv => whnf
  refine ⟨_, wb, ?_⟩
  rintro _ _ ⟨rfl, rfl⟩
  conv => whnf
  refine ⟨by kernel_rfl, ?_⟩
  conv => whnf
  refine ⟨_, c_l, ?_⟩
  conv => whnf
  refine ⟨_, c_i, ?_⟩
  conv => whnf
  refine ⟨by (repeat (first | rw [ByteArray.size_append] | rw [bigB_size])); omega, ?_⟩
  conv => whnf
  refine ⟨_, c_br, ?_⟩
  conv => whnf
  refine ⟨by (repeat (first | rw [ByteArray.size_append] | rw [bigB_size])); omega, ?_⟩
  conv => whnf
  refine ⟨by (repeat (first | rw [ByteArray.size_append] | rw [bigB_size])); omega, ?_⟩
  conv => whnf
  refine ⟨by kernel_rfl, ?_⟩
  conv => whnf
  exact ⟨rfl, rfl⟩

theorem cb_no : CallR cx 32 [.d Cl.no.d] [] fun r S => r = .tup [st Cl.no.cS, i64 Cl.no.cE] ∧ S = [] := by
  have tg := ctag_c (c := Cl.no)
  have wb : CallR cx 57 [u8 (IntKind.u8.wrap (0 : Int))] [] fun r S => r = st (bigB 0 1) ∧ S = [] := by rw [wrap8 (by omega)]; exact wbyte_c (n := 0) (by omega)
  refine callR_of (R := R1) cx_ok Tryd.func32 (by kernel_rfl) rfl ?_
  conv => whnf
  refine ⟨_, tg, ?_⟩
  rintro _ _ ⟨rfl, rfl⟩
  conv => whnf
  refine ⟨_, wb, ?_⟩
  rintro _ _ ⟨rfl, rfl⟩
  conv => whnf
  exact ⟨rfl, rfl⟩

theorem cb_word : CallR cx 32 [.d Cl.word.d] [] fun r S => r = .tup [st Cl.word.cS, i64 Cl.word.cE] ∧ S = [] := by
  have tg := ctag_c (c := Cl.word)
  have wb : CallR cx 57 [u8 (IntKind.u8.wrap (0 : Int))] [] fun r S => r = st (bigB 0 1) ∧ S = [] := by rw [wrap8 (by omega)]; exact wbyte_c (n := 0) (by omega)
  refine callR_of (R := R1) cx_ok Tryd.func32 (by kernel_rfl) rfl ?_
  conv => whnf
  refine ⟨_, tg, ?_⟩
  rintro _ _ ⟨rfl, rfl⟩
  conv => whnf
  refine ⟨_, wb, ?_⟩
  rintro _ _ ⟨rfl, rfl⟩
  conv => whnf
  exact ⟨rfl, rfl⟩

theorem cbytes_n {c : Cl} (h : c.fit) (h12 : c.tag ≠ 12) : CallR cx 32 [.d c.d] [] fun r S => r = .tup [st c.cS, i64 c.cE] ∧ S = [] := by
  cases c with
  | pay a b n k g => exact cb_pay h
  | send a o t b n k g => exact cb_send h
  | say a b k g => exact cb_say h
  | tell a b k g => exact cb_tell h
  | submit u => exact cb_submit h
  | improp u c => exact cb_improp h
  | double u v c => exact cb_double h
  | accept u => exact cb_accept h
  | doubled u v => exact cb_doubled h
  | halt s => exact cb_halt h
  | prove l i br => exact cb_prove h
  | process l => exact absurd rfl h12
  | no => exact cb_no
  | word => exact cb_word

end Go.Proofs.YtboohfijacjhjaaDoor

/- Calls: who signs, the index, whether two are one (printed by gen/csame.py). -/
set_option linter.unusedVariables false
namespace Go.Proofs.YtboohfijacjhjaaDoor
open Go.Ab Go.RowKit

def Cl.who : Cl → ByteArray
  | .pay a _ _ _ _ => a
  | .send a _ _ _ _ _ _ => a
  | .say a _ _ _ => a
  | .tell a _ _ _ => a
  | _ => .empty
def Cl.non : Cl → Nat
  | .pay _ _ _ k _ => k
  | .send _ _ _ _ _ k _ => k
  | .say _ _ k _ => k
  | .tell _ _ k _ => k
  | _ => 0
def Cl.sg : Cl → Sg
  | .pay _ _ _ _ g => g
  | .send _ _ _ _ _ _ g => g
  | .say _ _ _ g => g
  | .tell _ _ _ g => g
  | _ => sg0
def Cl.isS : Cl → Bool
  | .pay .. => true
  | .send .. => true
  | .say .. => true
  | .tell .. => true
  | _ => false

theorem csigned_c {c : Cl} : CallR cx 42 [.d c.d] [] fun r S => r = .tup [st c.who, u64 (c.non : Int), .d c.sg.d, bo c.isS] ∧ S = [] := by
  cases c with
  | pay a b n k g =>
    obtain ⟨gi, g1, g2, g3⟩ := g
    unfold Cl.d Cl.who Cl.non Cl.sg Cl.isS Sg.d
    simp only
    generalize dgs g1 = gA at *
    generalize dgs g2 = gB at *
    generalize dgs g3 = gC at *
    refine callR_of (R := R1) cx_ok Tryd.func42 (by kernel_rfl) rfl ?_
    conv => whnf
    refine ⟨by kernel_rfl, ?_⟩
    conv => whnf
    refine ⟨by kernel_rfl, ?_⟩
    conv => whnf
    exact ⟨rfl, rfl⟩
  | send a o t b n k g =>
    obtain ⟨gi, g1, g2, g3⟩ := g
    unfold Cl.d Cl.who Cl.non Cl.sg Cl.isS Sg.d
    simp only
    generalize dgs g1 = gA at *
    generalize dgs g2 = gB at *
    generalize dgs g3 = gC at *
    refine callR_of (R := R1) cx_ok Tryd.func42 (by kernel_rfl) rfl ?_
    conv => whnf
    refine ⟨by kernel_rfl, ?_⟩
    conv => whnf
    refine ⟨by kernel_rfl, ?_⟩
    conv => whnf
    exact ⟨rfl, rfl⟩
  | say a b k g =>
    obtain ⟨gi, g1, g2, g3⟩ := g
    unfold Cl.d Cl.who Cl.non Cl.sg Cl.isS Sg.d
    simp only
    generalize dgs g1 = gA at *
    generalize dgs g2 = gB at *
    generalize dgs g3 = gC at *
    refine callR_of (R := R1) cx_ok Tryd.func42 (by kernel_rfl) rfl ?_
    conv => whnf
    refine ⟨by kernel_rfl, ?_⟩
    conv => whnf
    refine ⟨by kernel_rfl, ?_⟩
    conv => whnf
    exact ⟨rfl, rfl⟩
  | tell a b k g =>
    obtain ⟨gi, g1, g2, g3⟩ := g
    unfold Cl.d Cl.who Cl.non Cl.sg Cl.isS Sg.d
    simp only
    generalize dgs g1 = gA at *
    generalize dgs g2 = gB at *
    generalize dgs g3 = gC at *
    refine callR_of (R := R1) cx_ok Tryd.func42 (by kernel_rfl) rfl ?_
    conv => whnf
    refine ⟨by kernel_rfl, ?_⟩
    conv => whnf
    refine ⟨by kernel_rfl, ?_⟩
    conv => whnf
    exact ⟨rfl, rfl⟩
  | submit u =>
    refine callR_of (R := R1) cx_ok Tryd.func42 (by kernel_rfl) rfl ?_
    conv => whnf
    exact ⟨rfl, rfl⟩
  | improp u c =>
    refine callR_of (R := R1) cx_ok Tryd.func42 (by kernel_rfl) rfl ?_
    conv => whnf
    exact ⟨rfl, rfl⟩
  | double u v c =>
    refine callR_of (R := R1) cx_ok Tryd.func42 (by kernel_rfl) rfl ?_
    conv => whnf
    exact ⟨rfl, rfl⟩
  | accept u =>
    refine callR_of (R := R1) cx_ok Tryd.func42 (by kernel_rfl) rfl ?_
    conv => whnf
    exact ⟨rfl, rfl⟩
  | doubled u v =>
    refine callR_of (R := R1) cx_ok Tryd.func42 (by kernel_rfl) rfl ?_
    conv => whnf
    exact ⟨rfl, rfl⟩
  | halt s =>
    refine callR_of (R := R1) cx_ok Tryd.func42 (by kernel_rfl) rfl ?_
    conv => whnf
    exact ⟨rfl, rfl⟩
  | prove l i br =>
    refine callR_of (R := R1) cx_ok Tryd.func42 (by kernel_rfl) rfl ?_
    conv => whnf
    exact ⟨rfl, rfl⟩
  | process l =>
    refine callR_of (R := R1) cx_ok Tryd.func42 (by kernel_rfl) rfl ?_
    conv => whnf
    exact ⟨rfl, rfl⟩
  | no =>
    refine callR_of (R := R1) cx_ok Tryd.func42 (by kernel_rfl) rfl ?_
    conv => whnf
    exact ⟨rfl, rfl⟩
  | word =>
    refine callR_of (R := R1) cx_ok Tryd.func42 (by kernel_rfl) rfl ?_
    conv => whnf
    exact ⟨rfl, rfl⟩

def idxD (x : Int × Int) : D := .arr 3 1 [.int .i64 x.1, .int .i64 x.2, .int .i64 0]

theorem cindex_c {c : Cl} : CallR cx 52 [.d c.d] [] fun r S => r = .d (idxD c.idx) ∧ S = [] := by
  have sc := csigned_c (c := c)
  cases c with
  | pay a b n k g =>
    obtain ⟨gi, g1, g2, g3⟩ := g
    refine callR_of (R := R1) cx_ok Tryd.func52 (by kernel_rfl) rfl ?_
    conv => whnf
    refine ⟨_, sc, ?_⟩
    rintro _ _ ⟨rfl, rfl⟩
    conv => whnf
    exact ⟨rfl, rfl⟩
  | send a o t b n k g =>
    obtain ⟨gi, g1, g2, g3⟩ := g
    refine callR_of (R := R1) cx_ok Tryd.func52 (by kernel_rfl) rfl ?_
    conv => whnf
    refine ⟨_, sc, ?_⟩
    rintro _ _ ⟨rfl, rfl⟩
    conv => whnf
    exact ⟨rfl, rfl⟩
  | say a b k g =>
    obtain ⟨gi, g1, g2, g3⟩ := g
    refine callR_of (R := R1) cx_ok Tryd.func52 (by kernel_rfl) rfl ?_
    conv => whnf
    refine ⟨_, sc, ?_⟩
    rintro _ _ ⟨rfl, rfl⟩
    conv => whnf
    exact ⟨rfl, rfl⟩
  | tell a b k g =>
    obtain ⟨gi, g1, g2, g3⟩ := g
    refine callR_of (R := R1) cx_ok Tryd.func52 (by kernel_rfl) rfl ?_
    conv => whnf
    refine ⟨_, sc, ?_⟩
    rintro _ _ ⟨rfl, rfl⟩
    conv => whnf
    exact ⟨rfl, rfl⟩
  | submit u =>
    obtain ⟨uh, uo, un, ⟨ui, u1, u2, u3⟩⟩ := u
    refine callR_of (R := R1) cx_ok Tryd.func52 (by kernel_rfl) rfl ?_
    conv => whnf
    refine ⟨_, sc, ?_⟩
    rintro _ _ ⟨rfl, rfl⟩
    conv => whnf
    exact ⟨rfl, rfl⟩
  | improp u c =>
    obtain ⟨uh, uo, un, ⟨ui, u1, u2, u3⟩⟩ := u
    refine callR_of (R := R1) cx_ok Tryd.func52 (by kernel_rfl) rfl ?_
    conv => whnf
    refine ⟨_, sc, ?_⟩
    rintro _ _ ⟨rfl, rfl⟩
    conv => whnf
    exact ⟨rfl, rfl⟩
  | double u v c =>
    obtain ⟨uh, uo, un, ⟨ui, u1, u2, u3⟩⟩ := u
    obtain ⟨vh, vo, vn, ⟨vi, v1, v2, v3⟩⟩ := v
    refine callR_of (R := R1) cx_ok Tryd.func52 (by kernel_rfl) rfl ?_
    conv => whnf
    refine ⟨_, sc, ?_⟩
    rintro _ _ ⟨rfl, rfl⟩
    conv => whnf
    exact ⟨rfl, rfl⟩
  | accept u =>
    obtain ⟨uh, uo, un, ⟨ui, u1, u2, u3⟩⟩ := u
    refine callR_of (R := R1) cx_ok Tryd.func52 (by kernel_rfl) rfl ?_
    conv => whnf
    refine ⟨_, sc, ?_⟩
    rintro _ _ ⟨rfl, rfl⟩
    conv => whnf
    exact ⟨rfl, rfl⟩
  | doubled u v =>
    obtain ⟨uh, uo, un, ⟨ui, u1, u2, u3⟩⟩ := u
    obtain ⟨vh, vo, vn, ⟨vi, v1, v2, v3⟩⟩ := v
    refine callR_of (R := R1) cx_ok Tryd.func52 (by kernel_rfl) rfl ?_
    conv => whnf
    refine ⟨_, sc, ?_⟩
    rintro _ _ ⟨rfl, rfl⟩
    conv => whnf
    exact ⟨rfl, rfl⟩
  | halt s =>
    obtain ⟨sh, so, sw, ⟨si, s1, s2, s3⟩⟩ := s
    refine callR_of (R := R1) cx_ok Tryd.func52 (by kernel_rfl) rfl ?_
    conv => whnf
    refine ⟨_, sc, ?_⟩
    rintro _ _ ⟨rfl, rfl⟩
    conv => whnf
    exact ⟨rfl, rfl⟩
  | prove l i br =>
    refine callR_of (R := R1) cx_ok Tryd.func52 (by kernel_rfl) rfl ?_
    conv => whnf
    refine ⟨_, sc, ?_⟩
    rintro _ _ ⟨rfl, rfl⟩
    conv => whnf
    exact ⟨rfl, rfl⟩
  | process l =>
    obtain ⟨la, lb, lc, lx, ly, lz⟩ := l
    refine callR_of (R := R1) cx_ok Tryd.func52 (by kernel_rfl) rfl ?_
    conv => whnf
    refine ⟨_, sc, ?_⟩
    rintro _ _ ⟨rfl, rfl⟩
    conv => whnf
    exact ⟨rfl, rfl⟩
  | no =>
    refine callR_of (R := R1) cx_ok Tryd.func52 (by kernel_rfl) rfl ?_
    conv => whnf
    refine ⟨_, sc, ?_⟩
    rintro _ _ ⟨rfl, rfl⟩
    conv => whnf
    exact ⟨rfl, rfl⟩
  | word =>
    refine callR_of (R := R1) cx_ok Tryd.func52 (by kernel_rfl) rfl ?_
    conv => whnf
    refine ⟨_, sc, ?_⟩
    rintro _ _ ⟨rfl, rfl⟩
    conv => whnf
    exact ⟨rfl, rfl⟩

theorem cwhole_c {c : Cl} (h : c.fit) (h12 : c.tag ≠ 12) : CallR cx 51 [.d c.d] [] fun r S => r = .tup [st c.cS, i64 c.cE] ∧ S = [] := by
  have cb := cbytes_n h h12
  generalize c.cS = s at *
  generalize c.cE = e at *
  generalize c.d = x at *
  refine callR_of (R := R1) cx_ok Tryd.func51 (by kernel_rfl) rfl ?_
  conv => whnf
  refine ⟨_, cb, ?_⟩
  rintro _ _ ⟨rfl, rfl⟩
  conv => whnf
  exact ⟨rfl, rfl⟩

theorem deq_iff {x y : D} {P : Prop} [Decidable P] (h : x = y ↔ P) : deq x y = decide P := by
  by_cases g : P
  · rw [decide_eq_true g]; exact deq_true.2 (h.2 g)
  · rw [decide_eq_false g]; exact deq_false.2 (fun e => g (h.1 e))

theorem idxD_inj {I J : Int × Int} : idxD I = idxD J ↔ I = J := by
  constructor
  · intro h
    unfold idxD at h
    injection h with _ _ h
    simp only [List.cons.injEq, D.int.injEq] at h
    exact Prod.ext h.1.2 h.2.1.2
  · rintro rfl; rfl

theorem sideI {I J : Int × Int} : ∃ T : Ty, T.fitE cx.tt 130 = true ∧ Nat.blt T.depth 9999 = true ∧ T.is (idxD I) ∧ T.is (idxD J) :=
  ⟨.arr 3 1 (.int .i64), by kernel_rfl, by kernel_rfl,
    ⟨_, rfl, rfl, fun y hy => by simp only [List.mem_cons, List.not_mem_nil, or_false] at hy; rcases hy with rfl | rfl | rfl <;> exact ⟨_, rfl⟩⟩,
    ⟨_, rfl, rfl, fun y hy => by simp only [List.mem_cons, List.not_mem_nil, or_false] at hy; rcases hy with rfl | rfl | rfl <;> exact ⟨_, rfl⟩⟩⟩

theorem same_0 {x y : D} (tg : CallR cx 36 [.d x] [] fun r S => r = i64 0 ∧ S = []) :
    CallR cx 23 [.d x, .d y] [] fun r S => r = bo false ∧ S = [] := by
  refine callR_of (R := R1) cx_ok Tryd.func23 (by kernel_rfl) rfl ?_
  conv => whnf
  refine ⟨_, tg, ?_⟩
  rintro _ _ ⟨rfl, rfl⟩
  conv => whnf
  exact ⟨rfl, rfl⟩

theorem same_ne {x y : D} {t u : Int} (h0 : t ≠ 0) (h : t ≠ u) (tg : CallR cx 36 [.d x] [] fun r S => r = i64 t ∧ S = [])
    (tg2 : CallR cx 36 [.d y] [] fun r S => r = i64 u ∧ S = []) :
    CallR cx 23 [.d x, .d y] [] fun r S => r = bo false ∧ S = [] := by
  refine callR_of (R := R1) cx_ok Tryd.func23 (by kernel_rfl) rfl ?_
  conv => whnf
  refine ⟨_, tg, ?_⟩
  rintro _ _ ⟨rfl, rfl⟩
  conv => whnf
  refine brF (beq_eq_false_iff_ne.2 h0) ?_
  conv => whnf
  refine ⟨_, tg, ?_⟩
  rintro _ _ ⟨rfl, rfl⟩
  conv => whnf
  refine ⟨_, tg2, ?_⟩
  rintro _ _ ⟨rfl, rfl⟩
  conv => whnf
  refine brT (bne_iff_ne.2 h) ?_
  conv => whnf
  exact ⟨rfl, rfl⟩

theorem same_b {c : Cl} {y : D} {t e e2 : Int} {s s2 : ByteArray} {I J : Int × Int} (h0 : t ≠ 0) (h12 : c.tag ≠ 12) (tg : CallR cx 36 [.d c.d] [] fun r S => r = i64 t ∧ S = [])
    (tg2 : CallR cx 36 [.d y] [] fun r S => r = i64 t ∧ S = [])
    (wc : CallR cx 51 [.d c.d] [] fun r S => r = .tup [st s, i64 e] ∧ S = [])
    (wd : CallR cx 51 [.d y] [] fun r S => r = .tup [st s2, i64 e2] ∧ S = [])
    (ic : CallR cx 52 [.d c.d] [] fun r S => r = .d (idxD I) ∧ S = [])
    (jc : CallR cx 52 [.d y] [] fun r S => r = .d (idxD J) ∧ S = []) :
    CallR cx 23 [.d c.d, .d y] [] fun r S => r = bo (decide (s = s2) && decide (I = J)) ∧ S = [] := by
  have hI := deq_iff (idxD_inj (I := I) (J := J))
  have sd := sideI (I := I) (J := J)
  unfold idxD at hI sd ic jc
  cases c with
  | process l => exact absurd rfl h12
  | _ =>
    refine callR_of (R := R1) cx_ok Tryd.func23 (by kernel_rfl) rfl ?_
    conv => whnf
    refine ⟨_, tg, ?_⟩
    rintro _ _ ⟨rfl, rfl⟩
    conv => whnf
    refine brF (beq_eq_false_iff_ne.2 h0) ?_
    conv => whnf
    refine ⟨_, tg, ?_⟩
    rintro _ _ ⟨rfl, rfl⟩
    conv => whnf
    refine ⟨_, tg2, ?_⟩
    rintro _ _ ⟨rfl, rfl⟩
    conv => whnf
    refine brF (bne_eq_false_iff_eq.2 rfl) ?_
    conv => whnf
    refine ⟨_, wc, ?_⟩
    rintro _ _ ⟨rfl, rfl⟩
    conv => whnf
    refine ⟨_, wd, ?_⟩
    rintro _ _ ⟨rfl, rfl⟩
    conv => whnf
    by_cases hs : s = s2
    · rw [decide_eq_true hs]
      conv => whnf
      refine ⟨_, ic, ?_⟩
      rintro _ _ ⟨rfl, rfl⟩
      conv => whnf
      refine ⟨_, jc, ?_⟩
      rintro _ _ ⟨rfl, rfl⟩
      conv => whnf
      refine ⟨sd, ?_⟩
      conv => whnf
      refine ⟨?_, rfl⟩
      rw [hI, Bool.true_and]
      rfl
    · rw [decide_eq_false hs]
      conv => whnf
      exact ⟨rfl, rfl⟩


theorem leD_inj {l m : Le} : l.d = m.d ↔ l = m := by
  constructor
  · intro h
    obtain ⟨a, b, c, x, y, z⟩ := l
    obtain ⟨a', b', c', x', y', z'⟩ := m
    unfold Le.d at h
    injection h with h
    simp only [List.cons.injEq, D.int.injEq, D.str.injEq, true_and, and_true, Int.ofNat_inj] at h
    obtain ⟨rfl, rfl, rfl, rfl, rfl, rfl⟩ := h
    rfl
  · rintro rfl; rfl

theorem sideL {l m : Le} : ∃ T : Ty, T.fitE cx.tt 49 = true ∧ Nat.blt T.depth 9999 = true ∧ T.is l.d ∧ T.is m.d :=
  ⟨.st [.int .u32, .int .u32, .int .u32, .str, .str, .str], by kernel_rfl, by kernel_rfl,
    ⟨_, rfl, _, _, rfl, ⟨_, rfl⟩, _, _, rfl, ⟨_, rfl⟩, _, _, rfl, ⟨_, rfl⟩, _, _, rfl, ⟨_, rfl⟩, _, _, rfl, ⟨_, rfl⟩, _, _, rfl, ⟨_, rfl⟩, rfl⟩,
    ⟨_, rfl, _, _, rfl, ⟨_, rfl⟩, _, _, rfl, ⟨_, rfl⟩, _, _, rfl, ⟨_, rfl⟩, _, _, rfl, ⟨_, rfl⟩, _, _, rfl, ⟨_, rfl⟩, _, _, rfl, ⟨_, rfl⟩, rfl⟩⟩

noncomputable instance decLe : DecidableEq Le := fun a b => Classical.propDecidable _

theorem lsame_c {l m : Le} : CallR cx 50 [.d l.d, .d m.d] [] fun r S => r = bo (decide (l = m)) ∧ S = [] := by
  have h := deq_iff (leD_inj (l := l) (m := m))
  have sd := sideL (l := l) (m := m)
  obtain ⟨a, b, c, x, y, z⟩ := l
  obtain ⟨a', b', c', x', y', z'⟩ := m
  refine callR_of (R := R1) cx_ok Tryd.func50 (by kernel_rfl) rfl ?_
  conv => whnf
  refine ⟨sd, ?_⟩
  conv => whnf
  refine ⟨?_, rfl⟩
  rw [← h]
  rfl

theorem same_p {l m : Le} : CallR cx 23 [.d (Cl.process l).d, .d (Cl.process m).d] [] fun r S => r = bo (decide (l = m)) ∧ S = [] := by
  have tg := ctag_c (c := .process l)
  have tg2 := ctag_c (c := .process m)
  have ls := lsame_c (l := l) (m := m)
  generalize decide (l = m) = q at *
  obtain ⟨a, b, c, x, y, z⟩ := l
  obtain ⟨a', b', c', x', y', z'⟩ := m
  refine callR_of (R := R1) cx_ok Tryd.func23 (by kernel_rfl) rfl ?_
  conv => whnf
  refine ⟨_, tg, ?_⟩
  rintro _ _ ⟨rfl, rfl⟩
  conv => whnf
  refine ⟨_, tg, ?_⟩
  rintro _ _ ⟨rfl, rfl⟩
  conv => whnf
  refine ⟨_, tg2, ?_⟩
  rintro _ _ ⟨rfl, rfl⟩
  conv => whnf
  refine ⟨by kernel_rfl, ?_⟩
  conv => whnf
  refine ⟨_, ls, ?_⟩
  conv => whnf
  refine ⟨by kernel_rfl, ?_⟩
  conv => whnf
  exact ⟨rfl, rfl⟩

noncomputable instance decCl : DecidableEq Cl := fun a b => Classical.propDecidable _

theorem csame_c {c d : Cl} (hc : c.fit) (hd : d.fit) : CallR cx 23 [.d c.d, .d d.d] [] fun r S => r = bo (decide (0 < c.tag) && decide (c = d)) ∧ S = [] := by
  have tg := ctag_c (c := c)
  have tg2 := ctag_c (c := d)
  by_cases h0 : c.tag = 0
  · rw [h0] at tg ⊢
    exact same_0 tg
  have h0' : 0 < c.tag := by omega
  rw [decide_eq_true h0', Bool.true_and]
  by_cases ht : c.tag = d.tag
  case neg =>
    have hne : c ≠ d := fun e => ht (by rw [e])
    rw [decide_eq_false hne]
    exact same_ne (by omega) (by omega) tg tg2
  by_cases h12 : c.tag = 12
  · cases c <;> first | (simp [Cl.tag] at h12; done) | skip
    cases d <;> first | (simp [Cl.tag] at ht; done) | skip
    rename_i l m
    have e : (decide (Cl.process l = Cl.process m)) = decide (l = m) := by
      by_cases q : l = m
      · subst q; rw [decide_eq_true rfl, decide_eq_true rfl]
      · rw [decide_eq_false q, decide_eq_false (fun z => q (by injection z))]
    rw [e]
    exact same_p
  have wc := cwhole_c hc h12
  have wd := cwhole_c hd (by rw [← ht]; exact h12)
  have ic := cindex_c (c := c)
  have jc := cindex_c (c := d)
  rw [← ht] at tg2
  refine (same_b (by omega) h12 tg tg2 wc wd ic jc).mono fun r S ⟨g1, g2⟩ => ⟨?_, g2⟩
  rw [g1]
  refine congrArg bo ?_
  have hE : ∀ {c : Cl}, c.tag ≠ 0 → c.tag ≠ 12 → c.cS = c.bytes := by
    intro c a b
    unfold Cl.cS
    refine if_pos ?_
    cases c <;> first | rfl | (exact absurd rfl a) | (exact absurd rfl b)
  rw [hE h0 h12, hE (by omega) (by omega)]
  by_cases hcd : c = d
  · subst hcd
    rw [decide_eq_true rfl, decide_eq_true rfl, decide_eq_true rfl]; rfl
  · rw [decide_eq_false hcd]
    by_cases hb : c.bytes = d.bytes
    · by_cases hi : c.idx = d.idx
      · exact absurd (bytes_inj hc hd h0' hb ⟨fun _ => by rw [hi], fun _ => by rw [hi]⟩) hcd
      · rw [decide_eq_false hi, Bool.and_false]
    · rw [decide_eq_false hb, Bool.false_and]
end Go.Proofs.YtboohfijacjhjaaDoor
