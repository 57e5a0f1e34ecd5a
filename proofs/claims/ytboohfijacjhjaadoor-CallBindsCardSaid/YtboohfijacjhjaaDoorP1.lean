/- What one statement needs of the texts, by slice.py. -/
import Derived.Test.YtboohfijacjhjaaDoorTy
import Derived.Test.YtboohfijacjhjaaDoorAbZ
import Derived.Shelf.RegionOpenPlain
import Derived.Lib.Walk
import Derived.Lib.Builder
import Derived.Lib.AppendStr
import Derived.Lib.UnsafeStr
import Derived.WalkKit
import Derived.Laws.Externs
import Derived.Shelf.Unicode.DecodeAny
import Derived.Test.YtboohfijacjhjaaDoorProg
import Derived.Lib.DecodeN

/- The program's context in the own logic: types, the weights of calls, sha's first state and constants. -/
namespace Go.Proofs.YtboohfijacjhjaaDoor
open Go.Ab
/-- What call.weights holds. -/
def wgL : List Int := [0, 1, 3, 2, 2, 4, 6, 8, 4, 8, 4, 4, 5]
/-- What sha.first holds. -/
def fiL : List Int := [1779033703, 3144134277, 1013904242, 2773480762, 1359893119, 2600822924, 528734635, 1541459225]
/-- What sha.constants holds. -/
def coL : List Int := [1116352408, 1899447441, 3049323471, 3921009573, 961987163, 1508970993, 2453635748, 2870763221, 3624381080, 310598401, 607225278, 1426881987, 1925078388, 2162078206, 2614888103, 3248222580, 3835390401, 4022224774, 264347078, 604807628, 770255983, 1249150122, 1555081692, 1996064986, 2554220882, 2821834349, 2952996808, 3210313671, 3336571891, 3584528711, 113926993, 338241895, 666307205, 773529912, 1294757372, 1396182291, 1695183700, 1986661051, 2177026350, 2456956037, 2730485921, 2820302411, 3259730800, 3345764771, 3516065817, 3600352804, 4094571909, 275423344, 430227734, 506948616, 659060556, 883997877, 958139571, 1322822218, 1537002063, 1747873779, 1955562222, 2024104815, 2227730452, 2361852424, 2428436474, 2756734187, 3204031479, 3329325298]
def intsD (k : IntKind) (l : List Int) : D := .arr l.length 1 (l.map fun z => .int k z)
def gl (g : Nat) : Option D := match Nat.beq g 0 with
  | true => some (intsD .u64 wgL)
  | false => match Nat.beq g 2 with
    | true => some (intsD .u32 fiL)
    | false => match Nat.beq g 5 with
      | true => some (intsD .u32 coL)
      | false => none
def rwsOf (t : Nat) : Option (List (Option TypeId)) := match Nat.beq t 199 with
  | true => some [none, some 5]
  | false => none
def rowfOf (_ : Nat) : Bool := false
def mksOf (_ : Nat) : Bool := false
noncomputable def cx : Ctx := { P := Tryd.prog, tt := ty.look, glob := gl, rws := rwsOf, rowf := rowfOf, mks := mksOf }
theorem cx_ok : cx.ok := tab_ok ty_fits
theorem laid : laidOutB Tryd.prog = true := by kernel_rfl
abbrev u64 (n : Int) : AV := .d (.int .u64 n)
abbrev i64 (n : Int) : AV := .d (.int .i64 n)
abbrev i32 (n : Int) : AV := .d (.int .i32 n)
abbrev u8 (n : Int) : AV := .d (.int .u8 n)
abbrev bo (b : Bool) : AV := .d (.bool b)
abbrev st (s : ByteArray) : AV := .d (.str s)

theorem CL.intsK {w G} {k : IntKind} : ∀ l : List Int, CL w G (l.map fun z => D.int k z) (l.map fun z => Value.int k z)
  | [] => .nil
  | _ :: l => .int (CL.intsK l)

theorem ints_glob {w : World} {g : Nat} {k : IntKind} {l : List Int} (h : ∀ j v, (l.map fun z => Value.int k z)[j]? = some v → w.cell? ⟨g, j, none⟩ = some v) : VD w (Old w) (.cptr (intsD k l)) (.pointer (some ⟨g, 0, none⟩)) := by
  refine VD.of_single (.cptr (c := l.map fun z => Value.int k z) ?_ ?_ .nil) rfl
  · have := CL.arr (n := l.length) (sz := 1) (CL.intsK (w := w) (G := Old w) (k := k) l) (by simp) (fun x hx => by obtain ⟨j, _, rfl⟩ := List.mem_map.1 hx; rfl) (r := []) (cs := []) .nil
    rw [List.append_nil] at this
    exact this
  · intro j v hj
    rw [Nat.zero_add]
    exact ⟨h j v hj, World.block_lt_of_cell? w _ (h j v hj)⟩

theorem glw_reads {w : World} (h : ∀ j v, (wgL.map fun z => Value.int .u64 z)[j]? = some v → w.cell? ⟨0, j, none⟩ = some v)
    (h2 : ∀ j v, (fiL.map fun z => Value.int .u32 z)[j]? = some v → w.cell? ⟨2, j, none⟩ = some v)
    (h3 : ∀ j v, (coL.map fun z => Value.int .u32 z)[j]? = some v → w.cell? ⟨5, j, none⟩ = some v) : ∀ g x, cx.glob g = some x → VD w (Old w) (.cptr x) (.pointer (some ⟨g, 0, none⟩)) := by
  intro g x hx
  change gl g = some x at hx
  unfold gl at hx
  split at hx
  · rename_i e
    obtain rfl := Nat.eq_of_beq_eq_true e
    cases hx
    exact ints_glob h
  · split at hx
    · rename_i e
      obtain rfl := Nat.eq_of_beq_eq_true e
      cases hx
      exact ints_glob h2
    · split at hx
      · rename_i e
        obtain rfl := Nat.eq_of_beq_eq_true e
        cases hx
        exact ints_glob h3
      · cases hx
/-- A contract out of a run of a function that has a body. -/
theorem callR_raw {c : Ctx} {f : FuncId} {fn : Func} {args : List AV} {S : List Blk} {Post : AV → List Blk → Prop} (hf : c.P.funcs[f]? = some fn) (hname : (fn.name == "runtime.NumGoroutine") = false) (hb : fn.body.isSome = true)
    (h : ∀ (μ : Nat → Value) (G : Nat → Nat → Prop) (w : World) (vals : List Value), St (base c S μ G w) S μ G w → VS μ S.length w G args vals →
      Calls c.P f vals.toArray w fun e w' => ∃ v r S' μ' G', e = .returned v ∧ Post r S' ∧ St (base c S μ G w) S' μ' G' w' ∧ RA μ' S'.length w' G' r v) : CallR c f args S Post := by
  intro μ G w vals st hv
  left
  constructor
  · cases hbb : fn.body with
    | none => rw [hbb] at hb; cases hb
    | some code =>
      simp only [callFunc, Sem.run_bind, run_program, Result.andThen_ok, hf, hname, hbb]
      rfl
  · exact h μ G w vals st hv
end Go.Proofs.YtboohfijacjhjaaDoor

/- strings.Builder: copyCheck, WriteString, WriteByte, Write, String, in the own logic: a builder is a variable that holds its own place and a row of bytes. -/
namespace Go.Ab
open Go.RowKit

/-- A live block's own memory turns, but not its cells. -/
theorem St.turn {B S μ G w} (st : St B S μ G w) {w' : World} {n g : Nat} {b : Blk} (hn : S[n]? = some b) (hl : b.live = true) (hg : bid (μ n) = some g) (h : Next w w' (some g))
    (hcell : ∀ o, w'.cell? ⟨g, o, none⟩ = w.cell? ⟨g, o, none⟩) (hb : BlkOk μ S.length w' G (μ n) b) : St B S μ G w' := by
  have hc := h.cells st.gv (G := G) (fun k hk o v _ hv => by cases hk; rw [hcell]; exact hv)
  exact {
    blks := by
      intro i d hd
      by_cases e : i = n
      · subst e; rw [hn] at hd; cases hd; exact hb
      · refine (st.blks i d hd).mono (Nat.le_refl _) (fun _ _ _ => rfl) (fun _ _ h => h) hc (fun hl1 m hm => h.heap m ((st.blks i d hd).bid_lt hl1 m hm) ?_)
        intro e'
        cases e'
        exact st.apart n i b d hn hd hl hl1 (Ne.symm e) g hg hm
    apart := st.apart
    free := st.free
    gv := fun b o hG => Nat.lt_of_lt_of_le (st.gv b o hG) h.size
    k0 := st.k0
    keep := st.keep
    g0 := st.g0
    gn := st.gn
    new := st.new
    os := h.os.trans st.os
    tape := h.tape.trans st.tape
    output := h.output.trans st.output
    size := Nat.le_trans st.size h.size
    fr := by
      intro k hk hx
      refine (h.heap k (Nat.lt_of_lt_of_le hk st.size) ?_).trans (st.fr k hk hx)
      intro e
      cases e
      by_cases hi : n < B.k0
      · exact hx (st.xx hi hn hl hg)
      · rcases st.new n b g (by omega) hn hl hg with h | h
        · omega
        · exact hx h
    lv := st.lv
    glob := fun g x hg => (st.glob g x hg).mono (fun _ _ h => h) hc
    gw := fun b o v h1 h2 => hc b o v (st.g0 b o h1) (st.gw b o v h1 h2) }

theorem VS.ptr0 {μ k w G vals} (h : VS μ k w G [.ptr 0 []] vals) : ∃ b, vals = [.pointer (some ⟨b, 0, none⟩)] ∧ μ 0 = .pointer (some ⟨b, 0, none⟩) := by
  obtain ⟨v, rfl, h1⟩ := VS.one h
  obtain ⟨b, _, h3, _, e⟩ := h1.ptr_inv
  exact ⟨b, by rw [e]; rfl, h3.nil⟩

theorem bytes_append (s t : ByteArray) : D.bytes (s ++ t) = D.bytes s ++ D.bytes t := by
  unfold D.bytes
  rw [ByteArray.data_append, Array.toList_append, List.map_append]

theorem freeze_next (w : World) (g n : Nat) : Next w (w.freeze ⟨g, 0, none⟩ n) (some g) := by
  unfold World.freeze
  split
  · exact ⟨rfl, rfl, rfl, Nat.le_refl _, fun _ _ _ => rfl⟩
  · refine ⟨rfl, rfl, rfl, by simp, fun k hk hne => ?_⟩
    simp only [Array.getElem?_modify]
    rw [if_neg (fun e => hne (by rw [e]))]

theorem freeze_heap {w : World} {g n : Nat} {cur : Array Value} {t : TypeId} {fz : Nat × Nat} (h : w.heap[g]? = some (.cells cur t fz)) :
    ∃ fz' : Nat × Nat, (w.freeze ⟨g, 0, none⟩ n).heap[g]? = some (.cells cur t fz') ∧ (fz.2 ≤ n → fz'.2 ≤ n) := by
  unfold World.freeze
  split
  · exact ⟨fz, h, fun h => h⟩
  · obtain ⟨lo, hi⟩ := fz
    refine ⟨if lo == hi then (0, 0 + n) else (min lo 0, max hi (0 + n)), ?_, ?_⟩
    · simp [Array.getElem?_modify, h]
    · intro hle
      simp only at hle
      split
      · simp
      · simp only [Nat.zero_add]; omega
end Go.Ab
namespace Go.Proofs.YtboohfijacjhjaaDoor
open Go.Ab Go.RowKit

/-- A builder and its bytes. -/
abbrev bd (p : AV) (s : ByteArray) : List Blk := [.tvar 199 (.agg [p, .row 1]), .row 5 1 (D.bytes s)]

set_option maxHeartbeats 1000000 in
set_option maxRecDepth 100000 in
theorem raw_copy_used (b : Nat) (w : World) (h0 : w.cell? ⟨b, 0, none⟩ = some (.pointer (some ⟨b, 0, none⟩))) :
    Calls Tryd.prog 134 #[.pointer (some ⟨b, 0, none⟩)] w fun e w' => e = .returned (.tuple #[]) ∧ w' = w := by
  obtain ⟨j, hj, _⟩ := Option.map_eq_some_iff.1 (show (Tryd.prog.info? 199).map (·.size) = some 2 by kernel_rfl)
  have mixed : Tryd.prog.follows .mixedOrders = true := by kernel_rfl
  have t72 := Tryd.underlying199; have a72 := Tryd.isAgg199; have z72 := Tryd.sizeOf199; have v72 := Tryd.zeroValue199; have u72 := run_underlying t72
  have t70 := Tryd.underlying197; have a70 := Tryd.isAgg197; have z70 := Tryd.sizeOf197; have v70 := Tryd.zeroValue197; have u70 := run_underlying t70
  have t9 := Tryd.underlying9; have a9 := Tryd.isAgg9; have z9 := Tryd.sizeOf9; have v9 := Tryd.zeroValue9; have u9 := run_underlying t9
  have t4 := Tryd.underlying4; have a4 := Tryd.isAgg4; have z4 := Tryd.sizeOf4; have v4 := Tryd.zeroValue4; have u4 := run_underlying t4
  have t164 := Tryd.underlying237; have a164 := Tryd.isAgg237; have z164 := Tryd.sizeOf237; have v164 := Tryd.zeroValue237; have u164 := run_underlying t164
  go_enter Tryd.func134, Tryd.ntmps134
  go_wp2
  rw [Lib.run_neq_ptr_same w _ t70 hj]
  go_wp2
  go_end0
  exact ⟨rfl, rfl⟩

set_option maxHeartbeats 1000000 in
set_option maxRecDepth 100000 in
theorem raw_copy_fresh (b : Nat) (w : World) (h0 : w.cell? ⟨b, 0, none⟩ = some (.pointer none)) (hsh : w.shape? b = some (199, 2)) (hfz : w.frozen? ⟨b, 0, none⟩ = false) :
    Calls Tryd.prog 134 #[.pointer (some ⟨b, 0, none⟩)] w fun e w' => e = .returned (.tuple #[]) ∧ w' = w.setCell ⟨b, 0, none⟩ (.pointer (some ⟨b, 0, none⟩)) := by
  obtain ⟨j, hj, hjs⟩ := Option.map_eq_some_iff.1 (show (Tryd.prog.info? 199).map (·.size) = some 2 by kernel_rfl)
  have hlies : liesAt Tryd.prog Tryd.prog.depth 199 (2 / Tryd.prog.cellsOf 199) 0 199 1 = true := by kernel_rfl
  have mixed : Tryd.prog.follows .mixedOrders = true := by kernel_rfl
  have t72 := Tryd.underlying199; have a72 := Tryd.isAgg199; have z72 := Tryd.sizeOf199; have v72 := Tryd.zeroValue199; have u72 := run_underlying t72
  have t70 := Tryd.underlying197; have a70 := Tryd.isAgg197; have z70 := Tryd.sizeOf197; have v70 := Tryd.zeroValue197; have u70 := run_underlying t70
  have t9 := Tryd.underlying9; have a9 := Tryd.isAgg9; have z9 := Tryd.sizeOf9; have v9 := Tryd.zeroValue9; have u9 := run_underlying t9
  have t4 := Tryd.underlying4; have a4 := Tryd.isAgg4; have z4 := Tryd.sizeOf4; have v4 := Tryd.zeroValue4; have u4 := run_underlying t4
  have t164 := Tryd.underlying237; have a164 := Tryd.isAgg237; have z164 := Tryd.sizeOf237; have v164 := Tryd.zeroValue237; have u164 := run_underlying t164
  go_enter Tryd.func134, Tryd.ntmps134
  go_wp2
  rw [Lib.run_to_unsafe w ⟨b, 0, none⟩ t70 t164 hj (by rw [hjs]; decide) hsh (Nat.zero_lt_succ 1)]
  simp only [Result.andThen]
  rw [Oper.upon_value]
  go_wp2
  rw [run_callFunc_extern Tryd.func144 (by kernel_rfl) (by kernel_rfl) (by kernel_rfl) (e := Extern.AbiNoEscape.same) (by kernel_rfl)]
  rw [Lib.run_noEscape]
  simp only [Result.andThen]
  rw [Oper.upon_value]
  go_wp2
  rw [Lib.run_from_unsafe w ⟨b, 0, none⟩ t164 t70 hj hsh hlies]
  simp only [Result.andThen]
  rw [Oper.upon_value]
  go_wp2
  go_end0
  exact ⟨rfl, rfl⟩
end Go.Proofs.YtboohfijacjhjaaDoor

/- strings.Builder: String, in the own logic. -/
namespace Go.Ab
open Go.RowKit
theorem Next.ofDrew {w w' : World} {n : Option Nat} (h : Next w.drew w' n) : Next w w' n := ⟨h.os, h.tape, h.output, h.size, h.heap⟩
theorem Next.toDrew {w w' : World} {n : Option Nat} (h : Next w w' n) : Next w w'.drew n := ⟨h.os, h.tape, h.output, h.size, h.heap⟩
theorem next_alloc1 (w : World) (o : Obj) (q : Option Nat) : Next w (w.alloc o) q :=
  ⟨rfl, rfl, rfl, by show w.heap.size ≤ (w.heap.push _).size; simp, fun k hk _ => by
    show (w.heap.push _)[k]? = _
    rw [Array.getElem?_push, if_neg (by omega)]⟩
end Go.Ab
namespace Go.Proofs.YtboohfijacjhjaaDoor
open Go.Ab Go.RowKit

set_option maxHeartbeats 2000000 in
set_option maxRecDepth 100000 in
theorem raw_string_some (b g cap : Nat) (p : Value) (cur : Array Value) (fz : Nat × Nat) (l : List UInt8) (w : World) (h0 : l ≠ []) (hbk : w.heap[b]? = some (.cells #[p, .slice (some ⟨g, 0, none⟩) l.length cap] 199 (0, 0)))
    (hg : w.heap[g]? = some (.cells cur 5 fz)) (hnc : l.length ≤ cap) (hcm : cap ≤ maxLen) (hcs : cur.size = cap) (hcells : ∀ j x, l[j]? = some x → w.cell? ((⟨g, 0, none⟩ : Addr).add j) = some (.int .u8 x.toNat)) :
    Calls Tryd.prog 117 #[.pointer (some ⟨b, 0, none⟩)] w fun e w' => e = .returned (.string ⟨l.toArray⟩) ∧ w' = w.drew.freeze ⟨g, 0, none⟩ l.length := by
  have hl0 : l.length ≠ 0 := by simpa using h0
  have c1 : w.drew.cell? ⟨b, 1, none⟩ = some (.slice (some ⟨g, 0, none⟩) l.length cap) := by
    have : w.drew.heap[b]? = some (.cells #[p, .slice (some ⟨g, 0, none⟩) l.length cap] 199 (0, 0)) := hbk
    rw [Lib.cell_of_heap this]; rfl
  have hSD : (Builtin.unsafeSliceData_ #[187] 220 #[.slice (some ⟨g, 0, none⟩) l.length cap]).run Tryd.prog w.drew = .ok (.pointer (some ⟨g, 0, none⟩)) w.drew :=
    Lib.run_unsafeSliceData_row _ _ _ _ _ _ (by omega)
  have hUS : (Builtin.unsafeString_ #[220, 3] 9 #[.pointer (some ⟨g, 0, none⟩), .int .i64 l.length]).run Tryd.prog w.drew = .ok (.string ⟨l.toArray⟩) (w.drew.freeze ⟨g, 0, none⟩ l.length) := by
    refine Lib.run_unsafeString_row w.drew 220 3 9 5 Tryd.underlying220 (by kernel_rfl) g cur.size (by have hg' : w.drew.heap[g]? = some (.cells cur 5 fz) := hg; simp [World.shape?, hg']) l h0 (by omega) (by unfold maxLen at hcm; omega) ?_
    intro j x hx
    exact hcells j x hx
  have mixed : Tryd.prog.follows .mixedOrders = true := by kernel_rfl
  have t72 := Tryd.underlying199; have a72 := Tryd.isAgg199; have z72 := Tryd.sizeOf199; have v72 := Tryd.zeroValue199; have u72 := run_underlying t72
  have t70 := Tryd.underlying197; have a70 := Tryd.isAgg197; have z70 := Tryd.sizeOf197; have v70 := Tryd.zeroValue197; have u70 := run_underlying t70
  have t37 := Tryd.underlying187; have a37 := Tryd.isAgg187; have z37 := Tryd.sizeOf187; have v37 := Tryd.zeroValue187; have u37 := run_underlying t37
  have t127 := Tryd.underlying220; have a127 := Tryd.isAgg220; have z127 := Tryd.sizeOf220; have v127 := Tryd.zeroValue220; have u127 := run_underlying t127
  have t3 := Tryd.underlying3; have a3 := Tryd.isAgg3; have z3 := Tryd.sizeOf3; have v3 := Tryd.zeroValue3; have u3 := run_underlying t3
  have t9 := Tryd.underlying9; have a9 := Tryd.isAgg9; have z9 := Tryd.sizeOf9; have v9 := Tryd.zeroValue9; have u9 := run_underlying t9
  have t5 := Tryd.underlying5; have a5 := Tryd.isAgg5; have z5 := Tryd.sizeOf5; have v5 := Tryd.zeroValue5; have u5 := run_underlying t5
  go_enter Tryd.func117, Tryd.ntmps117
  go_wp2
  go_region_o
  all_goals (go_wp2; go_ret; exact ⟨rfl, rfl⟩)

set_option maxHeartbeats 2000000 in
set_option maxRecDepth 100000 in
theorem raw_string_nil (b : Nat) (p : Value) (w : World) (hbk : w.heap[b]? = some (.cells #[p, .slice none 0 0] 199 (0, 0))) :
    Calls Tryd.prog 117 #[.pointer (some ⟨b, 0, none⟩)] w fun e w' => e = .returned (.string ⟨#[]⟩) ∧ w' = w.drew := by
  have hUS : ∀ (W : World) (q : Option Addr), (Builtin.unsafeString_ #[220, 3] 9 #[.pointer q, .int .i64 0]).run Tryd.prog W = .ok (.string .empty) W := fun W q => Lib.run_unsafeString_none W _ _ _ q
  have c1 : w.drew.cell? ⟨b, 1, none⟩ = some (.slice none 0 0) := by
    have : w.drew.heap[b]? = some (.cells #[p, .slice none 0 0] 199 (0, 0)) := hbk
    rw [Lib.cell_of_heap this]; rfl
  have hSD : (Builtin.unsafeSliceData_ #[187] 220 #[.slice none 0 0]).run Tryd.prog w.drew = .ok (.pointer none) w.drew := rfl
  have mixed : Tryd.prog.follows .mixedOrders = true := by kernel_rfl
  have t72 := Tryd.underlying199; have a72 := Tryd.isAgg199; have z72 := Tryd.sizeOf199; have v72 := Tryd.zeroValue199; have u72 := run_underlying t72
  have t70 := Tryd.underlying197; have a70 := Tryd.isAgg197; have z70 := Tryd.sizeOf197; have v70 := Tryd.zeroValue197; have u70 := run_underlying t70
  have t37 := Tryd.underlying187; have a37 := Tryd.isAgg187; have z37 := Tryd.sizeOf187; have v37 := Tryd.zeroValue187; have u37 := run_underlying t37
  have t127 := Tryd.underlying220; have a127 := Tryd.isAgg220; have z127 := Tryd.sizeOf220; have v127 := Tryd.zeroValue220; have u127 := run_underlying t127
  have t3 := Tryd.underlying3; have a3 := Tryd.isAgg3; have z3 := Tryd.sizeOf3; have v3 := Tryd.zeroValue3; have u3 := run_underlying t3
  have t9 := Tryd.underlying9; have a9 := Tryd.isAgg9; have z9 := Tryd.sizeOf9; have v9 := Tryd.zeroValue9; have u9 := run_underlying t9
  have t5 := Tryd.underlying5; have a5 := Tryd.isAgg5; have z5 := Tryd.sizeOf5; have v5 := Tryd.zeroValue5; have u5 := run_underlying t5
  go_enter Tryd.func117, Tryd.ntmps117
  go_wp2
  go_region_o
  all_goals (go_wp2; go_ret; exact ⟨rfl, rfl⟩)

set_option maxHeartbeats 2000000 in
set_option maxRecDepth 100000 in
theorem raw_string_room (b g cap : Nat) (p : Value) (w : World) (hc0 : cap ≠ 0) (hbk : w.heap[b]? = some (.cells #[p, .slice (some ⟨g, 0, none⟩) 0 cap] 199 (0, 0))) :
    Calls Tryd.prog 117 #[.pointer (some ⟨b, 0, none⟩)] w fun e w' => e = .returned (.string ⟨#[]⟩) ∧ w' = w.drew := by
  have hUS : ∀ (W : World) (q : Option Addr), (Builtin.unsafeString_ #[220, 3] 9 #[.pointer q, .int .i64 0]).run Tryd.prog W = .ok (.string .empty) W := fun W q => Lib.run_unsafeString_none W _ _ _ q
  have c1 : w.drew.cell? ⟨b, 1, none⟩ = some (.slice (some ⟨g, 0, none⟩) 0 cap) := by
    have : w.drew.heap[b]? = some (.cells #[p, .slice (some ⟨g, 0, none⟩) 0 cap] 199 (0, 0)) := hbk
    rw [Lib.cell_of_heap this]; rfl
  have hSD : (Builtin.unsafeSliceData_ #[187] 220 #[.slice (some ⟨g, 0, none⟩) 0 cap]).run Tryd.prog w.drew = .ok (.pointer (some ⟨g, 0, none⟩)) w.drew :=
    Lib.run_unsafeSliceData_row _ _ _ _ _ _ hc0
  clear hc0
  have mixed : Tryd.prog.follows .mixedOrders = true := by kernel_rfl
  have t72 := Tryd.underlying199; have a72 := Tryd.isAgg199; have z72 := Tryd.sizeOf199; have v72 := Tryd.zeroValue199; have u72 := run_underlying t72
  have t70 := Tryd.underlying197; have a70 := Tryd.isAgg197; have z70 := Tryd.sizeOf197; have v70 := Tryd.zeroValue197; have u70 := run_underlying t70
  have t37 := Tryd.underlying187; have a37 := Tryd.isAgg187; have z37 := Tryd.sizeOf187; have v37 := Tryd.zeroValue187; have u37 := run_underlying t37
  have t127 := Tryd.underlying220; have a127 := Tryd.isAgg220; have z127 := Tryd.sizeOf220; have v127 := Tryd.zeroValue220; have u127 := run_underlying t127
  have t3 := Tryd.underlying3; have a3 := Tryd.isAgg3; have z3 := Tryd.sizeOf3; have v3 := Tryd.zeroValue3; have u3 := run_underlying t3
  have t9 := Tryd.underlying9; have a9 := Tryd.isAgg9; have z9 := Tryd.sizeOf9; have v9 := Tryd.zeroValue9; have u9 := run_underlying t9
  have t5 := Tryd.underlying5; have a5 := Tryd.isAgg5; have z5 := Tryd.sizeOf5; have v5 := Tryd.zeroValue5; have u5 := run_underlying t5
  go_enter Tryd.func117, Tryd.ntmps117
  go_wp2
  go_region_o
  all_goals (go_wp2; go_ret; exact ⟨rfl, rfl⟩)

set_option maxHeartbeats 2000000 in
set_option maxRecDepth 100000 in
theorem raw_string_noroom (b g : Nat) (p : Value) (cur : Array Value) (fz : Nat × Nat) (w : World) (hbk : w.heap[b]? = some (.cells #[p, .slice (some ⟨g, 0, none⟩) 0 0] 199 (0, 0))) (hg : w.heap[g]? = some (.cells cur 5 fz)) :
    Calls Tryd.prog 117 #[.pointer (some ⟨b, 0, none⟩)] w fun e w' => e = .returned (.string ⟨#[]⟩) ∧ Ab.Next w w' none := by
  have hUS : ∀ (W : World) (q : Option Addr), (Builtin.unsafeString_ #[220, 3] 9 #[.pointer q, .int .i64 0]).run Tryd.prog W = .ok (.string .empty) W := fun W q => Lib.run_unsafeString_none W _ _ _ q
  have hlt : b < w.heap.size := (Array.getElem?_eq_some_iff.1 hbk).1
  have c1 : w.drew.cell? ⟨b, 1, none⟩ = some (.slice (some ⟨g, 0, none⟩) 0 0) := by
    have : w.drew.heap[b]? = some (.cells #[p, .slice (some ⟨g, 0, none⟩) 0 0] 199 (0, 0)) := hbk
    rw [Lib.cell_of_heap this]; rfl
  have hSD : (Builtin.unsafeSliceData_ #[187] 220 #[.slice (some ⟨g, 0, none⟩) 0 0]).run Tryd.prog w.drew = .ok (.pointer (some ⟨w.drew.heap.size, 0, none⟩)) (w.drew.alloc (.view ⟨g, 0, none⟩ 5)) :=
    Lib.run_unsafeSliceData_zero w.drew _ _ 5 Tryd.underlying220 ⟨g, 0, none⟩ 0 (5, cur.size) (by have hg' : w.drew.heap[g]? = some (.cells cur 5 fz) := hg; simp [World.shape?, hg'])
  have c2 : (w.drew.alloc (.view ⟨g, 0, none⟩ 5)).cell? ⟨b, 1, none⟩ = some (.slice (some ⟨g, 0, none⟩) 0 0) := by
    have : (w.drew.alloc (.view ⟨g, 0, none⟩ 5)).heap[b]? = _ := (Lib.alloc_old w.drew _ b hlt).trans hbk
    rw [Lib.cell_of_heap this]; rfl
  have c3 : (w.alloc (.view ⟨g, 0, none⟩ 5)).drew.cell? ⟨b, 1, none⟩ = some (.slice (some ⟨g, 0, none⟩) 0 0) := c2
  have c0 : w.cell? ⟨b, 1, none⟩ = some (.slice (some ⟨g, 0, none⟩) 0 0) := c1
  have mixed : Tryd.prog.follows .mixedOrders = true := by kernel_rfl
  have t72 := Tryd.underlying199; have a72 := Tryd.isAgg199; have z72 := Tryd.sizeOf199; have v72 := Tryd.zeroValue199; have u72 := run_underlying t72
  have t70 := Tryd.underlying197; have a70 := Tryd.isAgg197; have z70 := Tryd.sizeOf197; have v70 := Tryd.zeroValue197; have u70 := run_underlying t70
  have t37 := Tryd.underlying187; have a37 := Tryd.isAgg187; have z37 := Tryd.sizeOf187; have v37 := Tryd.zeroValue187; have u37 := run_underlying t37
  have t127 := Tryd.underlying220; have a127 := Tryd.isAgg220; have z127 := Tryd.sizeOf220; have v127 := Tryd.zeroValue220; have u127 := run_underlying t127
  have t3 := Tryd.underlying3; have a3 := Tryd.isAgg3; have z3 := Tryd.sizeOf3; have v3 := Tryd.zeroValue3; have u3 := run_underlying t3
  have t9 := Tryd.underlying9; have a9 := Tryd.isAgg9; have z9 := Tryd.sizeOf9; have v9 := Tryd.zeroValue9; have u9 := run_underlying t9
  have t5 := Tryd.underlying5; have a5 := Tryd.isAgg5; have z5 := Tryd.sizeOf5; have v5 := Tryd.zeroValue5; have u5 := run_underlying t5
  go_enter Tryd.func117, Tryd.ntmps117
  go_wp2
  go_region_o
  all_goals (go_wp2; go_ret; first | exact ⟨rfl, next_alloc1 w _ none⟩ | exact ⟨rfl, (next_alloc1 w _ none).toDrew⟩ | exact ⟨rfl, (next_alloc1 w.drew _ none).ofDrew⟩)
end Go.Proofs.YtboohfijacjhjaaDoor

/- strings.Builder: the contracts. -/
namespace Go.Proofs.YtboohfijacjhjaaDoor
open Go.Ab Go.RowKit

/-- What a builder's store means. -/
theorem bd_inv {B : Base} {μ G w} {p : AV} {s : ByteArray} (st : St B (bd p s) μ G w) (hp : p = .d .nilP ∨ p = .ptr 0 []) :
    ∃ b pv, μ 0 = .pointer (some ⟨b, 0, none⟩) ∧ w.heap[b]? = some (.cells #[pv, μ 1] 199 (0, 0)) ∧ ((p = .d .nilP ∧ pv = .pointer none) ∨ (p = .ptr 0 [] ∧ pv = .pointer (some ⟨b, 0, none⟩))) ∧
      w.ownsRowF 0 5 1 (μ 1) s.size (Lib.strCells s) := by
  obtain ⟨b, cs, h1, h2, h3⟩ := st.blks 0 _ rfl
  obtain ⟨cs', g1, g2, _, _⟩ := st.blks 1 _ rfl
  have e := CL.bytes (l := s.data.toList) g2
  have e : cs' = Lib.strCells s := e
  subst e
  rw [bytes_length] at g1
  generalize hcs : cs.toList = l at h3
  cases h3 with
  | agg h4 h5 =>
    cases h5
    rw [List.append_nil] at hcs
    rcases hp with rfl | rfl
    · cases h4 with
      | d h6 h7 =>
        cases h6 with
        | nilP h8 =>
          cases h8
          cases h7 with
          | row q1 q2 q3 | mp q1 q2 q3 =>
            cases q3
            rw [← q2] at hcs
            refine ⟨b, _, h1, ?_, .inl ⟨rfl, rfl⟩, g1⟩
            rw [h2]
            congr 2
            exact Array.toList_inj.1 hcs
    · cases h4 with
      | ptr q0 q1 q2 q3 =>
        cases q3 with
        | row q4 q5 q6 | mp q4 q5 q6 =>
          cases q6
          rw [← q5] at hcs
          replace q1 := q1.nil
          rw [h1] at q1
          cases q1
          refine ⟨b, _, h1, ?_, .inr ⟨rfl, rfl⟩, g1⟩
          rw [h2]
          congr 2
          exact Array.toList_inj.1 hcs

theorem bd_row {B : Base} {μ G w} {p : AV} {s : ByteArray} (st : St B (bd p s) μ G w) {w' : World} (hc : ∀ b o v, G b o → w.cell? ⟨b, o, none⟩ = some v → w'.cell? ⟨b, o, none⟩ = some v) (h : w'.ownsRowF 0 5 1 (μ 1) s.size (Lib.strCells s)) :
    BlkOk μ (bd p s).length w' G (μ 1) (.row 5 1 (D.bytes s)) := by
  obtain ⟨cs', g1, g2, g3, g4⟩ := st.blks 1 _ rfl
  have e : cs' = Lib.strCells s := CL.bytes (l := s.data.toList) g2
  subst e
  exact ⟨_, by rw [bytes_length]; exact h, g2.mono (fun _ _ h => h) hc, g3, g4⟩

theorem copyCheck_c {p : AV} {s : ByteArray} (hp : p = .d .nilP ∨ p = .ptr 0 []) : CallR cx 134 [.ptr 0 []] (bd p s) fun r S => r = .tup [] ∧ S = bd (.ptr 0 []) s := by
  refine callR_raw (c := cx) Tryd.func134 (by kernel_rfl) (by kernel_rfl) fun μ G w vals st hv => ?_
  obtain ⟨b, rfl, hμ⟩ := VS.ptr0 hv
  obtain ⟨b', pv, h1, h2, h3, h4⟩ := bd_inv st hp
  rw [hμ] at h1
  cases h1
  have hra : ∀ (μ : Nat → Value) (k : Nat) (w : World) (G : Nat → Nat → Prop), RA μ k w G (.tup []) (.tuple #[]) := fun μ k w G => ⟨[], rfl, .nil⟩
  rcases h3 with ⟨rfl, rfl⟩ | ⟨rfl, rfl⟩
  · refine (raw_copy_fresh b w (by rw [Lib.cell_of_heap h2]; rfl) (by simp [World.shape?, h2]) (Lib.frozen_of_heap h2 0)).mono ?_
    rintro e w' ⟨rfl, rfl⟩
    have hset : w.setCell ⟨b, 0, none⟩ (.pointer (some ⟨b, 0, none⟩)) = w.setRow b #[.pointer (some ⟨b, 0, none⟩), μ 1] := by
      rw [setCell_eq_setRow w b 0 _ _ _ _ h2]; rfl
    refine ⟨_, _, bd (.ptr 0 []) s, μ, G, rfl, ⟨rfl, rfl⟩, ?_, hra _ _ _ _⟩
    rw [hset]
    have hrow : μ 1 = μ 1 := rfl
    refine st.write (n := 0) (g := b) (b' := .tvar 199 (.agg [.ptr 0 [], .row 1])) rfl rfl rfl rfl rfl (by rw [hμ]; rfl) (setRow_next w b _) ?_
    refine ⟨b, _, hμ, setRow_heap w b _ _ _ _ h2, ?_⟩
    have hsl : ∃ a l c, μ 1 = .slice a l c := by
      rcases h4.2 with ⟨q, _⟩ | ⟨_, _, _, _, q, _⟩
      · exact ⟨_, _, _, q⟩
      · exact ⟨_, _, _, q⟩
    obtain ⟨a, l, c, hs⟩ := hsl
    rw [hs]
    have : CA μ 2 (w.setRow b #[.pointer (some ⟨b, 0, none⟩), .slice a l c]) G [.ptr 0 [], .row 1] [.pointer (some ⟨b, 0, none⟩), .slice a l c] :=
      .ptr (p := []) (by omega) (.inl hμ) (fun s hs => by cases hs) (.row (by omega) hs .nil)
    simpa using CA.agg this .nil
  · refine (raw_copy_used b w (by rw [Lib.cell_of_heap h2]; rfl)).mono ?_
    rintro e w' ⟨rfl, rfl⟩
    exact ⟨_, _, _, μ, G, rfl, ⟨rfl, rfl⟩, st, hra _ _ _ _⟩

theorem string_c {p : AV} {s : ByteArray} (hp : p = .d .nilP ∨ p = .ptr 0 []) : CallR cx 117 [.ptr 0 []] (bd p s) fun r S => r = AV.d (.str s) ∧ S = bd p s := by
  refine callR_raw (c := cx) Tryd.func117 (by kernel_rfl) (by kernel_rfl) fun μ G w vals st hv => ?_
  obtain ⟨b, rfl, hμ⟩ := VS.ptr0 hv
  obtain ⟨b', pv, h1, h2, _, h4⟩ := bd_inv st hp
  rw [hμ] at h1
  cases h1
  have hra : ∀ (x : ByteArray), x = s → ∀ (μ : Nat → Value) (k : Nat) (w : World) (G : Nat → Nat → Prop), RA μ k w G (.d (.str s)) (.string x) := fun x e μ k w G => by subst e; exact VD.str.ra
  have quiet : ∀ w' : World, Ab.Next w w' none → St (base cx (bd p s) μ G w) (bd p s) μ G w' := fun w' h => st.quiet h
  have hem : s.size = 0 → (⟨#[]⟩ : ByteArray) = s := fun h => (size0 h).symm
  rcases h4.2 with ⟨q1, q2⟩ | ⟨g, cap, cur, fz, q1, _, q3, q4, q5, q6, q7, q8⟩
  · rw [q1] at h2
    refine (raw_string_nil b pv w h2).mono ?_
    rintro e w' ⟨rfl, rfl⟩
    exact ⟨_, _, _, μ, G, rfl, ⟨rfl, rfl⟩, quiet _ ⟨rfl, rfl, rfl, Nat.le_refl _, fun _ _ _ => rfl⟩, hra _ (hem q2) _ _ _ _⟩
  · rw [q1] at h2
    by_cases hz : s.size = 0
    · rw [hz] at h2
      by_cases hc : cap = 0
      · subst hc
        refine (raw_string_noroom b g pv cur fz w h2 q3).mono ?_
        rintro e w' ⟨rfl, hn⟩
        exact ⟨_, _, _, μ, G, rfl, ⟨rfl, rfl⟩, quiet _ hn, hra _ (hem hz) _ _ _ _⟩
      · refine (raw_string_room b g cap pv w hc h2).mono ?_
        rintro e w' ⟨rfl, rfl⟩
        exact ⟨_, _, _, μ, G, rfl, ⟨rfl, rfl⟩, quiet _ ⟨rfl, rfl, rfl, Nat.le_refl _, fun _ _ _ => rfl⟩, hra _ (hem hz) _ _ _ _⟩
    · have hlen : s.data.toList.length = s.size := Array.length_toList
      have hne : s.data.toList ≠ [] := by intro e; rw [e] at hlen; simp at hlen; omega
      rw [Nat.mul_one] at q7 q4
      refine (raw_string_some b g cap pv cur fz s.data.toList w hne (by rw [hlen]; exact h2) q3 (by omega) q6 q7 ?_).mono ?_
      · intro j x hx
        have := h4.cells (g := g) (by rw [q1]; rfl) j (.int .u8 x.toNat) (by unfold Lib.strCells; rw [List.getElem?_map, hx]; rfl)
        exact this
      · rintro e w' ⟨rfl, rfl⟩
        obtain ⟨fz', f1, f2⟩ := freeze_heap (n := s.data.toList.length) (show w.drew.heap[g]? = some (.cells cur 5 fz) from q3)
        have hn : Ab.Next w (w.drew.freeze ⟨g, 0, none⟩ s.data.toList.length) (some g) := (freeze_next w.drew g _).ofDrew
        have hcell : ∀ o, (w.drew.freeze ⟨g, 0, none⟩ s.data.toList.length).cell? ⟨g, o, none⟩ = w.cell? ⟨g, o, none⟩ := fun o => by
          rw [Lib.cell_of_heap f1, Lib.cell_of_heap q3]
        refine ⟨_, _, _, μ, G, rfl, ⟨rfl, rfl⟩, st.turn (n := 1) (g := g) rfl rfl (by rw [q1]; rfl) hn hcell ?_, hra _ (by cases s; rfl) _ _ _ _⟩
        refine bd_row st (hn.cells st.gv (fun k hk o v _ hv => by cases hk; rw [hcell]; exact hv)) ⟨h4.1, .inr ⟨g, cap, cur, fz', q1, Nat.zero_le _, f1, ?_, q5, q6, by rw [Nat.mul_one]; exact q7, q8⟩⟩
        rw [Nat.mul_one, ← hlen]
        exact f2 (by omega)

theorem writeString_c {p : AV} {s t : ByteArray} (hp : p = .d .nilP ∨ p = .ptr 0 []) (hb : s.size + t.size ≤ 140737488355328) : CallR cx 115 [.ptr 0 [], .d (.str t)] (bd p s) fun r S =>
    r = .tup [.d (.int .i64 t.size), .d .nilI] ∧ S = [.tvar 199 (.agg [.ptr 0 [], .row 2]), .sealed (.sl 1 (D.bytes s)), .row 5 1 (D.bytes (s ++ t))] := by
  have cc := copyCheck_c (p := p) (s := s) hp
  unfold bd at cc ⊢
  rw [bytes_append]
  have hl := bytes_length s
  generalize D.bytes s = xs at *
  have go : ∀ q : AV, CallR cx 134 [.ptr 0 []] [.tvar 199 (.agg [q, .row 1]), .row 5 1 xs] (fun r S => r = .tup [] ∧ S = [.tvar 199 (.agg [.ptr 0 [], .row 1]), .row 5 1 xs]) →
      (q = .d .nilP ∨ q = .ptr 0 []) → CallR cx 115 [.ptr 0 [], .d (.str t)] [.tvar 199 (.agg [q, .row 1]), .row 5 1 xs] fun r S =>
    r = .tup [.d (.int .i64 t.size), .d .nilI] ∧ S = [.tvar 199 (.agg [.ptr 0 [], .row 2]), .sealed (.sl 1 xs), .row 5 1 (xs ++ D.bytes t)] := by
    rintro q cc (rfl | rfl) <;>
    · refine callR_of (R := R1) cx_ok Tryd.func115 (by kernel_rfl) rfl ?_
      conv => whnf
      refine ⟨_, cc, ?_⟩
      rintro _ _ ⟨rfl, rfl⟩
      conv => whnf
      refine ⟨by rw [hl]; exact hb, ?_⟩
      conv => whnf
      exact ⟨rfl, rfl⟩
  exact go p cc hp
end Go.Proofs.YtboohfijacjhjaaDoor

/- The runes of a text by their numbers: plain laws, no program. -/
namespace Go.Proofs.YtboohfijacjhjaaDoor
open Go.Ab

theorem getD_get! (s : ByteArray) (k : Nat) : s.data.toList.getD k 0 = s.get! k := by
  cases s with
  | mk d =>
    show d.toList.getD k 0 = d[k]!
    rw [List.getD_eq_getElem?_getD, Array.getElem?_toList, getElem!_def]
    cases d[k]? <;> rfl

theorem byteAt_eq (s : ByteArray) (k : Nat) : byteAt s k = ((s.get! k).toNat : Int) := by
  unfold byteAt
  rw [getD_get!]

/-- The number of the rune at a place, and how many bytes it has; a stray's byte and 2000000, and 1. -/
def keyN (n b0 b1 b2 b3 : Nat) : Nat × Nat := if Lib.decodeN n b0 b1 b2 b3 = (65533, 1) then (b0 + 2000000, 1) else Lib.decodeN n b0 b1 b2 b3
def key (s : ByteArray) (i : Nat) : Nat × Nat := keyN (s.size - i) (s.get! i).toNat (s.get! (i + 1)).toNat (s.get! (i + 2)).toNat (s.get! (i + 3)).toNat

/-- A stray stands here. -/
def stray (s : ByteArray) (i : Nat) : Bool := decide (Utf8.decode s i = (65533, 1))

theorem key_stray {s : ByteArray} {i : Nat} (h : stray s i = true) : key s i = ((s.get! i).toNat + 2000000, 1) ∧ Utf8.decode s i = (65533, 1) := by
  have h := of_decide_eq_true h
  refine ⟨?_, h⟩
  rw [Lib.decode_at] at h
  unfold key keyN
  rw [if_pos h]

theorem key_plain {s : ByteArray} {i : Nat} (h : stray s i = false) : key s i = Utf8.decode s i := by
  have h := of_decide_eq_false h
  rw [Lib.decode_at] at h ⊢
  unfold key keyN
  rw [if_neg h]

theorem decodeN_range (n b0 b1 b2 b3 : Nat) (h0 : b0 < 256) : (Lib.decodeN n b0 b1 b2 b3).1 ≤ 1114111 ∧ 1 ≤ (Lib.decodeN n b0 b1 b2 b3).2 ∧ (Lib.decodeN n b0 b1 b2 b3).2 ≤ 4 := by
  unfold Lib.decodeN
  repeat' split
  all_goals simp only
  all_goals omega

theorem key_two {s : ByteArray} {i : Nat} : (key s i).2 = (Utf8.decode s i).2 := by
  cases h : stray s i with
  | true => obtain ⟨h1, h2⟩ := key_stray h; rw [h1, h2]
  | false => rw [key_plain h]

theorem decode_range (s : ByteArray) (i : Nat) : (Utf8.decode s i).1 ≤ 1114111 ∧ 1 ≤ (Utf8.decode s i).2 ∧ (Utf8.decode s i).2 ≤ 4 := by
  rw [Lib.decode_at]
  exact decodeN_range _ _ _ _ _ (s.get! i).toNat_lt

theorem key_pos (s : ByteArray) (i : Nat) : 1 ≤ (key s i).2 := by rw [key_two]; exact (decode_range s i).2.1
theorem key_four (s : ByteArray) (i : Nat) : (key s i).2 ≤ 4 := by rw [key_two]; exact (decode_range s i).2.2

/-- A text's runes from a place on. -/
def keysAt (s : ByteArray) (i : Nat) : List Nat := if i < s.size then (key s i).1 :: keysAt s (i + (key s i).2) else []
termination_by s.size - i
decreasing_by have := key_pos s i; omega

theorem keysAt_lt {s : ByteArray} {i : Nat} (h : i < s.size) : keysAt s i = (key s i).1 :: keysAt s (i + (key s i).2) := by
  rw [keysAt, if_pos h]
theorem keysAt_ge {s : ByteArray} {i : Nat} (h : ¬ i < s.size) : keysAt s i = [] := by
  rw [keysAt, if_neg h]

theorem keysAt_length (s : ByteArray) : ∀ i, (keysAt s i).length ≤ s.size - i := by
  intro i
  induction h : s.size - i using Nat.strongRecOn generalizing i with
  | _ n ih =>
    by_cases hi : i < s.size
    · rw [keysAt_lt hi]
      have := key_pos s i
      have := ih (s.size - (i + (key s i).2)) (by omega) _ rfl
      simp only [List.length_cons]
      omega
    · rw [keysAt_ge hi]; simp

/-- The slow table's conditions, by classes of the first byte. -/
def smallI (r : Int) : Prop := (97 ≤ r ∧ r ≤ 122) ∨ (945 ≤ r ∧ r ≤ 969)
instance (r : Int) : Decidable (smallI r) := by unfold smallI; infer_instance

/-- Is a rune right at its place? -/
def okR (first : Bool) (k : Int) : Bool := decide (smallI k) || (!first && (decide (48 ≤ k) && decide (k ≤ 57)))

def goR : List Nat → Nat → Bool
  | [], n => decide (1 ≤ n) && decide (n ≤ 12)
  | k :: l, n => okR (n == 0) (k : Int) && goR l (n + 1)

def rightT (s : ByteArray) : Bool := goR (keysAt s 0) 0
end Go.Proofs.YtboohfijacjhjaaDoor

/- The document's rune at a place: 'within'. -/
namespace Go.Proofs.YtboohfijacjhjaaDoor
open Go.Ab Go.RowKit

def win (s : ByteArray) (k : Nat) (lo hi : Int) : Bool := decide (k < s.size) && (decide (lo ≤ byteAt s k) && decide (byteAt s k ≤ hi))

theorem within_c {s : ByteArray} {x lo hi : Int} {k : Nat} (hx : x = (k : Int)) : CallR cx 143 [st s, i64 x, u8 lo, u8 hi] [] fun r S => r = bo (win s k lo hi) ∧ S = [] := by
  unfold win
  have e0 : x.toNat = k := by omega
  have e1 : decide (x < (s.size : Int)) = decide (k < s.size) := by
    have : (x < (s.size : Int)) = (k < s.size) := propext ⟨fun h => by omega, fun h => by omega⟩
    simp only [this]
  refine callR_of (R := R1) cx_ok Tryd.func143 (by kernel_rfl) rfl ?_
  conv => whnf
  refine brec (fun h1 => ?_) (fun h1 => ?_)
  · rw [e1] at h1
    rw [h1]
    conv => whnf
    have h2 := of_decide_eq_true h1
    refine ⟨⟨by omega, by show x < (s.size : Int); omega⟩, ?_⟩
    rw [e0]
    conv => whnf
    refine brec (fun h3 => ?_) (fun h3 => ?_)
    · have h3' := of_decide_eq_true h3
      rw [decide_eq_true (show lo ≤ byteAt s k from h3')]
      conv => whnf
      refine ⟨⟨by omega, by show x < (s.size : Int); omega⟩, ?_⟩
      rw [e0]
      conv => whnf
      exact ⟨rfl, rfl⟩
    · have h3' := of_decide_eq_false h3
      rw [decide_eq_false (show ¬ lo ≤ byteAt s k from h3')]
      conv => whnf
      exact ⟨rfl, rfl⟩
  · rw [e1] at h1
    rw [h1]
    conv => whnf
    exact ⟨rfl, rfl⟩
end Go.Proofs.YtboohfijacjhjaaDoor

/- The document's rune at a place: 'One', by the classes of the first byte. -/
namespace Go.Proofs.YtboohfijacjhjaaDoor
open Go.Ab Go.RowKit

theorem brT {A B : Prop} {b : Bool} (h : b = true) (x : A) : @Bool.rec (fun _ => Prop) B A b := by subst h; exact x
theorem brF {A B : Prop} {b : Bool} (h : b = false) (x : B) : @Bool.rec (fun _ => Prop) B A b := by subst h; exact x

theorem w64 {n : Int} (h : -9223372036854775808 ≤ n ∧ n < 9223372036854775808) : IntKind.i64.wrap n = n := by rw [IntKind.wrap_i64]; omega

theorem byteAt_range (s : ByteArray) (k : Nat) : 0 ≤ byteAt s k ∧ byteAt s k < 256 := by
  rw [byteAt_eq]; have := (s.get! k).toNat_lt; omega

def acc (s : ByteArray) (i : Nat) (n0 : Int) : Nat → Int
  | 0 => n0
  | j + 1 => acc s i n0 j * 64 + byteAt s (i + (j + 1)) % 64

theorem acc_range {s : ByteArray} {i : Nat} {n0 : Int} (h : 0 ≤ n0 ∧ n0 < 32) : ∀ j, j ≤ 3 → 0 ≤ acc s i n0 j ∧ acc s i n0 j < 8388608 ∧ (j < 3 → acc s i n0 j < 131072) := by
  have h0 : 0 ≤ acc s i n0 0 ∧ acc s i n0 0 < 32 := h
  have h1 : 0 ≤ acc s i n0 1 ∧ acc s i n0 1 < 2048 := by
    have := byteAt_range s (i + 1)
    show 0 ≤ acc s i n0 0 * 64 + byteAt s (i + (0 + 1)) % 64 ∧ acc s i n0 0 * 64 + byteAt s (i + (0 + 1)) % 64 < 2048
    omega
  have h2 : 0 ≤ acc s i n0 2 ∧ acc s i n0 2 < 131072 := by
    show 0 ≤ acc s i n0 1 * 64 + byteAt s (i + (1 + 1)) % 64 ∧ acc s i n0 1 * 64 + byteAt s (i + (1 + 1)) % 64 < 131072
    omega
  have h3 : 0 ≤ acc s i n0 3 ∧ acc s i n0 3 < 8388608 := by
    show 0 ≤ acc s i n0 2 * 64 + byteAt s (i + (2 + 1)) % 64 ∧ acc s i n0 2 * 64 + byteAt s (i + (2 + 1)) % 64 < 8388608
    omega
  intro j hj
  match j, hj with
  | 0, _ => omega
  | 1, _ => omega
  | 2, _ => omega
  | 3, _ => omega

theorem tupI {a b a' b' : Int} (h : a = a') (g : b = b') : AV.tup [i64 a, i64 b] = AV.tup [i64 a', i64 b'] := by rw [h, g]

theorem accStep {s : ByteArray} {i j : Nat} {n0 : Int} (h0 : 0 ≤ acc s i n0 j) (h1 : acc s i n0 j < 131072) :
    IntKind.i64.wrap (IntKind.i64.wrap (acc s i n0 j * 64) + (IntKind.i64.wrap (byteAt s ((i + (j + 1) : Nat) : Int).toNat)).tmod 64) = acc s i n0 (j + 1) := by
  have hb := byteAt_range s (i + (j + 1))
  rw [Int.toNat_natCast, w64 (n := acc s i n0 j * 64) (by omega), w64 (n := byteAt s (i + (j + 1))) (by omega), Int.tmod_eq_emod_of_nonneg hb.1, w64 (by omega)]
  rfl

theorem win_lt {s : ByteArray} {k : Nat} {lo hi : Int} (h : win s k lo hi = true) : k < s.size := by
  unfold win at h
  simp only [Bool.and_eq_true, decide_eq_true_eq] at h
  exact h.1

theorem win_iff {s : ByteArray} {k : Nat} {lo hi : Int} : win s k lo hi = true ↔ k < s.size ∧ lo ≤ ((s.get! k).toNat : Int) ∧ ((s.get! k).toNat : Int) ≤ hi := by
  unfold win
  rw [byteAt_eq]
  simp only [Bool.and_eq_true, decide_eq_true_eq]
end Go.Proofs.YtboohfijacjhjaaDoor

/- The document's rune at a place: 'One', by the classes of the first byte (printed by gen/one.py). -/
set_option linter.unusedVariables false
namespace Go.Proofs.YtboohfijacjhjaaDoor
open Go.Ab Go.RowKit

set_option maxHeartbeats 4000000 in
theorem one_A {s : ByteArray} {x : Int} {i : Nat} (hx : x = (i : Int)) (hi : i < s.size) (hm : s.size < 1000000000) (hc : byteAt s i < 128) :
    CallR cx 133 [st s, i64 x] [] fun r S => r = .tup [i64 (byteAt s i), i64 1] ∧ S = [] := by
  have e0 : x.toNat = i := by omega
  have hr := byteAt_range s i
  refine callR_of (R := R1) cx_ok Tryd.func133 (by kernel_rfl) rfl ?_
  conv => whnf
  refine ⟨⟨by omega, by show x < (s.size : Int); omega⟩, ?_⟩
  rw [e0]
  generalize hb : byteAt s i = c at *
  conv => whnf
  refine brT (decide_eq_true (by omega)) ?_
  conv => whnf
  exact ⟨tupI (w64 (by omega)) rfl, rfl⟩

set_option maxHeartbeats 4000000 in
theorem one_X1 {s : ByteArray} {x : Int} {i : Nat} (hx : x = (i : Int)) (hi : i < s.size) (hm : s.size < 1000000000) (hc : 128 ≤ byteAt s i ∧ byteAt s i ≤ 193) :
    CallR cx 133 [st s, i64 x] [] fun r S => r = .tup [i64 (byteAt s i + 2000000), i64 1] ∧ S = [] := by
  have e0 : x.toNat = i := by omega
  have hr := byteAt_range s i
  refine callR_of (R := R1) cx_ok Tryd.func133 (by kernel_rfl) rfl ?_
  conv => whnf
  refine ⟨⟨by omega, by show x < (s.size : Int); omega⟩, ?_⟩
  rw [e0]
  generalize hb : byteAt s i = c at *
  conv => whnf
  refine brF (decide_eq_false (by omega)) ?_
  conv => whnf
  refine brF (decide_eq_false (by omega)) ?_
  conv => whnf
  refine brF (decide_eq_false (by omega)) ?_
  conv => whnf
  refine brF (decide_eq_false (by omega)) ?_
  conv => whnf
  exact ⟨tupI (by rw [w64 (n := c) (by omega), w64 (by omega)]) rfl, rfl⟩

set_option maxHeartbeats 4000000 in
theorem one_X2 {s : ByteArray} {x : Int} {i : Nat} (hx : x = (i : Int)) (hi : i < s.size) (_hm : s.size < 1000000000) (hc : 245 ≤ byteAt s i) :
    CallR cx 133 [st s, i64 x] [] fun r S => r = .tup [i64 (byteAt s i + 2000000), i64 1] ∧ S = [] := by
  have e0 : x.toNat = i := by omega
  have hr := byteAt_range s i
  refine callR_of (R := R1) cx_ok Tryd.func133 (by kernel_rfl) rfl ?_
  conv => whnf
  refine ⟨⟨by omega, by show x < (s.size : Int); omega⟩, ?_⟩
  rw [e0]
  generalize hb : byteAt s i = c at *
  conv => whnf
  refine brF (decide_eq_false (by omega)) ?_
  conv => whnf
  refine brT (decide_eq_true (by omega)) ?_
  conv => whnf
  refine brF (decide_eq_false (by omega)) ?_
  conv => whnf
  refine brT (decide_eq_true (by omega)) ?_
  conv => whnf
  refine brF (decide_eq_false (by omega)) ?_
  conv => whnf
  refine brT (decide_eq_true (by omega)) ?_
  conv => whnf
  refine brF (decide_eq_false (by omega)) ?_
  conv => whnf
  exact ⟨tupI (by rw [w64 (n := c) (by omega), w64 (by omega)]) rfl, rfl⟩

set_option maxHeartbeats 4000000 in
theorem one_C2_0 {s : ByteArray} {x : Int} {i : Nat} (hx : x = (i : Int)) (hi : i < s.size) (hm : s.size < 1000000000) (hc : 194 ≤ byteAt s i ∧ byteAt s i ≤ 223)
    (g1 : win s (i + 1) 128 191 = false) :
    CallR cx 133 [st s, i64 x] [] fun r S => r = .tup [i64 (byteAt s i + 2000000), i64 1] ∧ S = [] := by
  have e0 : x.toNat = i := by omega
  have hr := byteAt_range s i
  have w1 := within_c (s := s) (x := IntKind.i64.wrap (x + 1)) (lo := 128) (hi := 191) (k := i + 1) (by rw [w64 (by omega)]; omega)
  rw [g1] at w1
  refine callR_of (R := R1) cx_ok Tryd.func133 (by kernel_rfl) rfl ?_
  conv => whnf
  refine ⟨⟨by omega, by show x < (s.size : Int); omega⟩, ?_⟩
  rw [e0]
  generalize hb : byteAt s i = c at *
  conv => whnf
  refine brF (decide_eq_false (by omega)) ?_
  conv => whnf
  refine brT (decide_eq_true (by omega)) ?_
  conv => whnf
  refine brT (decide_eq_true (by omega)) ?_
  conv => whnf
  refine ⟨_, w1, ?_⟩
  rintro _ _ ⟨rfl, rfl⟩
  conv => whnf
  exact ⟨tupI (by rw [w64 (n := c) (by omega), w64 (by omega)]) rfl, rfl⟩

set_option maxHeartbeats 4000000 in
theorem one_C2_1 {s : ByteArray} {x : Int} {i : Nat} (hx : x = (i : Int)) (hi : i < s.size) (hm : s.size < 1000000000) (hc : 194 ≤ byteAt s i ∧ byteAt s i ≤ 223)
    (g1 : win s (i + 1) 128 191 = true) :
    CallR cx 133 [st s, i64 x] [] fun r S => r = .tup [i64 (acc s i (byteAt s i % 32) 1), i64 2] ∧ S = [] := by
  have e0 : x.toNat = i := by omega
  have hr := byteAt_range s i
  have w1 := within_c (s := s) (x := IntKind.i64.wrap (x + 1)) (lo := 128) (hi := 191) (k := i + 1) (by rw [w64 (by omega)]; omega)
  rw [g1] at w1
  have hlt : i + 1 < s.size := win_lt g1
  have hac := fun j hj => acc_range (s := s) (i := i) (n0 := byteAt s i % 32) (by omega) j hj
  refine callR_of (R := R1) cx_ok Tryd.func133 (by kernel_rfl) rfl ?_
  conv => whnf
  refine ⟨⟨by omega, by show x < (s.size : Int); omega⟩, ?_⟩
  rw [e0]
  generalize hb : byteAt s i = c at *
  conv => whnf
  refine brF (decide_eq_false (by omega)) ?_
  conv => whnf
  refine brT (decide_eq_true (by omega)) ?_
  conv => whnf
  refine brT (decide_eq_true (by omega)) ?_
  conv => whnf
  refine ⟨_, w1, ?_⟩
  rintro _ _ ⟨rfl, rfl⟩
  conv => whnf
  refine ⟨by decide, ?_⟩
  conv => whnf
  refine .inl ⟨fun k l S => ∃ j : Nat, j ≤ 1 ∧ k = 1 - j ∧ l = [(0, st s), (1, i64 x), (7, i64 1), (10, i64 (acc s i (c % 32) j)), (11, i64 ((j : Int) + 1))] ∧ S = [],
    ⟨_, _, ⟨0, by omega, rfl, rfl, rfl⟩, ⟨rfl, rfl, rfl, congrArg (fun z => some (i64 z)) (show (IntKind.i64.wrap c).tmod 32 = acc s i (c % 32) 0 by rw [w64 (by omega), Int.tmod_eq_emod_of_nonneg (by omega)]; rfl), rfl, trivial⟩⟩, ?_⟩
  rintro _ _ _ ⟨j, hj, rfl, rfl, rfl⟩
  conv => whnf
  refine brec (fun h1 => ?_) (fun h1 => ?_)
  · have h1 := of_decide_eq_true h1
    have e1 : IntKind.i64.wrap (x + ((j : Int) + 1)) = ((i + (j + 1) : Nat) : Int) := by rw [w64 (by omega)]; omega
    conv => whnf
    refine ⟨⟨by rw [e1]; omega, by rw [e1]; show ((i + (j + 1) : Nat) : Int) < (s.size : Int); omega⟩, ?_⟩
    rw [e1]
    conv => whnf
    refine ⟨by decide, ?_⟩
    conv => whnf
    exact ⟨_, _, 0, (by omega : 1 - (j + 1) < 1 - j), ⟨j + 1, by omega, rfl, rfl, rfl⟩,
      ⟨rfl, rfl, rfl, congrArg (fun z => some (i64 z)) (accStep (hac j (by omega)).1 ((hac j (by omega)).2.2 (by omega))), congrArg (fun z => some (i64 z)) (by rw [w64 (by omega)]; omega), trivial⟩, rfl⟩
  · have h1 := of_decide_eq_false h1
    obtain rfl : j = 1 := by omega
    conv => whnf
    exact ⟨rfl, rfl⟩

set_option maxHeartbeats 4000000 in
theorem one_E0_0 {s : ByteArray} {x : Int} {i : Nat} (hx : x = (i : Int)) (hi : i < s.size) (hm : s.size < 1000000000) (hc : byteAt s i = 224)
    (g1 : win s (i + 1) 160 191 = false) :
    CallR cx 133 [st s, i64 x] [] fun r S => r = .tup [i64 (byteAt s i + 2000000), i64 1] ∧ S = [] := by
  have e0 : x.toNat = i := by omega
  have hr := byteAt_range s i
  have w1 := within_c (s := s) (x := IntKind.i64.wrap (x + 1)) (lo := 160) (hi := 191) (k := i + 1) (by rw [w64 (by omega)]; omega)
  rw [g1] at w1
  refine callR_of (R := R1) cx_ok Tryd.func133 (by kernel_rfl) rfl ?_
  conv => whnf
  refine ⟨⟨by omega, by show x < (s.size : Int); omega⟩, ?_⟩
  rw [e0]
  generalize hb : byteAt s i = c at *
  conv => whnf
  refine brF (decide_eq_false (by omega)) ?_
  conv => whnf
  refine brT (decide_eq_true (by omega)) ?_
  conv => whnf
  refine brF (decide_eq_false (by omega)) ?_
  conv => whnf
  refine brT (decide_eq_true (by omega)) ?_
  conv => whnf
  refine brT (decide_eq_true (by omega)) ?_
  conv => whnf
  refine brT (beq_iff_eq.2 (by omega)) ?_
  conv => whnf
  refine brF (beq_eq_false_iff_ne.2 (by omega)) ?_
  conv => whnf
  refine ⟨_, w1, ?_⟩
  rintro _ _ ⟨rfl, rfl⟩
  conv => whnf
  exact ⟨tupI (by rw [w64 (n := c) (by omega), w64 (by omega)]) rfl, rfl⟩

set_option maxHeartbeats 4000000 in
theorem one_E0_1 {s : ByteArray} {x : Int} {i : Nat} (hx : x = (i : Int)) (hi : i < s.size) (hm : s.size < 1000000000) (hc : byteAt s i = 224)
    (g1 : win s (i + 1) 160 191 = true)
    (g2 : win s (i + 2) 128 191 = false) :
    CallR cx 133 [st s, i64 x] [] fun r S => r = .tup [i64 (byteAt s i + 2000000), i64 1] ∧ S = [] := by
  have e0 : x.toNat = i := by omega
  have hr := byteAt_range s i
  have w1 := within_c (s := s) (x := IntKind.i64.wrap (x + 1)) (lo := 160) (hi := 191) (k := i + 1) (by rw [w64 (by omega)]; omega)
  rw [g1] at w1
  have w2 := within_c (s := s) (x := IntKind.i64.wrap (x + 2)) (lo := 128) (hi := 191) (k := i + 2) (by rw [w64 (by omega)]; omega)
  rw [g2] at w2
  refine callR_of (R := R1) cx_ok Tryd.func133 (by kernel_rfl) rfl ?_
  conv => whnf
  refine ⟨⟨by omega, by show x < (s.size : Int); omega⟩, ?_⟩
  rw [e0]
  generalize hb : byteAt s i = c at *
  conv => whnf
  refine brF (decide_eq_false (by omega)) ?_
  conv => whnf
  refine brT (decide_eq_true (by omega)) ?_
  conv => whnf
  refine brF (decide_eq_false (by omega)) ?_
  conv => whnf
  refine brT (decide_eq_true (by omega)) ?_
  conv => whnf
  refine brT (decide_eq_true (by omega)) ?_
  conv => whnf
  refine brT (beq_iff_eq.2 (by omega)) ?_
  conv => whnf
  refine brF (beq_eq_false_iff_ne.2 (by omega)) ?_
  conv => whnf
  refine ⟨_, w1, ?_⟩
  rintro _ _ ⟨rfl, rfl⟩
  conv => whnf
  refine ⟨_, w2, ?_⟩
  rintro _ _ ⟨rfl, rfl⟩
  conv => whnf
  exact ⟨tupI (by rw [w64 (n := c) (by omega), w64 (by omega)]) rfl, rfl⟩

set_option maxHeartbeats 4000000 in
theorem one_E0_2 {s : ByteArray} {x : Int} {i : Nat} (hx : x = (i : Int)) (hi : i < s.size) (hm : s.size < 1000000000) (hc : byteAt s i = 224)
    (g1 : win s (i + 1) 160 191 = true)
    (g2 : win s (i + 2) 128 191 = true) :
    CallR cx 133 [st s, i64 x] [] fun r S => r = .tup [i64 (acc s i (byteAt s i % 16) 2), i64 3] ∧ S = [] := by
  have e0 : x.toNat = i := by omega
  have hr := byteAt_range s i
  have w1 := within_c (s := s) (x := IntKind.i64.wrap (x + 1)) (lo := 160) (hi := 191) (k := i + 1) (by rw [w64 (by omega)]; omega)
  rw [g1] at w1
  have w2 := within_c (s := s) (x := IntKind.i64.wrap (x + 2)) (lo := 128) (hi := 191) (k := i + 2) (by rw [w64 (by omega)]; omega)
  rw [g2] at w2
  have hlt : i + 2 < s.size := win_lt g2
  have hac := fun j hj => acc_range (s := s) (i := i) (n0 := byteAt s i % 16) (by omega) j hj
  refine callR_of (R := R1) cx_ok Tryd.func133 (by kernel_rfl) rfl ?_
  conv => whnf
  refine ⟨⟨by omega, by show x < (s.size : Int); omega⟩, ?_⟩
  rw [e0]
  generalize hb : byteAt s i = c at *
  conv => whnf
  refine brF (decide_eq_false (by omega)) ?_
  conv => whnf
  refine brT (decide_eq_true (by omega)) ?_
  conv => whnf
  refine brF (decide_eq_false (by omega)) ?_
  conv => whnf
  refine brT (decide_eq_true (by omega)) ?_
  conv => whnf
  refine brT (decide_eq_true (by omega)) ?_
  conv => whnf
  refine brT (beq_iff_eq.2 (by omega)) ?_
  conv => whnf
  refine brF (beq_eq_false_iff_ne.2 (by omega)) ?_
  conv => whnf
  refine ⟨_, w1, ?_⟩
  rintro _ _ ⟨rfl, rfl⟩
  conv => whnf
  refine ⟨_, w2, ?_⟩
  rintro _ _ ⟨rfl, rfl⟩
  conv => whnf
  refine ⟨by decide, ?_⟩
  conv => whnf
  refine ⟨by decide, ?_⟩
  conv => whnf
  refine .inl ⟨fun k l S => ∃ j : Nat, j ≤ 2 ∧ k = 2 - j ∧ l = [(0, st s), (1, i64 x), (7, i64 2), (10, i64 (acc s i (c % 16) j)), (11, i64 ((j : Int) + 1))] ∧ S = [],
    ⟨_, _, ⟨0, by omega, rfl, rfl, rfl⟩, ⟨rfl, rfl, rfl, congrArg (fun z => some (i64 z)) (show (IntKind.i64.wrap c).tmod 16 = acc s i (c % 16) 0 by rw [w64 (by omega), Int.tmod_eq_emod_of_nonneg (by omega)]; rfl), rfl, trivial⟩⟩, ?_⟩
  rintro _ _ _ ⟨j, hj, rfl, rfl, rfl⟩
  conv => whnf
  refine brec (fun h1 => ?_) (fun h1 => ?_)
  · have h1 := of_decide_eq_true h1
    have e1 : IntKind.i64.wrap (x + ((j : Int) + 1)) = ((i + (j + 1) : Nat) : Int) := by rw [w64 (by omega)]; omega
    conv => whnf
    refine ⟨⟨by rw [e1]; omega, by rw [e1]; show ((i + (j + 1) : Nat) : Int) < (s.size : Int); omega⟩, ?_⟩
    rw [e1]
    conv => whnf
    refine ⟨by decide, ?_⟩
    conv => whnf
    exact ⟨_, _, 0, (by omega : 2 - (j + 1) < 2 - j), ⟨j + 1, by omega, rfl, rfl, rfl⟩,
      ⟨rfl, rfl, rfl, congrArg (fun z => some (i64 z)) (accStep (hac j (by omega)).1 ((hac j (by omega)).2.2 (by omega))), congrArg (fun z => some (i64 z)) (by rw [w64 (by omega)]; omega), trivial⟩, rfl⟩
  · have h1 := of_decide_eq_false h1
    obtain rfl : j = 2 := by omega
    conv => whnf
    exact ⟨rfl, rfl⟩

set_option maxHeartbeats 4000000 in
theorem one_ED_0 {s : ByteArray} {x : Int} {i : Nat} (hx : x = (i : Int)) (hi : i < s.size) (hm : s.size < 1000000000) (hc : byteAt s i = 237)
    (g1 : win s (i + 1) 128 159 = false) :
    CallR cx 133 [st s, i64 x] [] fun r S => r = .tup [i64 (byteAt s i + 2000000), i64 1] ∧ S = [] := by
  have e0 : x.toNat = i := by omega
  have hr := byteAt_range s i
  have w1 := within_c (s := s) (x := IntKind.i64.wrap (x + 1)) (lo := 128) (hi := 159) (k := i + 1) (by rw [w64 (by omega)]; omega)
  rw [g1] at w1
  refine callR_of (R := R1) cx_ok Tryd.func133 (by kernel_rfl) rfl ?_
  conv => whnf
  refine ⟨⟨by omega, by show x < (s.size : Int); omega⟩, ?_⟩
  rw [e0]
  generalize hb : byteAt s i = c at *
  conv => whnf
  refine brF (decide_eq_false (by omega)) ?_
  conv => whnf
  refine brT (decide_eq_true (by omega)) ?_
  conv => whnf
  refine brF (decide_eq_false (by omega)) ?_
  conv => whnf
  refine brT (decide_eq_true (by omega)) ?_
  conv => whnf
  refine brT (decide_eq_true (by omega)) ?_
  conv => whnf
  refine brF (beq_eq_false_iff_ne.2 (by omega)) ?_
  conv => whnf
  refine brT (beq_iff_eq.2 (by omega)) ?_
  conv => whnf
  refine ⟨_, w1, ?_⟩
  rintro _ _ ⟨rfl, rfl⟩
  conv => whnf
  exact ⟨tupI (by rw [w64 (n := c) (by omega), w64 (by omega)]) rfl, rfl⟩

set_option maxHeartbeats 4000000 in
theorem one_ED_1 {s : ByteArray} {x : Int} {i : Nat} (hx : x = (i : Int)) (hi : i < s.size) (hm : s.size < 1000000000) (hc : byteAt s i = 237)
    (g1 : win s (i + 1) 128 159 = true)
    (g2 : win s (i + 2) 128 191 = false) :
    CallR cx 133 [st s, i64 x] [] fun r S => r = .tup [i64 (byteAt s i + 2000000), i64 1] ∧ S = [] := by
  have e0 : x.toNat = i := by omega
  have hr := byteAt_range s i
  have w1 := within_c (s := s) (x := IntKind.i64.wrap (x + 1)) (lo := 128) (hi := 159) (k := i + 1) (by rw [w64 (by omega)]; omega)
  rw [g1] at w1
  have w2 := within_c (s := s) (x := IntKind.i64.wrap (x + 2)) (lo := 128) (hi := 191) (k := i + 2) (by rw [w64 (by omega)]; omega)
  rw [g2] at w2
  refine callR_of (R := R1) cx_ok Tryd.func133 (by kernel_rfl) rfl ?_
  conv => whnf
  refine ⟨⟨by omega, by show x < (s.size : Int); omega⟩, ?_⟩
  rw [e0]
  generalize hb : byteAt s i = c at *
  conv => whnf
  refine brF (decide_eq_false (by omega)) ?_
  conv => whnf
  refine brT (decide_eq_true (by omega)) ?_
  conv => whnf
  refine brF (decide_eq_false (by omega)) ?_
  conv => whnf
  refine brT (decide_eq_true (by omega)) ?_
  conv => whnf
  refine brT (decide_eq_true (by omega)) ?_
  conv => whnf
  refine brF (beq_eq_false_iff_ne.2 (by omega)) ?_
  conv => whnf
  refine brT (beq_iff_eq.2 (by omega)) ?_
  conv => whnf
  refine ⟨_, w1, ?_⟩
  rintro _ _ ⟨rfl, rfl⟩
  conv => whnf
  refine ⟨_, w2, ?_⟩
  rintro _ _ ⟨rfl, rfl⟩
  conv => whnf
  exact ⟨tupI (by rw [w64 (n := c) (by omega), w64 (by omega)]) rfl, rfl⟩

set_option maxHeartbeats 4000000 in
theorem one_ED_2 {s : ByteArray} {x : Int} {i : Nat} (hx : x = (i : Int)) (hi : i < s.size) (hm : s.size < 1000000000) (hc : byteAt s i = 237)
    (g1 : win s (i + 1) 128 159 = true)
    (g2 : win s (i + 2) 128 191 = true) :
    CallR cx 133 [st s, i64 x] [] fun r S => r = .tup [i64 (acc s i (byteAt s i % 16) 2), i64 3] ∧ S = [] := by
  have e0 : x.toNat = i := by omega
  have hr := byteAt_range s i
  have w1 := within_c (s := s) (x := IntKind.i64.wrap (x + 1)) (lo := 128) (hi := 159) (k := i + 1) (by rw [w64 (by omega)]; omega)
  rw [g1] at w1
  have w2 := within_c (s := s) (x := IntKind.i64.wrap (x + 2)) (lo := 128) (hi := 191) (k := i + 2) (by rw [w64 (by omega)]; omega)
  rw [g2] at w2
  have hlt : i + 2 < s.size := win_lt g2
  have hac := fun j hj => acc_range (s := s) (i := i) (n0 := byteAt s i % 16) (by omega) j hj
  refine callR_of (R := R1) cx_ok Tryd.func133 (by kernel_rfl) rfl ?_
  conv => whnf
  refine ⟨⟨by omega, by show x < (s.size : Int); omega⟩, ?_⟩
  rw [e0]
  generalize hb : byteAt s i = c at *
  conv => whnf
  refine brF (decide_eq_false (by omega)) ?_
  conv => whnf
  refine brT (decide_eq_true (by omega)) ?_
  conv => whnf
  refine brF (decide_eq_false (by omega)) ?_
  conv => whnf
  refine brT (decide_eq_true (by omega)) ?_
  conv => whnf
  refine brT (decide_eq_true (by omega)) ?_
  conv => whnf
  refine brF (beq_eq_false_iff_ne.2 (by omega)) ?_
  conv => whnf
  refine brT (beq_iff_eq.2 (by omega)) ?_
  conv => whnf
  refine ⟨_, w1, ?_⟩
  rintro _ _ ⟨rfl, rfl⟩
  conv => whnf
  refine ⟨_, w2, ?_⟩
  rintro _ _ ⟨rfl, rfl⟩
  conv => whnf
  refine ⟨by decide, ?_⟩
  conv => whnf
  refine ⟨by decide, ?_⟩
  conv => whnf
  refine .inl ⟨fun k l S => ∃ j : Nat, j ≤ 2 ∧ k = 2 - j ∧ l = [(0, st s), (1, i64 x), (7, i64 2), (10, i64 (acc s i (c % 16) j)), (11, i64 ((j : Int) + 1))] ∧ S = [],
    ⟨_, _, ⟨0, by omega, rfl, rfl, rfl⟩, ⟨rfl, rfl, rfl, congrArg (fun z => some (i64 z)) (show (IntKind.i64.wrap c).tmod 16 = acc s i (c % 16) 0 by rw [w64 (by omega), Int.tmod_eq_emod_of_nonneg (by omega)]; rfl), rfl, trivial⟩⟩, ?_⟩
  rintro _ _ _ ⟨j, hj, rfl, rfl, rfl⟩
  conv => whnf
  refine brec (fun h1 => ?_) (fun h1 => ?_)
  · have h1 := of_decide_eq_true h1
    have e1 : IntKind.i64.wrap (x + ((j : Int) + 1)) = ((i + (j + 1) : Nat) : Int) := by rw [w64 (by omega)]; omega
    conv => whnf
    refine ⟨⟨by rw [e1]; omega, by rw [e1]; show ((i + (j + 1) : Nat) : Int) < (s.size : Int); omega⟩, ?_⟩
    rw [e1]
    conv => whnf
    refine ⟨by decide, ?_⟩
    conv => whnf
    exact ⟨_, _, 0, (by omega : 2 - (j + 1) < 2 - j), ⟨j + 1, by omega, rfl, rfl, rfl⟩,
      ⟨rfl, rfl, rfl, congrArg (fun z => some (i64 z)) (accStep (hac j (by omega)).1 ((hac j (by omega)).2.2 (by omega))), congrArg (fun z => some (i64 z)) (by rw [w64 (by omega)]; omega), trivial⟩, rfl⟩
  · have h1 := of_decide_eq_false h1
    obtain rfl : j = 2 := by omega
    conv => whnf
    exact ⟨rfl, rfl⟩

set_option maxHeartbeats 4000000 in
theorem one_EE_0 {s : ByteArray} {x : Int} {i : Nat} (hx : x = (i : Int)) (hi : i < s.size) (hm : s.size < 1000000000) (hc : (225 ≤ byteAt s i ∧ byteAt s i ≤ 236) ∨ (238 ≤ byteAt s i ∧ byteAt s i ≤ 239))
    (g1 : win s (i + 1) 128 191 = false) :
    CallR cx 133 [st s, i64 x] [] fun r S => r = .tup [i64 (byteAt s i + 2000000), i64 1] ∧ S = [] := by
  have e0 : x.toNat = i := by omega
  have hr := byteAt_range s i
  have w1 := within_c (s := s) (x := IntKind.i64.wrap (x + 1)) (lo := 128) (hi := 191) (k := i + 1) (by rw [w64 (by omega)]; omega)
  rw [g1] at w1
  refine callR_of (R := R1) cx_ok Tryd.func133 (by kernel_rfl) rfl ?_
  conv => whnf
  refine ⟨⟨by omega, by show x < (s.size : Int); omega⟩, ?_⟩
  rw [e0]
  generalize hb : byteAt s i = c at *
  conv => whnf
  refine brF (decide_eq_false (by omega)) ?_
  conv => whnf
  refine brT (decide_eq_true (by omega)) ?_
  conv => whnf
  refine brF (decide_eq_false (by omega)) ?_
  conv => whnf
  refine brT (decide_eq_true (by omega)) ?_
  conv => whnf
  refine brT (decide_eq_true (by omega)) ?_
  conv => whnf
  refine brF (beq_eq_false_iff_ne.2 (by omega)) ?_
  conv => whnf
  refine brF (beq_eq_false_iff_ne.2 (by omega)) ?_
  conv => whnf
  refine ⟨_, w1, ?_⟩
  rintro _ _ ⟨rfl, rfl⟩
  conv => whnf
  exact ⟨tupI (by rw [w64 (n := c) (by omega), w64 (by omega)]) rfl, rfl⟩

set_option maxHeartbeats 4000000 in
theorem one_EE_1 {s : ByteArray} {x : Int} {i : Nat} (hx : x = (i : Int)) (hi : i < s.size) (hm : s.size < 1000000000) (hc : (225 ≤ byteAt s i ∧ byteAt s i ≤ 236) ∨ (238 ≤ byteAt s i ∧ byteAt s i ≤ 239))
    (g1 : win s (i + 1) 128 191 = true)
    (g2 : win s (i + 2) 128 191 = false) :
    CallR cx 133 [st s, i64 x] [] fun r S => r = .tup [i64 (byteAt s i + 2000000), i64 1] ∧ S = [] := by
  have e0 : x.toNat = i := by omega
  have hr := byteAt_range s i
  have w1 := within_c (s := s) (x := IntKind.i64.wrap (x + 1)) (lo := 128) (hi := 191) (k := i + 1) (by rw [w64 (by omega)]; omega)
  rw [g1] at w1
  have w2 := within_c (s := s) (x := IntKind.i64.wrap (x + 2)) (lo := 128) (hi := 191) (k := i + 2) (by rw [w64 (by omega)]; omega)
  rw [g2] at w2
  refine callR_of (R := R1) cx_ok Tryd.func133 (by kernel_rfl) rfl ?_
  conv => whnf
  refine ⟨⟨by omega, by show x < (s.size : Int); omega⟩, ?_⟩
  rw [e0]
  generalize hb : byteAt s i = c at *
  conv => whnf
  refine brF (decide_eq_false (by omega)) ?_
  conv => whnf
  refine brT (decide_eq_true (by omega)) ?_
  conv => whnf
  refine brF (decide_eq_false (by omega)) ?_
  conv => whnf
  refine brT (decide_eq_true (by omega)) ?_
  conv => whnf
  refine brT (decide_eq_true (by omega)) ?_
  conv => whnf
  refine brF (beq_eq_false_iff_ne.2 (by omega)) ?_
  conv => whnf
  refine brF (beq_eq_false_iff_ne.2 (by omega)) ?_
  conv => whnf
  refine ⟨_, w1, ?_⟩
  rintro _ _ ⟨rfl, rfl⟩
  conv => whnf
  refine ⟨_, w2, ?_⟩
  rintro _ _ ⟨rfl, rfl⟩
  conv => whnf
  exact ⟨tupI (by rw [w64 (n := c) (by omega), w64 (by omega)]) rfl, rfl⟩

set_option maxHeartbeats 4000000 in
theorem one_EE_2 {s : ByteArray} {x : Int} {i : Nat} (hx : x = (i : Int)) (hi : i < s.size) (hm : s.size < 1000000000) (hc : (225 ≤ byteAt s i ∧ byteAt s i ≤ 236) ∨ (238 ≤ byteAt s i ∧ byteAt s i ≤ 239))
    (g1 : win s (i + 1) 128 191 = true)
    (g2 : win s (i + 2) 128 191 = true) :
    CallR cx 133 [st s, i64 x] [] fun r S => r = .tup [i64 (acc s i (byteAt s i % 16) 2), i64 3] ∧ S = [] := by
  have e0 : x.toNat = i := by omega
  have hr := byteAt_range s i
  have w1 := within_c (s := s) (x := IntKind.i64.wrap (x + 1)) (lo := 128) (hi := 191) (k := i + 1) (by rw [w64 (by omega)]; omega)
  rw [g1] at w1
  have w2 := within_c (s := s) (x := IntKind.i64.wrap (x + 2)) (lo := 128) (hi := 191) (k := i + 2) (by rw [w64 (by omega)]; omega)
  rw [g2] at w2
  have hlt : i + 2 < s.size := win_lt g2
  have hac := fun j hj => acc_range (s := s) (i := i) (n0 := byteAt s i % 16) (by omega) j hj
  refine callR_of (R := R1) cx_ok Tryd.func133 (by kernel_rfl) rfl ?_
  conv => whnf
  refine ⟨⟨by omega, by show x < (s.size : Int); omega⟩, ?_⟩
  rw [e0]
  generalize hb : byteAt s i = c at *
  conv => whnf
  refine brF (decide_eq_false (by omega)) ?_
  conv => whnf
  refine brT (decide_eq_true (by omega)) ?_
  conv => whnf
  refine brF (decide_eq_false (by omega)) ?_
  conv => whnf
  refine brT (decide_eq_true (by omega)) ?_
  conv => whnf
  refine brT (decide_eq_true (by omega)) ?_
  conv => whnf
  refine brF (beq_eq_false_iff_ne.2 (by omega)) ?_
  conv => whnf
  refine brF (beq_eq_false_iff_ne.2 (by omega)) ?_
  conv => whnf
  refine ⟨_, w1, ?_⟩
  rintro _ _ ⟨rfl, rfl⟩
  conv => whnf
  refine ⟨_, w2, ?_⟩
  rintro _ _ ⟨rfl, rfl⟩
  conv => whnf
  refine ⟨by decide, ?_⟩
  conv => whnf
  refine ⟨by decide, ?_⟩
  conv => whnf
  refine .inl ⟨fun k l S => ∃ j : Nat, j ≤ 2 ∧ k = 2 - j ∧ l = [(0, st s), (1, i64 x), (7, i64 2), (10, i64 (acc s i (c % 16) j)), (11, i64 ((j : Int) + 1))] ∧ S = [],
    ⟨_, _, ⟨0, by omega, rfl, rfl, rfl⟩, ⟨rfl, rfl, rfl, congrArg (fun z => some (i64 z)) (show (IntKind.i64.wrap c).tmod 16 = acc s i (c % 16) 0 by rw [w64 (by omega), Int.tmod_eq_emod_of_nonneg (by omega)]; rfl), rfl, trivial⟩⟩, ?_⟩
  rintro _ _ _ ⟨j, hj, rfl, rfl, rfl⟩
  conv => whnf
  refine brec (fun h1 => ?_) (fun h1 => ?_)
  · have h1 := of_decide_eq_true h1
    have e1 : IntKind.i64.wrap (x + ((j : Int) + 1)) = ((i + (j + 1) : Nat) : Int) := by rw [w64 (by omega)]; omega
    conv => whnf
    refine ⟨⟨by rw [e1]; omega, by rw [e1]; show ((i + (j + 1) : Nat) : Int) < (s.size : Int); omega⟩, ?_⟩
    rw [e1]
    conv => whnf
    refine ⟨by decide, ?_⟩
    conv => whnf
    exact ⟨_, _, 0, (by omega : 2 - (j + 1) < 2 - j), ⟨j + 1, by omega, rfl, rfl, rfl⟩,
      ⟨rfl, rfl, rfl, congrArg (fun z => some (i64 z)) (accStep (hac j (by omega)).1 ((hac j (by omega)).2.2 (by omega))), congrArg (fun z => some (i64 z)) (by rw [w64 (by omega)]; omega), trivial⟩, rfl⟩
  · have h1 := of_decide_eq_false h1
    obtain rfl : j = 2 := by omega
    conv => whnf
    exact ⟨rfl, rfl⟩

set_option maxHeartbeats 4000000 in
theorem one_F0_0 {s : ByteArray} {x : Int} {i : Nat} (hx : x = (i : Int)) (hi : i < s.size) (hm : s.size < 1000000000) (hc : byteAt s i = 240)
    (g1 : win s (i + 1) 144 191 = false) :
    CallR cx 133 [st s, i64 x] [] fun r S => r = .tup [i64 (byteAt s i + 2000000), i64 1] ∧ S = [] := by
  have e0 : x.toNat = i := by omega
  have hr := byteAt_range s i
  have w1 := within_c (s := s) (x := IntKind.i64.wrap (x + 1)) (lo := 144) (hi := 191) (k := i + 1) (by rw [w64 (by omega)]; omega)
  rw [g1] at w1
  refine callR_of (R := R1) cx_ok Tryd.func133 (by kernel_rfl) rfl ?_
  conv => whnf
  refine ⟨⟨by omega, by show x < (s.size : Int); omega⟩, ?_⟩
  rw [e0]
  generalize hb : byteAt s i = c at *
  conv => whnf
  refine brF (decide_eq_false (by omega)) ?_
  conv => whnf
  refine brT (decide_eq_true (by omega)) ?_
  conv => whnf
  refine brF (decide_eq_false (by omega)) ?_
  conv => whnf
  refine brT (decide_eq_true (by omega)) ?_
  conv => whnf
  refine brF (decide_eq_false (by omega)) ?_
  conv => whnf
  refine brT (decide_eq_true (by omega)) ?_
  conv => whnf
  refine brT (decide_eq_true (by omega)) ?_
  conv => whnf
  refine brT (beq_iff_eq.2 (by omega)) ?_
  conv => whnf
  refine brF (beq_eq_false_iff_ne.2 (by omega)) ?_
  conv => whnf
  refine ⟨_, w1, ?_⟩
  rintro _ _ ⟨rfl, rfl⟩
  conv => whnf
  exact ⟨tupI (by rw [w64 (n := c) (by omega), w64 (by omega)]) rfl, rfl⟩

set_option maxHeartbeats 4000000 in
theorem one_F0_1 {s : ByteArray} {x : Int} {i : Nat} (hx : x = (i : Int)) (hi : i < s.size) (hm : s.size < 1000000000) (hc : byteAt s i = 240)
    (g1 : win s (i + 1) 144 191 = true)
    (g2 : win s (i + 2) 128 191 = false) :
    CallR cx 133 [st s, i64 x] [] fun r S => r = .tup [i64 (byteAt s i + 2000000), i64 1] ∧ S = [] := by
  have e0 : x.toNat = i := by omega
  have hr := byteAt_range s i
  have w1 := within_c (s := s) (x := IntKind.i64.wrap (x + 1)) (lo := 144) (hi := 191) (k := i + 1) (by rw [w64 (by omega)]; omega)
  rw [g1] at w1
  have w2 := within_c (s := s) (x := IntKind.i64.wrap (x + 2)) (lo := 128) (hi := 191) (k := i + 2) (by rw [w64 (by omega)]; omega)
  rw [g2] at w2
  refine callR_of (R := R1) cx_ok Tryd.func133 (by kernel_rfl) rfl ?_
  conv => whnf
  refine ⟨⟨by omega, by show x < (s.size : Int); omega⟩, ?_⟩
  rw [e0]
  generalize hb : byteAt s i = c at *
  conv => whnf
  refine brF (decide_eq_false (by omega)) ?_
  conv => whnf
  refine brT (decide_eq_true (by omega)) ?_
  conv => whnf
  refine brF (decide_eq_false (by omega)) ?_
  conv => whnf
  refine brT (decide_eq_true (by omega)) ?_
  conv => whnf
  refine brF (decide_eq_false (by omega)) ?_
  conv => whnf
  refine brT (decide_eq_true (by omega)) ?_
  conv => whnf
  refine brT (decide_eq_true (by omega)) ?_
  conv => whnf
  refine brT (beq_iff_eq.2 (by omega)) ?_
  conv => whnf
  refine brF (beq_eq_false_iff_ne.2 (by omega)) ?_
  conv => whnf
  refine ⟨_, w1, ?_⟩
  rintro _ _ ⟨rfl, rfl⟩
  conv => whnf
  refine ⟨_, w2, ?_⟩
  rintro _ _ ⟨rfl, rfl⟩
  conv => whnf
  exact ⟨tupI (by rw [w64 (n := c) (by omega), w64 (by omega)]) rfl, rfl⟩

set_option maxHeartbeats 4000000 in
theorem one_F0_2 {s : ByteArray} {x : Int} {i : Nat} (hx : x = (i : Int)) (hi : i < s.size) (hm : s.size < 1000000000) (hc : byteAt s i = 240)
    (g1 : win s (i + 1) 144 191 = true)
    (g2 : win s (i + 2) 128 191 = true)
    (g3 : win s (i + 3) 128 191 = false) :
    CallR cx 133 [st s, i64 x] [] fun r S => r = .tup [i64 (byteAt s i + 2000000), i64 1] ∧ S = [] := by
  have e0 : x.toNat = i := by omega
  have hr := byteAt_range s i
  have w1 := within_c (s := s) (x := IntKind.i64.wrap (x + 1)) (lo := 144) (hi := 191) (k := i + 1) (by rw [w64 (by omega)]; omega)
  rw [g1] at w1
  have w2 := within_c (s := s) (x := IntKind.i64.wrap (x + 2)) (lo := 128) (hi := 191) (k := i + 2) (by rw [w64 (by omega)]; omega)
  rw [g2] at w2
  have w3 := within_c (s := s) (x := IntKind.i64.wrap (x + 3)) (lo := 128) (hi := 191) (k := i + 3) (by rw [w64 (by omega)]; omega)
  rw [g3] at w3
  refine callR_of (R := R1) cx_ok Tryd.func133 (by kernel_rfl) rfl ?_
  conv => whnf
  refine ⟨⟨by omega, by show x < (s.size : Int); omega⟩, ?_⟩
  rw [e0]
  generalize hb : byteAt s i = c at *
  conv => whnf
  refine brF (decide_eq_false (by omega)) ?_
  conv => whnf
  refine brT (decide_eq_true (by omega)) ?_
  conv => whnf
  refine brF (decide_eq_false (by omega)) ?_
  conv => whnf
  refine brT (decide_eq_true (by omega)) ?_
  conv => whnf
  refine brF (decide_eq_false (by omega)) ?_
  conv => whnf
  refine brT (decide_eq_true (by omega)) ?_
  conv => whnf
  refine brT (decide_eq_true (by omega)) ?_
  conv => whnf
  refine brT (beq_iff_eq.2 (by omega)) ?_
  conv => whnf
  refine brF (beq_eq_false_iff_ne.2 (by omega)) ?_
  conv => whnf
  refine ⟨_, w1, ?_⟩
  rintro _ _ ⟨rfl, rfl⟩
  conv => whnf
  refine ⟨_, w2, ?_⟩
  rintro _ _ ⟨rfl, rfl⟩
  conv => whnf
  refine ⟨_, w3, ?_⟩
  rintro _ _ ⟨rfl, rfl⟩
  conv => whnf
  exact ⟨tupI (by rw [w64 (n := c) (by omega), w64 (by omega)]) rfl, rfl⟩

set_option maxHeartbeats 4000000 in
theorem one_F0_3 {s : ByteArray} {x : Int} {i : Nat} (hx : x = (i : Int)) (hi : i < s.size) (hm : s.size < 1000000000) (hc : byteAt s i = 240)
    (g1 : win s (i + 1) 144 191 = true)
    (g2 : win s (i + 2) 128 191 = true)
    (g3 : win s (i + 3) 128 191 = true) :
    CallR cx 133 [st s, i64 x] [] fun r S => r = .tup [i64 (acc s i (byteAt s i % 8) 3), i64 4] ∧ S = [] := by
  have e0 : x.toNat = i := by omega
  have hr := byteAt_range s i
  have w1 := within_c (s := s) (x := IntKind.i64.wrap (x + 1)) (lo := 144) (hi := 191) (k := i + 1) (by rw [w64 (by omega)]; omega)
  rw [g1] at w1
  have w2 := within_c (s := s) (x := IntKind.i64.wrap (x + 2)) (lo := 128) (hi := 191) (k := i + 2) (by rw [w64 (by omega)]; omega)
  rw [g2] at w2
  have w3 := within_c (s := s) (x := IntKind.i64.wrap (x + 3)) (lo := 128) (hi := 191) (k := i + 3) (by rw [w64 (by omega)]; omega)
  rw [g3] at w3
  have hlt : i + 3 < s.size := win_lt g3
  have hac := fun j hj => acc_range (s := s) (i := i) (n0 := byteAt s i % 8) (by omega) j hj
  refine callR_of (R := R1) cx_ok Tryd.func133 (by kernel_rfl) rfl ?_
  conv => whnf
  refine ⟨⟨by omega, by show x < (s.size : Int); omega⟩, ?_⟩
  rw [e0]
  generalize hb : byteAt s i = c at *
  conv => whnf
  refine brF (decide_eq_false (by omega)) ?_
  conv => whnf
  refine brT (decide_eq_true (by omega)) ?_
  conv => whnf
  refine brF (decide_eq_false (by omega)) ?_
  conv => whnf
  refine brT (decide_eq_true (by omega)) ?_
  conv => whnf
  refine brF (decide_eq_false (by omega)) ?_
  conv => whnf
  refine brT (decide_eq_true (by omega)) ?_
  conv => whnf
  refine brT (decide_eq_true (by omega)) ?_
  conv => whnf
  refine brT (beq_iff_eq.2 (by omega)) ?_
  conv => whnf
  refine brF (beq_eq_false_iff_ne.2 (by omega)) ?_
  conv => whnf
  refine ⟨_, w1, ?_⟩
  rintro _ _ ⟨rfl, rfl⟩
  conv => whnf
  refine ⟨_, w2, ?_⟩
  rintro _ _ ⟨rfl, rfl⟩
  conv => whnf
  refine ⟨_, w3, ?_⟩
  rintro _ _ ⟨rfl, rfl⟩
  conv => whnf
  refine ⟨by decide, ?_⟩
  conv => whnf
  refine ⟨by decide, ?_⟩
  conv => whnf
  refine .inl ⟨fun k l S => ∃ j : Nat, j ≤ 3 ∧ k = 3 - j ∧ l = [(0, st s), (1, i64 x), (7, i64 3), (10, i64 (acc s i (c % 8) j)), (11, i64 ((j : Int) + 1))] ∧ S = [],
    ⟨_, _, ⟨0, by omega, rfl, rfl, rfl⟩, ⟨rfl, rfl, rfl, congrArg (fun z => some (i64 z)) (show (IntKind.i64.wrap c).tmod 8 = acc s i (c % 8) 0 by rw [w64 (by omega), Int.tmod_eq_emod_of_nonneg (by omega)]; rfl), rfl, trivial⟩⟩, ?_⟩
  rintro _ _ _ ⟨j, hj, rfl, rfl, rfl⟩
  conv => whnf
  refine brec (fun h1 => ?_) (fun h1 => ?_)
  · have h1 := of_decide_eq_true h1
    have e1 : IntKind.i64.wrap (x + ((j : Int) + 1)) = ((i + (j + 1) : Nat) : Int) := by rw [w64 (by omega)]; omega
    conv => whnf
    refine ⟨⟨by rw [e1]; omega, by rw [e1]; show ((i + (j + 1) : Nat) : Int) < (s.size : Int); omega⟩, ?_⟩
    rw [e1]
    conv => whnf
    refine ⟨by decide, ?_⟩
    conv => whnf
    exact ⟨_, _, 0, (by omega : 3 - (j + 1) < 3 - j), ⟨j + 1, by omega, rfl, rfl, rfl⟩,
      ⟨rfl, rfl, rfl, congrArg (fun z => some (i64 z)) (accStep (hac j (by omega)).1 ((hac j (by omega)).2.2 (by omega))), congrArg (fun z => some (i64 z)) (by rw [w64 (by omega)]; omega), trivial⟩, rfl⟩
  · have h1 := of_decide_eq_false h1
    obtain rfl : j = 3 := by omega
    conv => whnf
    exact ⟨rfl, rfl⟩

set_option maxHeartbeats 4000000 in
theorem one_F4_0 {s : ByteArray} {x : Int} {i : Nat} (hx : x = (i : Int)) (hi : i < s.size) (hm : s.size < 1000000000) (hc : byteAt s i = 244)
    (g1 : win s (i + 1) 128 143 = false) :
    CallR cx 133 [st s, i64 x] [] fun r S => r = .tup [i64 (byteAt s i + 2000000), i64 1] ∧ S = [] := by
  have e0 : x.toNat = i := by omega
  have hr := byteAt_range s i
  have w1 := within_c (s := s) (x := IntKind.i64.wrap (x + 1)) (lo := 128) (hi := 143) (k := i + 1) (by rw [w64 (by omega)]; omega)
  rw [g1] at w1
  refine callR_of (R := R1) cx_ok Tryd.func133 (by kernel_rfl) rfl ?_
  conv => whnf
  refine ⟨⟨by omega, by show x < (s.size : Int); omega⟩, ?_⟩
  rw [e0]
  generalize hb : byteAt s i = c at *
  conv => whnf
  refine brF (decide_eq_false (by omega)) ?_
  conv => whnf
  refine brT (decide_eq_true (by omega)) ?_
  conv => whnf
  refine brF (decide_eq_false (by omega)) ?_
  conv => whnf
  refine brT (decide_eq_true (by omega)) ?_
  conv => whnf
  refine brF (decide_eq_false (by omega)) ?_
  conv => whnf
  refine brT (decide_eq_true (by omega)) ?_
  conv => whnf
  refine brT (decide_eq_true (by omega)) ?_
  conv => whnf
  refine brF (beq_eq_false_iff_ne.2 (by omega)) ?_
  conv => whnf
  refine brT (beq_iff_eq.2 (by omega)) ?_
  conv => whnf
  refine ⟨_, w1, ?_⟩
  rintro _ _ ⟨rfl, rfl⟩
  conv => whnf
  exact ⟨tupI (by rw [w64 (n := c) (by omega), w64 (by omega)]) rfl, rfl⟩

set_option maxHeartbeats 4000000 in
theorem one_F4_1 {s : ByteArray} {x : Int} {i : Nat} (hx : x = (i : Int)) (hi : i < s.size) (hm : s.size < 1000000000) (hc : byteAt s i = 244)
    (g1 : win s (i + 1) 128 143 = true)
    (g2 : win s (i + 2) 128 191 = false) :
    CallR cx 133 [st s, i64 x] [] fun r S => r = .tup [i64 (byteAt s i + 2000000), i64 1] ∧ S = [] := by
  have e0 : x.toNat = i := by omega
  have hr := byteAt_range s i
  have w1 := within_c (s := s) (x := IntKind.i64.wrap (x + 1)) (lo := 128) (hi := 143) (k := i + 1) (by rw [w64 (by omega)]; omega)
  rw [g1] at w1
  have w2 := within_c (s := s) (x := IntKind.i64.wrap (x + 2)) (lo := 128) (hi := 191) (k := i + 2) (by rw [w64 (by omega)]; omega)
  rw [g2] at w2
  refine callR_of (R := R1) cx_ok Tryd.func133 (by kernel_rfl) rfl ?_
  conv => whnf
  refine ⟨⟨by omega, by show x < (s.size : Int); omega⟩, ?_⟩
  rw [e0]
  generalize hb : byteAt s i = c at *
  conv => whnf
  refine brF (decide_eq_false (by omega)) ?_
  conv => whnf
  refine brT (decide_eq_true (by omega)) ?_
  conv => whnf
  refine brF (decide_eq_false (by omega)) ?_
  conv => whnf
  refine brT (decide_eq_true (by omega)) ?_
  conv => whnf
  refine brF (decide_eq_false (by omega)) ?_
  conv => whnf
  refine brT (decide_eq_true (by omega)) ?_
  conv => whnf
  refine brT (decide_eq_true (by omega)) ?_
  conv => whnf
  refine brF (beq_eq_false_iff_ne.2 (by omega)) ?_
  conv => whnf
  refine brT (beq_iff_eq.2 (by omega)) ?_
  conv => whnf
  refine ⟨_, w1, ?_⟩
  rintro _ _ ⟨rfl, rfl⟩
  conv => whnf
  refine ⟨_, w2, ?_⟩
  rintro _ _ ⟨rfl, rfl⟩
  conv => whnf
  exact ⟨tupI (by rw [w64 (n := c) (by omega), w64 (by omega)]) rfl, rfl⟩

set_option maxHeartbeats 4000000 in
theorem one_F4_2 {s : ByteArray} {x : Int} {i : Nat} (hx : x = (i : Int)) (hi : i < s.size) (hm : s.size < 1000000000) (hc : byteAt s i = 244)
    (g1 : win s (i + 1) 128 143 = true)
    (g2 : win s (i + 2) 128 191 = true)
    (g3 : win s (i + 3) 128 191 = false) :
    CallR cx 133 [st s, i64 x] [] fun r S => r = .tup [i64 (byteAt s i + 2000000), i64 1] ∧ S = [] := by
  have e0 : x.toNat = i := by omega
  have hr := byteAt_range s i
  have w1 := within_c (s := s) (x := IntKind.i64.wrap (x + 1)) (lo := 128) (hi := 143) (k := i + 1) (by rw [w64 (by omega)]; omega)
  rw [g1] at w1
  have w2 := within_c (s := s) (x := IntKind.i64.wrap (x + 2)) (lo := 128) (hi := 191) (k := i + 2) (by rw [w64 (by omega)]; omega)
  rw [g2] at w2
  have w3 := within_c (s := s) (x := IntKind.i64.wrap (x + 3)) (lo := 128) (hi := 191) (k := i + 3) (by rw [w64 (by omega)]; omega)
  rw [g3] at w3
  refine callR_of (R := R1) cx_ok Tryd.func133 (by kernel_rfl) rfl ?_
  conv => whnf
  refine ⟨⟨by omega, by show x < (s.size : Int); omega⟩, ?_⟩
  rw [e0]
  generalize hb : byteAt s i = c at *
  conv => whnf
  refine brF (decide_eq_false (by omega)) ?_
  conv => whnf
  refine brT (decide_eq_true (by omega)) ?_
  conv => whnf
  refine brF (decide_eq_false (by omega)) ?_
  conv => whnf
  refine brT (decide_eq_true (by omega)) ?_
  conv => whnf
  refine brF (decide_eq_false (by omega)) ?_
  conv => whnf
  refine brT (decide_eq_true (by omega)) ?_
  conv => whnf
  refine brT (decide_eq_true (by omega)) ?_
  conv => whnf
  refine brF (beq_eq_false_iff_ne.2 (by omega)) ?_
  conv => whnf
  refine brT (beq_iff_eq.2 (by omega)) ?_
  conv => whnf
  refine ⟨_, w1, ?_⟩
  rintro _ _ ⟨rfl, rfl⟩
  conv => whnf
  refine ⟨_, w2, ?_⟩
  rintro _ _ ⟨rfl, rfl⟩
  conv => whnf
  refine ⟨_, w3, ?_⟩
  rintro _ _ ⟨rfl, rfl⟩
  conv => whnf
  exact ⟨tupI (by rw [w64 (n := c) (by omega), w64 (by omega)]) rfl, rfl⟩

set_option maxHeartbeats 4000000 in
theorem one_F4_3 {s : ByteArray} {x : Int} {i : Nat} (hx : x = (i : Int)) (hi : i < s.size) (hm : s.size < 1000000000) (hc : byteAt s i = 244)
    (g1 : win s (i + 1) 128 143 = true)
    (g2 : win s (i + 2) 128 191 = true)
    (g3 : win s (i + 3) 128 191 = true) :
    CallR cx 133 [st s, i64 x] [] fun r S => r = .tup [i64 (acc s i (byteAt s i % 8) 3), i64 4] ∧ S = [] := by
  have e0 : x.toNat = i := by omega
  have hr := byteAt_range s i
  have w1 := within_c (s := s) (x := IntKind.i64.wrap (x + 1)) (lo := 128) (hi := 143) (k := i + 1) (by rw [w64 (by omega)]; omega)
  rw [g1] at w1
  have w2 := within_c (s := s) (x := IntKind.i64.wrap (x + 2)) (lo := 128) (hi := 191) (k := i + 2) (by rw [w64 (by omega)]; omega)
  rw [g2] at w2
  have w3 := within_c (s := s) (x := IntKind.i64.wrap (x + 3)) (lo := 128) (hi := 191) (k := i + 3) (by rw [w64 (by omega)]; omega)
  rw [g3] at w3
  have hlt : i + 3 < s.size := win_lt g3
  have hac := fun j hj => acc_range (s := s) (i := i) (n0 := byteAt s i % 8) (by omega) j hj
  refine callR_of (R := R1) cx_ok Tryd.func133 (by kernel_rfl) rfl ?_
  conv => whnf
  refine ⟨⟨by omega, by show x < (s.size : Int); omega⟩, ?_⟩
  rw [e0]
  generalize hb : byteAt s i = c at *
  conv => whnf
  refine brF (decide_eq_false (by omega)) ?_
  conv => whnf
  refine brT (decide_eq_true (by omega)) ?_
  conv => whnf
  refine brF (decide_eq_false (by omega)) ?_
  conv => whnf
  refine brT (decide_eq_true (by omega)) ?_
  conv => whnf
  refine brF (decide_eq_false (by omega)) ?_
  conv => whnf
  refine brT (decide_eq_true (by omega)) ?_
  conv => whnf
  refine brT (decide_eq_true (by omega)) ?_
  conv => whnf
  refine brF (beq_eq_false_iff_ne.2 (by omega)) ?_
  conv => whnf
  refine brT (beq_iff_eq.2 (by omega)) ?_
  conv => whnf
  refine ⟨_, w1, ?_⟩
  rintro _ _ ⟨rfl, rfl⟩
  conv => whnf
  refine ⟨_, w2, ?_⟩
  rintro _ _ ⟨rfl, rfl⟩
  conv => whnf
  refine ⟨_, w3, ?_⟩
  rintro _ _ ⟨rfl, rfl⟩
  conv => whnf
  refine ⟨by decide, ?_⟩
  conv => whnf
  refine ⟨by decide, ?_⟩
  conv => whnf
  refine .inl ⟨fun k l S => ∃ j : Nat, j ≤ 3 ∧ k = 3 - j ∧ l = [(0, st s), (1, i64 x), (7, i64 3), (10, i64 (acc s i (c % 8) j)), (11, i64 ((j : Int) + 1))] ∧ S = [],
    ⟨_, _, ⟨0, by omega, rfl, rfl, rfl⟩, ⟨rfl, rfl, rfl, congrArg (fun z => some (i64 z)) (show (IntKind.i64.wrap c).tmod 8 = acc s i (c % 8) 0 by rw [w64 (by omega), Int.tmod_eq_emod_of_nonneg (by omega)]; rfl), rfl, trivial⟩⟩, ?_⟩
  rintro _ _ _ ⟨j, hj, rfl, rfl, rfl⟩
  conv => whnf
  refine brec (fun h1 => ?_) (fun h1 => ?_)
  · have h1 := of_decide_eq_true h1
    have e1 : IntKind.i64.wrap (x + ((j : Int) + 1)) = ((i + (j + 1) : Nat) : Int) := by rw [w64 (by omega)]; omega
    conv => whnf
    refine ⟨⟨by rw [e1]; omega, by rw [e1]; show ((i + (j + 1) : Nat) : Int) < (s.size : Int); omega⟩, ?_⟩
    rw [e1]
    conv => whnf
    refine ⟨by decide, ?_⟩
    conv => whnf
    exact ⟨_, _, 0, (by omega : 3 - (j + 1) < 3 - j), ⟨j + 1, by omega, rfl, rfl, rfl⟩,
      ⟨rfl, rfl, rfl, congrArg (fun z => some (i64 z)) (accStep (hac j (by omega)).1 ((hac j (by omega)).2.2 (by omega))), congrArg (fun z => some (i64 z)) (by rw [w64 (by omega)]; omega), trivial⟩, rfl⟩
  · have h1 := of_decide_eq_false h1
    obtain rfl : j = 3 := by omega
    conv => whnf
    exact ⟨rfl, rfl⟩

set_option maxHeartbeats 4000000 in
theorem one_FF_0 {s : ByteArray} {x : Int} {i : Nat} (hx : x = (i : Int)) (hi : i < s.size) (hm : s.size < 1000000000) (hc : 241 ≤ byteAt s i ∧ byteAt s i ≤ 243)
    (g1 : win s (i + 1) 128 191 = false) :
    CallR cx 133 [st s, i64 x] [] fun r S => r = .tup [i64 (byteAt s i + 2000000), i64 1] ∧ S = [] := by
  have e0 : x.toNat = i := by omega
  have hr := byteAt_range s i
  have w1 := within_c (s := s) (x := IntKind.i64.wrap (x + 1)) (lo := 128) (hi := 191) (k := i + 1) (by rw [w64 (by omega)]; omega)
  rw [g1] at w1
  refine callR_of (R := R1) cx_ok Tryd.func133 (by kernel_rfl) rfl ?_
  conv => whnf
  refine ⟨⟨by omega, by show x < (s.size : Int); omega⟩, ?_⟩
  rw [e0]
  generalize hb : byteAt s i = c at *
  conv => whnf
  refine brF (decide_eq_false (by omega)) ?_
  conv => whnf
  refine brT (decide_eq_true (by omega)) ?_
  conv => whnf
  refine brF (decide_eq_false (by omega)) ?_
  conv => whnf
  refine brT (decide_eq_true (by omega)) ?_
  conv => whnf
  refine brF (decide_eq_false (by omega)) ?_
  conv => whnf
  refine brT (decide_eq_true (by omega)) ?_
  conv => whnf
  refine brT (decide_eq_true (by omega)) ?_
  conv => whnf
  refine brF (beq_eq_false_iff_ne.2 (by omega)) ?_
  conv => whnf
  refine brF (beq_eq_false_iff_ne.2 (by omega)) ?_
  conv => whnf
  refine ⟨_, w1, ?_⟩
  rintro _ _ ⟨rfl, rfl⟩
  conv => whnf
  exact ⟨tupI (by rw [w64 (n := c) (by omega), w64 (by omega)]) rfl, rfl⟩

set_option maxHeartbeats 4000000 in
theorem one_FF_1 {s : ByteArray} {x : Int} {i : Nat} (hx : x = (i : Int)) (hi : i < s.size) (hm : s.size < 1000000000) (hc : 241 ≤ byteAt s i ∧ byteAt s i ≤ 243)
    (g1 : win s (i + 1) 128 191 = true)
    (g2 : win s (i + 2) 128 191 = false) :
    CallR cx 133 [st s, i64 x] [] fun r S => r = .tup [i64 (byteAt s i + 2000000), i64 1] ∧ S = [] := by
  have e0 : x.toNat = i := by omega
  have hr := byteAt_range s i
  have w1 := within_c (s := s) (x := IntKind.i64.wrap (x + 1)) (lo := 128) (hi := 191) (k := i + 1) (by rw [w64 (by omega)]; omega)
  rw [g1] at w1
  have w2 := within_c (s := s) (x := IntKind.i64.wrap (x + 2)) (lo := 128) (hi := 191) (k := i + 2) (by rw [w64 (by omega)]; omega)
  rw [g2] at w2
  refine callR_of (R := R1) cx_ok Tryd.func133 (by kernel_rfl) rfl ?_
  conv => whnf
  refine ⟨⟨by omega, by show x < (s.size : Int); omega⟩, ?_⟩
  rw [e0]
  generalize hb : byteAt s i = c at *
  conv => whnf
  refine brF (decide_eq_false (by omega)) ?_
  conv => whnf
  refine brT (decide_eq_true (by omega)) ?_
  conv => whnf
  refine brF (decide_eq_false (by omega)) ?_
  conv => whnf
  refine brT (decide_eq_true (by omega)) ?_
  conv => whnf
  refine brF (decide_eq_false (by omega)) ?_
  conv => whnf
  refine brT (decide_eq_true (by omega)) ?_
  conv => whnf
  refine brT (decide_eq_true (by omega)) ?_
  conv => whnf
  refine brF (beq_eq_false_iff_ne.2 (by omega)) ?_
  conv => whnf
  refine brF (beq_eq_false_iff_ne.2 (by omega)) ?_
  conv => whnf
  refine ⟨_, w1, ?_⟩
  rintro _ _ ⟨rfl, rfl⟩
  conv => whnf
  refine ⟨_, w2, ?_⟩
  rintro _ _ ⟨rfl, rfl⟩
  conv => whnf
  exact ⟨tupI (by rw [w64 (n := c) (by omega), w64 (by omega)]) rfl, rfl⟩

set_option maxHeartbeats 4000000 in
theorem one_FF_2 {s : ByteArray} {x : Int} {i : Nat} (hx : x = (i : Int)) (hi : i < s.size) (hm : s.size < 1000000000) (hc : 241 ≤ byteAt s i ∧ byteAt s i ≤ 243)
    (g1 : win s (i + 1) 128 191 = true)
    (g2 : win s (i + 2) 128 191 = true)
    (g3 : win s (i + 3) 128 191 = false) :
    CallR cx 133 [st s, i64 x] [] fun r S => r = .tup [i64 (byteAt s i + 2000000), i64 1] ∧ S = [] := by
  have e0 : x.toNat = i := by omega
  have hr := byteAt_range s i
  have w1 := within_c (s := s) (x := IntKind.i64.wrap (x + 1)) (lo := 128) (hi := 191) (k := i + 1) (by rw [w64 (by omega)]; omega)
  rw [g1] at w1
  have w2 := within_c (s := s) (x := IntKind.i64.wrap (x + 2)) (lo := 128) (hi := 191) (k := i + 2) (by rw [w64 (by omega)]; omega)
  rw [g2] at w2
  have w3 := within_c (s := s) (x := IntKind.i64.wrap (x + 3)) (lo := 128) (hi := 191) (k := i + 3) (by rw [w64 (by omega)]; omega)
  rw [g3] at w3
  refine callR_of (R := R1) cx_ok Tryd.func133 (by kernel_rfl) rfl ?_
  conv => whnf
  refine ⟨⟨by omega, by show x < (s.size : Int); omega⟩, ?_⟩
  rw [e0]
  generalize hb : byteAt s i = c at *
  conv => whnf
  refine brF (decide_eq_false (by omega)) ?_
  conv => whnf
  refine brT (decide_eq_true (by omega)) ?_
  conv => whnf
  refine brF (decide_eq_false (by omega)) ?_
  conv => whnf
  refine brT (decide_eq_true (by omega)) ?_
  conv => whnf
  refine brF (decide_eq_false (by omega)) ?_
  conv => whnf
  refine brT (decide_eq_true (by omega)) ?_
  conv => whnf
  refine brT (decide_eq_true (by omega)) ?_
  conv => whnf
  refine brF (beq_eq_false_iff_ne.2 (by omega)) ?_
  conv => whnf
  refine brF (beq_eq_false_iff_ne.2 (by omega)) ?_
  conv => whnf
  refine ⟨_, w1, ?_⟩
  rintro _ _ ⟨rfl, rfl⟩
  conv => whnf
  refine ⟨_, w2, ?_⟩
  rintro _ _ ⟨rfl, rfl⟩
  conv => whnf
  refine ⟨_, w3, ?_⟩
  rintro _ _ ⟨rfl, rfl⟩
  conv => whnf
  exact ⟨tupI (by rw [w64 (n := c) (by omega), w64 (by omega)]) rfl, rfl⟩

set_option maxHeartbeats 4000000 in
theorem one_FF_3 {s : ByteArray} {x : Int} {i : Nat} (hx : x = (i : Int)) (hi : i < s.size) (hm : s.size < 1000000000) (hc : 241 ≤ byteAt s i ∧ byteAt s i ≤ 243)
    (g1 : win s (i + 1) 128 191 = true)
    (g2 : win s (i + 2) 128 191 = true)
    (g3 : win s (i + 3) 128 191 = true) :
    CallR cx 133 [st s, i64 x] [] fun r S => r = .tup [i64 (acc s i (byteAt s i % 8) 3), i64 4] ∧ S = [] := by
  have e0 : x.toNat = i := by omega
  have hr := byteAt_range s i
  have w1 := within_c (s := s) (x := IntKind.i64.wrap (x + 1)) (lo := 128) (hi := 191) (k := i + 1) (by rw [w64 (by omega)]; omega)
  rw [g1] at w1
  have w2 := within_c (s := s) (x := IntKind.i64.wrap (x + 2)) (lo := 128) (hi := 191) (k := i + 2) (by rw [w64 (by omega)]; omega)
  rw [g2] at w2
  have w3 := within_c (s := s) (x := IntKind.i64.wrap (x + 3)) (lo := 128) (hi := 191) (k := i + 3) (by rw [w64 (by omega)]; omega)
  rw [g3] at w3
  have hlt : i + 3 < s.size := win_lt g3
  have hac := fun j hj => acc_range (s := s) (i := i) (n0 := byteAt s i % 8) (by omega) j hj
  refine callR_of (R := R1) cx_ok Tryd.func133 (by kernel_rfl) rfl ?_
  conv => whnf
  refine ⟨⟨by omega, by show x < (s.size : Int); omega⟩, ?_⟩
  rw [e0]
  generalize hb : byteAt s i = c at *
  conv => whnf
  refine brF (decide_eq_false (by omega)) ?_
  conv => whnf
  refine brT (decide_eq_true (by omega)) ?_
  conv => whnf
  refine brF (decide_eq_false (by omega)) ?_
  conv => whnf
  refine brT (decide_eq_true (by omega)) ?_
  conv => whnf
  refine brF (decide_eq_false (by omega)) ?_
  conv => whnf
  refine brT (decide_eq_true (by omega)) ?_
  conv => whnf
  refine brT (decide_eq_true (by omega)) ?_
  conv => whnf
  refine brF (beq_eq_false_iff_ne.2 (by omega)) ?_
  conv => whnf
  refine brF (beq_eq_false_iff_ne.2 (by omega)) ?_
  conv => whnf
  refine ⟨_, w1, ?_⟩
  rintro _ _ ⟨rfl, rfl⟩
  conv => whnf
  refine ⟨_, w2, ?_⟩
  rintro _ _ ⟨rfl, rfl⟩
  conv => whnf
  refine ⟨_, w3, ?_⟩
  rintro _ _ ⟨rfl, rfl⟩
  conv => whnf
  refine ⟨by decide, ?_⟩
  conv => whnf
  refine ⟨by decide, ?_⟩
  conv => whnf
  refine .inl ⟨fun k l S => ∃ j : Nat, j ≤ 3 ∧ k = 3 - j ∧ l = [(0, st s), (1, i64 x), (7, i64 3), (10, i64 (acc s i (c % 8) j)), (11, i64 ((j : Int) + 1))] ∧ S = [],
    ⟨_, _, ⟨0, by omega, rfl, rfl, rfl⟩, ⟨rfl, rfl, rfl, congrArg (fun z => some (i64 z)) (show (IntKind.i64.wrap c).tmod 8 = acc s i (c % 8) 0 by rw [w64 (by omega), Int.tmod_eq_emod_of_nonneg (by omega)]; rfl), rfl, trivial⟩⟩, ?_⟩
  rintro _ _ _ ⟨j, hj, rfl, rfl, rfl⟩
  conv => whnf
  refine brec (fun h1 => ?_) (fun h1 => ?_)
  · have h1 := of_decide_eq_true h1
    have e1 : IntKind.i64.wrap (x + ((j : Int) + 1)) = ((i + (j + 1) : Nat) : Int) := by rw [w64 (by omega)]; omega
    conv => whnf
    refine ⟨⟨by rw [e1]; omega, by rw [e1]; show ((i + (j + 1) : Nat) : Int) < (s.size : Int); omega⟩, ?_⟩
    rw [e1]
    conv => whnf
    refine ⟨by decide, ?_⟩
    conv => whnf
    exact ⟨_, _, 0, (by omega : 3 - (j + 1) < 3 - j), ⟨j + 1, by omega, rfl, rfl, rfl⟩,
      ⟨rfl, rfl, rfl, congrArg (fun z => some (i64 z)) (accStep (hac j (by omega)).1 ((hac j (by omega)).2.2 (by omega))), congrArg (fun z => some (i64 z)) (by rw [w64 (by omega)]; omega), trivial⟩, rfl⟩
  · have h1 := of_decide_eq_false h1
    obtain rfl : j = 3 := by omega
    conv => whnf
    exact ⟨rfl, rfl⟩
end Go.Proofs.YtboohfijacjhjaaDoor

/- The document's rune at a place is the number that the text's decoder gives, a stray's its byte and 2000000 (printed by gen/onekey.py). -/
namespace Go.Proofs.YtboohfijacjhjaaDoor
open Go.Ab Go.RowKit

theorem keyN_bad {n b0 b1 b2 b3 : Nat} (h : Lib.decodeN n b0 b1 b2 b3 = (65533, 1)) : keyN n b0 b1 b2 b3 = (b0 + 2000000, 1) := by
  unfold keyN; rw [if_pos h]
theorem keyN_good {n b0 b1 b2 b3 a k : Nat} (h : Lib.decodeN n b0 b1 b2 b3 = (a, k)) (hk : 1 < k ∨ a < 65533) : keyN n b0 b1 b2 b3 = (a, k) := by
  unfold keyN; rw [h, if_neg]; intro e; simp only [Prod.mk.injEq] at e; omega

theorem one_of {s : ByteArray} {x : Int} {i a k : Nat} {p q : Int} (h : CallR cx 133 [st s, i64 x] [] fun r S => r = .tup [i64 p, i64 q] ∧ S = []) (hk : key s i = (a, k)) (hp : p = (a : Int)) (hq : q = (k : Int)) :
    CallR cx 133 [st s, i64 x] [] fun r S => r = .tup [i64 ((key s i).1 : Int), i64 ((key s i).2 : Int)] ∧ S = [] := by
  rw [hk, ← hp, ← hq]; exact h

theorem dec_bad {n b0 b1 b2 b3 : Nat} (h0 : b0 < 256) (h1 : b1 < 256) (h2 : b2 < 256) (h3 : b3 < 256)
    (h : (128 ≤ b0 ∧ b0 ≤ 193) ∨ 245 ≤ b0 ∨ (194 ≤ b0 ∧ b0 ≤ 223 ∧ ¬ (1 < n ∧ 128 ≤ b1 ∧ b1 ≤ 191)) ∨
      (224 ≤ b0 ∧ b0 ≤ 239 ∧ (¬ (1 < n ∧ 128 ≤ b1 ∧ b1 ≤ 191) ∨ ¬ (2 < n ∧ 128 ≤ b2 ∧ b2 ≤ 191) ∨ (b0 = 224 ∧ b1 < 160) ∨ (b0 = 237 ∧ 159 < b1))) ∨
      (240 ≤ b0 ∧ b0 ≤ 244 ∧ (¬ (1 < n ∧ 128 ≤ b1 ∧ b1 ≤ 191) ∨ ¬ (2 < n ∧ 128 ≤ b2 ∧ b2 ≤ 191) ∨ ¬ (3 < n ∧ 128 ≤ b3 ∧ b3 ≤ 191) ∨ (b0 = 240 ∧ b1 < 144) ∨ (b0 = 244 ∧ 143 < b1)))) : Lib.decodeN n b0 b1 b2 b3 = (65533, 1) := by
  unfold Lib.decodeN
  repeat' split
  all_goals first | rfl | (exfalso; omega)

theorem dec_1 {n b0 b1 b2 b3 : Nat} (h : b0 < 128) : Lib.decodeN n b0 b1 b2 b3 = (b0, 1) := by
  unfold Lib.decodeN; rw [if_pos h]
theorem dec_2 {n b0 b1 b2 b3 : Nat} (h0 : 194 ≤ b0 ∧ b0 ≤ 223) (h1 : 1 < n ∧ 128 ≤ b1 ∧ b1 ≤ 191) : Lib.decodeN n b0 b1 b2 b3 = (b0 % 32 * 64 + b1 % 64, 2) := by
  unfold Lib.decodeN
  rw [if_neg (by omega), if_pos (by omega), if_pos (by omega)]
theorem dec_3 {n b0 b1 b2 b3 : Nat} (h0 : 224 ≤ b0 ∧ b0 ≤ 239) (h1 : 1 < n ∧ 128 ≤ b1 ∧ b1 ≤ 191) (h2 : 2 < n ∧ 128 ≤ b2 ∧ b2 ≤ 191) (h3 : b0 = 224 → 160 ≤ b1) (h4 : b0 = 237 → b1 ≤ 159) :
    Lib.decodeN n b0 b1 b2 b3 = (b0 % 16 * 4096 + b1 % 64 * 64 + b2 % 64, 3) := by
  unfold Lib.decodeN
  rw [if_neg (by omega), if_neg (by omega), if_pos (by omega), if_pos (by omega)]
theorem dec_4 {n b0 b1 b2 b3 : Nat} (h0 : 240 ≤ b0 ∧ b0 ≤ 244) (h1 : 1 < n ∧ 128 ≤ b1 ∧ b1 ≤ 191) (h2 : 2 < n ∧ 128 ≤ b2 ∧ b2 ≤ 191) (h3 : 3 < n ∧ 128 ≤ b3 ∧ b3 ≤ 191) (h4 : b0 = 240 → 144 ≤ b1) (h5 : b0 = 244 → b1 ≤ 143) :
    Lib.decodeN n b0 b1 b2 b3 = (b0 % 8 * 262144 + b1 % 64 * 4096 + b2 % 64 * 64 + b3 % 64, 4) := by
  unfold Lib.decodeN
  rw [if_neg (by omega), if_neg (by omega), if_neg (by omega), if_pos (by omega), if_pos (by omega)]

set_option maxHeartbeats 4000000 in
theorem one_c {s : ByteArray} {x : Int} {i : Nat} (hx : x = (i : Int)) (hi : i < s.size) (hm : s.size < 1000000000) :
    CallR cx 133 [st s, i64 x] [] fun r S => r = .tup [i64 ((key s i).1 : Int), i64 ((key s i).2 : Int)] ∧ S = [] := by
  have b0 := byteAt_eq s i
  have l0 := (s.get! i).toNat_lt; have l1 := (s.get! (i + 1)).toNat_lt; have l2 := (s.get! (i + 2)).toNat_lt; have l3 := (s.get! (i + 3)).toNat_lt
  have k1 : ∀ lo hi, win s (i + 1) lo hi = true ↔ i + 1 < s.size ∧ lo ≤ ((s.get! (i + 1)).toNat : Int) ∧ ((s.get! (i + 1)).toNat : Int) ≤ hi := fun _ _ => win_iff
  have k2 : ∀ lo hi, win s (i + 2) lo hi = true ↔ i + 2 < s.size ∧ lo ≤ ((s.get! (i + 2)).toNat : Int) ∧ ((s.get! (i + 2)).toNat : Int) ≤ hi := fun _ _ => win_iff
  have k3 : ∀ lo hi, win s (i + 3) lo hi = true ↔ i + 3 < s.size ∧ lo ≤ ((s.get! (i + 3)).toNat : Int) ∧ ((s.get! (i + 3)).toNat : Int) ≤ hi := fun _ _ => win_iff
  have a1 : ∀ n0, acc s i n0 1 = n0 * 64 + ((s.get! (i + 1)).toNat : Int) % 64 := fun n0 => by rw [← byteAt_eq]; rfl
  have a2 : ∀ n0, acc s i n0 2 = (n0 * 64 + ((s.get! (i + 1)).toNat : Int) % 64) * 64 + ((s.get! (i + 2)).toNat : Int) % 64 := fun n0 => by rw [← byteAt_eq, ← byteAt_eq]; rfl
  have a3 : ∀ n0, acc s i n0 3 = ((n0 * 64 + ((s.get! (i + 1)).toNat : Int) % 64) * 64 + ((s.get! (i + 2)).toNat : Int) % 64) * 64 + ((s.get! (i + 3)).toNat : Int) % 64 := fun n0 => by rw [← byteAt_eq, ← byteAt_eq, ← byteAt_eq]; rfl
  have nf : ∀ b : Bool, b = true ∨ b = false := fun b => by cases b <;> simp
  have ff : ∀ (b : Bool) (p : Prop), (b = true ↔ p) → b = false → ¬ p := fun b p h e hp => by rw [h.2 hp] at e; cases e
  by_cases c0 : byteAt s i < 128
  · exact one_of (one_A hx hi hm c0) (keyN_good (dec_1 (by omega)) (by omega)) b0 rfl
  by_cases c1 : byteAt s i ≤ 193
  · exact one_of (one_X1 hx hi hm (by omega)) (keyN_bad (dec_bad l0 l1 l2 l3 (by omega))) (by omega) rfl
  by_cases c2 : 245 ≤ byteAt s i
  · exact one_of (one_X2 hx hi hm c2) (keyN_bad (dec_bad l0 l1 l2 l3 (by omega))) (by omega) rfl
  by_cases dC2 : byteAt s i ≤ 223
  · have f1 := k1 128 191
    rcases nf (win s (i + 1) 128 191) with g1 | g1
    rotate_left
    · have n1 := ff _ _ f1 g1
      exact one_of (one_C2_0 hx hi hm (by omega)  g1) (keyN_bad (dec_bad l0 l1 l2 l3 (by omega))) (by omega) rfl
    have n1 := f1.1 g1
    exact one_of (one_C2_1 hx hi hm (by omega) g1) (keyN_good (dec_2 (by omega) (by omega)) (by omega)) (by rw [a1, b0]; omega) rfl
  by_cases dE0 : byteAt s i = 224
  · have f1 := k1 160 191
    rcases nf (win s (i + 1) 160 191) with g1 | g1
    rotate_left
    · have n1 := ff _ _ f1 g1
      exact one_of (one_E0_0 hx hi hm (by omega)  g1) (keyN_bad (dec_bad l0 l1 l2 l3 (by omega))) (by omega) rfl
    have f2 := k2 128 191
    rcases nf (win s (i + 2) 128 191) with g2 | g2
    rotate_left
    · have n2 := ff _ _ f2 g2
      have n1 := f1.1 g1
      exact one_of (one_E0_1 hx hi hm (by omega) g1 g2) (keyN_bad (dec_bad l0 l1 l2 l3 (by omega))) (by omega) rfl
    have n1 := f1.1 g1
    have n2 := f2.1 g2
    exact one_of (one_E0_2 hx hi hm (by omega) g1 g2) (keyN_good (dec_3 (by omega) (by omega) (by omega) (by omega) (by omega)) (by omega)) (by rw [a2, b0]; omega) rfl
  by_cases dED : byteAt s i = 237
  · have f1 := k1 128 159
    rcases nf (win s (i + 1) 128 159) with g1 | g1
    rotate_left
    · have n1 := ff _ _ f1 g1
      exact one_of (one_ED_0 hx hi hm (by omega)  g1) (keyN_bad (dec_bad l0 l1 l2 l3 (by omega))) (by omega) rfl
    have f2 := k2 128 191
    rcases nf (win s (i + 2) 128 191) with g2 | g2
    rotate_left
    · have n2 := ff _ _ f2 g2
      have n1 := f1.1 g1
      exact one_of (one_ED_1 hx hi hm (by omega) g1 g2) (keyN_bad (dec_bad l0 l1 l2 l3 (by omega))) (by omega) rfl
    have n1 := f1.1 g1
    have n2 := f2.1 g2
    exact one_of (one_ED_2 hx hi hm (by omega) g1 g2) (keyN_good (dec_3 (by omega) (by omega) (by omega) (by omega) (by omega)) (by omega)) (by rw [a2, b0]; omega) rfl
  by_cases dEE : byteAt s i ≤ 239
  · have f1 := k1 128 191
    rcases nf (win s (i + 1) 128 191) with g1 | g1
    rotate_left
    · have n1 := ff _ _ f1 g1
      exact one_of (one_EE_0 hx hi hm (by omega)  g1) (keyN_bad (dec_bad l0 l1 l2 l3 (by omega))) (by omega) rfl
    have f2 := k2 128 191
    rcases nf (win s (i + 2) 128 191) with g2 | g2
    rotate_left
    · have n2 := ff _ _ f2 g2
      have n1 := f1.1 g1
      exact one_of (one_EE_1 hx hi hm (by omega) g1 g2) (keyN_bad (dec_bad l0 l1 l2 l3 (by omega))) (by omega) rfl
    have n1 := f1.1 g1
    have n2 := f2.1 g2
    exact one_of (one_EE_2 hx hi hm (by omega) g1 g2) (keyN_good (dec_3 (by omega) (by omega) (by omega) (by omega) (by omega)) (by omega)) (by rw [a2, b0]; omega) rfl
  by_cases dF0 : byteAt s i = 240
  · have f1 := k1 144 191
    rcases nf (win s (i + 1) 144 191) with g1 | g1
    rotate_left
    · have n1 := ff _ _ f1 g1
      exact one_of (one_F0_0 hx hi hm (by omega)  g1) (keyN_bad (dec_bad l0 l1 l2 l3 (by omega))) (by omega) rfl
    have f2 := k2 128 191
    rcases nf (win s (i + 2) 128 191) with g2 | g2
    rotate_left
    · have n2 := ff _ _ f2 g2
      have n1 := f1.1 g1
      exact one_of (one_F0_1 hx hi hm (by omega) g1 g2) (keyN_bad (dec_bad l0 l1 l2 l3 (by omega))) (by omega) rfl
    have f3 := k3 128 191
    rcases nf (win s (i + 3) 128 191) with g3 | g3
    rotate_left
    · have n3 := ff _ _ f3 g3
      have n1 := f1.1 g1
      have n2 := f2.1 g2
      exact one_of (one_F0_2 hx hi hm (by omega) g1 g2 g3) (keyN_bad (dec_bad l0 l1 l2 l3 (by omega))) (by omega) rfl
    have n1 := f1.1 g1
    have n2 := f2.1 g2
    have n3 := f3.1 g3
    exact one_of (one_F0_3 hx hi hm (by omega) g1 g2 g3) (keyN_good (dec_4 (by omega) (by omega) (by omega) (by omega) (by omega) (by omega)) (by omega)) (by rw [a3, b0]; omega) rfl
  by_cases dF4 : byteAt s i = 244
  · have f1 := k1 128 143
    rcases nf (win s (i + 1) 128 143) with g1 | g1
    rotate_left
    · have n1 := ff _ _ f1 g1
      exact one_of (one_F4_0 hx hi hm (by omega)  g1) (keyN_bad (dec_bad l0 l1 l2 l3 (by omega))) (by omega) rfl
    have f2 := k2 128 191
    rcases nf (win s (i + 2) 128 191) with g2 | g2
    rotate_left
    · have n2 := ff _ _ f2 g2
      have n1 := f1.1 g1
      exact one_of (one_F4_1 hx hi hm (by omega) g1 g2) (keyN_bad (dec_bad l0 l1 l2 l3 (by omega))) (by omega) rfl
    have f3 := k3 128 191
    rcases nf (win s (i + 3) 128 191) with g3 | g3
    rotate_left
    · have n3 := ff _ _ f3 g3
      have n1 := f1.1 g1
      have n2 := f2.1 g2
      exact one_of (one_F4_2 hx hi hm (by omega) g1 g2 g3) (keyN_bad (dec_bad l0 l1 l2 l3 (by omega))) (by omega) rfl
    have n1 := f1.1 g1
    have n2 := f2.1 g2
    have n3 := f3.1 g3
    exact one_of (one_F4_3 hx hi hm (by omega) g1 g2 g3) (keyN_good (dec_4 (by omega) (by omega) (by omega) (by omega) (by omega) (by omega)) (by omega)) (by rw [a3, b0]; omega) rfl
  have f1 := k1 128 191
  rcases nf (win s (i + 1) 128 191) with g1 | g1
  rotate_left
  · have n1 := ff _ _ f1 g1
    exact one_of (one_FF_0 hx hi hm (by omega)  g1) (keyN_bad (dec_bad l0 l1 l2 l3 (by omega))) (by omega) rfl
  have f2 := k2 128 191
  rcases nf (win s (i + 2) 128 191) with g2 | g2
  rotate_left
  · have n2 := ff _ _ f2 g2
    have n1 := f1.1 g1
    exact one_of (one_FF_1 hx hi hm (by omega) g1 g2) (keyN_bad (dec_bad l0 l1 l2 l3 (by omega))) (by omega) rfl
  have f3 := k3 128 191
  rcases nf (win s (i + 3) 128 191) with g3 | g3
  rotate_left
  · have n3 := ff _ _ f3 g3
    have n1 := f1.1 g1
    have n2 := f2.1 g2
    exact one_of (one_FF_2 hx hi hm (by omega) g1 g2 g3) (keyN_bad (dec_bad l0 l1 l2 l3 (by omega))) (by omega) rfl
  have n1 := f1.1 g1
  have n2 := f2.1 g2
  have n3 := f3.1 g3
  exact one_of (one_FF_3 hx hi hm (by omega) g1 g2 g3) (keyN_good (dec_4 (by omega) (by omega) (by omega) (by omega) (by omega) (by omega)) (by omega)) (by rw [a3, b0]; omega) rfl
end Go.Proofs.YtboohfijacjhjaaDoor

/- Names: a text's runes as numbers; small letters. -/
namespace Go.Proofs.YtboohfijacjhjaaDoor
open Go.Ab Go.RowKit

abbrev ints (l : List Nat) : List D := l.map fun (k : Nat) => D.int .i64 (k : Int)

theorem numbers_c {s : ByteArray} (hm : s.size < 1000000000) : CallR cx 112 [st s] [] fun r S => r = .d (.sl 1 (ints (keysAt s 0))) ∧ S = [] := by
  refine callR_of (R := R1) cx_ok Tryd.func112 (by kernel_rfl) rfl ?_
  conv => whnf
  refine .inl ?_
  conv => whnf
  refine .inr ⟨3, 1, ?_⟩
  conv => whnf
  refine .inr ⟨fun n l S => ∃ (i : Nat) (xs : List Nat), xs ++ keysAt s i = keysAt s 0 ∧ xs.length ≤ i ∧ i ≤ s.size + 3 ∧ n = s.size + 4 - i ∧
      l = [(0, st s), (3, .row 0), (4, i64 (i : Int))] ∧ S = [.row 3 1 (ints xs)],
    ⟨_, _, ⟨0, [], rfl, Nat.le_refl _, by omega, rfl, rfl, rfl⟩, ⟨rfl, rfl, rfl, trivial⟩⟩, ?_⟩
  rintro _ _ _ ⟨i, xs, h1, h2, h3, rfl, rfl, rfl⟩
  conv => whnf
  refine brec (fun h4 => ?_) (fun h4 => ?_)
  · have h4 := of_decide_eq_true h4
    have hi : i < s.size := by omega
    conv => whnf
    refine ⟨_, one_c (s := s) (x := (i : Int)) rfl hi hm, ?_⟩
    rintro _ _ ⟨rfl, rfl⟩
    conv => whnf
    have hp := key_pos s i
    have hf := key_four s i
    refine ⟨⟨Nat.one_pos, by show ((ints xs).length + 1) * (8 + 1) ≤ _; rw [List.length_map]; omega⟩, ?_⟩
    conv => whnf
    refine ⟨s.size + 4 - (i + (key s i).2), [(0, st s), (3, .row 1), (4, i64 ((i + (key s i).2 : Nat) : Int))], [1], by omega,
      ⟨rfl, rfl, congrArg (fun z => some (i64 z)) (by rw [w64 (by omega)]; omega), trivial⟩, ?_⟩
    conv => whnf
    refine ⟨i + (key s i).2, xs ++ [(key s i).1], ?_, ?_, by omega, rfl, rfl, ?_⟩
    · rw [← h1, keysAt_lt hi, List.append_assoc]; rfl
    · rw [List.length_append]; show xs.length + 1 ≤ _; omega
    · show _ = [Blk.row 3 1 (List.map (fun (k : Nat) => D.int .i64 (k : Int)) (xs ++ [(key s i).1]))]
      rw [List.map_append]
      rfl
  · have h4 := of_decide_eq_false h4
    rw [keysAt_ge (by omega), List.append_nil] at h1
    conv => whnf
    rw [h1]
    exact ⟨rfl, rfl⟩
end Go.Proofs.YtboohfijacjhjaaDoor

/- Names: small letters; right names; texts that may be said: the program's and the document's. -/
namespace Go.Proofs.YtboohfijacjhjaaDoor
open Go.Ab Go.RowKit

theorem small_A {k : Int} (h : k < 97) : CallR cx 110 [i32 k] [] fun r S => r = bo (decide (smallI k)) ∧ S = [] := by
  have hs : ¬ smallI k := by unfold smallI; omega
  refine callR_of (R := R1) cx_ok Tryd.func110 (by kernel_rfl) rfl ?_
  conv => whnf
  refine brF (decide_eq_false (by omega)) ?_
  conv => whnf
  refine brF (decide_eq_false (by omega)) ?_
  conv => whnf
  refine ⟨?_, rfl⟩
  rw [decide_eq_false hs]
  first | rfl | exact congrArg bo (decide_eq_true (by omega)) | exact congrArg bo (decide_eq_false (by omega))

theorem small_B {k : Int} (h : 97 ≤ k ∧ k ≤ 122) : CallR cx 110 [i32 k] [] fun r S => r = bo (decide (smallI k)) ∧ S = [] := by
  have hs : smallI k := by unfold smallI; omega
  refine callR_of (R := R1) cx_ok Tryd.func110 (by kernel_rfl) rfl ?_
  conv => whnf
  refine brT (decide_eq_true (by omega)) ?_
  conv => whnf
  refine brT (decide_eq_true (by omega)) ?_
  conv => whnf
  refine ⟨?_, rfl⟩
  rw [decide_eq_true hs]
  first | rfl | exact congrArg bo (decide_eq_true (by omega)) | exact congrArg bo (decide_eq_false (by omega))

theorem small_C {k : Int} (h : 123 ≤ k ∧ k ≤ 944) : CallR cx 110 [i32 k] [] fun r S => r = bo (decide (smallI k)) ∧ S = [] := by
  have hs : ¬ smallI k := by unfold smallI; omega
  refine callR_of (R := R1) cx_ok Tryd.func110 (by kernel_rfl) rfl ?_
  conv => whnf
  refine brT (decide_eq_true (by omega)) ?_
  conv => whnf
  refine brF (decide_eq_false (by omega)) ?_
  conv => whnf
  refine brF (decide_eq_false (by omega)) ?_
  conv => whnf
  refine ⟨?_, rfl⟩
  rw [decide_eq_false hs]
  first | rfl | exact congrArg bo (decide_eq_true (by omega)) | exact congrArg bo (decide_eq_false (by omega))

theorem small_D {k : Int} (h : 945 ≤ k ∧ k ≤ 969) : CallR cx 110 [i32 k] [] fun r S => r = bo (decide (smallI k)) ∧ S = [] := by
  have hs : smallI k := by unfold smallI; omega
  refine callR_of (R := R1) cx_ok Tryd.func110 (by kernel_rfl) rfl ?_
  conv => whnf
  refine brT (decide_eq_true (by omega)) ?_
  conv => whnf
  refine brF (decide_eq_false (by omega)) ?_
  conv => whnf
  refine brT (decide_eq_true (by omega)) ?_
  conv => whnf
  refine ⟨?_, rfl⟩
  rw [decide_eq_true hs]
  first | rfl | exact congrArg bo (decide_eq_true (by omega)) | exact congrArg bo (decide_eq_false (by omega))

theorem small_E {k : Int} (h : 970 ≤ k) : CallR cx 110 [i32 k] [] fun r S => r = bo (decide (smallI k)) ∧ S = [] := by
  have hs : ¬ smallI k := by unfold smallI; omega
  refine callR_of (R := R1) cx_ok Tryd.func110 (by kernel_rfl) rfl ?_
  conv => whnf
  refine brT (decide_eq_true (by omega)) ?_
  conv => whnf
  refine brF (decide_eq_false (by omega)) ?_
  conv => whnf
  refine brT (decide_eq_true (by omega)) ?_
  conv => whnf
  refine ⟨?_, rfl⟩
  rw [decide_eq_false hs]
  first | rfl | exact congrArg bo (decide_eq_true (by omega)) | exact congrArg bo (decide_eq_false (by omega))

theorem small_c {k : Int} : CallR cx 110 [i32 k] [] fun r S => r = bo (decide (smallI k)) ∧ S = [] := by
  by_cases h1 : k < 97
  · exact small_A h1
  by_cases h2 : k ≤ 122
  · exact small_B (by omega)
  by_cases h3 : k ≤ 944
  · exact small_C (by omega)
  by_cases h4 : k ≤ 969
  · exact small_D (by omega)
  exact small_E (by omega)

theorem rsmall_A {k : Int} (h : k < 97) : CallR cx 113 [i64 k] [] fun r S => r = bo (decide (smallI k)) ∧ S = [] := by
  have hs : ¬ smallI k := by unfold smallI; omega
  refine callR_of (R := R1) cx_ok Tryd.func113 (by kernel_rfl) rfl ?_
  conv => whnf
  refine brF (decide_eq_false (by omega)) ?_
  conv => whnf
  refine brF (decide_eq_false (by omega)) ?_
  conv => whnf
  refine ⟨?_, rfl⟩
  rw [decide_eq_false hs]
  first | rfl | exact congrArg bo (decide_eq_true (by omega)) | exact congrArg bo (decide_eq_false (by omega))

theorem rsmall_B {k : Int} (h : 97 ≤ k ∧ k ≤ 122) : CallR cx 113 [i64 k] [] fun r S => r = bo (decide (smallI k)) ∧ S = [] := by
  have hs : smallI k := by unfold smallI; omega
  refine callR_of (R := R1) cx_ok Tryd.func113 (by kernel_rfl) rfl ?_
  conv => whnf
  refine brT (decide_eq_true (by omega)) ?_
  conv => whnf
  refine brT (decide_eq_true (by omega)) ?_
  conv => whnf
  refine ⟨?_, rfl⟩
  rw [decide_eq_true hs]
  first | rfl | exact congrArg bo (decide_eq_true (by omega)) | exact congrArg bo (decide_eq_false (by omega))

theorem rsmall_C {k : Int} (h : 123 ≤ k ∧ k ≤ 944) : CallR cx 113 [i64 k] [] fun r S => r = bo (decide (smallI k)) ∧ S = [] := by
  have hs : ¬ smallI k := by unfold smallI; omega
  refine callR_of (R := R1) cx_ok Tryd.func113 (by kernel_rfl) rfl ?_
  conv => whnf
  refine brT (decide_eq_true (by omega)) ?_
  conv => whnf
  refine brF (decide_eq_false (by omega)) ?_
  conv => whnf
  refine brF (decide_eq_false (by omega)) ?_
  conv => whnf
  refine ⟨?_, rfl⟩
  rw [decide_eq_false hs]
  first | rfl | exact congrArg bo (decide_eq_true (by omega)) | exact congrArg bo (decide_eq_false (by omega))

theorem rsmall_D {k : Int} (h : 945 ≤ k ∧ k ≤ 969) : CallR cx 113 [i64 k] [] fun r S => r = bo (decide (smallI k)) ∧ S = [] := by
  have hs : smallI k := by unfold smallI; omega
  refine callR_of (R := R1) cx_ok Tryd.func113 (by kernel_rfl) rfl ?_
  conv => whnf
  refine brT (decide_eq_true (by omega)) ?_
  conv => whnf
  refine brF (decide_eq_false (by omega)) ?_
  conv => whnf
  refine brT (decide_eq_true (by omega)) ?_
  conv => whnf
  refine ⟨?_, rfl⟩
  rw [decide_eq_true hs]
  first | rfl | exact congrArg bo (decide_eq_true (by omega)) | exact congrArg bo (decide_eq_false (by omega))

theorem rsmall_E {k : Int} (h : 970 ≤ k) : CallR cx 113 [i64 k] [] fun r S => r = bo (decide (smallI k)) ∧ S = [] := by
  have hs : ¬ smallI k := by unfold smallI; omega
  refine callR_of (R := R1) cx_ok Tryd.func113 (by kernel_rfl) rfl ?_
  conv => whnf
  refine brT (decide_eq_true (by omega)) ?_
  conv => whnf
  refine brF (decide_eq_false (by omega)) ?_
  conv => whnf
  refine brT (decide_eq_true (by omega)) ?_
  conv => whnf
  refine ⟨?_, rfl⟩
  rw [decide_eq_false hs]
  first | rfl | exact congrArg bo (decide_eq_true (by omega)) | exact congrArg bo (decide_eq_false (by omega))

theorem rsmall_c {k : Int} : CallR cx 113 [i64 k] [] fun r S => r = bo (decide (smallI k)) ∧ S = [] := by
  by_cases h1 : k < 97
  · exact rsmall_A h1
  by_cases h2 : k ≤ 122
  · exact rsmall_B (by omega)
  by_cases h3 : k ≤ 944
  · exact rsmall_C (by omega)
  by_cases h4 : k ≤ 969
  · exact rsmall_D (by omega)
  exact rsmall_E (by omega)

end Go.Proofs.YtboohfijacjhjaaDoor

/- Names: right names, the program's and the document's. -/
namespace Go.Proofs.YtboohfijacjhjaaDoor
open Go.Ab Go.RowKit

theorem okR_key (f : Bool) (s : ByteArray) (i : Nat) : okR f ((key s i).1 : Int) = okR f ((Utf8.decode s i).1 : Int) := by
  cases h : stray s i with
  | false => rw [key_plain h]
  | true =>
    obtain ⟨h1, h2⟩ := key_stray h
    rw [h1, h2]
    have e1 : okR f (((s.get! i).toNat + 2000000 : Nat) : Int) = false := by
      unfold okR
      rw [decide_eq_false (by unfold smallI; omega), decide_eq_false (p := (((s.get! i).toNat + 2000000 : Nat) : Int) ≤ 57) (by omega)]
      simp
    have e2 : okR f ((65533 : Nat) : Int) = false := by
      unfold okR
      rw [decide_eq_false (by unfold smallI; omega), decide_eq_false (p := ((65533 : Nat) : Int) ≤ 57) (by omega)]
      simp
    exact e1.trans e2.symm

theorem goR_cons (k : Nat) (l : List Nat) (n : Nat) : goR (k :: l) n = (okR (n == 0) (k : Int) && goR l (n + 1)) := rfl

theorem ok_small {f : Bool} {k : Int} (h : smallI k) : okR f k = true := by unfold okR; rw [decide_eq_true h]; rfl
theorem ok_first {k : Int} (h : ¬ smallI k) : okR true k = false := by unfold okR; rw [decide_eq_false h]; rfl
theorem ok_low {f : Bool} {k : Int} (h : ¬ smallI k) (g : k < 48) : okR f k = false := by
  unfold okR; rw [decide_eq_false h, decide_eq_false (p := 48 ≤ k) (by omega)]; simp
theorem ok_high {f : Bool} {k : Int} (h : ¬ smallI k) (g : 57 < k) : okR f k = false := by
  unfold okR; rw [decide_eq_false h, decide_eq_false (p := k ≤ 57) (by omega)]; simp
theorem ok_digit {n : Nat} {k : Int} (hn : n ≠ 0) (g : 48 ≤ k) (g' : k ≤ 57) : okR (n == 0) k = true := by
  unfold okR; rw [decide_eq_true g, decide_eq_true g', beq_eq_false_iff_ne.2 hn]; simp

theorem right_c {s : ByteArray} (hm : s.size < 1000000000) : CallR cx 71 [st s] [] fun r S => r = bo (rightT s) ∧ S = [] := by
  refine callR_of (R := R1) cx_ok Tryd.func71 (by kernel_rfl) rfl ?_
  conv => whnf
  refine .inl ⟨fun m l S => ∃ (i n : Nat), goR (keysAt s i) n = rightT s ∧ n ≤ i ∧ i ≤ s.size + 3 ∧ m = s.size + 4 - i ∧
      l = [(0, st s), (3, i64 (n : Int)), (7, .ptr 0 [])] ∧ S = [.iter s i],
    ⟨_, _, ⟨0, 0, rfl, Nat.le_refl _, by omega, rfl, rfl, rfl⟩, ⟨rfl, rfl, rfl, trivial⟩⟩, ?_⟩
  rintro _ _ _ ⟨i, n, h1, h2, h3, rfl, rfl, rfl⟩
  conv => whnf
  refine brec (fun h4 => ?_) (fun h4 => ?_)
  · have hi := of_decide_eq_true h4
    have hd := decode_range s i
    rw [keysAt_lt hi, goR_cons, okR_key, key_two] at h1
    generalize hk : Utf8.decode s i = d at *
    obtain ⟨r, w⟩ := d
    simp only at hd h1
    generalize hr : (r : Int) = R at *
    have e1 : IntKind.i64.wrap ((n : Int) + 1) = ((n + 1 : Nat) : Int) := by rw [w64 (by omega)]; omega
    have sm := small_c (k := R)
    conv => whnf
    by_cases hs : smallI R
    · rw [decide_eq_true hs] at sm
      rw [ok_small hs, Bool.true_and] at h1
      refine ⟨_, sm, ?_⟩
      rintro _ _ ⟨rfl, rfl⟩
      conv => whnf
      exact ⟨_, _, 1, (by omega : s.size + 4 - (i + w) < s.size + 4 - i), ⟨i + w, n + 1, h1, by omega, by omega, rfl, rfl, rfl⟩,
        ⟨rfl, congrArg (fun z => some (i64 z)) e1, rfl, trivial⟩, rfl⟩
    · rw [decide_eq_false hs] at sm
      refine ⟨_, sm, ?_⟩
      rintro _ _ ⟨rfl, rfl⟩
      conv => whnf
      by_cases hn : n = 0
      · refine brT (beq_iff_eq.2 (by rw [e1]; omega)) ?_
        conv => whnf
        subst hn
        rw [show ((0 : Nat) == 0) = true from rfl, ok_first hs, Bool.false_and] at h1
        rw [← h1]
        exact ⟨rfl, rfl⟩
      · refine brF (beq_eq_false_iff_ne.2 (by rw [e1]; omega)) ?_
        conv => whnf
        by_cases hl : R < 48
        · refine brT (decide_eq_true (by omega)) ?_
          conv => whnf
          rw [ok_low hs hl, Bool.false_and] at h1
          rw [← h1]
          exact ⟨rfl, rfl⟩
        · refine brF (decide_eq_false (by omega)) ?_
          conv => whnf
          by_cases hh : 57 < R
          · refine brT (decide_eq_true (by omega)) ?_
            conv => whnf
            rw [ok_high hs hh, Bool.false_and] at h1
            rw [← h1]
            exact ⟨rfl, rfl⟩
          · refine brF (decide_eq_false (by omega)) ?_
            conv => whnf
            rw [ok_digit hn (by omega) (by omega), Bool.true_and] at h1
            exact ⟨_, _, 1, (by omega : s.size + 4 - (i + w) < s.size + 4 - i), ⟨i + w, n + 1, h1, by omega, by omega, rfl, rfl, rfl⟩,
              ⟨rfl, congrArg (fun z => some (i64 z)) e1, rfl, trivial⟩, rfl⟩
  · have h4 := of_decide_eq_false h4
    rw [keysAt_ge (by omega)] at h1
    conv => whnf
    have e0 : rightT s = (decide (0 < (n : Int)) && decide ((n : Int) ≤ 12)) := by
      rw [← h1]
      show (decide (1 ≤ n) && decide (n ≤ 12)) = _
      have a1 : (0 < (n : Int)) = (1 ≤ n) := propext ⟨fun h => by omega, fun h => by omega⟩
      have a2 : ((n : Int) ≤ 12) = (n ≤ 12) := propext ⟨fun h => by omega, fun h => by omega⟩
      simp only [a1, a2]
    rw [e0]
    refine brec (fun h5 => ?_) (fun h5 => ?_)
    · conv => whnf
      rw [show decide (0 < (n : Int)) = true from h5]
      exact ⟨rfl, rfl⟩
    · conv => whnf
      rw [show decide (0 < (n : Int)) = false from h5]
      exact ⟨rfl, rfl⟩
end Go.Proofs.YtboohfijacjhjaaDoor

/- Names: the document's right names; texts that may be said, the program's and the document's. -/
namespace Go.Proofs.YtboohfijacjhjaaDoor
open Go.Ab Go.RowKit

theorem ints_getD {l : List Nat} {j : Nat} (h : j < l.length) : (ints l).getD (j : Int).toNat .nilP = .int .i64 ((l[j]'h : Nat) : Int) := by
  rw [Int.toNat_natCast, List.getD_eq_getElem?_getD, List.getElem?_map, List.getElem?_eq_getElem h]
  rfl

theorem rright_c {s : ByteArray} (hm : s.size < 1000000000) : CallR cx 73 [st s] [] fun r S => r = bo (rightT s) ∧ S = [] := by
  have nu := numbers_c hm
  have hL := keysAt_length s 0
  unfold rightT
  generalize keysAt s 0 = L at *
  have hlen : (ints L).length = L.length := List.length_map _
  refine callR_of (R := R1) cx_ok Tryd.func73 (by kernel_rfl) rfl ?_
  conv => whnf
  refine ⟨_, nu, ?_⟩
  rintro _ _ ⟨rfl, rfl⟩
  conv => whnf
  refine .inl ⟨fun m l S => ∃ j : Nat, j ≤ L.length ∧ goR (L.drop j) j = goR L 0 ∧ m = L.length - j ∧
      l = [(3, .d (.sl 1 (ints L))), (8, .d (.sl 1 (ints L))), (9, i64 (((ints L).length : Nat) : Int)), (10, i64 (j : Int))] ∧ S = [],
    ⟨_, _, ⟨0, Nat.zero_le _, rfl, rfl, rfl, rfl⟩, ⟨rfl, rfl, rfl, rfl, trivial⟩⟩, ?_⟩
  rintro _ _ _ ⟨j, hj, h1, rfl, rfl, rfl⟩
  conv => whnf
  refine brec (fun h4 => ?_) (fun h4 => ?_)
  · have h4 := of_decide_eq_true h4
    rw [hlen] at h4
    have hlt : j < L.length := by omega
    conv => whnf
    refine ⟨⟨by omega, by rw [hlen]; omega⟩, ?_⟩
    rw [ints_getD hlt]
    rw [List.drop_eq_getElem_cons hlt, goR_cons] at h1
    generalize L[j]'hlt = K at *
    have sm := rsmall_c (k := (K : Int))
    generalize hK : (K : Int) = R at *
    have e1 : IntKind.i64.wrap ((j : Int) + 1) = ((j + 1 : Nat) : Int) := by rw [w64 (by omega)]; omega
    conv => whnf
    by_cases hs : smallI R
    · rw [decide_eq_true hs] at sm
      rw [ok_small hs, Bool.true_and] at h1
      refine ⟨_, sm, ?_⟩
      rintro _ _ ⟨rfl, rfl⟩
      conv => whnf
      exact ⟨_, _, 0, (by omega : L.length - (j + 1) < L.length - j), ⟨j + 1, by omega, h1, rfl, rfl, rfl⟩,
        ⟨rfl, rfl, rfl, congrArg (fun z => some (i64 z)) e1, trivial⟩, rfl⟩
    · rw [decide_eq_false hs] at sm
      refine ⟨_, sm, ?_⟩
      rintro _ _ ⟨rfl, rfl⟩
      conv => whnf
      by_cases hn : j = 0
      · refine brT (beq_iff_eq.2 (by omega)) ?_
        conv => whnf
        subst hn
        rw [show ((0 : Nat) == 0) = true from rfl, ok_first hs, Bool.false_and] at h1
        rw [← h1]
        exact ⟨rfl, rfl⟩
      · refine brF (beq_eq_false_iff_ne.2 (by omega)) ?_
        conv => whnf
        by_cases hl : R < 48
        · refine brT (decide_eq_true (by omega)) ?_
          conv => whnf
          rw [ok_low hs hl, Bool.false_and] at h1
          rw [← h1]
          exact ⟨rfl, rfl⟩
        · refine brF (decide_eq_false (by omega)) ?_
          conv => whnf
          by_cases hh : 57 < R
          · refine brT (decide_eq_true (by omega)) ?_
            conv => whnf
            rw [ok_high hs hh, Bool.false_and] at h1
            rw [← h1]
            exact ⟨rfl, rfl⟩
          · refine brF (decide_eq_false (by omega)) ?_
            conv => whnf
            rw [ok_digit hn (by omega) (by omega), Bool.true_and] at h1
            exact ⟨_, _, 0, (by omega : L.length - (j + 1) < L.length - j), ⟨j + 1, by omega, h1, rfl, rfl, rfl⟩,
              ⟨rfl, rfl, rfl, congrArg (fun z => some (i64 z)) e1, trivial⟩, rfl⟩
  · have h4 := of_decide_eq_false h4
    rw [hlen] at h4
    obtain rfl : j = L.length := by omega
    rw [List.drop_length] at h1
    conv => whnf
    have e0 : goR L 0 = (decide ((((ints L).length : Nat) : Int) ≥ 1) && decide ((((ints L).length : Nat) : Int) ≤ 12)) := by
      rw [← h1, hlen]
      show (decide (1 ≤ L.length) && decide (L.length ≤ 12)) = _
      have a1 : (((L.length : Nat) : Int) ≥ 1) = (1 ≤ L.length) := propext ⟨fun h => by omega, fun h => by omega⟩
      have a2 : (((L.length : Nat) : Int) ≤ 12) = (L.length ≤ 12) := propext ⟨fun h => by omega, fun h => by omega⟩
      simp only [a1, a2]
    rw [e0]
    refine brec (fun h5 => ?_) (fun h5 => ?_)
    · conv => whnf
      rw [show decide ((((ints L).length : Nat) : Int) ≥ 1) = true from h5]
      exact ⟨rfl, rfl⟩
    · conv => whnf
      rw [show decide ((((ints L).length : Nat) : Int) ≥ 1) = false from h5]
      exact ⟨rfl, rfl⟩
end Go.Proofs.YtboohfijacjhjaaDoor

/- Texts as runes: what a rune's bytes are, that they are found again, that texts without capitals stay so. Plain laws, no program. -/
namespace Go.Proofs.YtboohfijacjhjaaDoor
open Go.Ab

/-- A rune's bytes. -/
inductive Val : List UInt8 → Nat → Prop
  | one {b : UInt8} : b.toNat < 128 → Val [b] b.toNat
  | two {b0 b1 : UInt8} : 194 ≤ b0.toNat ∧ b0.toNat ≤ 223 → 128 ≤ b1.toNat ∧ b1.toNat ≤ 191 → Val [b0, b1] (b0.toNat % 32 * 64 + b1.toNat % 64)
  | three {b0 b1 b2 : UInt8} : 224 ≤ b0.toNat ∧ b0.toNat ≤ 239 → 128 ≤ b1.toNat ∧ b1.toNat ≤ 191 → 128 ≤ b2.toNat ∧ b2.toNat ≤ 191 → (b0.toNat = 224 → 160 ≤ b1.toNat) → (b0.toNat = 237 → b1.toNat ≤ 159) →
      Val [b0, b1, b2] (b0.toNat % 16 * 4096 + b1.toNat % 64 * 64 + b2.toNat % 64)
  | four {b0 b1 b2 b3 : UInt8} : 240 ≤ b0.toNat ∧ b0.toNat ≤ 244 → 128 ≤ b1.toNat ∧ b1.toNat ≤ 191 → 128 ≤ b2.toNat ∧ b2.toNat ≤ 191 → 128 ≤ b3.toNat ∧ b3.toNat ≤ 191 → (b0.toNat = 240 → 144 ≤ b1.toNat) → (b0.toNat = 244 → b1.toNat ≤ 143) →
      Val [b0, b1, b2, b3] (b0.toNat % 8 * 262144 + b1.toNat % 64 * 4096 + b2.toNat % 64 * 64 + b3.toNat % 64)

theorem Val.lt {u k} (h : Val u k) : k < 1114112 := by cases h <;> omega

/-- What is no surrogate and not too great is a rune. -/
def okRune (k : Nat) : Prop := k < 55296 ∨ (57343 < k ∧ k < 1114112)

theorem Val.ok {u k} (h : Val u k) : okRune k := by unfold okRune; cases h <;> omega

end Go.Proofs.YtboohfijacjhjaaDoor
