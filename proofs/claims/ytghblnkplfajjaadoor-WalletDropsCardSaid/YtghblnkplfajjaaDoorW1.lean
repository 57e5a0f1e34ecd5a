/- What one statement needs of the texts, by slice.py. -/
import Derived.Test.YtghblnkplfajjaaDoorTy
import Derived.Test.YtghblnkplfajjaaDoorAbZ
import Derived.Shelf.RegionOpenPlain
import Derived.Lib.Walk
import Derived.Lib.Builder
import Derived.Lib.AppendStr
import Derived.Lib.UnsafeStr
import Derived.WalkKit
import Derived.Laws.Externs
import Derived.Shelf.Unicode.DecodeAny
import Derived.Test.YtghblnkplfajjaaDoorProg
import Derived.Lib.DecodeN
import Derived.Test.YtghblnkplfajjaaDoorAbW
import Derived.Shelf.Strings.Repeat

/- The program's context in the own logic: types, sha's first state and constants. -/
namespace Go.Proofs.YtghblnkplfajjaaDoor
open Go.Ab
/-- What sha.first holds. -/
def fiL : List Int := [1779033703, 3144134277, 1013904242, 2773480762, 1359893119, 2600822924, 528734635, 1541459225]
/-- What sha.constants holds. -/
def coL : List Int := [1116352408, 1899447441, 3049323471, 3921009573, 961987163, 1508970993, 2453635748, 2870763221, 3624381080, 310598401, 607225278, 1426881987, 1925078388, 2162078206, 2614888103, 3248222580, 3835390401, 4022224774, 264347078, 604807628, 770255983, 1249150122, 1555081692, 1996064986, 2554220882, 2821834349, 2952996808, 3210313671, 3336571891, 3584528711, 113926993, 338241895, 666307205, 773529912, 1294757372, 1396182291, 1695183700, 1986661051, 2177026350, 2456956037, 2730485921, 2820302411, 3259730800, 3345764771, 3516065817, 3600352804, 4094571909, 275423344, 430227734, 506948616, 659060556, 883997877, 958139571, 1322822218, 1537002063, 1747873779, 1955562222, 2024104815, 2227730452, 2361852424, 2428436474, 2756734187, 3204031479, 3329325298]
def intsD (k : IntKind) (l : List Int) : D := .arr l.length 1 (l.map fun z => .int k z)
def gl (g : Nat) : Option D := match Nat.beq g 0 with
  | true => some (intsD .u32 fiL)
  | false => match Nat.beq g 1 with
    | true => some (intsD .u32 coL)
    | false => none
def rwsOf (t : Nat) : Option (List (Option TypeId)) := match Nat.beq t 86 with
  | true => some [none, some 5]
  | false => none
def rowfOf (_ : Nat) : Bool := false
def mksOf (f : Nat) : Bool := match Nat.beq f 24 with | true => true | false => match Nat.beq f 13 with | true => true | false => false
noncomputable def cx : Ctx := { P := Tryd.prog, tt := ty.look, glob := gl, rws := rwsOf, rowf := rowfOf, mks := mksOf }
theorem cx_ok : cx.ok := tab_ok ty_fits
theorem laid : laidOutB Tryd.prog = true := by kernel_rfl
abbrev u64 (n : Int) : AV := .d (.int .u64 n)
abbrev i64 (n : Int) : AV := .d (.int .i64 n)
abbrev u8 (n : Int) : AV := .d (.int .u8 n)
abbrev bo (b : Bool) : AV := .d (.bool b)
abbrev st (s : ByteArray) : AV := .d (.str s)

theorem CL.intsK {w G} {k : IntKind} : ∀ l : List Int, CL w G (l.map fun z => D.int k z) (l.map fun z => Value.int k z)
  | [] => .nil
  | _ :: l => .int (CL.intsK l)

theorem ints_glob {w : World} {g : Nat} {k : IntKind} {l : List Int} (h : ∀ j v, (l.map fun z => Value.int k z)[j]? = some v → w.cell? ⟨g, j, none⟩ = some v) : VD w (Old w) (.cptr (intsD k l)) (.pointer (some ⟨g, 0, none⟩)) := by
  refine VD.of_single (.cptr (c := l.map fun z => Value.int k z) ?_ ?_ .nil) rfl
  · have := CL.arr (n := l.length) (sz := 1) (CL.intsK (w := w) (G := Old w) (k := k) l) (by simp) (fun x hx => by obtain ⟨j, _, rfl⟩ := List.mem_map.1 hx; rfl) (r := []) (cs := []) .nil
    rw [List.append_nil] at this
    exact this
  · intro j v hj
    rw [Nat.zero_add]
    exact ⟨h j v hj, World.block_lt_of_cell? w _ (h j v hj)⟩

theorem glw_reads {w : World} (h2 : ∀ j v, (fiL.map fun z => Value.int .u32 z)[j]? = some v → w.cell? ⟨0, j, none⟩ = some v)
    (h3 : ∀ j v, (coL.map fun z => Value.int .u32 z)[j]? = some v → w.cell? ⟨1, j, none⟩ = some v) : ∀ g x, cx.glob g = some x → VD w (Old w) (.cptr x) (.pointer (some ⟨g, 0, none⟩)) := by
  intro g x hx
  change gl g = some x at hx
  unfold gl at hx
  split at hx
  · rename_i e
    obtain rfl := Nat.eq_of_beq_eq_true e
    cases hx
    exact ints_glob h2
  · split at hx
    · rename_i e
      obtain rfl := Nat.eq_of_beq_eq_true e
      cases hx
      exact ints_glob h3
    · cases hx
/-- A contract out of a run of a function that has a body. -/
theorem callR_raw {c : Ctx} {f : FuncId} {fn : Func} {args : List AV} {S : List Blk} {Post : AV → List Blk → Prop} (hf : c.P.funcs[f]? = some fn) (hname : (fn.name == "runtime.NumGoroutine") = false) (hb : fn.body.isSome = true)
    (h : ∀ (μ : Nat → Value) (G : Nat → Nat → Prop) (w : World) (vals : List Value), St (base c S μ G w) S μ G w → VS μ S.length w G args vals →
      Calls c.P f vals.toArray w fun e w' => ∃ v r S' μ' G', e = .returned v ∧ Post r S' ∧ St (base c S μ G w) S' μ' G' w' ∧ RA μ' S'.length w' G' r v) : CallR c f args S Post := by
  intro μ G w vals st hv
  left
  constructor
  · cases hbb : fn.body with
    | none => rw [hbb] at hb; cases hb
    | some code =>
      simp only [callFunc, Sem.run_bind, run_program, Result.andThen_ok, hf, hname, hbb]
      rfl
  · exact h μ G w vals st hv
end Go.Proofs.YtghblnkplfajjaaDoor

/- strings.Builder: copyCheck, WriteString, WriteByte, Write, String, in the own logic: a builder is a variable that holds its own place and a row of bytes. -/
namespace Go.Ab
open Go.RowKit

/-- A live block's own memory turns, but not its cells. -/
theorem St.turn {B S μ G w} (st : St B S μ G w) {w' : World} {n g : Nat} {b : Blk} (hn : S[n]? = some b) (hl : b.live = true) (hg : bid (μ n) = some g) (h : Next w w' (some g))
    (hcell : ∀ o, w'.cell? ⟨g, o, none⟩ = w.cell? ⟨g, o, none⟩) (hb : BlkOk μ S.length w' G (μ n) b) : St B S μ G w' := by
  have hc := h.cells st.gv (G := G) (fun k hk o v _ hv => by cases hk; rw [hcell]; exact hv)
  exact {
    blks := by
      intro i d hd
      by_cases e : i = n
      · subst e; rw [hn] at hd; cases hd; exact hb
      · refine (st.blks i d hd).mono (Nat.le_refl _) (fun _ _ _ => rfl) (fun _ _ h => h) hc (fun hl1 m hm => h.heap m ((st.blks i d hd).bid_lt hl1 m hm) ?_)
        intro e'
        cases e'
        exact st.apart n i b d hn hd hl hl1 (Ne.symm e) g hg hm
    apart := st.apart
    free := st.free
    gv := fun b o hG => Nat.lt_of_lt_of_le (st.gv b o hG) h.size
    k0 := st.k0
    keep := st.keep
    g0 := st.g0
    gn := st.gn
    new := st.new
    os := h.os.trans st.os
    tape := h.tape.trans st.tape
    output := h.output.trans st.output
    size := Nat.le_trans st.size h.size
    fr := by
      intro k hk hx
      refine (h.heap k (Nat.lt_of_lt_of_le hk st.size) ?_).trans (st.fr k hk hx)
      intro e
      cases e
      by_cases hi : n < B.k0
      · exact hx (st.xx hi hn hl hg)
      · rcases st.new n b g (by omega) hn hl hg with h | h
        · omega
        · exact hx h
    lv := st.lv
    glob := fun g x hg => (st.glob g x hg).mono (fun _ _ h => h) hc
    gw := fun b o v h1 h2 => hc b o v (st.g0 b o h1) (st.gw b o v h1 h2) }

theorem VS.ptr0 {μ k w G vals} (h : VS μ k w G [.ptr 0 []] vals) : ∃ b, vals = [.pointer (some ⟨b, 0, none⟩)] ∧ μ 0 = .pointer (some ⟨b, 0, none⟩) := by
  obtain ⟨v, rfl, h1⟩ := VS.one h
  obtain ⟨b, _, h3, _, e⟩ := h1.ptr_inv
  exact ⟨b, by rw [e]; rfl, h3.nil⟩

theorem bytes_append (s t : ByteArray) : D.bytes (s ++ t) = D.bytes s ++ D.bytes t := by
  unfold D.bytes
  rw [ByteArray.data_append, Array.toList_append, List.map_append]

theorem freeze_next (w : World) (g n : Nat) : Next w (w.freeze ⟨g, 0, none⟩ n) (some g) := by
  unfold World.freeze
  split
  · exact ⟨rfl, rfl, rfl, Nat.le_refl _, fun _ _ _ => rfl⟩
  · refine ⟨rfl, rfl, rfl, by simp, fun k hk hne => ?_⟩
    simp only [Array.getElem?_modify]
    rw [if_neg (fun e => hne (by rw [e]))]

theorem freeze_heap {w : World} {g n : Nat} {cur : Array Value} {t : TypeId} {fz : Nat × Nat} (h : w.heap[g]? = some (.cells cur t fz)) :
    ∃ fz' : Nat × Nat, (w.freeze ⟨g, 0, none⟩ n).heap[g]? = some (.cells cur t fz') ∧ (fz.2 ≤ n → fz'.2 ≤ n) := by
  unfold World.freeze
  split
  · exact ⟨fz, h, fun h => h⟩
  · obtain ⟨lo, hi⟩ := fz
    refine ⟨if lo == hi then (0, 0 + n) else (min lo 0, max hi (0 + n)), ?_, ?_⟩
    · simp [Array.getElem?_modify, h]
    · intro hle
      simp only at hle
      split
      · simp
      · simp only [Nat.zero_add]; omega
end Go.Ab
namespace Go.Proofs.YtghblnkplfajjaaDoor
open Go.Ab Go.RowKit

/-- A builder and its bytes. -/
abbrev bd (p : AV) (s : ByteArray) : List Blk := [.tvar 86 (.agg [p, .row 1]), .row 5 1 (D.bytes s)]

set_option maxHeartbeats 1000000 in
set_option maxRecDepth 100000 in
theorem raw_copy_used (b : Nat) (w : World) (h0 : w.cell? ⟨b, 0, none⟩ = some (.pointer (some ⟨b, 0, none⟩))) :
    Calls Tryd.prog 46 #[.pointer (some ⟨b, 0, none⟩)] w fun e w' => e = .returned (.tuple #[]) ∧ w' = w := by
  obtain ⟨j, hj, _⟩ := Option.map_eq_some_iff.1 (show (Tryd.prog.info? 86).map (·.size) = some 2 by kernel_rfl)
  have mixed : Tryd.prog.follows .mixedOrders = true := by kernel_rfl
  have t72 := Tryd.underlying86; have a72 := Tryd.isAgg86; have z72 := Tryd.sizeOf86; have v72 := Tryd.zeroValue86; have u72 := run_underlying t72
  have t70 := Tryd.underlying83; have a70 := Tryd.isAgg83; have z70 := Tryd.sizeOf83; have v70 := Tryd.zeroValue83; have u70 := run_underlying t70
  have t9 := Tryd.underlying9; have a9 := Tryd.isAgg9; have z9 := Tryd.sizeOf9; have v9 := Tryd.zeroValue9; have u9 := run_underlying t9
  have t4 := Tryd.underlying4; have a4 := Tryd.isAgg4; have z4 := Tryd.sizeOf4; have v4 := Tryd.zeroValue4; have u4 := run_underlying t4
  have t164 := Tryd.underlying146; have a164 := Tryd.isAgg146; have z164 := Tryd.sizeOf146; have v164 := Tryd.zeroValue146; have u164 := run_underlying t164
  go_enter Tryd.func46, Tryd.ntmps46
  go_wp2
  rw [Lib.run_neq_ptr_same w _ t70 hj]
  go_wp2
  go_end0
  exact ⟨rfl, rfl⟩

set_option maxHeartbeats 1000000 in
set_option maxRecDepth 100000 in
theorem raw_copy_fresh (b : Nat) (w : World) (h0 : w.cell? ⟨b, 0, none⟩ = some (.pointer none)) (hsh : w.shape? b = some (86, 2)) (hfz : w.frozen? ⟨b, 0, none⟩ = false) :
    Calls Tryd.prog 46 #[.pointer (some ⟨b, 0, none⟩)] w fun e w' => e = .returned (.tuple #[]) ∧ w' = w.setCell ⟨b, 0, none⟩ (.pointer (some ⟨b, 0, none⟩)) := by
  obtain ⟨j, hj, hjs⟩ := Option.map_eq_some_iff.1 (show (Tryd.prog.info? 86).map (·.size) = some 2 by kernel_rfl)
  have hlies : liesAt Tryd.prog Tryd.prog.depth 86 (2 / Tryd.prog.cellsOf 86) 0 86 1 = true := by kernel_rfl
  have mixed : Tryd.prog.follows .mixedOrders = true := by kernel_rfl
  have t72 := Tryd.underlying86; have a72 := Tryd.isAgg86; have z72 := Tryd.sizeOf86; have v72 := Tryd.zeroValue86; have u72 := run_underlying t72
  have t70 := Tryd.underlying83; have a70 := Tryd.isAgg83; have z70 := Tryd.sizeOf83; have v70 := Tryd.zeroValue83; have u70 := run_underlying t70
  have t9 := Tryd.underlying9; have a9 := Tryd.isAgg9; have z9 := Tryd.sizeOf9; have v9 := Tryd.zeroValue9; have u9 := run_underlying t9
  have t4 := Tryd.underlying4; have a4 := Tryd.isAgg4; have z4 := Tryd.sizeOf4; have v4 := Tryd.zeroValue4; have u4 := run_underlying t4
  have t164 := Tryd.underlying146; have a164 := Tryd.isAgg146; have z164 := Tryd.sizeOf146; have v164 := Tryd.zeroValue146; have u164 := run_underlying t164
  go_enter Tryd.func46, Tryd.ntmps46
  go_wp2
  rw [Lib.run_to_unsafe w ⟨b, 0, none⟩ t70 t164 hj (by rw [hjs]; decide) hsh (Nat.zero_lt_succ 1)]
  simp only [Result.andThen]
  rw [Oper.upon_value]
  go_wp2
  rw [run_callFunc_extern Tryd.func57 (by kernel_rfl) (by kernel_rfl) (by kernel_rfl) (e := Extern.AbiNoEscape.same) (by kernel_rfl)]
  rw [Lib.run_noEscape]
  simp only [Result.andThen]
  rw [Oper.upon_value]
  go_wp2
  rw [Lib.run_from_unsafe w ⟨b, 0, none⟩ t164 t70 hj hsh hlies]
  simp only [Result.andThen]
  rw [Oper.upon_value]
  go_wp2
  go_end0
  exact ⟨rfl, rfl⟩
end Go.Proofs.YtghblnkplfajjaaDoor

/- strings.Builder: String, in the own logic. -/
namespace Go.Ab
open Go.RowKit
theorem Next.ofDrew {w w' : World} {n : Option Nat} (h : Next w.drew w' n) : Next w w' n := ⟨h.os, h.tape, h.output, h.size, h.heap⟩
theorem Next.toDrew {w w' : World} {n : Option Nat} (h : Next w w' n) : Next w w'.drew n := ⟨h.os, h.tape, h.output, h.size, h.heap⟩
theorem next_alloc1 (w : World) (o : Obj) (q : Option Nat) : Next w (w.alloc o) q :=
  ⟨rfl, rfl, rfl, by show w.heap.size ≤ (w.heap.push _).size; simp, fun k hk _ => by
    show (w.heap.push _)[k]? = _
    rw [Array.getElem?_push, if_neg (by omega)]⟩
end Go.Ab
namespace Go.Proofs.YtghblnkplfajjaaDoor
open Go.Ab Go.RowKit

set_option maxHeartbeats 2000000 in
set_option maxRecDepth 100000 in
theorem raw_string_some (b g cap : Nat) (p : Value) (cur : Array Value) (fz : Nat × Nat) (l : List UInt8) (w : World) (h0 : l ≠ []) (hbk : w.heap[b]? = some (.cells #[p, .slice (some ⟨g, 0, none⟩) l.length cap] 86 (0, 0)))
    (hg : w.heap[g]? = some (.cells cur 5 fz)) (hnc : l.length ≤ cap) (hcm : cap ≤ maxLen) (hcs : cur.size = cap) (hcells : ∀ j x, l[j]? = some x → w.cell? ((⟨g, 0, none⟩ : Addr).add j) = some (.int .u8 x.toNat)) :
    Calls Tryd.prog 31 #[.pointer (some ⟨b, 0, none⟩)] w fun e w' => e = .returned (.string ⟨l.toArray⟩) ∧ w' = w.drew.freeze ⟨g, 0, none⟩ l.length := by
  have hl0 : l.length ≠ 0 := by simpa using h0
  have c1 : w.drew.cell? ⟨b, 1, none⟩ = some (.slice (some ⟨g, 0, none⟩) l.length cap) := by
    have : w.drew.heap[b]? = some (.cells #[p, .slice (some ⟨g, 0, none⟩) l.length cap] 86 (0, 0)) := hbk
    rw [Lib.cell_of_heap this]; rfl
  have hSD : (Builtin.unsafeSliceData_ #[84] 127 #[.slice (some ⟨g, 0, none⟩) l.length cap]).run Tryd.prog w.drew = .ok (.pointer (some ⟨g, 0, none⟩)) w.drew :=
    Lib.run_unsafeSliceData_row _ _ _ _ _ _ (by omega)
  have hUS : (Builtin.unsafeString_ #[127, 3] 9 #[.pointer (some ⟨g, 0, none⟩), .int .i64 l.length]).run Tryd.prog w.drew = .ok (.string ⟨l.toArray⟩) (w.drew.freeze ⟨g, 0, none⟩ l.length) := by
    refine Lib.run_unsafeString_row w.drew 127 3 9 5 Tryd.underlying127 (by kernel_rfl) g cur.size (by have hg' : w.drew.heap[g]? = some (.cells cur 5 fz) := hg; simp [World.shape?, hg']) l h0 (by omega) (by unfold maxLen at hcm; omega) ?_
    intro j x hx
    exact hcells j x hx
  have mixed : Tryd.prog.follows .mixedOrders = true := by kernel_rfl
  have t72 := Tryd.underlying86; have a72 := Tryd.isAgg86; have z72 := Tryd.sizeOf86; have v72 := Tryd.zeroValue86; have u72 := run_underlying t72
  have t70 := Tryd.underlying83; have a70 := Tryd.isAgg83; have z70 := Tryd.sizeOf83; have v70 := Tryd.zeroValue83; have u70 := run_underlying t70
  have t37 := Tryd.underlying84; have a37 := Tryd.isAgg84; have z37 := Tryd.sizeOf84; have v37 := Tryd.zeroValue84; have u37 := run_underlying t37
  have t127 := Tryd.underlying127; have a127 := Tryd.isAgg127; have z127 := Tryd.sizeOf127; have v127 := Tryd.zeroValue127; have u127 := run_underlying t127
  have t3 := Tryd.underlying3; have a3 := Tryd.isAgg3; have z3 := Tryd.sizeOf3; have v3 := Tryd.zeroValue3; have u3 := run_underlying t3
  have t9 := Tryd.underlying9; have a9 := Tryd.isAgg9; have z9 := Tryd.sizeOf9; have v9 := Tryd.zeroValue9; have u9 := run_underlying t9
  have t5 := Tryd.underlying5; have a5 := Tryd.isAgg5; have z5 := Tryd.sizeOf5; have v5 := Tryd.zeroValue5; have u5 := run_underlying t5
  go_enter Tryd.func31, Tryd.ntmps31
  go_wp2
  go_region_o
  all_goals (go_wp2; go_ret; exact ⟨rfl, rfl⟩)

set_option maxHeartbeats 2000000 in
set_option maxRecDepth 100000 in
theorem raw_string_nil (b : Nat) (p : Value) (w : World) (hbk : w.heap[b]? = some (.cells #[p, .slice none 0 0] 86 (0, 0))) :
    Calls Tryd.prog 31 #[.pointer (some ⟨b, 0, none⟩)] w fun e w' => e = .returned (.string ⟨#[]⟩) ∧ w' = w.drew := by
  have hUS : ∀ (W : World) (q : Option Addr), (Builtin.unsafeString_ #[127, 3] 9 #[.pointer q, .int .i64 0]).run Tryd.prog W = .ok (.string .empty) W := fun W q => Lib.run_unsafeString_none W _ _ _ q
  have c1 : w.drew.cell? ⟨b, 1, none⟩ = some (.slice none 0 0) := by
    have : w.drew.heap[b]? = some (.cells #[p, .slice none 0 0] 86 (0, 0)) := hbk
    rw [Lib.cell_of_heap this]; rfl
  have hSD : (Builtin.unsafeSliceData_ #[84] 127 #[.slice none 0 0]).run Tryd.prog w.drew = .ok (.pointer none) w.drew := rfl
  have mixed : Tryd.prog.follows .mixedOrders = true := by kernel_rfl
  have t72 := Tryd.underlying86; have a72 := Tryd.isAgg86; have z72 := Tryd.sizeOf86; have v72 := Tryd.zeroValue86; have u72 := run_underlying t72
  have t70 := Tryd.underlying83; have a70 := Tryd.isAgg83; have z70 := Tryd.sizeOf83; have v70 := Tryd.zeroValue83; have u70 := run_underlying t70
  have t37 := Tryd.underlying84; have a37 := Tryd.isAgg84; have z37 := Tryd.sizeOf84; have v37 := Tryd.zeroValue84; have u37 := run_underlying t37
  have t127 := Tryd.underlying127; have a127 := Tryd.isAgg127; have z127 := Tryd.sizeOf127; have v127 := Tryd.zeroValue127; have u127 := run_underlying t127
  have t3 := Tryd.underlying3; have a3 := Tryd.isAgg3; have z3 := Tryd.sizeOf3; have v3 := Tryd.zeroValue3; have u3 := run_underlying t3
  have t9 := Tryd.underlying9; have a9 := Tryd.isAgg9; have z9 := Tryd.sizeOf9; have v9 := Tryd.zeroValue9; have u9 := run_underlying t9
  have t5 := Tryd.underlying5; have a5 := Tryd.isAgg5; have z5 := Tryd.sizeOf5; have v5 := Tryd.zeroValue5; have u5 := run_underlying t5
  go_enter Tryd.func31, Tryd.ntmps31
  go_wp2
  go_region_o
  all_goals (go_wp2; go_ret; exact ⟨rfl, rfl⟩)

set_option maxHeartbeats 2000000 in
set_option maxRecDepth 100000 in
theorem raw_string_room (b g cap : Nat) (p : Value) (w : World) (hc0 : cap ≠ 0) (hbk : w.heap[b]? = some (.cells #[p, .slice (some ⟨g, 0, none⟩) 0 cap] 86 (0, 0))) :
    Calls Tryd.prog 31 #[.pointer (some ⟨b, 0, none⟩)] w fun e w' => e = .returned (.string ⟨#[]⟩) ∧ w' = w.drew := by
  have hUS : ∀ (W : World) (q : Option Addr), (Builtin.unsafeString_ #[127, 3] 9 #[.pointer q, .int .i64 0]).run Tryd.prog W = .ok (.string .empty) W := fun W q => Lib.run_unsafeString_none W _ _ _ q
  have c1 : w.drew.cell? ⟨b, 1, none⟩ = some (.slice (some ⟨g, 0, none⟩) 0 cap) := by
    have : w.drew.heap[b]? = some (.cells #[p, .slice (some ⟨g, 0, none⟩) 0 cap] 86 (0, 0)) := hbk
    rw [Lib.cell_of_heap this]; rfl
  have hSD : (Builtin.unsafeSliceData_ #[84] 127 #[.slice (some ⟨g, 0, none⟩) 0 cap]).run Tryd.prog w.drew = .ok (.pointer (some ⟨g, 0, none⟩)) w.drew :=
    Lib.run_unsafeSliceData_row _ _ _ _ _ _ hc0
  clear hc0
  have mixed : Tryd.prog.follows .mixedOrders = true := by kernel_rfl
  have t72 := Tryd.underlying86; have a72 := Tryd.isAgg86; have z72 := Tryd.sizeOf86; have v72 := Tryd.zeroValue86; have u72 := run_underlying t72
  have t70 := Tryd.underlying83; have a70 := Tryd.isAgg83; have z70 := Tryd.sizeOf83; have v70 := Tryd.zeroValue83; have u70 := run_underlying t70
  have t37 := Tryd.underlying84; have a37 := Tryd.isAgg84; have z37 := Tryd.sizeOf84; have v37 := Tryd.zeroValue84; have u37 := run_underlying t37
  have t127 := Tryd.underlying127; have a127 := Tryd.isAgg127; have z127 := Tryd.sizeOf127; have v127 := Tryd.zeroValue127; have u127 := run_underlying t127
  have t3 := Tryd.underlying3; have a3 := Tryd.isAgg3; have z3 := Tryd.sizeOf3; have v3 := Tryd.zeroValue3; have u3 := run_underlying t3
  have t9 := Tryd.underlying9; have a9 := Tryd.isAgg9; have z9 := Tryd.sizeOf9; have v9 := Tryd.zeroValue9; have u9 := run_underlying t9
  have t5 := Tryd.underlying5; have a5 := Tryd.isAgg5; have z5 := Tryd.sizeOf5; have v5 := Tryd.zeroValue5; have u5 := run_underlying t5
  go_enter Tryd.func31, Tryd.ntmps31
  go_wp2
  go_region_o
  all_goals (go_wp2; go_ret; exact ⟨rfl, rfl⟩)

set_option maxHeartbeats 2000000 in
set_option maxRecDepth 100000 in
theorem raw_string_noroom (b g : Nat) (p : Value) (cur : Array Value) (fz : Nat × Nat) (w : World) (hbk : w.heap[b]? = some (.cells #[p, .slice (some ⟨g, 0, none⟩) 0 0] 86 (0, 0))) (hg : w.heap[g]? = some (.cells cur 5 fz)) :
    Calls Tryd.prog 31 #[.pointer (some ⟨b, 0, none⟩)] w fun e w' => e = .returned (.string ⟨#[]⟩) ∧ Ab.Next w w' none := by
  have hUS : ∀ (W : World) (q : Option Addr), (Builtin.unsafeString_ #[127, 3] 9 #[.pointer q, .int .i64 0]).run Tryd.prog W = .ok (.string .empty) W := fun W q => Lib.run_unsafeString_none W _ _ _ q
  have hlt : b < w.heap.size := (Array.getElem?_eq_some_iff.1 hbk).1
  have c1 : w.drew.cell? ⟨b, 1, none⟩ = some (.slice (some ⟨g, 0, none⟩) 0 0) := by
    have : w.drew.heap[b]? = some (.cells #[p, .slice (some ⟨g, 0, none⟩) 0 0] 86 (0, 0)) := hbk
    rw [Lib.cell_of_heap this]; rfl
  have hSD : (Builtin.unsafeSliceData_ #[84] 127 #[.slice (some ⟨g, 0, none⟩) 0 0]).run Tryd.prog w.drew = .ok (.pointer (some ⟨w.drew.heap.size, 0, none⟩)) (w.drew.alloc (.view ⟨g, 0, none⟩ 5)) :=
    Lib.run_unsafeSliceData_zero w.drew _ _ 5 Tryd.underlying127 ⟨g, 0, none⟩ 0 (5, cur.size) (by have hg' : w.drew.heap[g]? = some (.cells cur 5 fz) := hg; simp [World.shape?, hg'])
  have c2 : (w.drew.alloc (.view ⟨g, 0, none⟩ 5)).cell? ⟨b, 1, none⟩ = some (.slice (some ⟨g, 0, none⟩) 0 0) := by
    have : (w.drew.alloc (.view ⟨g, 0, none⟩ 5)).heap[b]? = _ := (Lib.alloc_old w.drew _ b hlt).trans hbk
    rw [Lib.cell_of_heap this]; rfl
  have c3 : (w.alloc (.view ⟨g, 0, none⟩ 5)).drew.cell? ⟨b, 1, none⟩ = some (.slice (some ⟨g, 0, none⟩) 0 0) := c2
  have c0 : w.cell? ⟨b, 1, none⟩ = some (.slice (some ⟨g, 0, none⟩) 0 0) := c1
  have mixed : Tryd.prog.follows .mixedOrders = true := by kernel_rfl
  have t72 := Tryd.underlying86; have a72 := Tryd.isAgg86; have z72 := Tryd.sizeOf86; have v72 := Tryd.zeroValue86; have u72 := run_underlying t72
  have t70 := Tryd.underlying83; have a70 := Tryd.isAgg83; have z70 := Tryd.sizeOf83; have v70 := Tryd.zeroValue83; have u70 := run_underlying t70
  have t37 := Tryd.underlying84; have a37 := Tryd.isAgg84; have z37 := Tryd.sizeOf84; have v37 := Tryd.zeroValue84; have u37 := run_underlying t37
  have t127 := Tryd.underlying127; have a127 := Tryd.isAgg127; have z127 := Tryd.sizeOf127; have v127 := Tryd.zeroValue127; have u127 := run_underlying t127
  have t3 := Tryd.underlying3; have a3 := Tryd.isAgg3; have z3 := Tryd.sizeOf3; have v3 := Tryd.zeroValue3; have u3 := run_underlying t3
  have t9 := Tryd.underlying9; have a9 := Tryd.isAgg9; have z9 := Tryd.sizeOf9; have v9 := Tryd.zeroValue9; have u9 := run_underlying t9
  have t5 := Tryd.underlying5; have a5 := Tryd.isAgg5; have z5 := Tryd.sizeOf5; have v5 := Tryd.zeroValue5; have u5 := run_underlying t5
  go_enter Tryd.func31, Tryd.ntmps31
  go_wp2
  go_region_o
  all_goals (go_wp2; go_ret; first | exact ⟨rfl, next_alloc1 w _ none⟩ | exact ⟨rfl, (next_alloc1 w _ none).toDrew⟩ | exact ⟨rfl, (next_alloc1 w.drew _ none).ofDrew⟩)
end Go.Proofs.YtghblnkplfajjaaDoor

/- strings.Builder: the contracts. -/
namespace Go.Proofs.YtghblnkplfajjaaDoor
open Go.Ab Go.RowKit

/-- What a builder's store means. -/
theorem bd_inv {B : Base} {μ G w} {p : AV} {s : ByteArray} (st : St B (bd p s) μ G w) (hp : p = .d .nilP ∨ p = .ptr 0 []) :
    ∃ b pv, μ 0 = .pointer (some ⟨b, 0, none⟩) ∧ w.heap[b]? = some (.cells #[pv, μ 1] 86 (0, 0)) ∧ ((p = .d .nilP ∧ pv = .pointer none) ∨ (p = .ptr 0 [] ∧ pv = .pointer (some ⟨b, 0, none⟩))) ∧
      w.ownsRowF 0 5 1 (μ 1) s.size (Lib.strCells s) := by
  obtain ⟨b, cs, h1, h2, h3⟩ := st.blks 0 _ rfl
  obtain ⟨cs', g1, g2, _, _⟩ := st.blks 1 _ rfl
  have e := CL.bytes (l := s.data.toList) g2
  have e : cs' = Lib.strCells s := e
  subst e
  rw [bytes_length] at g1
  generalize hcs : cs.toList = l at h3
  cases h3 with
  | agg h4 h5 =>
    cases h5
    rw [List.append_nil] at hcs
    rcases hp with rfl | rfl
    · cases h4 with
      | d h6 h7 =>
        cases h6 with
        | nilP h8 =>
          cases h8
          cases h7 with
          | row q1 q2 q3 =>
            cases q3
            rw [← q2] at hcs
            refine ⟨b, _, h1, ?_, .inl ⟨rfl, rfl⟩, g1⟩
            rw [h2]
            congr 2
            exact Array.toList_inj.1 hcs
    · cases h4 with
      | ptr q0 q1 q2 q3 =>
        cases q3 with
        | row q4 q5 q6 =>
          cases q6
          rw [← q5] at hcs
          replace q1 := q1.nil
          rw [h1] at q1
          cases q1
          refine ⟨b, _, h1, ?_, .inr ⟨rfl, rfl⟩, g1⟩
          rw [h2]
          congr 2
          exact Array.toList_inj.1 hcs

theorem bd_row {B : Base} {μ G w} {p : AV} {s : ByteArray} (st : St B (bd p s) μ G w) {w' : World} (hc : ∀ b o v, G b o → w.cell? ⟨b, o, none⟩ = some v → w'.cell? ⟨b, o, none⟩ = some v) (h : w'.ownsRowF 0 5 1 (μ 1) s.size (Lib.strCells s)) :
    BlkOk μ (bd p s).length w' G (μ 1) (.row 5 1 (D.bytes s)) := by
  obtain ⟨cs', g1, g2, g3, g4⟩ := st.blks 1 _ rfl
  have e : cs' = Lib.strCells s := CL.bytes (l := s.data.toList) g2
  subst e
  exact ⟨_, by rw [bytes_length]; exact h, g2.mono (fun _ _ h => h) hc, g3, g4⟩

theorem copyCheck_c {p : AV} {s : ByteArray} (hp : p = .d .nilP ∨ p = .ptr 0 []) : CallR cx 46 [.ptr 0 []] (bd p s) fun r S => r = .tup [] ∧ S = bd (.ptr 0 []) s := by
  refine callR_raw (c := cx) Tryd.func46 (by kernel_rfl) (by kernel_rfl) fun μ G w vals st hv => ?_
  obtain ⟨b, rfl, hμ⟩ := VS.ptr0 hv
  obtain ⟨b', pv, h1, h2, h3, h4⟩ := bd_inv st hp
  rw [hμ] at h1
  cases h1
  have hra : ∀ (μ : Nat → Value) (k : Nat) (w : World) (G : Nat → Nat → Prop), RA μ k w G (.tup []) (.tuple #[]) := fun μ k w G => ⟨[], rfl, .nil⟩
  rcases h3 with ⟨rfl, rfl⟩ | ⟨rfl, rfl⟩
  · refine (raw_copy_fresh b w (by rw [Lib.cell_of_heap h2]; rfl) (by simp [World.shape?, h2]) (Lib.frozen_of_heap h2 0)).mono ?_
    rintro e w' ⟨rfl, rfl⟩
    have hset : w.setCell ⟨b, 0, none⟩ (.pointer (some ⟨b, 0, none⟩)) = w.setRow b #[.pointer (some ⟨b, 0, none⟩), μ 1] := by
      rw [setCell_eq_setRow w b 0 _ _ _ _ h2]; rfl
    refine ⟨_, _, bd (.ptr 0 []) s, μ, G, rfl, ⟨rfl, rfl⟩, ?_, hra _ _ _ _⟩
    rw [hset]
    have hrow : μ 1 = μ 1 := rfl
    refine st.write (n := 0) (g := b) (b' := .tvar 86 (.agg [.ptr 0 [], .row 1])) rfl rfl rfl rfl rfl (by rw [hμ]; rfl) (setRow_next w b _) ?_
    refine ⟨b, _, hμ, setRow_heap w b _ _ _ _ h2, ?_⟩
    have hsl : ∃ a l c, μ 1 = .slice a l c := by
      rcases h4.2 with ⟨q, _⟩ | ⟨_, _, _, _, q, _⟩
      · exact ⟨_, _, _, q⟩
      · exact ⟨_, _, _, q⟩
    obtain ⟨a, l, c, hs⟩ := hsl
    rw [hs]
    have : CA μ 2 (w.setRow b #[.pointer (some ⟨b, 0, none⟩), .slice a l c]) G [.ptr 0 [], .row 1] [.pointer (some ⟨b, 0, none⟩), .slice a l c] :=
      .ptr (p := []) (by omega) (.inl hμ) (fun s hs => by cases hs) (.row (by omega) hs .nil)
    simpa using CA.agg this .nil
  · refine (raw_copy_used b w (by rw [Lib.cell_of_heap h2]; rfl)).mono ?_
    rintro e w' ⟨rfl, rfl⟩
    exact ⟨_, _, _, μ, G, rfl, ⟨rfl, rfl⟩, st, hra _ _ _ _⟩

theorem string_c {p : AV} {s : ByteArray} (hp : p = .d .nilP ∨ p = .ptr 0 []) : CallR cx 31 [.ptr 0 []] (bd p s) fun r S => r = AV.d (.str s) ∧ S = bd p s := by
  refine callR_raw (c := cx) Tryd.func31 (by kernel_rfl) (by kernel_rfl) fun μ G w vals st hv => ?_
  obtain ⟨b, rfl, hμ⟩ := VS.ptr0 hv
  obtain ⟨b', pv, h1, h2, _, h4⟩ := bd_inv st hp
  rw [hμ] at h1
  cases h1
  have hra : ∀ (x : ByteArray), x = s → ∀ (μ : Nat → Value) (k : Nat) (w : World) (G : Nat → Nat → Prop), RA μ k w G (.d (.str s)) (.string x) := fun x e μ k w G => by subst e; exact VD.str.ra
  have quiet : ∀ w' : World, Ab.Next w w' none → St (base cx (bd p s) μ G w) (bd p s) μ G w' := fun w' h => st.quiet h
  have hem : s.size = 0 → (⟨#[]⟩ : ByteArray) = s := fun h => (size0 h).symm
  rcases h4.2 with ⟨q1, q2⟩ | ⟨g, cap, cur, fz, q1, _, q3, q4, q5, q6, q7, q8⟩
  · rw [q1] at h2
    refine (raw_string_nil b pv w h2).mono ?_
    rintro e w' ⟨rfl, rfl⟩
    exact ⟨_, _, _, μ, G, rfl, ⟨rfl, rfl⟩, quiet _ ⟨rfl, rfl, rfl, Nat.le_refl _, fun _ _ _ => rfl⟩, hra _ (hem q2) _ _ _ _⟩
  · rw [q1] at h2
    by_cases hz : s.size = 0
    · rw [hz] at h2
      by_cases hc : cap = 0
      · subst hc
        refine (raw_string_noroom b g pv cur fz w h2 q3).mono ?_
        rintro e w' ⟨rfl, hn⟩
        exact ⟨_, _, _, μ, G, rfl, ⟨rfl, rfl⟩, quiet _ hn, hra _ (hem hz) _ _ _ _⟩
      · refine (raw_string_room b g cap pv w hc h2).mono ?_
        rintro e w' ⟨rfl, rfl⟩
        exact ⟨_, _, _, μ, G, rfl, ⟨rfl, rfl⟩, quiet _ ⟨rfl, rfl, rfl, Nat.le_refl _, fun _ _ _ => rfl⟩, hra _ (hem hz) _ _ _ _⟩
    · have hlen : s.data.toList.length = s.size := Array.length_toList
      have hne : s.data.toList ≠ [] := by intro e; rw [e] at hlen; simp at hlen; omega
      rw [Nat.mul_one] at q7 q4
      refine (raw_string_some b g cap pv cur fz s.data.toList w hne (by rw [hlen]; exact h2) q3 (by omega) q6 q7 ?_).mono ?_
      · intro j x hx
        have := h4.cells (g := g) (by rw [q1]; rfl) j (.int .u8 x.toNat) (by unfold Lib.strCells; rw [List.getElem?_map, hx]; rfl)
        exact this
      · rintro e w' ⟨rfl, rfl⟩
        obtain ⟨fz', f1, f2⟩ := freeze_heap (n := s.data.toList.length) (show w.drew.heap[g]? = some (.cells cur 5 fz) from q3)
        have hn : Ab.Next w (w.drew.freeze ⟨g, 0, none⟩ s.data.toList.length) (some g) := (freeze_next w.drew g _).ofDrew
        have hcell : ∀ o, (w.drew.freeze ⟨g, 0, none⟩ s.data.toList.length).cell? ⟨g, o, none⟩ = w.cell? ⟨g, o, none⟩ := fun o => by
          rw [Lib.cell_of_heap f1, Lib.cell_of_heap q3]
        refine ⟨_, _, _, μ, G, rfl, ⟨rfl, rfl⟩, st.turn (n := 1) (g := g) rfl rfl (by rw [q1]; rfl) hn hcell ?_, hra _ (by cases s; rfl) _ _ _ _⟩
        refine bd_row st (hn.cells st.gv (fun k hk o v _ hv => by cases hk; rw [hcell]; exact hv)) ⟨h4.1, .inr ⟨g, cap, cur, fz', q1, Nat.zero_le _, f1, ?_, q5, q6, by rw [Nat.mul_one]; exact q7, q8⟩⟩
        rw [Nat.mul_one, ← hlen]
        exact f2 (by omega)

theorem writeString_c {p : AV} {s t : ByteArray} (hp : p = .d .nilP ∨ p = .ptr 0 []) (hb : s.size + t.size ≤ 140737488355328) : CallR cx 50 [.ptr 0 [], .d (.str t)] (bd p s) fun r S =>
    r = .tup [.d (.int .i64 t.size), .d .nilI] ∧ S = [.tvar 86 (.agg [.ptr 0 [], .row 2]), .sealed (.sl 1 (D.bytes s)), .row 5 1 (D.bytes (s ++ t))] := by
  have cc := copyCheck_c (p := p) (s := s) hp
  unfold bd at cc ⊢
  rw [bytes_append]
  have hl := bytes_length s
  generalize D.bytes s = xs at *
  have go : ∀ q : AV, CallR cx 46 [.ptr 0 []] [.tvar 86 (.agg [q, .row 1]), .row 5 1 xs] (fun r S => r = .tup [] ∧ S = [.tvar 86 (.agg [.ptr 0 [], .row 1]), .row 5 1 xs]) →
      (q = .d .nilP ∨ q = .ptr 0 []) → CallR cx 50 [.ptr 0 [], .d (.str t)] [.tvar 86 (.agg [q, .row 1]), .row 5 1 xs] fun r S =>
    r = .tup [.d (.int .i64 t.size), .d .nilI] ∧ S = [.tvar 86 (.agg [.ptr 0 [], .row 2]), .sealed (.sl 1 xs), .row 5 1 (xs ++ D.bytes t)] := by
    rintro q cc (rfl | rfl) <;>
    · refine callR_of (R := R1) cx_ok Tryd.func50 (by kernel_rfl) rfl ?_
      conv => whnf
      refine ⟨_, cc, ?_⟩
      rintro _ _ ⟨rfl, rfl⟩
      conv => whnf
      refine ⟨by rw [hl]; exact hb, ?_⟩
      conv => whnf
      exact ⟨rfl, rfl⟩
  exact go p cc hp
end Go.Proofs.YtghblnkplfajjaaDoor

/- The runes of a text by their numbers: plain laws, no program. -/
namespace Go.Proofs.YtghblnkplfajjaaDoor
open Go.Ab

/-- The number of the rune at a place, and how many bytes it has; a stray's byte and 2000000, and 1. -/
def keyN (n b0 b1 b2 b3 : Nat) : Nat × Nat := if Lib.decodeN n b0 b1 b2 b3 = (65533, 1) then (b0 + 2000000, 1) else Lib.decodeN n b0 b1 b2 b3
def key (s : ByteArray) (i : Nat) : Nat × Nat := keyN (s.size - i) (s.get! i).toNat (s.get! (i + 1)).toNat (s.get! (i + 2)).toNat (s.get! (i + 3)).toNat

/-- A stray stands here. -/
def stray (s : ByteArray) (i : Nat) : Bool := decide (Utf8.decode s i = (65533, 1))

theorem key_stray {s : ByteArray} {i : Nat} (h : stray s i = true) : key s i = ((s.get! i).toNat + 2000000, 1) ∧ Utf8.decode s i = (65533, 1) := by
  have h := of_decide_eq_true h
  refine ⟨?_, h⟩
  rw [Lib.decode_at] at h
  unfold key keyN
  rw [if_pos h]

theorem key_plain {s : ByteArray} {i : Nat} (h : stray s i = false) : key s i = Utf8.decode s i := by
  have h := of_decide_eq_false h
  rw [Lib.decode_at] at h ⊢
  unfold key keyN
  rw [if_neg h]

theorem decodeN_range (n b0 b1 b2 b3 : Nat) (h0 : b0 < 256) : (Lib.decodeN n b0 b1 b2 b3).1 ≤ 1114111 ∧ 1 ≤ (Lib.decodeN n b0 b1 b2 b3).2 ∧ (Lib.decodeN n b0 b1 b2 b3).2 ≤ 4 := by
  unfold Lib.decodeN
  repeat' split
  all_goals simp only
  all_goals omega

theorem key_two {s : ByteArray} {i : Nat} : (key s i).2 = (Utf8.decode s i).2 := by
  cases h : stray s i with
  | true => obtain ⟨h1, h2⟩ := key_stray h; rw [h1, h2]
  | false => rw [key_plain h]

theorem decode_range (s : ByteArray) (i : Nat) : (Utf8.decode s i).1 ≤ 1114111 ∧ 1 ≤ (Utf8.decode s i).2 ∧ (Utf8.decode s i).2 ≤ 4 := by
  rw [Lib.decode_at]
  exact decodeN_range _ _ _ _ _ (s.get! i).toNat_lt

theorem key_pos (s : ByteArray) (i : Nat) : 1 ≤ (key s i).2 := by rw [key_two]; exact (decode_range s i).2.1
/-- A text's runes from a place on. -/
def keysAt (s : ByteArray) (i : Nat) : List Nat := if i < s.size then (key s i).1 :: keysAt s (i + (key s i).2) else []
termination_by s.size - i
decreasing_by have := key_pos s i; omega

/-- The slow table's conditions, by classes of the first byte. -/
def smallI (r : Int) : Prop := (97 ≤ r ∧ r ≤ 122) ∨ (945 ≤ r ∧ r ≤ 969)
instance (r : Int) : Decidable (smallI r) := by unfold smallI; infer_instance

/-- Is a rune right at its place? -/
def okR (first : Bool) (k : Int) : Bool := decide (smallI k) || (!first && (decide (48 ≤ k) && decide (k ≤ 57)))

def goR : List Nat → Nat → Bool
  | [], n => decide (1 ≤ n) && decide (n ≤ 12)
  | k :: l, n => okR (n == 0) (k : Int) && goR l (n + 1)

def rightT (s : ByteArray) : Bool := goR (keysAt s 0) 0
end Go.Proofs.YtghblnkplfajjaaDoor

/- The document's rune at a place: 'One', by the classes of the first byte. -/
namespace Go.Proofs.YtghblnkplfajjaaDoor
open Go.Ab Go.RowKit

theorem brF {A B : Prop} {b : Bool} (h : b = false) (x : B) : @Bool.rec (fun _ => Prop) B A b := by subst h; exact x

theorem w64 {n : Int} (h : -9223372036854775808 ≤ n ∧ n < 9223372036854775808) : IntKind.i64.wrap n = n := by rw [IntKind.wrap_i64]; omega

end Go.Proofs.YtghblnkplfajjaaDoor

/- Texts as runes: what a rune's bytes are, that they are found again, that texts without capitals stay so. Plain laws, no program. -/
namespace Go.Proofs.YtghblnkplfajjaaDoor
open Go.Ab

/-- A rune's bytes. -/
inductive Val : List UInt8 → Nat → Prop
  | one {b : UInt8} : b.toNat < 128 → Val [b] b.toNat
  | two {b0 b1 : UInt8} : 194 ≤ b0.toNat ∧ b0.toNat ≤ 223 → 128 ≤ b1.toNat ∧ b1.toNat ≤ 191 → Val [b0, b1] (b0.toNat % 32 * 64 + b1.toNat % 64)
  | three {b0 b1 b2 : UInt8} : 224 ≤ b0.toNat ∧ b0.toNat ≤ 239 → 128 ≤ b1.toNat ∧ b1.toNat ≤ 191 → 128 ≤ b2.toNat ∧ b2.toNat ≤ 191 → (b0.toNat = 224 → 160 ≤ b1.toNat) → (b0.toNat = 237 → b1.toNat ≤ 159) →
      Val [b0, b1, b2] (b0.toNat % 16 * 4096 + b1.toNat % 64 * 64 + b2.toNat % 64)
  | four {b0 b1 b2 b3 : UInt8} : 240 ≤ b0.toNat ∧ b0.toNat ≤ 244 → 128 ≤ b1.toNat ∧ b1.toNat ≤ 191 → 128 ≤ b2.toNat ∧ b2.toNat ≤ 191 → 128 ≤ b3.toNat ∧ b3.toNat ≤ 191 → (b0.toNat = 240 → 144 ≤ b1.toNat) → (b0.toNat = 244 → b1.toNat ≤ 143) →
      Val [b0, b1, b2, b3] (b0.toNat % 8 * 262144 + b1.toNat % 64 * 4096 + b2.toNat % 64 * 64 + b3.toNat % 64)

theorem Val.lt {u k} (h : Val u k) : k < 1114112 := by cases h <;> omega

/-- What is no surrogate and not too great is a rune. -/
def okRune (k : Nat) : Prop := k < 55296 ∨ (57343 < k ∧ k < 1114112)

theorem Val.ok {u k} (h : Val u k) : okRune k := by unfold okRune; cases h <;> omega

end Go.Proofs.YtghblnkplfajjaaDoor

/- Readers of bytes: what they do. Payloads: what they are, their bytes. Payloads: read; what is written is read as it was. -/
set_option linter.unusedVariables false
namespace Go.Proofs.YtghblnkplfajjaaDoor
open Go.Ab Go.RowKit

/-- A reader: what is left, what is wrong. -/
abbrev rd (s : ByteArray) (e : Int) : D := .agg [.str s, .int .i64 e]

def tkS (s : ByteArray) (e n : Int) : ByteArray := if e = 0 ∧ n ≤ s.size then s.extract 0 n.toNat else .empty

def tkR (s : ByteArray) (e n : Int) : ByteArray := if e = 0 ∧ n ≤ s.size then s.extract n.toNat s.size else s

def rd_tkE (s : ByteArray) (e n : Int) : Int := if e = 0 then (if n ≤ s.size then 0 else 3) else e

/-- Bytes as a number, the highest first. -/
def be (l : List UInt8) (a : Nat) : Nat := l.foldl (fun a b => (a * 256 + b.toNat) % 18446744073709551616) a

theorem wrapN {n : Nat} (h : n < 18446744073709551616) : IntKind.u64.wrap (n : Int) = n := wrapU ⟨by omega, by omega⟩

end Go.Proofs.YtghblnkplfajjaaDoor

set_option linter.unusedVariables false
namespace Go.Proofs.YtghblnkplfajjaaDoor
open Go.Ab Go.RowKit

/-- A number's bytes, the highest first. -/
def bigB (n k : Nat) : ByteArray := ⟨((List.range k).map fun i => UInt8.ofNat (n / 256 ^ (k - 1 - i))).toArray⟩

abbrev by8 (n e : Nat) : D := .int .u8 ((UInt8.ofNat (n / 256 ^ e)).toNat : Int)

theorem bigB_bytes (n k : Nat) : D.bytes (bigB n k) = (List.range k).map fun i => by8 n (k - 1 - i) := by
  unfold D.bytes bigB
  rw [List.toList_toArray, List.map_map]
  rfl

theorem bigB_size (n k : Nat) : (bigB n k).size = k := by
  show ((List.range k).map _).toArray.size = k
  rw [List.size_toArray, List.length_map, List.length_range]

theorem pow256 (e : Nat) : 256 ^ e = 2 ^ (8 * e) := by rw [Nat.pow_mul]

theorem by8_eq (n e : Nat) {z : Int} (h : z = ((n / 256 ^ e : Nat) : Int)) : D.int .u8 (IntKind.u8.wrap z) = by8 n e := by
  subst h
  have e1 : IntKind.u8.wrap ((n / 256 ^ e : Nat) : Int) = ((n / 256 ^ e : Nat) : Int) % 256 := by simp [IntKind.wrap, IntKind.bits, IntKind.signed]
  show D.int .u8 _ = D.int .u8 _
  rw [e1, UInt8.toNat_ofNat']
  congr 1

theorem shr_e (n e : Nat) (b : Int) (hb : b = ((8 * e : Nat) : Int)) (h8 : 8 * e ≤ 64) : (n : Int).fdiv (2 ^ min b.toNat IntKind.u64.bits) = ((n / 256 ^ e : Nat) : Int) := by
  subst hb
  have : min ((8 * e : Nat) : Int).toNat IntKind.u64.bits = 8 * e := by rw [Int.toNat_natCast]; exact Nat.min_eq_left h8
  rw [this, Int.fdiv_eq_ediv_of_nonneg _ (by exact Int.le_of_lt (Int.pow_pos (by decide))), pow256, Int.natCast_ediv, Int.natCast_pow]
  rfl

abbrev z8 : D := .int .u8 0

theorem big1_c {n : Nat} : CallR cx 45 [u64 n, i64 1] [] fun r S => r = st (bigB n 1) ∧ S = [] := by
  let f : Nat → List D := fun i => match i with
    | 0 => [z8, z8, z8, z8, z8, z8, z8, z8]
    | _ => [by8 n 0, z8, z8, z8, z8, z8, z8, z8]
  refine callR_of (R := R1) cx_ok Tryd.func45 (by kernel_rfl) rfl ?_
  conv => whnf
  refine .inl ⟨fun m l S => ∃ i : Nat, i ≤ 1 ∧ m = 1 - i ∧ l = [(0, u64 n), (1, i64 1), (5, .ptr 0 []), (7, i64 1), (8, i64 (i : Int))] ∧
    S = [.var (.d (.arr 8 1 (f i)))], ⟨1, _, ⟨0, by decide, rfl, rfl, rfl⟩, ⟨rfl, rfl, rfl, rfl, rfl, trivial⟩⟩, ?_⟩
  rintro _ _ _ ⟨i, hi, rfl, rfl, rfl⟩
  rcases i with _ | _ | i
  · conv => whnf
    refine ⟨by decide, ?_⟩
    conv => whnf
    refine ⟨by decide, ?_⟩
    conv => whnf
    exact ⟨0, _, 1, by decide, ⟨1, by decide, rfl, rfl, congrArg (fun z => [Blk.var (.d (.arr 8 1 [z, z8, z8, z8, z8, z8, z8, z8]))]) (by8_eq n 0 (shr_e n 0 _ (by rfl) (by decide)))⟩, ⟨rfl, rfl, rfl, rfl, rfl, trivial⟩, rfl⟩
  · conv => whnf
    refine ⟨by decide, ?_⟩
    conv => whnf
    refine ⟨bigB n 1, ⟨by rw [bigB_bytes]; rfl, by rw [bigB_size]; rfl⟩, ?_⟩
    conv => whnf
    exact ⟨rfl, rfl⟩
  · omega

theorem big4_c {n : Nat} : CallR cx 45 [u64 n, i64 4] [] fun r S => r = st (bigB n 4) ∧ S = [] := by
  let f : Nat → List D := fun i => match i with
    | 0 => [z8, z8, z8, z8, z8, z8, z8, z8]
    | 1 => [by8 n 3, z8, z8, z8, z8, z8, z8, z8]
    | 2 => [by8 n 3, by8 n 2, z8, z8, z8, z8, z8, z8]
    | 3 => [by8 n 3, by8 n 2, by8 n 1, z8, z8, z8, z8, z8]
    | _ => [by8 n 3, by8 n 2, by8 n 1, by8 n 0, z8, z8, z8, z8]
  refine callR_of (R := R1) cx_ok Tryd.func45 (by kernel_rfl) rfl ?_
  conv => whnf
  refine .inl ⟨fun m l S => ∃ i : Nat, i ≤ 4 ∧ m = 4 - i ∧ l = [(0, u64 n), (1, i64 4), (5, .ptr 0 []), (7, i64 4), (8, i64 (i : Int))] ∧
    S = [.var (.d (.arr 8 1 (f i)))], ⟨4, _, ⟨0, by decide, rfl, rfl, rfl⟩, ⟨rfl, rfl, rfl, rfl, rfl, trivial⟩⟩, ?_⟩
  rintro _ _ _ ⟨i, hi, rfl, rfl, rfl⟩
  rcases i with _ | _ | _ | _ | _ | i
  · conv => whnf
    refine ⟨by decide, ?_⟩
    conv => whnf
    refine ⟨by decide, ?_⟩
    conv => whnf
    exact ⟨3, _, 1, by decide, ⟨1, by decide, rfl, rfl, congrArg (fun z => [Blk.var (.d (.arr 8 1 [z, z8, z8, z8, z8, z8, z8, z8]))]) (by8_eq n 3 (shr_e n 3 _ (by rfl) (by decide)))⟩, ⟨rfl, rfl, rfl, rfl, rfl, trivial⟩, rfl⟩
  · conv => whnf
    refine ⟨by decide, ?_⟩
    conv => whnf
    refine ⟨by decide, ?_⟩
    conv => whnf
    exact ⟨2, _, 1, by decide, ⟨2, by decide, rfl, rfl, congrArg (fun z => [Blk.var (.d (.arr 8 1 [by8 n 3, z, z8, z8, z8, z8, z8, z8]))]) (by8_eq n 2 (shr_e n 2 _ (by rfl) (by decide)))⟩, ⟨rfl, rfl, rfl, rfl, rfl, trivial⟩, rfl⟩
  · conv => whnf
    refine ⟨by decide, ?_⟩
    conv => whnf
    refine ⟨by decide, ?_⟩
    conv => whnf
    exact ⟨1, _, 1, by decide, ⟨3, by decide, rfl, rfl, congrArg (fun z => [Blk.var (.d (.arr 8 1 [by8 n 3, by8 n 2, z, z8, z8, z8, z8, z8]))]) (by8_eq n 1 (shr_e n 1 _ (by rfl) (by decide)))⟩, ⟨rfl, rfl, rfl, rfl, rfl, trivial⟩, rfl⟩
  · conv => whnf
    refine ⟨by decide, ?_⟩
    conv => whnf
    refine ⟨by decide, ?_⟩
    conv => whnf
    exact ⟨0, _, 1, by decide, ⟨4, by decide, rfl, rfl, congrArg (fun z => [Blk.var (.d (.arr 8 1 [by8 n 3, by8 n 2, by8 n 1, z, z8, z8, z8, z8]))]) (by8_eq n 0 (shr_e n 0 _ (by rfl) (by decide)))⟩, ⟨rfl, rfl, rfl, rfl, rfl, trivial⟩, rfl⟩
  · conv => whnf
    refine ⟨by decide, ?_⟩
    conv => whnf
    refine ⟨bigB n 4, ⟨by rw [bigB_bytes]; rfl, by rw [bigB_size]; rfl⟩, ?_⟩
    conv => whnf
    exact ⟨rfl, rfl⟩
  · omega

theorem big8_c {n : Nat} : CallR cx 45 [u64 n, i64 8] [] fun r S => r = st (bigB n 8) ∧ S = [] := by
  let f : Nat → List D := fun i => match i with
    | 0 => [z8, z8, z8, z8, z8, z8, z8, z8]
    | 1 => [by8 n 7, z8, z8, z8, z8, z8, z8, z8]
    | 2 => [by8 n 7, by8 n 6, z8, z8, z8, z8, z8, z8]
    | 3 => [by8 n 7, by8 n 6, by8 n 5, z8, z8, z8, z8, z8]
    | 4 => [by8 n 7, by8 n 6, by8 n 5, by8 n 4, z8, z8, z8, z8]
    | 5 => [by8 n 7, by8 n 6, by8 n 5, by8 n 4, by8 n 3, z8, z8, z8]
    | 6 => [by8 n 7, by8 n 6, by8 n 5, by8 n 4, by8 n 3, by8 n 2, z8, z8]
    | 7 => [by8 n 7, by8 n 6, by8 n 5, by8 n 4, by8 n 3, by8 n 2, by8 n 1, z8]
    | _ => [by8 n 7, by8 n 6, by8 n 5, by8 n 4, by8 n 3, by8 n 2, by8 n 1, by8 n 0]
  refine callR_of (R := R1) cx_ok Tryd.func45 (by kernel_rfl) rfl ?_
  conv => whnf
  refine .inl ⟨fun m l S => ∃ i : Nat, i ≤ 8 ∧ m = 8 - i ∧ l = [(0, u64 n), (1, i64 8), (5, .ptr 0 []), (7, i64 8), (8, i64 (i : Int))] ∧
    S = [.var (.d (.arr 8 1 (f i)))], ⟨8, _, ⟨0, by decide, rfl, rfl, rfl⟩, ⟨rfl, rfl, rfl, rfl, rfl, trivial⟩⟩, ?_⟩
  rintro _ _ _ ⟨i, hi, rfl, rfl, rfl⟩
  rcases i with _ | _ | _ | _ | _ | _ | _ | _ | _ | i
  · conv => whnf
    refine ⟨by decide, ?_⟩
    conv => whnf
    refine ⟨by decide, ?_⟩
    conv => whnf
    exact ⟨7, _, 1, by decide, ⟨1, by decide, rfl, rfl, congrArg (fun z => [Blk.var (.d (.arr 8 1 [z, z8, z8, z8, z8, z8, z8, z8]))]) (by8_eq n 7 (shr_e n 7 _ (by rfl) (by decide)))⟩, ⟨rfl, rfl, rfl, rfl, rfl, trivial⟩, rfl⟩
  · conv => whnf
    refine ⟨by decide, ?_⟩
    conv => whnf
    refine ⟨by decide, ?_⟩
    conv => whnf
    exact ⟨6, _, 1, by decide, ⟨2, by decide, rfl, rfl, congrArg (fun z => [Blk.var (.d (.arr 8 1 [by8 n 7, z, z8, z8, z8, z8, z8, z8]))]) (by8_eq n 6 (shr_e n 6 _ (by rfl) (by decide)))⟩, ⟨rfl, rfl, rfl, rfl, rfl, trivial⟩, rfl⟩
  · conv => whnf
    refine ⟨by decide, ?_⟩
    conv => whnf
    refine ⟨by decide, ?_⟩
    conv => whnf
    exact ⟨5, _, 1, by decide, ⟨3, by decide, rfl, rfl, congrArg (fun z => [Blk.var (.d (.arr 8 1 [by8 n 7, by8 n 6, z, z8, z8, z8, z8, z8]))]) (by8_eq n 5 (shr_e n 5 _ (by rfl) (by decide)))⟩, ⟨rfl, rfl, rfl, rfl, rfl, trivial⟩, rfl⟩
  · conv => whnf
    refine ⟨by decide, ?_⟩
    conv => whnf
    refine ⟨by decide, ?_⟩
    conv => whnf
    exact ⟨4, _, 1, by decide, ⟨4, by decide, rfl, rfl, congrArg (fun z => [Blk.var (.d (.arr 8 1 [by8 n 7, by8 n 6, by8 n 5, z, z8, z8, z8, z8]))]) (by8_eq n 4 (shr_e n 4 _ (by rfl) (by decide)))⟩, ⟨rfl, rfl, rfl, rfl, rfl, trivial⟩, rfl⟩
  · conv => whnf
    refine ⟨by decide, ?_⟩
    conv => whnf
    refine ⟨by decide, ?_⟩
    conv => whnf
    exact ⟨3, _, 1, by decide, ⟨5, by decide, rfl, rfl, congrArg (fun z => [Blk.var (.d (.arr 8 1 [by8 n 7, by8 n 6, by8 n 5, by8 n 4, z, z8, z8, z8]))]) (by8_eq n 3 (shr_e n 3 _ (by rfl) (by decide)))⟩, ⟨rfl, rfl, rfl, rfl, rfl, trivial⟩, rfl⟩
  · conv => whnf
    refine ⟨by decide, ?_⟩
    conv => whnf
    refine ⟨by decide, ?_⟩
    conv => whnf
    exact ⟨2, _, 1, by decide, ⟨6, by decide, rfl, rfl, congrArg (fun z => [Blk.var (.d (.arr 8 1 [by8 n 7, by8 n 6, by8 n 5, by8 n 4, by8 n 3, z, z8, z8]))]) (by8_eq n 2 (shr_e n 2 _ (by rfl) (by decide)))⟩, ⟨rfl, rfl, rfl, rfl, rfl, trivial⟩, rfl⟩
  · conv => whnf
    refine ⟨by decide, ?_⟩
    conv => whnf
    refine ⟨by decide, ?_⟩
    conv => whnf
    exact ⟨1, _, 1, by decide, ⟨7, by decide, rfl, rfl, congrArg (fun z => [Blk.var (.d (.arr 8 1 [by8 n 7, by8 n 6, by8 n 5, by8 n 4, by8 n 3, by8 n 2, z, z8]))]) (by8_eq n 1 (shr_e n 1 _ (by rfl) (by decide)))⟩, ⟨rfl, rfl, rfl, rfl, rfl, trivial⟩, rfl⟩
  · conv => whnf
    refine ⟨by decide, ?_⟩
    conv => whnf
    refine ⟨by decide, ?_⟩
    conv => whnf
    exact ⟨0, _, 1, by decide, ⟨8, by decide, rfl, rfl, congrArg (fun z => [Blk.var (.d (.arr 8 1 [by8 n 7, by8 n 6, by8 n 5, by8 n 4, by8 n 3, by8 n 2, by8 n 1, z]))]) (by8_eq n 0 (shr_e n 0 _ (by rfl) (by decide)))⟩, ⟨rfl, rfl, rfl, rfl, rfl, trivial⟩, rfl⟩
  · conv => whnf
    refine ⟨by decide, ?_⟩
    conv => whnf
    refine ⟨bigB n 8, ⟨by rw [bigB_bytes]; rfl, by rw [bigB_size]; rfl⟩, ?_⟩
    conv => whnf
    exact ⟨rfl, rfl⟩
  · omega

abbrev u32 (n : Int) : AV := .d (.int .u32 n)

theorem wrap32 {n : Int} (h : 0 ≤ n ∧ n < 4294967296) : IntKind.u32.wrap n = n := by
  simp [IntKind.wrap, IntKind.bits, IntKind.signed]; omega

theorem wrap8 {n : Int} (h : 0 ≤ n ∧ n < 256) : IntKind.u8.wrap n = n := by
  simp [IntKind.wrap, IntKind.bits, IntKind.signed]; omega

/-- A text's length, and it. -/
def textB (s : ByteArray) : ByteArray := bigB s.size 4 ++ s

theorem textB_size (s : ByteArray) : (textB s).size = 4 + s.size := by unfold textB; rw [ByteArray.size_append, bigB_size]

theorem wbyte_c {n : Nat} (h : n < 256) : CallR cx 29 [u8 n] [] fun r S => r = st (bigB n 1) ∧ S = [] := by
  have w : CallR cx 45 [u64 (IntKind.u64.wrap (n : Int)), i64 1] [] fun r S => r = st (bigB n 1) ∧ S = [] := by rw [wrapN (by omega)]; exact big1_c
  refine callR_of (R := R1) cx_ok Tryd.func29 (by kernel_rfl) rfl ?_
  conv => whnf
  refine ⟨_, w, ?_⟩
  rintro _ _ ⟨rfl, rfl⟩
  conv => whnf
  exact ⟨rfl, rfl⟩

theorem wword_c {n : Nat} (h : n < 4294967296) : CallR cx 27 [u32 n] [] fun r S => r = st (bigB n 4) ∧ S = [] := by
  have w : CallR cx 45 [u64 (IntKind.u64.wrap (n : Int)), i64 4] [] fun r S => r = st (bigB n 4) ∧ S = [] := by rw [wrapN (by omega)]; exact big4_c
  refine callR_of (R := R1) cx_ok Tryd.func27 (by kernel_rfl) rfl ?_
  conv => whnf
  refine ⟨_, w, ?_⟩
  rintro _ _ ⟨rfl, rfl⟩
  conv => whnf
  exact ⟨rfl, rfl⟩

theorem wlong_c {n : Nat} : CallR cx 36 [u64 n] [] fun r S => r = st (bigB n 8) ∧ S = [] := by
  refine callR_of (R := R1) cx_ok Tryd.func36 (by kernel_rfl) rfl ?_
  conv => whnf
  refine ⟨_, big8_c, ?_⟩
  rintro _ _ ⟨rfl, rfl⟩
  conv => whnf
  exact ⟨rfl, rfl⟩

theorem wtext_c {s : ByteArray} (h : s.size < 4294967296) : CallR cx 35 [st s] [] fun r S => r = st (textB s) ∧ S = [] := by
  have w : CallR cx 27 [u32 (IntKind.u32.wrap (s.size : Int))] [] fun r S => r = st (bigB s.size 4) ∧ S = [] := by rw [wrap32 (by omega)]; exact wword_c h
  refine callR_of (R := R1) cx_ok Tryd.func35 (by kernel_rfl) rfl ?_
  conv => whnf
  refine ⟨_, w, ?_⟩
  rintro _ _ ⟨rfl, rfl⟩
  conv => whnf
  refine ⟨by rw [bigB_size]; omega, ?_⟩
  conv => whnf
  exact ⟨rfl, rfl⟩

end Go.Proofs.YtghblnkplfajjaaDoor

set_option linter.unusedVariables false
namespace Go.Proofs.YtghblnkplfajjaaDoor
open Go.Ab Go.RowKit

/-- A reader: what is left, what is wrong. -/
structure Rs where
  s : ByteArray
  e : Int

def Rs.d (r : Rs) : D := rd r.s r.e

def Rs.got (r : Rs) (n : Int) : ByteArray := tkS r.s r.e n

def Rs.take (r : Rs) (n : Int) : Rs := ⟨tkR r.s r.e n, rd_tkE r.s r.e n⟩

def Rs.num (r : Rs) (n : Int) : Nat := be (r.got n).data.toList 0

def Rs.fail (r : Rs) (f : Int) : Rs := ⟨r.s, if r.e = 0 then f else r.e⟩

def Rs.cnt (r : Rs) (m : Int) : Int := if (r.num 4 : Int) > m then 0 else r.num 4

def Rs.cntR (r : Rs) (m : Int) : Rs := if (r.num 4 : Int) > m then (r.take 4).fail 5 else r.take 4

theorem ba_ext {a b : ByteArray} (h : a.data.toList = b.data.toList) : a = b := by
  cases a; cases b; congr 1; exact Array.toList_inj.1 h

end Go.Proofs.YtghblnkplfajjaaDoor

/- The document's bytes and readers. -/
set_option linter.unusedVariables false
namespace Go.Proofs.YtghblnkplfajjaaDoor
open Go.Ab Go.RowKit

theorem brecL {b : Bool} {A A' : Prop} (ht : b = true → A) (hf : b = false → A') : @Bool.rec (fun _ => Prop) A' A b := brec ht hf
end Go.Proofs.YtghblnkplfajjaaDoor

/- Calls: what they are, their bytes, and what the bytes tell (plain). -/
set_option linter.unusedVariables false
namespace Go.Proofs.YtghblnkplfajjaaDoor
open Go.Ab Go.RowKit

/-- A signature. -/
structure Sg where
  ix : Int
  pa : List ByteArray
  ot : List ByteArray
  pt : List ByteArray
/-- An update. -/
structure Up where
  home : Nat
  old : ByteArray
  new : ByteArray
  sig : Sg
/-- A stop. -/
structure Sp where
  home : Nat
  key : ByteArray
  wat : Int
  sig : Sg
/-- A letter. -/
structure Le where
  frm : Nat
  non : Nat
  too : Nat
  snd : ByteArray
  rcv : ByteArray
  bod : ByteArray

def dgD (b : ByteArray) : D := .arr 32 1 (D.bytes b)
def dgs (l : List ByteArray) : List D := l.map dgD
def Sg.d (s : Sg) : D := .agg [.int .i64 s.ix, .sl 32 (dgs s.pa), .sl 32 (dgs s.ot), .sl 32 (dgs s.pt)]
def Up.d (u : Up) : D := .agg [.int .u32 u.home, dgD u.old, dgD u.new, u.sig.d]
def Sp.d (u : Sp) : D := .agg [.int .u32 u.home, dgD u.key, .int .i64 u.wat, u.sig.d]
def Le.d (l : Le) : D := .agg [.int .u32 l.frm, .int .u32 l.non, .int .u32 l.too, .str l.snd, .str l.rcv, .str l.bod]

/-- So many digests, of their size. -/
def dgF (l : List ByteArray) : Prop := l.length ≤ 100 ∧ ∀ b ∈ l, b.size = 32
def tx (s : ByteArray) : Prop := s.size ≤ 1000
def Sg.fit (s : Sg) : Prop := (-9223372036854775808 ≤ s.ix ∧ s.ix < 9223372036854775808) ∧ dgF s.pa ∧ dgF s.ot ∧ dgF s.pt
def Up.fit (u : Up) : Prop := u.home < 4294967296 ∧ u.old.size = 32 ∧ u.new.size = 32 ∧ u.sig.fit
def Sp.fit (u : Sp) : Prop := u.home < 4294967296 ∧ u.key.size = 32 ∧ (-9223372036854775808 ≤ u.wat ∧ u.wat < 9223372036854775808) ∧ u.sig.fit
def Le.fit (l : Le) : Prop := l.frm < 4294967296 ∧ l.non < 4294967296 ∧ l.too < 4294967296 ∧ tx l.snd ∧ tx l.rcv ∧ tx l.bod

def catB : List ByteArray → ByteArray
  | [] => .empty
  | b :: l => b ++ catB l
def dgsB (l : List ByteArray) : ByteArray := bigB l.length 4 ++ catB l
/-- What four bytes tell of a number. -/
def low4 (n : Int) : Nat := (n % 4294967296).toNat
def sigB (s : Sg) : ByteArray := bigB (low4 s.ix) 4 ++ dgsB s.pa ++ dgsB s.ot ++ dgsB s.pt
def upB (u : Up) : ByteArray := bigB u.home 4 ++ u.old ++ u.new ++ sigB u.sig
def spB (u : Sp) : ByteArray := bigB u.home 4 ++ u.key ++ bigB (low4 u.wat) 4 ++ sigB u.sig
def leB (l : Le) : ByteArray := bigB l.frm 4 ++ bigB l.non 4 ++ bigB l.too 4 ++ textB l.snd ++ textB l.rcv ++ textB l.bod

/-- A call, nothing, a text that is none. -/
inductive Cl where
  | pay (a b : ByteArray) (n k : Nat) (g : Sg)
  | send (a : ByteArray) (o : Nat) (t b : ByteArray) (n k : Nat) (g : Sg)
  | say (a b : ByteArray) (k : Nat) (g : Sg)
  | tell (a b : ByteArray) (k : Nat) (g : Sg)
  | submit (u : Up)
  | improp (u : Up) (c : ByteArray)
  | double (u v : Up) (c : ByteArray)
  | accept (u : Up)
  | doubled (u v : Up)
  | halt (s : Sp)
  | prove (l : ByteArray) (i : Nat) (br : List ByteArray)
  | process (l : Le)
  | no
  | word

def Cl.tag : Cl → Nat
  | .pay .. => 1 | .send .. => 2 | .say .. => 3 | .tell .. => 4 | .submit .. => 5 | .improp .. => 6 | .double .. => 7 | .accept .. => 8
  | .doubled .. => 9 | .halt .. => 10 | .prove .. => 11 | .process .. => 12 | .no => 0 | .word => 0

/-- What stands behind the tag. -/
def Cl.tail : Cl → ByteArray
  | .pay a b n k g => textB a ++ textB b ++ bigB n 8 ++ bigB k 8 ++ sigB g
  | .send a o t b n k g => textB a ++ bigB o 4 ++ textB t ++ textB b ++ bigB n 8 ++ bigB k 8 ++ sigB g
  | .say a b k g => textB a ++ textB b ++ bigB k 8 ++ sigB g
  | .tell a b k g => textB a ++ textB b ++ bigB k 8 ++ sigB g
  | .submit u => textB (upB u)
  | .improp u c => textB (upB u) ++ textB c
  | .double u v c => textB (upB u) ++ textB (upB v) ++ textB c
  | .accept u => textB (upB u)
  | .doubled u v => textB (upB u) ++ textB (upB v)
  | .halt s => textB (spB s)
  | .prove l i br => l ++ bigB i 4 ++ dgsB br
  | .process l => textB (leB l)
  | .no => .empty
  | .word => .empty

def Cl.fit : Cl → Prop
  | .pay a b n k g => tx a ∧ tx b ∧ n < 18446744073709551616 ∧ k < 18446744073709551616 ∧ g.fit
  | .send a o t b n k g => tx a ∧ o < 4294967296 ∧ tx t ∧ tx b ∧ n < 18446744073709551616 ∧ k < 18446744073709551616 ∧ g.fit
  | .say a b k g => tx a ∧ tx b ∧ k < 18446744073709551616 ∧ g.fit
  | .tell a b k g => tx a ∧ tx b ∧ k < 18446744073709551616 ∧ g.fit
  | .submit u => u.fit
  | .improp u c => u.fit ∧ tx c
  | .double u v c => u.fit ∧ v.fit ∧ tx c
  | .accept u => u.fit
  | .doubled u v => u.fit ∧ v.fit
  | .halt s => s.fit
  | .prove l i br => l.size = 32 ∧ i < 4294967296 ∧ dgF br
  | .process l => l.fit
  | .no => True
  | .word => True

theorem low4_lt (n : Int) : low4 n < 4294967296 := by unfold low4; omega

theorem cat_size : ∀ {l : List ByteArray}, (∀ b ∈ l, b.size = 32) → (catB l).size = 32 * l.length
  | [], _ => rfl
  | a :: l, h => by
    unfold catB
    rw [ByteArray.size_append, h a List.mem_cons_self, cat_size fun b hb => h b (List.mem_cons_of_mem _ hb), List.length_cons]
    omega

theorem dgsB_size {l : List ByteArray} (h : dgF l) : (dgsB l).size ≤ 4 + 3200 := by
  unfold dgsB
  rw [ByteArray.size_append, bigB_size, cat_size h.2]
  have := h.1
  omega

theorem sigB_size {s : Sg} (h : s.fit) : (sigB s).size ≤ 10000 := by
  unfold sigB
  have h1 := dgsB_size h.2.1
  have h2 := dgsB_size h.2.2.1
  have h3 := dgsB_size h.2.2.2
  simp only [ByteArray.size_append, bigB_size]
  omega

end Go.Proofs.YtghblnkplfajjaaDoor

/- Calls: their fields, side by side; what a drawn value is (plain). -/
set_option linter.unusedVariables false
namespace Go.Proofs.YtghblnkplfajjaaDoor
open Go.Ab Go.RowKit

/-- A call's fields, whatever its tag. -/
structure Fd where
  tag : Nat
  A : ByteArray
  B : ByteArray
  C : ByteArray
  org : Nat
  n : Nat
  k : Nat
  sig : Sg
  u : Up
  v : Up
  stop : Sp
  leaf : ByteArray
  ix : Nat
  br : List ByteArray
  let' : Le

def z32 : ByteArray := ⟨Array.replicate 32 0⟩
def sg0 : Sg := ⟨0, [], [], []⟩
def Fd.d (f : Fd) : D := .agg [.int .i64 (f.tag : Int), .str f.A, .str f.B, .str f.C, .int .u32 f.org, .int .u64 f.n, .int .u64 f.k, f.sig.d, f.u.d, f.v.d, f.stop.d, dgD f.leaf, .int .u32 f.ix, .sl 32 (dgs f.br), f.let'.d]

/-- A value that the law draws. -/
structure An where
  kind : Int
  A : ByteArray
  B : ByteArray
  C : ByteArray
  org : Nat
  n : Nat
  k : Nat
  sig : Sg
  u : Up
  v : Up
  stop : Sp
  leaf : ByteArray
  ix : Nat
  br : List ByteArray
  let' : Le
def An.d (f : An) : D := .agg [.int .i64 f.kind, .str f.A, .str f.B, .str f.C, .int .u32 f.org, .int .u64 f.n, .int .u64 f.k, f.sig.d, f.u.d, f.v.d, f.stop.d, dgD f.leaf, .int .u32 f.ix, .sl 32 (dgs f.br), f.let'.d]

def An.clN (x : An) : Nat → Cl
  | 0 => .pay x.A x.B x.n x.k x.sig
  | 1 => .send x.A x.org x.B x.C x.n x.k x.sig
  | 2 => .say x.A x.B x.k x.sig
  | 3 => .tell x.A x.B x.k x.sig
  | 4 => .submit x.u
  | 5 => .improp x.u x.C
  | 6 => .double x.u x.v x.C
  | 7 => .accept x.u
  | 8 => .doubled x.u x.v
  | 9 => .halt x.stop
  | 10 => .prove x.leaf x.ix x.br
  | 11 => .process x.let'
  | 12 => .no
  | _ => .word
def An.cl (x : An) : Cl := x.clN (x.kind.tmod 14).natAbs

/-- What the types let in. -/
structure An.wf (x : An) : Prop where
  kind : -9223372036854775808 ≤ x.kind ∧ x.kind < 9223372036854775808
  org : x.org < 4294967296
  n : x.n < 18446744073709551616
  k : x.k < 18446744073709551616
  sig : -9223372036854775808 ≤ x.sig.ix ∧ x.sig.ix < 9223372036854775808
  sigL : (∀ b ∈ x.sig.pa, b.size = 32) ∧ (∀ b ∈ x.sig.ot, b.size = 32) ∧ (∀ b ∈ x.sig.pt, b.size = 32)
  u : x.u.home < 4294967296 ∧ x.u.old.size = 32 ∧ x.u.new.size = 32 ∧ (-9223372036854775808 ≤ x.u.sig.ix ∧ x.u.sig.ix < 9223372036854775808) ∧ (∀ b ∈ x.u.sig.pa, b.size = 32) ∧ (∀ b ∈ x.u.sig.ot, b.size = 32) ∧ (∀ b ∈ x.u.sig.pt, b.size = 32)
  v : x.v.home < 4294967296 ∧ x.v.old.size = 32 ∧ x.v.new.size = 32 ∧ (-9223372036854775808 ≤ x.v.sig.ix ∧ x.v.sig.ix < 9223372036854775808) ∧ (∀ b ∈ x.v.sig.pa, b.size = 32) ∧ (∀ b ∈ x.v.sig.ot, b.size = 32) ∧ (∀ b ∈ x.v.sig.pt, b.size = 32)
  s : x.stop.home < 4294967296 ∧ x.stop.key.size = 32 ∧ (-9223372036854775808 ≤ x.stop.wat ∧ x.stop.wat < 9223372036854775808) ∧ (-9223372036854775808 ≤ x.stop.sig.ix ∧ x.stop.sig.ix < 9223372036854775808) ∧ (∀ b ∈ x.stop.sig.pa, b.size = 32) ∧ (∀ b ∈ x.stop.sig.ot, b.size = 32) ∧ (∀ b ∈ x.stop.sig.pt, b.size = 32)
  leaf : x.leaf.size = 32
  ix : x.ix < 4294967296
  br : ∀ b ∈ x.br, b.size = 32
  lt : x.let'.frm < 4294967296 ∧ x.let'.non < 4294967296 ∧ x.let'.too < 4294967296

def Sg.short (s : Sg) : Prop := s.pa.length ≤ 60 ∧ s.ot.length ≤ 60 ∧ s.pt.length ≤ 60
/-- What the law goes through. -/
structure An.light (x : An) : Prop where
  a : x.A.size ≤ 1000
  b : x.B.size ≤ 1000
  c : x.C.size ≤ 1000
  s : x.let'.snd.size ≤ 1000
  r : x.let'.rcv.size ≤ 1000
  t : x.let'.bod.size ≤ 1000
  br : x.br.length ≤ 100
  sig : x.sig.short
  u : x.u.sig.short
  v : x.v.sig.short
  st : x.stop.sig.short

theorem An.fit {x : An} (h : x.wf) (l : x.light) : x.cl.fit := by
  have fs : x.sig.fit := ⟨h.sig, ⟨Nat.le_trans l.sig.1 (by decide), h.sigL.1⟩, ⟨Nat.le_trans l.sig.2.1 (by decide), h.sigL.2.1⟩, ⟨Nat.le_trans l.sig.2.2 (by decide), h.sigL.2.2⟩⟩
  have fu : x.u.fit := ⟨h.u.1, h.u.2.1, h.u.2.2.1, h.u.2.2.2.1, ⟨Nat.le_trans l.u.1 (by decide), h.u.2.2.2.2.1⟩, ⟨Nat.le_trans l.u.2.1 (by decide), h.u.2.2.2.2.2.1⟩, ⟨Nat.le_trans l.u.2.2 (by decide), h.u.2.2.2.2.2.2⟩⟩
  have fv : x.v.fit := ⟨h.v.1, h.v.2.1, h.v.2.2.1, h.v.2.2.2.1, ⟨Nat.le_trans l.v.1 (by decide), h.v.2.2.2.2.1⟩, ⟨Nat.le_trans l.v.2.1 (by decide), h.v.2.2.2.2.2.1⟩, ⟨Nat.le_trans l.v.2.2 (by decide), h.v.2.2.2.2.2.2⟩⟩
  have fp : x.stop.fit := ⟨h.s.1, h.s.2.1, h.s.2.2.1, h.s.2.2.2.1, ⟨Nat.le_trans l.st.1 (by decide), h.s.2.2.2.2.1⟩, ⟨Nat.le_trans l.st.2.1 (by decide), h.s.2.2.2.2.2.1⟩, ⟨Nat.le_trans l.st.2.2 (by decide), h.s.2.2.2.2.2.2⟩⟩
  have H : ∀ k, (x.clN k).fit := by
    intro k
    match k with
    | 0 => exact ⟨l.a, l.b, h.n, h.k, fs⟩
    | 1 => exact ⟨l.a, h.org, l.b, l.c, h.n, h.k, fs⟩
    | 2 => exact ⟨l.a, l.b, h.k, fs⟩
    | 3 => exact ⟨l.a, l.b, h.k, fs⟩
    | 4 => exact fu
    | 5 => exact ⟨fu, l.c⟩
    | 6 => exact ⟨fu, fv, l.c⟩
    | 7 => exact fu
    | 8 => exact ⟨fu, fv⟩
    | 9 => exact fp
    | 10 => exact ⟨h.leaf, h.ix, l.br, h.br⟩
    | 11 => exact ⟨h.lt.1, h.lt.2.1, h.lt.2.2, l.s, l.r, l.t⟩
    | 12 => trivial
    | k + 13 => trivial
  exact H _
end Go.Proofs.YtghblnkplfajjaaDoor

/- Calls: read; what was read is written so (plain). -/
set_option linter.unusedVariables false
namespace Go.Proofs.YtghblnkplfajjaaDoor
open Go.Ab Go.RowKit

def chunkN : Nat → ByteArray → List ByteArray
  | 0, _ => []
  | n + 1, t => t.extract 0 32 :: chunkN n (t.extract 32 t.size)
def chunk (t : ByteArray) : List ByteArray := chunkN (t.size / 32) t

def Rs.dgl (r : Rs) (m : Int) : List ByteArray := chunk ((r.cntR m).got (r.cnt m * 32))
def Rs.dglR (r : Rs) (m : Int) : Rs := (r.cntR m).take (r.cnt m * 32)
/-- A signature's index was read. -/
def Rs.sg1 (r : Rs) : Rs := if (r.num 4 : Int) > 2147483647 then (r.take 4).fail 8 else r.take 4
def Rs.sg2 (r : Rs) : Rs := r.sg1.dglR 32
def Rs.sg3 (r : Rs) : Rs := r.sg2.dglR 32
def Rs.sgR (r : Rs) : Rs := r.sg3.dglR 32
def Rs.sg (r : Rs) : Sg := if r.sgR.e = 0 then ⟨(r.num 4 : Nat), r.sg1.dgl 32, r.sg2.dgl 32, r.sg3.dgl 32⟩ else sg0

def Le.right (l : Le) : Bool := (rightT l.snd && rightT l.rcv) && decide ((l.bod.size : Int) ≤ 300)
/-- What a call is when it is written: it is right. -/
def Cl.ok (c : Cl) : Prop := match c with
  | .process l => l.right = true
  | .no => False
  | .word => False
  | _ => True
def Cl.bytes (c : Cl) : ByteArray := bigB c.tag 1 ++ c.tail
end Go.Proofs.YtghblnkplfajjaaDoor

/- Digests, signatures, updates, stops, letters: their bytes, the program's and the document's (printed by gen/cbytes.py). -/
set_option linter.unusedVariables false
namespace Go.Proofs.YtghblnkplfajjaaDoor
open Go.Ab Go.RowKit

theorem wrapLow (n : Int) : IntKind.u32.wrap n = ((low4 n : Nat) : Int) := by
  unfold low4
  simp [IntKind.wrap, IntKind.bits, IntKind.signed]
  omega

theorem bytes32 {b : ByteArray} (h : b.size = 32) : ((D.bytes b).drop 0).take 32 = D.bytes b := by
  rw [List.drop_zero]
  exact List.take_of_length_le (by rw [bytes_length]; omega)

theorem wdig_c {b : ByteArray} (hb : b.size = 32) : CallR cx 28 [.d (dgD b)] [] fun r S => r = st b ∧ S = [] := by
  have e := bytes32 hb
  unfold dgD
  generalize hq : D.bytes b = q at *
  refine callR_of (R := R1) cx_ok Tryd.func28 (by kernel_rfl) rfl ?_
  conv => whnf
  refine ⟨by decide, ?_⟩
  conv => whnf
  refine ⟨b, ⟨by rw [hq]; exact e, by rw [hb]; rfl⟩, ?_⟩
  conv => whnf
  exact ⟨rfl, rfl⟩

theorem write_c {p : AV} {s b : ByteArray} (hp : p = .d .nilP ∨ p = .ptr 0 []) (hb : b.size = 32) (hs : s.size ≤ 1000000000) : CallR cx 30 [.ptr 0 [], .d (.sl 1 (((D.bytes b).drop 0).take 32))] (bd p s) fun r S =>
    r = .tup [.d (.int .i64 32), .d .nilI] ∧ S = [.tvar 86 (.agg [.ptr 0 [], .row 2]), .sealed (.sl 1 (D.bytes s)), .row 5 1 (D.bytes (s ++ b))] := by
  have cc := copyCheck_c (p := p) (s := s) hp
  rw [bytes32 hb]
  have hl := bytes_length s
  have hl2 := bytes_length b
  unfold bd at cc ⊢
  rw [bytes_append]
  rw [hb] at hl2
  generalize D.bytes s = xs at *
  generalize D.bytes b = ys at *
  have go : ∀ q : AV, CallR cx 46 [.ptr 0 []] [.tvar 86 (.agg [q, .row 1]), .row 5 1 xs] (fun r S => r = .tup [] ∧ S = [.tvar 86 (.agg [.ptr 0 [], .row 1]), .row 5 1 xs]) →
      (q = .d .nilP ∨ q = .ptr 0 []) → CallR cx 30 [.ptr 0 [], .d (.sl 1 ys)] [.tvar 86 (.agg [q, .row 1]), .row 5 1 xs] fun r S =>
    r = .tup [.d (.int .i64 32), .d .nilI] ∧ S = [.tvar 86 (.agg [.ptr 0 [], .row 2]), .sealed (.sl 1 xs), .row 5 1 (xs ++ ys)] := by
    rintro q cc (rfl | rfl) <;>
    · refine callR_of (R := R1) cx_ok Tryd.func30 (by kernel_rfl) rfl ?_
      conv => whnf
      refine ⟨_, cc, ?_⟩
      rintro _ _ ⟨rfl, rfl⟩
      conv => whnf
      refine ⟨⟨by omega, by show (xs.length + ys.length) * (1 + 1) ≤ _; omega⟩, ?_⟩
      conv => whnf
      refine ⟨?_, rfl⟩
      rw [hl2]; rfl
  exact go p cc hp

theorem dgs_getD {l : List ByteArray} {j : Nat} (h : j < l.length) : (dgs l).getD (j : Int).toNat .nilP = dgD (l[j]'h) := by
  unfold dgs
  rw [Int.toNat_natCast, List.getD_eq_getElem?_getD, List.getElem?_map, List.getElem?_eq_getElem h]
  rfl

theorem cat_snoc (l : List ByteArray) (b : ByteArray) : catB (l ++ [b]) = catB l ++ b := by
  induction l with
  | nil => show b ++ .empty = .empty ++ b; rw [ByteArray.append_empty, ByteArray.empty_append]
  | cons a l ih => show a ++ catB (l ++ [b]) = a ++ catB l ++ b; rw [ih, ByteArray.append_assoc]

theorem cat_take {l : List ByteArray} {j : Nat} (h : j < l.length) : catB (l.take (j + 1)) = catB (l.take j) ++ l[j]'h := by
  rw [List.take_add_one, List.getElem?_eq_getElem h]
  exact cat_snoc _ _

theorem wdgs_c {l : List ByteArray} (hl : dgF l) : CallR cx 40 [.d (.sl 32 (dgs l))] [] fun r S => r = st (dgsB l) ∧ S = [] := by
  obtain ⟨h1, h2⟩ := hl
  have hlen : (dgs l).length = l.length := List.length_map _
  have bc : CallR cx 27 [u32 (IntKind.u32.wrap (((dgs l).length : Nat) : Int))] [] fun r S => r = st (bigB l.length 4) ∧ S = [] := by
    rw [hlen, wrap32 (by omega)]; exact wword_c (by omega)
  unfold dgsB
  generalize hB : bigB l.length 4 = B at *
  have hBs : B.size = 4 := by rw [← hB, bigB_size]
  refine callR_of (R := R1) cx_ok Tryd.func40 (by kernel_rfl) rfl ?_
  conv => whnf
  refine ⟨_, bc, ?_⟩
  rintro _ _ ⟨rfl, rfl⟩
  conv => whnf
  refine ⟨_, writeString_c (s := .empty) (.inl rfl) (by rw [hBs]; decide), ?_⟩
  rintro _ _ ⟨rfl, rfl⟩
  conv => whnf
  have e0 : D.bytes (ByteArray.empty ++ B) = D.bytes (B ++ catB (l.take 0)) := by rw [ByteArray.empty_append]; show _ = D.bytes (B ++ .empty); rw [ByteArray.append_empty]
  refine .inr ⟨fun m L S => ∃ j : Nat, j ≤ l.length ∧ m = l.length - j ∧
      L = [(3, .ptr 1 []), (11, .d (.sl 32 (dgs l))), (12, i64 (((dgs l).length : Nat) : Int)), (13, i64 (j : Int))] ∧
      S = [.sealed (.sl 1 (D.bytes .empty)), .tvar 86 (.agg [.ptr 1 [], .row 2]), .row 5 1 (D.bytes (B ++ catB (l.take j)))],
    ⟨_, _, ⟨0, Nat.zero_le _, rfl, rfl, congrArg (fun z => [Blk.sealed (.sl 1 (D.bytes .empty)), .tvar 86 (.agg [.ptr 1 [], .row 2]), .row 5 1 z]) e0⟩, ⟨rfl, rfl, rfl, rfl, trivial⟩⟩, ?_⟩
  rintro _ _ _ ⟨j, hj, rfl, rfl, rfl⟩
  have hc := cat_size (l := l.take j) (fun b hb => h2 b (List.mem_of_mem_take hb))
  rw [List.length_take] at hc
  conv => whnf
  refine brec (fun h4 => ?_) (fun h4 => ?_)
  · have h4 := of_decide_eq_true h4
    rw [hlen] at h4
    have hlt : j < l.length := by omega
    conv => whnf
    refine ⟨⟨by omega, by rw [hlen]; omega⟩, ?_⟩
    rw [dgs_getD hlt]
    have hct := cat_take hlt
    have hsz := h2 _ (List.getElem_mem hlt)
    generalize l[j]'hlt = b at *
    have e3 : IntKind.i64.wrap ((j : Int) + 1) = ((j + 1 : Nat) : Int) := by rw [w64 (by omega)]; omega
    generalize catB (l.take j) = C at *
    have wc := write_c (p := .ptr 0 []) (s := B ++ C) (b := b) (.inr rfl) hsz (by simp only [ByteArray.size_append]; omega)
    conv => whnf
    refine ⟨by decide, ?_⟩
    conv => whnf
    refine ⟨_, wc, ?_⟩
    rintro _ _ ⟨rfl, rfl⟩
    conv => whnf
    refine ⟨l.length - (j + 1), [(3, .ptr 1 []), (11, .d (.sl 32 (dgs l))), (12, i64 (((dgs l).length : Nat) : Int)), (13, i64 ((j + 1 : Nat) : Int))], [0, 1, 4], by omega, ⟨rfl, rfl, rfl, congrArg (fun z => some (i64 z)) e3, trivial⟩, ?_⟩
    conv => whnf
    refine ⟨j + 1, by omega, rfl, rfl, ?_⟩
    rw [hct, ← ByteArray.append_assoc]
  · have h4 := of_decide_eq_false h4
    rw [hlen] at h4
    obtain rfl : j = l.length := by omega
    rw [List.take_length]
    conv => whnf
    refine ⟨_, string_c (.inr rfl), ?_⟩
    rintro _ _ ⟨rfl, rfl⟩
    conv => whnf
    exact ⟨rfl, rfl⟩
theorem wsig_c {s : Sg} (hs : s.fit) : CallR cx 37 [.d s.d] [] fun r S => r = st (sigB s) ∧ S = [] := by
  obtain ⟨_, h1, h2, h3⟩ := hs
  obtain ⟨i, pa, ot, pt⟩ := s
  simp only at h1 h2 h3
  have d1 := wdgs_c h1
  have d2 := wdgs_c h2
  have d3 := wdgs_c h3
  have s1 := dgsB_size h1
  have s2 := dgsB_size h2
  have s3 := dgsB_size h3
  unfold sigB Sg.d
  have wo : CallR cx 27 [u32 (IntKind.u32.wrap i)] [] fun r S => r = st (bigB (low4 i) 4) ∧ S = [] := by
    rw [wrapLow]; exact wword_c (low4_lt i)
  generalize dgs pa = l1 at *
  generalize dgs ot = l2 at *
  generalize dgs pt = l3 at *
  simp only
  generalize dgsB pa = P at *
  generalize dgsB ot = O at *
  generalize dgsB pt = Q at *
  generalize low4 i = k at *
  refine callR_of (R := R1) cx_ok Tryd.func37 (by kernel_rfl) rfl ?_
  conv => whnf
  refine ⟨by kernel_rfl, ?_⟩
  conv => whnf
  refine ⟨_, wo, ?_⟩
  conv => whnf
  refine ⟨_, d1, ?_⟩
  conv => whnf
  refine ⟨by (repeat (first | rw [ByteArray.size_append] | rw [bigB_size])); omega, ?_⟩
  conv => whnf
  refine ⟨_, d2, ?_⟩
  conv => whnf
  refine ⟨by (repeat (first | rw [ByteArray.size_append] | rw [bigB_size])); omega, ?_⟩
  conv => whnf
  refine ⟨_, d3, ?_⟩
  conv => whnf
  refine ⟨by (repeat (first | rw [ByteArray.size_append] | rw [bigB_size])); omega, ?_⟩
  conv => whnf
  refine ⟨by kernel_rfl, ?_⟩
  conv => whnf
  exact ⟨rfl, rfl⟩

end Go.Proofs.YtghblnkplfajjaaDoor

/- Calls: which one, its bytes, its signature's index (printed by gen/ccall.py). -/
set_option linter.unusedVariables false
namespace Go.Proofs.YtghblnkplfajjaaDoor
open Go.Ab Go.RowKit

def pay3 : ByteArray := ⟨#[112, 97, 121]⟩
def Cl.d : Cl → D
  | .pay a b n k g => .iface 41 (.agg [.str a, .str b, .int .u64 n, .int .u64 k, g.d])
  | .send a o t b n k g => .iface 65 (.agg [.str a, .int .u32 o, .str t, .str b, .int .u64 n, .int .u64 k, g.d])
  | .say a b k g => .iface 67 (.agg [.str a, .str b, .int .u64 k, g.d])
  | .tell a b k g => .iface 69 (.agg [.str a, .str b, .int .u64 k, g.d])
  | .submit u => .iface 102 (.agg [u.d])
  | .improp u c => .iface 105 (.agg [u.d, .str c])
  | .double u v c => .iface 107 (.agg [u.d, v.d, .str c])
  | .accept u => .iface 108 (.agg [u.d])
  | .doubled u v => .iface 110 (.agg [u.d, v.d])
  | .halt s => .iface 114 (.agg [s.d])
  | .prove l i br => .iface 50 (.agg [dgD l, .int .u32 i, .sl 32 (dgs br)])
  | .process l => .iface 120 (.agg [l.d])
  | .no => .nilI
  | .word => .iface 9 (.str pay3)

theorem ctag_c {c : Cl} : CallR cx 34 [.d c.d] [] fun r S => r = i64 (c.tag : Int) ∧ S = [] := by
  cases c <;>
  · refine callR_of (R := R1) cx_ok Tryd.func34 (by kernel_rfl) rfl ?_
    conv => whnf
    exact ⟨rfl, rfl⟩

def Cl.cE : Cl → Int
  | .process l => if l.right = true then 0 else 4
  | .no => 2
  | .word => 2
  | _ => 0
def Cl.cS (c : Cl) : ByteArray := if c.cE = 0 then c.bytes else .empty

theorem cb_pay {a : ByteArray} {b : ByteArray} {n : Nat} {k : Nat} {g : Sg} (h : (Cl.pay a b n k g).fit) : CallR cx 25 [.d (Cl.pay a b n k g).d] [] fun r S => r = .tup [st (Cl.pay a b n k g).cS, i64 (Cl.pay a b n k g).cE] ∧ S = [] := by
  have tg := ctag_c (c := Cl.pay a b n k g)
  obtain ⟨h0, h1, h2, h3, h4⟩ := h
  have wb : CallR cx 29 [u8 (IntKind.u8.wrap (1 : Int))] [] fun r S => r = st (bigB 1 1) ∧ S = [] := by rw [wrap8 (by omega)]; exact wbyte_c (n := 1) (by omega)
  unfold tx at h0
  have c_a := wtext_c (s := a) (by omega)
  have z_a := textB_size a
  unfold tx at h1
  have c_b := wtext_c (s := b) (by omega)
  have z_b := textB_size b
  have c_n := wlong_c (n := n)
  have c_k := wlong_c (n := k)
  have c_g := wsig_c h4
  have z_g := sigB_size h4
  unfold Cl.cS Cl.cE Cl.bytes Cl.tail Cl.tag Cl.d at *
  simp only at *
  rw [if_pos trivial]
  generalize textB a = B_a at *
  generalize textB b = B_b at *
  generalize sigB g = B_g at *
  obtain ⟨gi, g1, g2, g3⟩ := g
  unfold Sg.d at *
  try simp only at *
  generalize dgs g1 = gA at *
  generalize dgs g2 = gB at *
  generalize dgs g3 = gC at *
  refine callR_of (R := R1) cx_ok Tryd.func25 (by kernel_rfl) rfl ?_
  conv => whnf
  refine ⟨_, tg, ?_⟩
  rintro _ _ ⟨rfl, rfl⟩
  conv => whnf
  refine ⟨_, wb, ?_⟩
  rintro _ _ ⟨rfl, rfl⟩
  conv => whnf
  refine ⟨by kernel_rfl, ?_⟩
  conv => whnf
  refine ⟨_, c_a, ?_⟩
  conv => whnf
  refine ⟨_, c_b, ?_⟩
  conv => whnf
  refine ⟨by (repeat (first | rw [ByteArray.size_append] | rw [bigB_size])); omega, ?_⟩
  conv => whnf
  refine ⟨_, c_n, ?_⟩
  conv => whnf
  refine ⟨by (repeat (first | rw [ByteArray.size_append] | rw [bigB_size])); omega, ?_⟩
  conv => whnf
  refine ⟨_, c_k, ?_⟩
  conv => whnf
  refine ⟨by (repeat (first | rw [ByteArray.size_append] | rw [bigB_size])); omega, ?_⟩
  conv => whnf
  refine ⟨_, c_g, ?_⟩
  conv => whnf
  refine ⟨by (repeat (first | rw [ByteArray.size_append] | rw [bigB_size])); omega, ?_⟩
  conv => whnf
  refine ⟨by (repeat (first | rw [ByteArray.size_append] | rw [bigB_size])); omega, ?_⟩
  conv => whnf
  refine ⟨by kernel_rfl, ?_⟩
  conv => whnf
  exact ⟨rfl, rfl⟩

end Go.Proofs.YtghblnkplfajjaaDoor

/- Calls: who signs, the index, whether two are one (printed by gen/csame.py). -/
set_option linter.unusedVariables false
namespace Go.Proofs.YtghblnkplfajjaaDoor
open Go.Ab Go.RowKit

def Cl.who : Cl → ByteArray
  | .pay a _ _ _ _ => a
  | .send a _ _ _ _ _ _ => a
  | .say a _ _ _ => a
  | .tell a _ _ _ => a
  | _ => .empty
def Cl.non : Cl → Nat
  | .pay _ _ _ k _ => k
  | .send _ _ _ _ _ k _ => k
  | .say _ _ k _ => k
  | .tell _ _ k _ => k
  | _ => 0
def Cl.sg : Cl → Sg
  | .pay _ _ _ _ g => g
  | .send _ _ _ _ _ _ g => g
  | .say _ _ _ g => g
  | .tell _ _ _ g => g
  | _ => sg0
def Cl.isS : Cl → Bool
  | .pay .. => true
  | .send .. => true
  | .say .. => true
  | .tell .. => true
  | _ => false

theorem csigned_c {c : Cl} : CallR cx 10 [.d c.d] [] fun r S => r = .tup [st c.who, u64 (c.non : Int), .d c.sg.d, bo c.isS] ∧ S = [] := by
  cases c with
  | pay a b n k g =>
    obtain ⟨gi, g1, g2, g3⟩ := g
    unfold Cl.d Cl.who Cl.non Cl.sg Cl.isS Sg.d
    simp only
    generalize dgs g1 = gA at *
    generalize dgs g2 = gB at *
    generalize dgs g3 = gC at *
    refine callR_of (R := R1) cx_ok Tryd.func10 (by kernel_rfl) rfl ?_
    conv => whnf
    refine ⟨by kernel_rfl, ?_⟩
    conv => whnf
    refine ⟨by kernel_rfl, ?_⟩
    conv => whnf
    exact ⟨rfl, rfl⟩
  | send a o t b n k g =>
    obtain ⟨gi, g1, g2, g3⟩ := g
    unfold Cl.d Cl.who Cl.non Cl.sg Cl.isS Sg.d
    simp only
    generalize dgs g1 = gA at *
    generalize dgs g2 = gB at *
    generalize dgs g3 = gC at *
    refine callR_of (R := R1) cx_ok Tryd.func10 (by kernel_rfl) rfl ?_
    conv => whnf
    refine ⟨by kernel_rfl, ?_⟩
    conv => whnf
    refine ⟨by kernel_rfl, ?_⟩
    conv => whnf
    exact ⟨rfl, rfl⟩
  | say a b k g =>
    obtain ⟨gi, g1, g2, g3⟩ := g
    unfold Cl.d Cl.who Cl.non Cl.sg Cl.isS Sg.d
    simp only
    generalize dgs g1 = gA at *
    generalize dgs g2 = gB at *
    generalize dgs g3 = gC at *
    refine callR_of (R := R1) cx_ok Tryd.func10 (by kernel_rfl) rfl ?_
    conv => whnf
    refine ⟨by kernel_rfl, ?_⟩
    conv => whnf
    refine ⟨by kernel_rfl, ?_⟩
    conv => whnf
    exact ⟨rfl, rfl⟩
  | tell a b k g =>
    obtain ⟨gi, g1, g2, g3⟩ := g
    unfold Cl.d Cl.who Cl.non Cl.sg Cl.isS Sg.d
    simp only
    generalize dgs g1 = gA at *
    generalize dgs g2 = gB at *
    generalize dgs g3 = gC at *
    refine callR_of (R := R1) cx_ok Tryd.func10 (by kernel_rfl) rfl ?_
    conv => whnf
    refine ⟨by kernel_rfl, ?_⟩
    conv => whnf
    refine ⟨by kernel_rfl, ?_⟩
    conv => whnf
    exact ⟨rfl, rfl⟩
  | submit u =>
    refine callR_of (R := R1) cx_ok Tryd.func10 (by kernel_rfl) rfl ?_
    conv => whnf
    exact ⟨rfl, rfl⟩
  | improp u c =>
    refine callR_of (R := R1) cx_ok Tryd.func10 (by kernel_rfl) rfl ?_
    conv => whnf
    exact ⟨rfl, rfl⟩
  | double u v c =>
    refine callR_of (R := R1) cx_ok Tryd.func10 (by kernel_rfl) rfl ?_
    conv => whnf
    exact ⟨rfl, rfl⟩
  | accept u =>
    refine callR_of (R := R1) cx_ok Tryd.func10 (by kernel_rfl) rfl ?_
    conv => whnf
    exact ⟨rfl, rfl⟩
  | doubled u v =>
    refine callR_of (R := R1) cx_ok Tryd.func10 (by kernel_rfl) rfl ?_
    conv => whnf
    exact ⟨rfl, rfl⟩
  | halt s =>
    refine callR_of (R := R1) cx_ok Tryd.func10 (by kernel_rfl) rfl ?_
    conv => whnf
    exact ⟨rfl, rfl⟩
  | prove l i br =>
    refine callR_of (R := R1) cx_ok Tryd.func10 (by kernel_rfl) rfl ?_
    conv => whnf
    exact ⟨rfl, rfl⟩
  | process l =>
    refine callR_of (R := R1) cx_ok Tryd.func10 (by kernel_rfl) rfl ?_
    conv => whnf
    exact ⟨rfl, rfl⟩
  | no =>
    refine callR_of (R := R1) cx_ok Tryd.func10 (by kernel_rfl) rfl ?_
    conv => whnf
    exact ⟨rfl, rfl⟩
  | word =>
    refine callR_of (R := R1) cx_ok Tryd.func10 (by kernel_rfl) rfl ?_
    conv => whnf
    exact ⟨rfl, rfl⟩

noncomputable instance decLe : DecidableEq Le := fun a b => Classical.propDecidable _

noncomputable instance decCl : DecidableEq Cl := fun a b => Classical.propDecidable _

end Go.Proofs.YtghblnkplfajjaaDoor

/- The document's Same: lists of digests, signatures, updates, stops, letters, fields (printed by gen/cref.py). -/
set_option linter.unusedVariables false
namespace Go.Proofs.YtghblnkplfajjaaDoor
open Go.Ab Go.RowKit

theorem bytes_inj_D {a b : ByteArray} (h : D.bytes a = D.bytes b) : a = b := by
  apply ba_ext
  unfold D.bytes at h
  have q : ∀ {l m : List UInt8}, l.map (fun b => D.int .u8 b.toNat) = m.map (fun b => D.int .u8 b.toNat) → l = m := by
    intro l
    induction l with
    | nil => intro m h; cases m with | nil => rfl | cons _ _ => cases h
    | cons x l ih =>
      intro m h
      cases m with
      | nil => cases h
      | cons y m =>
        simp only [List.map_cons, List.cons.injEq, D.int.injEq, true_and, Int.ofNat_inj] at h
        rw [UInt8.toNat_inj.1 h.1, ih h.2]
  exact q h

theorem dgD_inj {a b : ByteArray} : dgD a = dgD b ↔ a = b := by
  constructor
  · intro h
    unfold dgD at h
    injection h with _ _ h
    exact bytes_inj_D h
  · rintro rfl; rfl

theorem sideD {a b : ByteArray} (ha : a.size = 32) (hb : b.size = 32) : ∃ T : Ty, T.fitE cx.tt 23 = true ∧ Nat.blt T.depth 9999 = true ∧ T.is (dgD a) ∧ T.is (dgD b) := by
  have q : ∀ {a : ByteArray}, a.size = 32 → (Ty.arr 32 1 (.int .u8)).is (dgD a) := fun {a} h =>
    ⟨_, rfl, by rw [bytes_length]; exact h, fun y hy => by unfold D.bytes at hy; obtain ⟨b, _, rfl⟩ := List.mem_map.1 hy; exact ⟨_, rfl⟩⟩
  exact ⟨.arr 32 1 (.int .u8), by kernel_rfl, by kernel_rfl, q ha, q hb⟩

noncomputable instance decSg : DecidableEq Sg := fun a b => Classical.propDecidable _
noncomputable instance decUp : DecidableEq Up := fun a b => Classical.propDecidable _
noncomputable instance decSp : DecidableEq Sp := fun a b => Classical.propDecidable _
noncomputable instance decFd : DecidableEq Fd := fun a b => Classical.propDecidable _

def Fd.fit (f : Fd) : Prop := f.sig.fit ∧ f.u.fit ∧ f.v.fit ∧ f.stop.fit ∧ f.leaf.size = 32 ∧ dgF f.br

theorem z32_size : z32.size = 32 := by decide
theorem sg0_fit : sg0.fit := ⟨by decide, ⟨by decide, by simp [sg0]⟩, ⟨by decide, by simp [sg0]⟩, ⟨by decide, by simp [sg0]⟩⟩
end Go.Proofs.YtghblnkplfajjaaDoor

/- sha-256, in plain Lean; words of 32 bits as the logic's numbers. -/
set_option linter.unusedVariables false
namespace Go.Proofs.YtghblnkplfajjaaDoor
open Go.Ab

abbrev W32 := BitVec 32
def wi (x : W32) : Int := (x.toNat : Int)
abbrev wD (x : W32) : D := .int .u32 (wi x)
abbrev w32 (x : W32) : AV := .d (wD x)
def rotr (x : W32) (k : Nat) : W32 := x >>> k ||| x <<< (32 - k)

theorem wrap_lt {n : Nat} (h : n < 4294967296) : IntKind.u32.wrap (n : Int) = (n : Int) := by rw [IntKind.wrap_u32]; omega
theorem ofInt_wi (x : W32) : BitVec.ofInt IntKind.u32.bits (wi x) = x := by
  show BitVec.ofInt 32 (x.toNat : Int) = x
  simp
theorem w_add (x y : W32) : IntKind.u32.wrap (wi x + wi y) = wi (x + y) := by
  unfold wi
  rw [IntKind.wrap_u32, BitVec.toNat_add]
  omega
theorem w_back (x : W32) : IntKind.u32.wrap ((BitVec.toNat (w := IntKind.u32.bits) x : Nat) : Int) = wi x := wrap_lt x.isLt
theorem w_xor (x y : W32) : IntKind.u32.wrap ((BitVec.ofInt IntKind.u32.bits (wi x) ^^^ BitVec.ofInt IntKind.u32.bits (wi y)).toNat : Nat) = wi (x ^^^ y) := by
  rw [ofInt_wi, ofInt_wi]; exact w_back _
theorem w_and (x y : W32) : IntKind.u32.wrap ((BitVec.ofInt IntKind.u32.bits (wi x) &&& BitVec.ofInt IntKind.u32.bits (wi y)).toNat : Nat) = wi (x &&& y) := by
  rw [ofInt_wi, ofInt_wi]; exact w_back _
theorem w_or (x y : W32) : IntKind.u32.wrap ((BitVec.ofInt IntKind.u32.bits (wi x) ||| BitVec.ofInt IntKind.u32.bits (wi y)).toNat : Nat) = wi (x ||| y) := by
  rw [ofInt_wi, ofInt_wi]; exact w_back _
theorem w_xorF (x : W32) : IntKind.u32.wrap ((BitVec.ofInt IntKind.u32.bits 4294967295 ^^^ BitVec.ofInt IntKind.u32.bits (wi x)).toNat : Nat) = wi (~~~x) := by
  rw [ofInt_wi]
  have : (~~~x : W32) = BitVec.ofInt 32 4294967295 ^^^ x := by
    rw [BitVec.xor_comm, ← BitVec.xor_allOnes]
    rfl
  rw [this]
  exact w_back _
theorem w_not (x : W32) : IntKind.u32.wrap ((BitVec.ofInt IntKind.u32.bits (if IntKind.u32.signed then -1 else IntKind.u32.max) ^^^ BitVec.ofInt IntKind.u32.bits (wi x)).toNat : Nat) = wi (~~~x) := w_xorF x
theorem pow2 (k : Nat) : (2 : Int) ^ k = ((2 ^ k : Nat) : Int) := by rw [Int.natCast_pow]; rfl
theorem w_shr (x : W32) {k : Nat} (hk : k ≤ 32) : (wi x).fdiv ((2 : Int) ^ min ((k : Nat) : Int).toNat IntKind.u32.bits) = wi (x >>> k) := by
  unfold wi
  rw [Int.toNat_natCast, Nat.min_eq_left (show k ≤ IntKind.u32.bits from hk), BitVec.toNat_ushiftRight, Nat.shiftRight_eq_div_pow, pow2, Int.fdiv_eq_ediv_of_nonneg _ (Int.natCast_nonneg _), Int.natCast_ediv]
theorem w_shl (x : W32) {k : Nat} (hk : k ≤ 32) : IntKind.u32.wrap (wi x * (2 : Int) ^ min ((k : Nat) : Int).toNat IntKind.u32.bits) = wi (x <<< k) := by
  unfold wi
  rw [Int.toNat_natCast, Nat.min_eq_left (show k ≤ IntKind.u32.bits from hk), BitVec.toNat_shiftLeft, Nat.shiftLeft_eq, IntKind.wrap_u32, pow2, ← Int.natCast_mul, Int.natCast_emod]
  rfl
theorem w_shlI (x : W32) {m : Int} {k : Nat} (hm : m.toNat = k) (hk : k ≤ 32) : IntKind.u32.wrap (wi x * (2 : Int) ^ min m.toNat IntKind.u32.bits) = wi (x <<< k) := by
  have := w_shl x hk
  rw [Int.toNat_natCast] at this
  rw [hm]; exact this
theorem w_shrI (x : W32) {m : Int} {k : Nat} (hm : m.toNat = k) (hk : k ≤ 32) : (wi x).fdiv ((2 : Int) ^ min m.toNat IntKind.u32.bits) = wi (x >>> k) := by
  have := w_shr x hk
  rw [Int.toNat_natCast] at this
  rw [hm]; exact this
theorem rotl_rotr (x : W32) (k : Nat) : x <<< (32 - k) ||| x >>> k = rotr x k := BitVec.or_comm _ _

/-- math/bits.RotateLeft32 by less than nothing. -/
theorem rot_c {x : W32} {n : Int} {k : Nat} (hk : 0 < k ∧ k < 32) (h1 : IntKind.u64.wrap ((BitVec.ofInt IntKind.u64.bits (IntKind.u64.wrap n) &&& BitVec.ofInt IntKind.u64.bits 31).toNat : Nat) = ((32 - k : Nat) : Int)) :
    CallR cx 64 [w32 x, i64 n] [] fun r S => r = w32 (rotr x k) ∧ S = [] := by
  refine callR_of (R := R1) cx_ok Tryd.func64 (by kernel_rfl) rfl ?_
  conv => whnf
  rw [h1]
  refine ⟨by omega, ?_⟩
  conv => whnf
  have h2 : IntKind.u64.wrap (32 - ((32 - k : Nat) : Int)) = ((k : Nat) : Int) := by rw [IntKind.wrap_u64]; omega
  rw [h2, w_shl x (by omega)]
  refine ⟨by omega, ?_⟩
  conv => whnf
  rw [w_shr x (by omega)]
  refine ⟨?_, rfl⟩
  exact congrArg (fun z => AV.d (.int .u32 z)) ((w_or _ _).trans (congrArg wi (rotl_rotr x k)))

end Go.Proofs.YtghblnkplfajjaaDoor

/- sha-256's schedule, in plain Lean; the program's. -/
set_option linter.unusedVariables false
namespace Go.Proofs.YtghblnkplfajjaaDoor
open Go.Ab

def sgA (x : W32) : W32 := rotr x 7 ^^^ rotr x 18 ^^^ x >>> 3
def sgB (x : W32) : W32 := rotr x 17 ^^^ rotr x 19 ^^^ x >>> 10
def nextW (b : Nat → W32) (l : List W32) (j : Nat) : W32 := if j < 16 then b j else l.getD (j - 16) 0 + sgA (l.getD (j - 15) 0) + l.getD (j - 7) 0 + sgB (l.getD (j - 2) 0)
def sched (b : Nat → W32) : Nat → List W32
  | 0 => []
  | j + 1 => sched b j ++ [nextW b (sched b j) j]
theorem sched_len (b : Nat → W32) : ∀ n, (sched b n).length = n
  | 0 => rfl
  | n + 1 => by rw [sched, List.length_append, sched_len b n]; rfl

/-- A text's byte. -/
def bt (s : ByteArray) (k : Nat) : Nat := (s.data.toList.getD k 0).toNat
theorem bt_lt (s : ByteArray) (k : Nat) : bt s k < 256 := (s.data.toList.getD k 0).toNat_lt
def wordB (s : ByteArray) (j : Nat) : W32 := BitVec.ofNat 32 (bt s (4 * j) * 16777216 + bt s (4 * j + 1) * 65536 + bt s (4 * j + 2) * 256 + bt s (4 * j + 3))

theorem bt_ext (s : ByteArray) (a b k : Nat) (h : a + k < b) (hb : b ≤ s.size) : bt (s.extract a b) k = bt s (a + k) := by
  unfold bt
  rw [ByteArray.data_extract, Array.toList_extract, List.extract_eq_take_drop, List.getD_eq_getElem?_getD, List.getD_eq_getElem?_getD, List.getElem?_take_of_lt (by omega), List.getElem?_drop]
theorem byteAt_bt (s : ByteArray) (k : Nat) : byteAt s k = ((bt s k : Nat) : Int) := rfl

/-- Words, and nothing behind them. -/
def arrW (n : Nat) (l : List W32) : List D := l.map wD ++ List.replicate (n - l.length) (.int .u32 0)
theorem arrW_get {n : Nat} {l : List W32} {i : Nat} (h : i < l.length) : (arrW n l).getD i .nilP = wD (l.getD i 0) := by
  unfold arrW
  rw [List.getD_eq_getElem?_getD, List.getElem?_append_left (by rw [List.length_map]; exact h), List.getElem?_map, List.getElem?_eq_getElem h, List.getD_eq_getElem?_getD, List.getElem?_eq_getElem h]
  rfl
theorem arrW_set {n : Nat} {l : List W32} {x : W32} (h : l.length < n) : (arrW n l).set l.length (wD x) = arrW n (l ++ [x]) := by
  unfold arrW
  rw [List.set_append_right _ _ (by rw [List.length_map]; exact Nat.le_refl _), List.length_map, Nat.sub_self, List.map_append, List.length_append, List.append_assoc]
  congr 1
  rw [show n - l.length = (n - (l.length + 1)) + 1 by omega, List.replicate_succ]
  rfl
theorem word_or (a b c d : Nat) (ha : a < 256) (hb : b < 256) (hc : c < 256) (hd : d < 256) :
    (BitVec.ofNat 32 a <<< 24 ||| BitVec.ofNat 32 b <<< 16 ||| BitVec.ofNat 32 c <<< 8 ||| BitVec.ofNat 32 d) = BitVec.ofNat 32 (a * 16777216 + b * 65536 + c * 256 + d) := by
  apply BitVec.eq_of_toNat_eq
  simp only [BitVec.toNat_or, BitVec.toNat_shiftLeft, BitVec.toNat_ofNat, Nat.shiftLeft_eq]
  rw [Nat.mod_eq_of_lt (a := a) (by omega), Nat.mod_eq_of_lt (a := b) (by omega), Nat.mod_eq_of_lt (a := c) (by omega), Nat.mod_eq_of_lt (a := d) (by omega)]
  rw [Nat.mod_eq_of_lt (a := a * 2 ^ 24) (by omega), Nat.mod_eq_of_lt (a := b * 2 ^ 16) (by omega), Nat.mod_eq_of_lt (a := c * 2 ^ 8) (by omega), Nat.mod_eq_of_lt (by omega)]
  have h1 : a * 2 ^ 24 ||| b * 2 ^ 16 = a * 2 ^ 24 + b * 2 ^ 16 := by
    rw [Nat.mul_comm a, ← Nat.two_pow_add_eq_or_of_lt (by omega)]
  have h2 : (a * 2 ^ 24 + b * 2 ^ 16) ||| c * 2 ^ 8 = a * 2 ^ 24 + b * 2 ^ 16 + c * 2 ^ 8 := by
    rw [show a * 2 ^ 24 + b * 2 ^ 16 = 2 ^ 16 * (a * 256 + b) by omega, ← Nat.two_pow_add_eq_or_of_lt (by omega)]
  have h3 : (a * 2 ^ 24 + b * 2 ^ 16 + c * 2 ^ 8) ||| d = a * 2 ^ 24 + b * 2 ^ 16 + c * 2 ^ 8 + d := by
    rw [show a * 2 ^ 24 + b * 2 ^ 16 + c * 2 ^ 8 = 2 ^ 8 * (a * 65536 + b * 256 + c) by omega, ← Nat.two_pow_add_eq_or_of_lt (by omega)]
  rw [h1, h2, h3]
theorem w_of {n : Nat} (h : n < 256) : IntKind.u32.wrap ((n : Nat) : Int) = wi (BitVec.ofNat 32 n) := by
  unfold wi
  rw [wrap_lt (by omega), BitVec.toNat_ofNat, Nat.mod_eq_of_lt (by omega)]

theorem setP_int {n j : Nat} {k : IntKind} {a b : Int} {xs : List D} (h : xs.getD j .nilP = .int k a) : (AV.d (.arr n 1 xs)).setP ([] ++ [.ix j 1 n]) (.d (.int k b)) = some (.d (.arr n 1 (xs.set j (.int k b)))) := by
  simp only [List.nil_append, AV.setP, AV.getS, D.getS, Nat.beq_refl, Bool.and_true, h, AV.sizeR_eq, beqR_eq, AV.size, D.size, AV.isAgg, D.isAgg, AV.setS, beq_self_eq_true]
theorem tiu : ({ k := TK.int IntKind.u32, size := 1, bytes := 4, zero := some (D.int IntKind.u32 0), eq := true, cmp := true } : TI).size = 1 := rfl
theorem arrW_new {n : Nat} {l : List W32} (h : l.length < n) : (arrW n l).getD l.length .nilP = .int .u32 0 := by
  unfold arrW
  rw [List.getD_eq_getElem?_getD, List.getElem?_append_right (by rw [List.length_map]; exact Nat.le_refl _), List.length_map, Nat.sub_self, List.getElem?_replicate, if_pos (by omega)]
  rfl

theorem psched_c {s : ByteArray} (hs : s.size = 64) : CallR cx 63 [st s] [] fun r S => r = .d (.arr 64 1 (arrW 64 (sched (wordB s) 64))) ∧ S = [] := by
  refine callR_of (R := R1) cx_ok Tryd.func63 (by kernel_rfl) rfl ?_
  conv => whnf
  refine .inl ⟨fun p L S => ∃ j : Nat, j ≤ 64 ∧ p = 64 - j ∧
      L = [(0, st s), (2, .ptr 0 []), (3, .ptr 1 []), (10, i64 (j : Int))] ∧ S = [.var (.d (.arr 64 1 (List.replicate 64 (.int .u32 0)))), .var (.d (.arr 64 1 (arrW 64 (sched (wordB s) j))))],
    ⟨_, _, ⟨0, Nat.zero_le _, rfl, rfl, rfl⟩, ⟨rfl, rfl, rfl, rfl, trivial⟩⟩, ?_⟩
  rintro p _ _ ⟨j, hj, rfl, rfl, rfl⟩
  have hlen := sched_len (wordB s) j
  generalize hl : sched (wordB s) j = l at hlen
  conv => whnf
  refine brec (fun g => ?_) (fun g => ?_)
  · have g := of_decide_eq_true g
    have hlt : j < 64 := by omega
    have e3 : IntKind.i64.wrap ((j : Int) + 1) = ((j + 1 : Nat) : Int) := by rw [w64 (by omega)]; omega
    have e4 : IntKind.i64.wrap (4 * (j : Int)) = ((4 * j : Nat) : Int) := by rw [w64 (by omega)]; omega
    have e44 : IntKind.i64.wrap (((4 * j : Nat) : Int) + 4) = ((4 * j + 4 : Nat) : Int) := by rw [w64 (by omega)]; omega
    conv => whnf
    refine brec (fun q => ?_) (fun q => ?_)
    · have q := of_decide_eq_true q
      conv => whnf
      rw [e4, e44]
      refine ⟨⟨by omega, by omega, by omega⟩, ?_⟩
      conv => whnf
      refine ⟨by kernel_rfl, ?_⟩
      conv => whnf
      rw [Int.toNat_natCast, Int.toNat_natCast]
      have hX1 : (s.extract (4 * j) (4 * j + 4)).size = 4 := by rw [ByteArray.size_extract]; omega
      have hX2 : ∀ k, k < 4 → bt (s.extract (4 * j) (4 * j + 4)) k = bt s (4 * j + k) := fun k hk => bt_ext s _ _ k (by omega) (by omega)
      generalize s.extract (4 * j) (4 * j + 4) = X at hX1 hX2
      refine ⟨⟨by decide, by omega⟩, ?_⟩
      conv => whnf
      refine ⟨by decide, ?_⟩
      conv => whnf
      refine ⟨⟨by decide, by omega⟩, ?_⟩
      conv => whnf
      refine ⟨by decide, ?_⟩
      conv => whnf
      refine ⟨⟨by decide, by omega⟩, ?_⟩
      conv => whnf
      refine ⟨by decide, ?_⟩
      conv => whnf
      refine ⟨⟨by decide, by omega⟩, ?_⟩
      conv => whnf
      refine ⟨⟨by omega, by omega⟩, ?_⟩
      conv => whnf
      rw [Int.toNat_natCast, tiu, setP_int (a := 0) (by rw [← hlen]; exact arrW_new (by omega))]
      conv => whnf
      refine ⟨by kernel_rfl, ?_⟩
      conv => whnf
      have hb : ∀ (k : Nat), k < 4 → IntKind.u32.wrap (byteAt X k) = wi (BitVec.ofNat 32 (bt s (4 * j + k))) := fun k hk => by
        rw [byteAt_bt, hX2 k hk]; exact w_of (bt_lt _ _)
      refine ⟨_, _, 2, (by omega : 64 - (j + 1) < 64 - j), ⟨j + 1, by omega, rfl, rfl, ?_⟩, ⟨rfl, rfl, rfl, congrArg (fun z => some (i64 z)) e3, trivial⟩, rfl⟩
      rw [sched, hl, ← arrW_set (by omega), hlen]
      refine congrArg (fun z => [Blk.var (.d (.arr 64 1 (List.replicate 64 (.int .u32 0)))), Blk.var (.d (.arr 64 1 ((arrW 64 l).set j (.int .u32 z))))]) ?_
      rw [show Int.toNat 0 = 0 from rfl, show Int.toNat 1 = 1 from rfl, show Int.toNat 2 = 2 from rfl, show Int.toNat 3 = 3 from rfl, hb 0 (by decide), hb 1 (by decide), hb 2 (by decide), hb 3 (by decide)]
      rw [w_shlI _ (m := 24) (k := 24) rfl (by decide), w_shlI _ (m := 16) (k := 16) rfl (by decide), w_shlI _ (m := 8) (k := 8) rfl (by decide), w_or, w_or, w_or, word_or _ _ _ _ (bt_lt _ _) (bt_lt _ _) (bt_lt _ _) (bt_lt _ _)]
      unfold nextW
      rw [if_pos (by omega)]
      rfl
    · have q := of_decide_eq_false q
      have hj16 : 16 ≤ j := by omega
      have e15 : IntKind.i64.wrap ((j : Int) - 15) = ((j - 15 : Nat) : Int) := by rw [w64 (by omega)]; omega
      have e02 : IntKind.i64.wrap ((j : Int) - 2) = ((j - 2 : Nat) : Int) := by rw [w64 (by omega)]; omega
      have e16 : IntKind.i64.wrap ((j : Int) - 16) = ((j - 16 : Nat) : Int) := by rw [w64 (by omega)]; omega
      have e07 : IntKind.i64.wrap ((j : Int) - 7) = ((j - 7 : Nat) : Int) := by rw [w64 (by omega)]; omega
      have hn : nextW (wordB s) l j = l.getD (j - 16) 0 + sgA (l.getD (j - 15) 0) + l.getD (j - 7) 0 + sgB (l.getD (j - 2) 0) := by unfold nextW; rw [if_neg (by omega)]
      have g15 := arrW_get (n := 64) (l := l) (i := j - 15) (by omega)
      have g02 := arrW_get (n := 64) (l := l) (i := j - 2) (by omega)
      have g16 := arrW_get (n := 64) (l := l) (i := j - 16) (by omega)
      have g07 := arrW_get (n := 64) (l := l) (i := j - 7) (by omega)
      unfold sgA sgB at hn
      generalize l.getD (j - 15) 0 = x15 at *
      generalize l.getD (j - 2) 0 = x02 at *
      generalize l.getD (j - 16) 0 = x16 at *
      generalize l.getD (j - 7) 0 = x07 at *
      conv => whnf
      refine ⟨by kernel_rfl, ?_⟩
      conv => whnf
      rw [e15]
      refine ⟨⟨by omega, by omega⟩, ?_⟩
      conv => whnf
      rw [Int.toNat_natCast, g15]
      conv => whnf
      rw [e02]
      refine ⟨⟨by omega, by omega⟩, ?_⟩
      conv => whnf
      rw [Int.toNat_natCast, g02]
      conv => whnf
      refine ⟨by kernel_rfl, ?_⟩
      conv => whnf
      refine ⟨_, rot_c (x := x15) (k := 7) (by decide) (by decide), ?_⟩
      rintro _ _ ⟨rfl, rfl⟩
      conv => whnf
      refine ⟨_, rot_c (x := x15) (k := 18) (by decide) (by decide), ?_⟩
      rintro _ _ ⟨rfl, rfl⟩
      conv => whnf
      refine ⟨by decide, ?_⟩
      conv => whnf
      refine ⟨_, rot_c (x := x02) (k := 17) (by decide) (by decide), ?_⟩
      rintro _ _ ⟨rfl, rfl⟩
      conv => whnf
      refine ⟨_, rot_c (x := x02) (k := 19) (by decide) (by decide), ?_⟩
      rintro _ _ ⟨rfl, rfl⟩
      conv => whnf
      refine ⟨by decide, ?_⟩
      conv => whnf
      refine ⟨by kernel_rfl, ?_⟩
      conv => whnf
      rw [e16]
      refine ⟨⟨by omega, by omega⟩, ?_⟩
      conv => whnf
      rw [Int.toNat_natCast, g16]
      conv => whnf
      rw [e07]
      refine ⟨⟨by omega, by omega⟩, ?_⟩
      conv => whnf
      rw [Int.toNat_natCast, g07]
      conv => whnf
      refine ⟨⟨by omega, by omega⟩, ?_⟩
      conv => whnf
      rw [Int.toNat_natCast, tiu, setP_int (a := 0) (by rw [← hlen]; exact arrW_new (by omega))]
      conv => whnf
      refine ⟨by kernel_rfl, ?_⟩
      conv => whnf
      refine ⟨_, _, 2, (by omega : 64 - (j + 1) < 64 - j), ⟨j + 1, by omega, rfl, rfl, ?_⟩, ⟨rfl, rfl, rfl, congrArg (fun z => some (i64 z)) e3, trivial⟩, rfl⟩
      rw [sched, hl, ← arrW_set (by omega), hlen, hn]
      refine congrArg (fun z => [Blk.var (.d (.arr 64 1 (List.replicate 64 (.int .u32 0)))), Blk.var (.d (.arr 64 1 ((arrW 64 l).set j (.int .u32 z))))]) ?_
      rw [w_xor, w_shrI _ (m := 3) (k := 3) rfl (by decide), w_xor, w_xor, w_shrI _ (m := 10) (k := 10) rfl (by decide), w_xor, w_add, w_add, w_add]
  · have g := of_decide_eq_false g
    obtain rfl : j = 64 := by omega
    subst hl
    conv => whnf
    exact ⟨rfl, rfl⟩
end Go.Proofs.YtghblnkplfajjaaDoor

/- sha-256's rounds, in plain Lean; the program's. -/
set_option linter.unusedVariables false
namespace Go.Proofs.YtghblnkplfajjaaDoor
open Go.Ab

structure H8 where
  a : W32
  b : W32
  c : W32
  d : W32
  e : W32
  f : W32
  g : W32
  h : W32
def H8.l (s : H8) : List D := [wD s.a, wD s.b, wD s.c, wD s.d, wD s.e, wD s.f, wD s.g, wD s.h]
abbrev H8.D (s : H8) : D := .arr 8 1 s.l
def rndT (s : H8) (k w : W32) : W32 := s.h + (rotr s.e 6 ^^^ rotr s.e 11 ^^^ rotr s.e 25) + ((s.e &&& s.f) ^^^ (~~~s.e &&& s.g)) + k + w
def rndQ (s : H8) : W32 := rotr s.a 2 ^^^ rotr s.a 13 ^^^ rotr s.a 22
def rndM (s : H8) : W32 := (s.a &&& s.b) ^^^ (s.a &&& s.c) ^^^ (s.b &&& s.c)
def rnd (s : H8) (k w : W32) : H8 := ⟨rndT s k w + rndQ s + rndM s, s.a, s.b, s.c, s.d + rndT s k w, s.e, s.f, s.g⟩
def rounds (K W : Nat → W32) : Nat → H8 → H8
  | 0, s => s
  | i + 1, s => rnd (rounds K W i s) (K i) (W i)
def coW (i : Nat) : W32 := BitVec.ofInt 32 (coL.getD i 0)
def H8.add (r h : H8) : H8 := ⟨r.a + h.a, r.b + h.b, r.c + h.c, r.d + h.d, r.e + h.e, r.f + h.f, r.g + h.g, r.h + h.h⟩
def blockP (h : H8) (s : ByteArray) : H8 := (rounds coW (fun i => (sched (wordB s) 64).getD i 0) 64 h).add h

theorem co_wi : ∀ i : Fin 64, wi (coW i.val) = coL.getD i.val 0 := by decide +kernel
theorem co_get {i : Nat} (h : i < 64) : (coL.map fun z => D.int .u32 z).getD i .nilP = wD (coW i) := by
  have := co_wi ⟨i, h⟩
  have hl : coL.length = 64 := by decide
  rw [List.getD_eq_getElem?_getD, List.getElem?_map, List.getElem?_eq_getElem (by omega)]
  simp only at this
  rw [List.getD_eq_getElem?_getD, List.getElem?_eq_getElem (by omega)] at this
  show D.int .u32 _ = D.int .u32 _
  rw [this]
  rfl

/-- The first words with others added. -/
def addL (r h : H8) (j : Nat) : List D :=
  [wD (bif Nat.blt 0 j then r.a + h.a else r.a), wD (bif Nat.blt 1 j then r.b + h.b else r.b), wD (bif Nat.blt 2 j then r.c + h.c else r.c), wD (bif Nat.blt 3 j then r.d + h.d else r.d),
   wD (bif Nat.blt 4 j then r.e + h.e else r.e), wD (bif Nat.blt 5 j then r.f + h.f else r.f), wD (bif Nat.blt 6 j then r.g + h.g else r.g), wD (bif Nat.blt 7 j then r.h + h.h else r.h)]

theorem pblock_c {h : H8} {s : ByteArray} (hs : s.size = 64) : CallR cx 60 [.d h.D, st s] [] fun r S => r = .d (blockP h s).D ∧ S = [] := by
  have sc := psched_c hs
  have wl := sched_len (wordB s) 64
  unfold blockP
  generalize sched (wordB s) 64 = W at *
  obtain ⟨a0, b0, c0, d0, e0, f0, g0, k0⟩ := h
  refine callR_of (R := R1) cx_ok Tryd.func60 (by kernel_rfl) rfl ?_
  conv => whnf
  refine brF (by rw [hs]; rfl) ?_
  conv => whnf
  refine ⟨_, sc, ?_⟩
  rintro _ _ ⟨rfl, rfl⟩
  conv => whnf
  refine .inl ⟨fun p L S => ∃ (j : Nat) (r : H8), j ≤ 64 ∧ p = 64 - j ∧ r = rounds coW (fun i => W.getD i 0) j ⟨a0, b0, c0, d0, e0, f0, g0, k0⟩ ∧
      L = [(2, .ptr 0 []), (4, .ptr 1 []), (5, .ptr 2 []), (6, .ptr 3 []), (23, i64 (j : Int))] ∧ S = [.var (.d (H8.mk a0 b0 c0 d0 e0 f0 g0 k0).D), .var (.d (.arr 8 1 (List.replicate 8 (.int .u32 0)))), .var (.d (.arr 64 1 (arrW 64 W))), .var (.d r.D)],
    ⟨_, _, ⟨0, _, Nat.zero_le _, rfl, rfl, rfl, rfl⟩, ⟨rfl, rfl, rfl, rfl, rfl, trivial⟩⟩, ?_⟩
  rintro p _ _ ⟨j, r, hj, rfl, hr, rfl, rfl⟩
  conv => whnf
  refine brec (fun q => ?_) (fun q => ?_)
  · have q := of_decide_eq_true q
    have hlt : j < 64 := by omega
    have e3 : IntKind.i64.wrap ((j : Int) + 1) = ((j + 1 : Nat) : Int) := by rw [w64 (by omega)]; omega
    have gw := arrW_get (n := 64) (l := W) (i := j) (by omega)
    have gc := co_get hlt
    have hr1 : rounds coW (fun i => W.getD i 0) (j + 1) ⟨a0, b0, c0, d0, e0, f0, g0, k0⟩ = rnd r (coW j) (W.getD j 0) := by rw [hr]; rfl
    generalize W.getD j 0 = w at *
    generalize coW j = kk at *
    obtain ⟨a, b, c, d, e, f, g, k⟩ := r
    conv => whnf
    refine ⟨by kernel_rfl, ?_⟩
    conv => whnf
    refine ⟨by decide, ?_⟩
    conv => whnf
    refine ⟨by decide, ?_⟩
    conv => whnf
    refine ⟨by kernel_rfl, ?_⟩
    conv => whnf
    refine ⟨_, rot_c (x := e) (k := 6) (by decide) (by decide), ?_⟩
    rintro _ _ ⟨rfl, rfl⟩
    conv => whnf
    refine ⟨_, rot_c (x := e) (k := 11) (by decide) (by decide), ?_⟩
    rintro _ _ ⟨rfl, rfl⟩
    conv => whnf
    refine ⟨_, rot_c (x := e) (k := 25) (by decide) (by decide), ?_⟩
    rintro _ _ ⟨rfl, rfl⟩
    conv => whnf
    rw [w_xor, w_xor]
    refine ⟨by decide, ?_⟩
    conv => whnf
    refine ⟨by decide, ?_⟩
    conv => whnf
    rw [w_and, w_not, w_and, w_xor]
    refine ⟨by kernel_rfl, ?_⟩
    conv => whnf
    refine ⟨by decide, ?_⟩
    conv => whnf
    refine ⟨⟨by omega, by omega⟩, ?_⟩
    conv => whnf
    rw [Int.toNat_natCast, gc]
    conv => whnf
    refine ⟨⟨by omega, by omega⟩, ?_⟩
    conv => whnf
    rw [Int.toNat_natCast, gw]
    conv => whnf
    rw [w_add, w_add, w_add, w_add]
    refine ⟨by kernel_rfl, ?_⟩
    conv => whnf
    refine ⟨_, rot_c (x := a) (k := 2) (by decide) (by decide), ?_⟩
    rintro _ _ ⟨rfl, rfl⟩
    conv => whnf
    refine ⟨_, rot_c (x := a) (k := 13) (by decide) (by decide), ?_⟩
    rintro _ _ ⟨rfl, rfl⟩
    conv => whnf
    refine ⟨_, rot_c (x := a) (k := 22) (by decide) (by decide), ?_⟩
    rintro _ _ ⟨rfl, rfl⟩
    conv => whnf
    rw [w_xor, w_xor]
    refine ⟨by decide, ?_⟩
    conv => whnf
    refine ⟨by decide, ?_⟩
    conv => whnf
    refine ⟨by decide, ?_⟩
    conv => whnf
    refine ⟨by decide, ?_⟩
    conv => whnf
    rw [w_and, w_and, w_xor, w_and, w_xor]
    refine ⟨by kernel_rfl, ?_⟩
    conv => whnf
    refine ⟨by decide, ?_⟩
    conv => whnf
    refine ⟨by decide, ?_⟩
    conv => whnf
    refine ⟨(by decide : 7 ≤ 8), ?_⟩
    conv => whnf
    refine ⟨by kernel_rfl, ?_⟩
    conv => whnf
    refine ⟨by decide, ?_⟩
    conv => whnf
    rw [w_add]
    refine ⟨by decide, ?_⟩
    conv => whnf
    rw [w_add, w_add]
    refine ⟨by decide, ?_⟩
    conv => whnf
    refine ⟨_, _, 4, (by omega : 64 - (j + 1) < 64 - j), ⟨j + 1, _, by omega, rfl, hr1.symm, rfl, rfl⟩, ⟨rfl, rfl, rfl, rfl, congrArg (fun z => some (i64 z)) e3, trivial⟩, rfl⟩
  · have q := of_decide_eq_false q
    obtain rfl : j = 64 := by omega
    rw [← hr]
    clear hr
    obtain ⟨a, b, c, d, e, f, g, k⟩ := r
    conv => whnf
    refine .inl ⟨fun p L S => ∃ (j : Nat), j ≤ 8 ∧ p = 8 - j ∧
        L = [(2, .ptr 0 []), (4, .ptr 1 []), (6, .ptr 3 []), (100, i64 (j : Int))] ∧ S = [.var (.d (H8.mk a0 b0 c0 d0 e0 f0 g0 k0).D), .var (.d (.arr 8 1 (List.replicate 8 (.int .u32 0)))), .var (.d (.arr 64 1 (arrW 64 W))), .var (.d (.arr 8 1 (addL ⟨a, b, c, d, e, f, g, k⟩ ⟨a0, b0, c0, d0, e0, f0, g0, k0⟩ j)))],
      ⟨_, _, ⟨0, Nat.zero_le _, rfl, rfl, rfl⟩, ⟨rfl, rfl, rfl, rfl, trivial⟩⟩, ?_⟩
    rintro p _ _ ⟨j, hj, rfl, rfl, rfl⟩
    conv => whnf
    refine brec (fun q => ?_) (fun q => ?_)
    · have q := of_decide_eq_true q
      have h8 : j = 0 ∨ j = 1 ∨ j = 2 ∨ j = 3 ∨ j = 4 ∨ j = 5 ∨ j = 6 ∨ j = 7 := by omega
      rcases h8 with rfl | rfl | rfl | rfl | rfl | rfl | rfl | rfl
      · conv => whnf
        refine ⟨by kernel_rfl, ?_⟩
        conv => whnf
        refine ⟨by decide, ?_⟩
        conv => whnf
        refine ⟨by decide, ?_⟩
        conv => whnf
        refine ⟨by decide, ?_⟩
        conv => whnf
        refine ⟨by kernel_rfl, ?_⟩
        conv => whnf
        rw [w_add]
        exact ⟨_, _, 4, (by decide : 7 - 0 < 8 - 0), ⟨1, by decide, rfl, rfl, rfl⟩, ⟨rfl, rfl, rfl, rfl, trivial⟩, rfl⟩
      · conv => whnf
        refine ⟨by kernel_rfl, ?_⟩
        conv => whnf
        refine ⟨by decide, ?_⟩
        conv => whnf
        refine ⟨by decide, ?_⟩
        conv => whnf
        refine ⟨by decide, ?_⟩
        conv => whnf
        refine ⟨by kernel_rfl, ?_⟩
        conv => whnf
        rw [w_add]
        exact ⟨_, _, 4, (by decide : 7 - 1 < 8 - 1), ⟨2, by decide, rfl, rfl, rfl⟩, ⟨rfl, rfl, rfl, rfl, trivial⟩, rfl⟩
      · conv => whnf
        refine ⟨by kernel_rfl, ?_⟩
        conv => whnf
        refine ⟨by decide, ?_⟩
        conv => whnf
        refine ⟨by decide, ?_⟩
        conv => whnf
        refine ⟨by decide, ?_⟩
        conv => whnf
        refine ⟨by kernel_rfl, ?_⟩
        conv => whnf
        rw [w_add]
        exact ⟨_, _, 4, (by decide : 7 - 2 < 8 - 2), ⟨3, by decide, rfl, rfl, rfl⟩, ⟨rfl, rfl, rfl, rfl, trivial⟩, rfl⟩
      · conv => whnf
        refine ⟨by kernel_rfl, ?_⟩
        conv => whnf
        refine ⟨by decide, ?_⟩
        conv => whnf
        refine ⟨by decide, ?_⟩
        conv => whnf
        refine ⟨by decide, ?_⟩
        conv => whnf
        refine ⟨by kernel_rfl, ?_⟩
        conv => whnf
        rw [w_add]
        exact ⟨_, _, 4, (by decide : 7 - 3 < 8 - 3), ⟨4, by decide, rfl, rfl, rfl⟩, ⟨rfl, rfl, rfl, rfl, trivial⟩, rfl⟩
      · conv => whnf
        refine ⟨by kernel_rfl, ?_⟩
        conv => whnf
        refine ⟨by decide, ?_⟩
        conv => whnf
        refine ⟨by decide, ?_⟩
        conv => whnf
        refine ⟨by decide, ?_⟩
        conv => whnf
        refine ⟨by kernel_rfl, ?_⟩
        conv => whnf
        rw [w_add]
        exact ⟨_, _, 4, (by decide : 7 - 4 < 8 - 4), ⟨5, by decide, rfl, rfl, rfl⟩, ⟨rfl, rfl, rfl, rfl, trivial⟩, rfl⟩
      · conv => whnf
        refine ⟨by kernel_rfl, ?_⟩
        conv => whnf
        refine ⟨by decide, ?_⟩
        conv => whnf
        refine ⟨by decide, ?_⟩
        conv => whnf
        refine ⟨by decide, ?_⟩
        conv => whnf
        refine ⟨by kernel_rfl, ?_⟩
        conv => whnf
        rw [w_add]
        exact ⟨_, _, 4, (by decide : 7 - 5 < 8 - 5), ⟨6, by decide, rfl, rfl, rfl⟩, ⟨rfl, rfl, rfl, rfl, trivial⟩, rfl⟩
      · conv => whnf
        refine ⟨by kernel_rfl, ?_⟩
        conv => whnf
        refine ⟨by decide, ?_⟩
        conv => whnf
        refine ⟨by decide, ?_⟩
        conv => whnf
        refine ⟨by decide, ?_⟩
        conv => whnf
        refine ⟨by kernel_rfl, ?_⟩
        conv => whnf
        rw [w_add]
        exact ⟨_, _, 4, (by decide : 7 - 6 < 8 - 6), ⟨7, by decide, rfl, rfl, rfl⟩, ⟨rfl, rfl, rfl, rfl, trivial⟩, rfl⟩
      · conv => whnf
        refine ⟨by kernel_rfl, ?_⟩
        conv => whnf
        refine ⟨by decide, ?_⟩
        conv => whnf
        refine ⟨by decide, ?_⟩
        conv => whnf
        refine ⟨by decide, ?_⟩
        conv => whnf
        refine ⟨by kernel_rfl, ?_⟩
        conv => whnf
        rw [w_add]
        exact ⟨_, _, 4, (by decide : 7 - 7 < 8 - 7), ⟨8, by decide, rfl, rfl, rfl⟩, ⟨rfl, rfl, rfl, rfl, trivial⟩, rfl⟩
    · have q := of_decide_eq_false q
      obtain rfl : j = 8 := by omega
      conv => whnf
      exact ⟨rfl, rfl⟩
end Go.Proofs.YtghblnkplfajjaaDoor

/- sha-256's block by the document. -/
set_option linter.unusedVariables false
namespace Go.Proofs.YtghblnkplfajjaaDoor
open Go.Ab

theorem tiu8 : ({ k := TK.int IntKind.u8, size := 1, bytes := 1, zero := some (D.int IntKind.u8 0), eq := true, cmp := true } : TI).size = 1 := rfl

end Go.Proofs.YtghblnkplfajjaaDoor

/- sha-256 over texts: whole blocks. -/
set_option linter.unusedVariables false
namespace Go.Proofs.YtghblnkplfajjaaDoor
open Go.Ab

def afterN : Nat → H8 → ByteArray → H8 × ByteArray
  | 0, h, s => (h, s)
  | n + 1, h, s => if 64 ≤ s.size then afterN n (blockP h (s.extract 0 64)) (s.extract 64 s.size) else (h, s)
def afterP (h : H8) (s : ByteArray) : H8 × ByteArray := afterN s.size h s

theorem afterN_step {n : Nat} {h : H8} {s : ByteArray} (hn : s.size ≤ n) (h64 : 64 ≤ s.size) : ∃ m, (s.extract 64 s.size).size ≤ m ∧ afterN n h s = afterN m (blockP h (s.extract 0 64)) (s.extract 64 s.size) := by
  cases n with
  | zero => omega
  | succ m => exact ⟨m, by rw [ByteArray.size_extract]; omega, by rw [afterN, if_pos h64]⟩
theorem afterN_end {n : Nat} {h : H8} {s : ByteArray} (h64 : ¬ 64 ≤ s.size) : afterN n h s = (h, s) := by
  cases n with
  | zero => rfl
  | succ m => rw [afterN, if_neg h64]

abbrev stD (h : H8) (r : ByteArray) (c : Nat) : D := .agg [h.D, .str r, .int .u64 (c : Int)]

theorem padd_c {h : H8} {r t : ByteArray} {c : Nat} (hsz : r.size + t.size ≤ 1000000) :
    CallR cx 55 [.d (stD h r c), st t] [] fun v S => v = .d (stD (afterP h (r ++ t)).1 (afterP h (r ++ t)).2 ((c + t.size) % 18446744073709551616)) ∧ S = [] := by
  have ec : IntKind.u64.wrap ((c : Int) + IntKind.u64.wrap (t.size : Int)) = (((c + t.size) % 18446744073709551616 : Nat) : Int) := by
    simp only [IntKind.wrap_u64]; omega
  have hrt : (r ++ t).size ≤ 1000000 := by rw [ByteArray.size_append]; exact hsz
  obtain ⟨a0, b0, c0, d0, e0, f0, g0, k0⟩ := h
  refine callR_of (R := R1) cx_ok Tryd.func55 (by kernel_rfl) rfl ?_
  conv => whnf
  refine ⟨by omega, ?_⟩
  conv => whnf
  rw [ec]
  generalize (c + t.size) % 18446744073709551616 = cc
  refine .inl ⟨fun p L S => ∃ (n : Nat) (q : H8) (s : ByteArray), s.size ≤ n ∧ s.size ≤ 1000000 ∧ p = s.size ∧ afterN n q s = afterP ⟨a0, b0, c0, d0, e0, f0, g0, k0⟩ (r ++ t) ∧
      L = [(2, .ptr 0 []), (4, .ptr 1 []), (5, st s)] ∧ S = [.var (.d (stD q r cc)), .var (.d (stD ⟨0, 0, 0, 0, 0, 0, 0, 0⟩ .empty 0))],
    ⟨_, _, ⟨(r ++ t).size, _, r ++ t, Nat.le_refl _, hrt, rfl, rfl, rfl, rfl⟩, ⟨rfl, rfl, rfl, trivial⟩⟩, ?_⟩
  rintro p _ _ ⟨n, ⟨a, b, c, d, e, f, g, k⟩, s, hn, hs, rfl, hA, rfl, rfl⟩
  conv => whnf
  refine brec (fun q => ?_) (fun q => ?_)
  · have q := of_decide_eq_true q
    have h64 : 64 ≤ s.size := by omega
    conv => whnf
    refine ⟨by kernel_rfl, ?_⟩
    conv => whnf
    refine ⟨⟨by omega, by omega, by omega⟩, ?_⟩
    conv => whnf
    have hx0 : (s.extract 0 64).size = 64 := by rw [ByteArray.size_extract]; omega
    have hx1 : (s.extract 64 s.size).size = s.size - 64 := by rw [ByteArray.size_extract]; omega
    obtain ⟨m, hm1, hm2⟩ := afterN_step (h := ⟨a, b, c, d, e, f, g, k⟩) hn h64
    have bl := pblock_c (h := ⟨a, b, c, d, e, f, g, k⟩) hx0
    generalize blockP ⟨a, b, c, d, e, f, g, k⟩ (s.extract 0 64) = B at *
    obtain ⟨a', b', c', d', e', f', g', k'⟩ := B
    refine ⟨_, bl, ?_⟩
    conv => whnf
    refine ⟨by kernel_rfl, ?_⟩
    conv => whnf
    refine ⟨⟨by omega, by omega, by omega⟩, ?_⟩
    conv => whnf
    exact ⟨_, _, 2, (by omega : (s.extract 64 s.size).size < s.size), ⟨m, ⟨a', b', c', d', e', f', g', k'⟩, s.extract 64 s.size, hm1, by omega, rfl, hm2.symm.trans hA, rfl, rfl⟩, ⟨rfl, rfl, rfl, trivial⟩, rfl⟩
  · have q := of_decide_eq_false q
    have h64 : ¬ 64 ≤ s.size := by omega
    rw [afterN_end h64] at hA
    rw [← hA]
    conv => whnf
    exact ⟨rfl, rfl⟩

end Go.Proofs.YtghblnkplfajjaaDoor

/- sha-256's end, in plain Lean; the document's. -/
set_option linter.unusedVariables false
namespace Go.Proofs.YtghblnkplfajjaaDoor
open Go.Ab

def H8.w (s : H8) : Nat → W32
  | 0 => s.a
  | 1 => s.b
  | 2 => s.c
  | 3 => s.d
  | 4 => s.e
  | 5 => s.f
  | 6 => s.g
  | _ => s.h
theorem H8.l_get {s : H8} {i : Nat} (h : i < 8) : s.l.getD i .nilP = wD (s.w i) := by
  have h8 : i = 0 ∨ i = 1 ∨ i = 2 ∨ i = 3 ∨ i = 4 ∨ i = 5 ∨ i = 6 ∨ i = 7 := by omega
  rcases h8 with rfl | rfl | rfl | rfl | rfl | rfl | rfl | rfl <;> rfl

/-- Bytes, and nothing behind them. -/
def arrB (n : Nat) (l : List UInt8) : List D := (l.map fun b => D.int .u8 (b.toNat : Int)) ++ List.replicate (n - l.length) (.int .u8 0)
theorem arrB_set {n : Nat} {l : List UInt8} {x : UInt8} (h : l.length < n) : (arrB n l).set l.length (.int .u8 (x.toNat : Int)) = arrB n (l ++ [x]) := by
  unfold arrB
  rw [List.set_append_right _ _ (by rw [List.length_map]; exact Nat.le_refl _), List.length_map, Nat.sub_self, List.map_append, List.length_append, List.append_assoc]
  congr 1
  rw [show n - l.length = (n - (l.length + 1)) + 1 by omega, List.replicate_succ]
  rfl
theorem arrB_new {n : Nat} {l : List UInt8} (h : l.length < n) : (arrB n l).getD l.length .nilP = .int .u8 0 := by
  unfold arrB
  rw [List.getD_eq_getElem?_getD, List.getElem?_append_right (by rw [List.length_map]; exact Nat.le_refl _), List.length_map, Nat.sub_self, List.getElem?_replicate, if_pos (by omega)]
  rfl
theorem arrB_full {n : Nat} {l : List UInt8} (h : l.length = n) : arrB n l = D.bytes ⟨l.toArray⟩ := by
  unfold arrB D.bytes
  rw [h, Nat.sub_self]
  simp

/-- The first values of a function. -/
def upto (f : Nat → UInt8) : Nat → List UInt8
  | 0 => []
  | n + 1 => upto f n ++ [f n]
theorem upto_len (f : Nat → UInt8) : ∀ n, (upto f n).length = n
  | 0 => rfl
  | n + 1 => by rw [upto, List.length_append, upto_len f n]; rfl

def beB (n i : Nat) : UInt8 := UInt8.ofNat (n / 2 ^ (56 - 8 * i))
def dgBs (h : H8) (i : Nat) : UInt8 := UInt8.ofNat ((h.w (i / 4)).toNat / 2 ^ (24 - 8 * (i % 4)))
def ofL8 (l : List UInt8) : ByteArray := ⟨l.toArray⟩
def digP (h : H8) : ByteArray := ofL8 (upto (dgBs h) 32)
def zeros (k : Nat) : List UInt8 := List.replicate k 0
def padL (r : Nat) (c : Nat) : List UInt8 := 128 :: (zeros ((119 - r % 64) % 64) ++ upto (beB (8 * c % 18446744073709551616)) 8)
def endP (h : H8) (r : ByteArray) (c : Nat) : ByteArray := digP (afterP h (r ++ ofL8 (padL r.size c))).1

theorem digP_size (h : H8) : (digP h).size = 32 := by
  show (upto (dgBs h) 32).toArray.size = 32
  rw [List.size_toArray, upto_len]

theorem fdiv_pow (n k : Nat) : ((n : Nat) : Int).fdiv ((2 : Int) ^ k) = ((n / 2 ^ k : Nat) : Int) := by
  rw [pow2, Int.fdiv_eq_ediv_of_nonneg _ (Int.natCast_nonneg _), Int.natCast_ediv]
theorem u8w_of (n : Nat) : IntKind.u8.wrap (n : Int) = ((UInt8.ofNat n).toNat : Int) := by
  rw [IntKind.wrap_u8, UInt8.toNat_ofNat']; omega
theorem beV (n i : Nat) (hi : i < 8) : IntKind.u8.wrap (((n : Nat) : Int).fdiv ((2 : Int) ^ min (((56 - 8 * i : Nat) : Int)).toNat IntKind.u64.bits)) = ((beB n i).toNat : Int) := by
  rw [Int.toNat_natCast, Nat.min_eq_left (show 56 - 8 * i ≤ IntKind.u64.bits by show _ ≤ 64; omega), fdiv_pow]
  exact u8w_of _
theorem dgV (h : H8) (i : Nat) : IntKind.u8.wrap ((wi (h.w (i / 4))).fdiv ((2 : Int) ^ min (((24 - 8 * (i % 4) : Nat) : Int)).toNat IntKind.u32.bits)) = ((dgBs h i).toNat : Int) := by
  unfold wi
  rw [Int.toNat_natCast, Nat.min_eq_left (show 24 - 8 * (i % 4) ≤ IntKind.u32.bits by show _ ≤ 32; omega), fdiv_pow]
  exact u8w_of _

theorem ofL8_size (l : List UInt8) : (ofL8 l).size = l.length := by simp [ofL8, ByteArray.size]
theorem bytes_app (a b : ByteArray) : D.bytes (a ++ b) = D.bytes a ++ D.bytes b := by simp [D.bytes]

end Go.Proofs.YtghblnkplfajjaaDoor

/- strings.Repeat of a zero byte, off the library's shelf. -/
set_option linter.unusedVariables false
namespace Go.Proofs.YtghblnkplfajjaaDoor
open Go.Shelf Go.RowKit Go.Lib Go.Ab

def renlaysRep : Go.Shelf.Ren := ⟨fun | 99 => 66 | 105 => 61 | 165 => 67 | 166 => 50 | 169 => 31 | 170 => 68 | 206 => 71 | 212 => 65 | 240 => 46 | 241 => 72 | 263 => 69 | 264 => 70 | 276 => 57 | 277 => 73 | n => n, fun | 0 => 0 | 3 => 3 | 4 => 4 | 5 => 5 | 9 => 9 | 20 => 20 | 37 => 84 | 46 => 157 | 51 => 26 | 53 => 24 | 70 => 83 | 72 => 86 | 75 => 88 | 76 => 89 | 80 => 91 | 109 => 158 | 127 => 127 | 146 => 163 | 148 => 165 | 164 => 146 | n => n, fun | n => n⟩
theorem laysRep : Lays.n105 Tryd.prog renlaysRep := {
  mixed := by kernel_rfl
  f99 := Tryd.func66.trans (congrArg some (by kernel_rfl))
  f105 := Tryd.func61.trans (congrArg some (by kernel_rfl))
  f165 := Tryd.func67.trans (congrArg some (by kernel_rfl))
  f166 := Tryd.func50.trans (congrArg some (by kernel_rfl))
  f169 := Tryd.func31.trans (congrArg some (by kernel_rfl))
  f170 := Tryd.func68.trans (congrArg some (by kernel_rfl))
  f206 := Tryd.func71.trans (congrArg some (by kernel_rfl))
  f212 := Tryd.func65.trans (congrArg some (by kernel_rfl))
  f240 := Tryd.func46.trans (congrArg some (by kernel_rfl))
  f241 := Tryd.func72.trans (congrArg some (by kernel_rfl))
  f263 := Tryd.func69.trans (congrArg some (by kernel_rfl))
  f264 := Tryd.func70.trans (congrArg some (by kernel_rfl))
  f276 := Tryd.func57.trans (congrArg some (by kernel_rfl))
  f277 := Tryd.func73.trans (congrArg some (by kernel_rfl))
  t0 := Tryd.underlying0
  a0 := Tryd.isAgg0
  z0 := Tryd.sizeOf0
  v0 := Tryd.zeroValue0
  t3 := Tryd.underlying3
  a3 := Tryd.isAgg3
  z3 := Tryd.sizeOf3
  v3 := Tryd.zeroValue3
  t4 := Tryd.underlying4
  a4 := Tryd.isAgg4
  z4 := Tryd.sizeOf4
  v4 := Tryd.zeroValue4
  t5 := Tryd.underlying5
  a5 := Tryd.isAgg5
  z5 := Tryd.sizeOf5
  v5 := Tryd.zeroValue5
  t9 := Tryd.underlying9
  a9 := Tryd.isAgg9
  z9 := Tryd.sizeOf9
  v9 := Tryd.zeroValue9
  t20 := Tryd.underlying20
  a20 := Tryd.isAgg20
  z20 := Tryd.sizeOf20
  v20 := Tryd.zeroValue20
  t37 := Tryd.underlying84
  a37 := Tryd.isAgg84
  z37 := Tryd.sizeOf84
  v37 := Tryd.zeroValue84
  t46 := Tryd.underlying157
  a46 := Tryd.isAgg157
  z46 := Tryd.sizeOf157
  v46 := Tryd.zeroValue157
  t51 := Tryd.underlying26
  a51 := Tryd.isAgg26
  z51 := Tryd.sizeOf26
  v51 := Tryd.zeroValue26
  t53 := Tryd.underlying24
  a53 := Tryd.isAgg24
  z53 := Tryd.sizeOf24
  v53 := Tryd.zeroValue24
  t70 := Tryd.underlying83
  a70 := Tryd.isAgg83
  z70 := Tryd.sizeOf83
  v70 := Tryd.zeroValue83
  t72 := Tryd.underlying86
  a72 := Tryd.isAgg86
  z72 := Tryd.sizeOf86
  v72 := Tryd.zeroValue86
  t75 := Tryd.underlying88
  a75 := Tryd.isAgg88
  z75 := Tryd.sizeOf88
  v75 := Tryd.zeroValue88
  t76 := Tryd.underlying89
  a76 := Tryd.isAgg89
  z76 := Tryd.sizeOf89
  v76 := Tryd.zeroValue89
  t109 := Tryd.underlying158
  a109 := Tryd.isAgg158
  z109 := Tryd.sizeOf158
  v109 := Tryd.zeroValue158
  t127 := Tryd.underlying127
  a127 := Tryd.isAgg127
  z127 := Tryd.sizeOf127
  v127 := Tryd.zeroValue127
  t146 := Tryd.underlying163
  a146 := Tryd.isAgg163
  z146 := Tryd.sizeOf163
  v146 := Tryd.zeroValue163
  t148 := Tryd.underlying165
  a148 := Tryd.isAgg165
  z148 := Tryd.sizeOf165
  v148 := Tryd.zeroValue165
  t164 := Tryd.underlying146
  a164 := Tryd.isAgg146
  z164 := Tryd.sizeOf146
  v164 := Tryd.zeroValue146 }

theorem extraRep : Builder.Extra Tryd.prog renlaysRep := {
  sizeBuilder := by kernel_rfl
  liesBuilder := by kernel_rfl
  t5 := Tryd.underlying5
  a5 := Tryd.isAgg5
  z5 := Tryd.sizeOf5
  v5 := Tryd.zeroValue5
  infoByte := by kernel_rfl
  cellsByte := by kernel_rfl
  sizeByte := by kernel_rfl
  neB5 := by decide }

theorem rep_zero : ∀ k, Lib.repeatL [0] k = zeros k
  | 0 => rfl
  | k + 1 => by rw [Lib.repeatL, rep_zero k]; rfl

theorem St.below {B : Base} {S μ G w} (st : St B S μ G w) {w' : World} (hb : RowKit.Below w.heap.size w w') : St B S μ G w' :=
  st.quiet ⟨hb.os, hb.tape, hb.output, hb.size, fun k hk _ => hb.block k hk⟩

theorem repeat_c {k : Nat} (hk : k ≤ 1000) : CallR cx 61 [st ⟨#[0]⟩, i64 ((k : Nat) : Int)] [] fun r S => r = st (ofL8 (zeros k)) ∧ S = [] := by
  refine callR_raw (c := cx) Tryd.func61 (by kernel_rfl) rfl fun μ G w vals st0 hv => ?_
  cases hv with
  | cons h1 h2 =>
  cases h2 with
  | cons h2 h3 =>
  cases h3
  obtain rfl := (VA.d_iff.1 h1).str_inv
  obtain rfl := (VA.d_iff.1 h2).int_inv
  have fin : ∀ (b : ByteArray) (w' : World), b = ofL8 (zeros k) → Below w.heap.size w w' → ∃ v r S' μ' G', Ending.returned (Value.string b) = .returned v ∧ (r = st (ofL8 (zeros k)) ∧ S' = []) ∧ St (base cx [] μ G w) S' μ' G' w' ∧ RA μ' S'.length w' G' r v := by
    rintro b w' rfl hb
    exact ⟨_, st (ofL8 (zeros k)), [], μ, G, rfl, ⟨rfl, rfl⟩, St.below st0 hb, VA.d_iff.2 ⟨.str .nil, rfl⟩⟩
  have hz : (⟨(Lib.repeatL (⟨#[0]⟩ : ByteArray).data.toList k).toArray⟩ : ByteArray) = ofL8 (zeros k) := by
    show (⟨(Lib.repeatL [0] k).toArray⟩ : ByteArray) = _
    rw [rep_zero]; rfl
  match k, hk with
  | 0, _ =>
    refine (Any.strings_Repeat_zero laysRep ⟨#[0]⟩ w).mono ?_
    rintro e w' ⟨rfl, rfl⟩
    exact fin _ _ rfl (Below.refl _ _)
  | 1, _ =>
    refine (Any.strings_Repeat_one laysRep ⟨#[0]⟩ w).mono ?_
    rintro e w' ⟨rfl, rfl⟩
    exact fin _ _ rfl (Below.refl _ _)
  | k + 2, hk =>
    refine (Any.strings_Repeat_main laysRep extraRep ⟨#[0]⟩ (k + 2) w (by omega) (by omega) (by show 1 * (k + 2) ≤ _; omega) (by decide)).mono ?_
    rintro e w' ⟨rfl, hb⟩
    exact fin _ _ hz hb
end Go.Proofs.YtghblnkplfajjaaDoor

/- sha-256's end by the program; sums. -/
set_option linter.unusedVariables false
namespace Go.Proofs.YtghblnkplfajjaaDoor
open Go.Ab

theorem pend_sha {h : H8} {r : ByteArray} {c : Nat} (hc : c < 18446744073709551616) (hr : r.size ≤ 100000) :
    CallR cx 56 [.d (stD h r c)] [] fun v S => v = .d (dgD (endP h r c)) ∧ S = [] := by
  have e8 : IntKind.u64.wrap (8 * ((c : Nat) : Int)) = ((8 * c % 18446744073709551616 : Nat) : Int) := by rw [IntKind.wrap_u64]; omega
  have hpl : (padL r.size c).length ≤ 100 := by
    unfold padL zeros
    rw [List.length_cons, List.length_append, List.length_replicate, upto_len]; omega
  have pa := padd_c (h := h) (r := r) (t := ofL8 (padL r.size c)) (c := c) (by rw [ofL8_size]; omega)
  unfold endP
  generalize (afterP h (r ++ ofL8 (padL r.size c))).2 = rest at pa
  generalize (afterP h (r ++ ofL8 (padL r.size c))).1 = Q at *
  generalize (c + (ofL8 (padL r.size c)).size) % 18446744073709551616 = c2 at pa
  unfold padL at pa hpl
  generalize 8 * c % 18446744073709551616 = N at *
  have eZ : IntKind.i64.wrap (119 - ((r.size : Nat) : Int).tmod 64) = ((119 - r.size % 64 : Nat) : Int) := by
    rw [Int.tmod_eq_emod_of_nonneg (by omega), w64 (by omega)]; omega
  have eZ2 : ((119 - r.size % 64 : Nat) : Int).tmod 64 = (((119 - r.size % 64) % 64 : Nat) : Int) := by
    rw [Int.tmod_eq_emod_of_nonneg (by omega)]; omega
  obtain ⟨Z, hZ⟩ : ∃ Z, Z = (119 - r.size % 64) % 64 := ⟨_, rfl⟩
  rw [← hZ] at pa hpl eZ2
  have rp := repeat_c (k := Z) (by omega)
  obtain ⟨a0, b0, c0, d0, e0, f0, g0, k0⟩ := h
  refine callR_of (R := R1) cx_ok Tryd.func56 (by kernel_rfl) rfl ?_
  conv => whnf
  rw [e8]
  refine ⟨by decide, ?_⟩
  conv => whnf
  rw [eZ]
  refine ⟨by decide, ?_⟩
  conv => whnf
  rw [eZ2]
  refine .inl ⟨fun p L S => ∃ i : Nat, i ≤ 8 ∧ p = 8 - i ∧ L = [(1, .ptr 0 []), (2, .ptr 1 []), (3, u64 ((N : Nat) : Int)), (4, i64 ((Z : Nat) : Int)), (5, .ptr 2 []), (20, i64 (i : Int))] ∧
      S = [.var (.d (stD ⟨a0, b0, c0, d0, e0, f0, g0, k0⟩ r c)), .var (.d (.arr 32 1 (List.replicate 32 (.int .u8 0)))), .var (.d (.arr 8 1 (arrB 8 (upto (beB N) i))))],
    ⟨_, _, ⟨0, Nat.zero_le _, rfl, rfl, rfl⟩, ⟨rfl, rfl, rfl, rfl, rfl, rfl, trivial⟩⟩, ?_⟩
  rintro p _ _ ⟨i, hi, rfl, rfl, rfl⟩
  have hul := upto_len (beB N) i
  conv => whnf
  refine brec (fun q => ?_) (fun q => ?_)
  · have q := of_decide_eq_true q
    have hlt : i < 8 := by omega
    have e3 : IntKind.i64.wrap ((i : Int) + 1) = ((i + 1 : Nat) : Int) := by rw [w64 (by omega)]; omega
    have e4 : IntKind.i64.wrap (56 - IntKind.i64.wrap (8 * (i : Int))) = ((56 - 8 * i : Nat) : Int) := by
      rw [w64 (n := 8 * (i : Int)) (by omega), w64 (by omega)]; omega
    have hN : (arrB 8 (upto (beB N) i)).getD i .nilP = .int .u8 0 := by
      have := arrB_new (n := 8) (l := upto (beB N) i) (by rw [hul]; exact hlt)
      rw [hul] at this; exact this
    have e5 : arrB 8 (upto (beB N) (i + 1)) = (arrB 8 (upto (beB N) i)).set i (.int .u8 ((beB N i).toNat : Int)) := by
      rw [upto, ← arrB_set (by rw [hul]; exact hlt), hul]
    conv => whnf
    rw [e4]
    refine ⟨by omega, ?_⟩
    conv => whnf
    rw [beV N i hlt]
    refine ⟨⟨by omega, by omega⟩, ?_⟩
    conv => whnf
    rw [Int.toNat_natCast, tiu8, setP_int (a := 0) hN]
    conv => whnf
    refine ⟨_, _, 3, (by omega : 8 - (i + 1) < 8 - i), ⟨i + 1, by omega, rfl, rfl, ?_⟩, ⟨rfl, rfl, rfl, rfl, rfl, congrArg (fun z => some (i64 z)) e3, trivial⟩, rfl⟩
    rw [e5]
    rfl
  have q := of_decide_eq_false q
  obtain rfl : i = 8 := by omega
  have e8b : arrB 8 (upto (beB N) 8) = D.bytes (ofL8 (upto (beB N) 8)) := arrB_full hul
  rw [e8b]
  conv => whnf
  refine ⟨by kernel_rfl, ?_⟩
  conv => whnf
  refine ⟨_, rp, ?_⟩
  conv => whnf
  refine ⟨by rw [ofL8_size, zeros, List.length_replicate]; show 1 + Z ≤ _; omega, ?_⟩
  conv => whnf
  refine ⟨by decide, ?_⟩
  conv => whnf
  refine ⟨ofL8 (upto (beB N) 8), ⟨?_, ?_⟩, ?_⟩
  · rw [List.take_of_length_le (by rw [List.length_drop, bytes_length, ofL8_size, upto_len]; decide)]
    rfl
  · rw [ofL8_size, upto_len]; rfl
  conv => whnf
  refine ⟨by rw [ByteArray.size_append, ofL8_size, ofL8_size, zeros, List.length_replicate, upto_len]; show 1 + Z + 8 ≤ _; omega, ?_⟩
  conv => whnf
  have ep : ((⟨#[128]⟩ : ByteArray) ++ ofL8 (zeros Z)) ++ ofL8 (upto (beB N) 8) = ofL8 (128 :: (zeros Z ++ upto (beB N) 8)) := by
    apply ByteArray.ext
    apply Array.toList_inj.1
    simp [ofL8]
  rw [ep]
  refine ⟨_, pa, ?_⟩
  obtain ⟨a1, b1, c1, d1, e1, f1, g1, k1⟩ := Q
  conv => whnf
  refine ⟨by kernel_rfl, ?_⟩
  conv => whnf
  refine .inl ⟨fun p L S => ∃ j : Nat, j ≤ 8 ∧ p = 8 - j ∧ L = [(2, .ptr 1 []), (7, .ptr 3 []), (41, .d (H8.mk a1 b1 c1 d1 e1 f1 g1 k1).D), (42, i64 (j : Int))] ∧
      S = [.var (.d (stD ⟨a1, b1, c1, d1, e1, f1, g1, k1⟩ rest c2)), .var (.d (.arr 32 1 (List.replicate 32 (.int .u8 0)))), .var (.d (.arr 8 1 (D.bytes (ofL8 (upto (beB N) 8))))), .var (.d (.arr 32 1 (arrB 32 (upto (dgBs ⟨a1, b1, c1, d1, e1, f1, g1, k1⟩) (4 * j)))))],
    ⟨_, _, ⟨0, Nat.zero_le _, rfl, rfl, rfl⟩, ⟨rfl, rfl, rfl, rfl, trivial⟩⟩, ?_⟩
  rintro p _ _ ⟨j, hj, rfl, rfl, rfl⟩
  conv => whnf
  refine brec (fun q => ?_) (fun q => ?_)
  · have q := of_decide_eq_true q
    have hlt : j < 8 := by omega
    have e3 : IntKind.i64.wrap ((j : Int) + 1) = ((j + 1 : Nat) : Int) := by rw [w64 (by omega)]; omega
    have gl := H8.l_get (s := ⟨a1, b1, c1, d1, e1, f1, g1, k1⟩) hlt
    conv => whnf
    refine ⟨⟨by omega, by omega⟩, ?_⟩
    conv => whnf
    rw [Int.toNat_natCast, gl]
    refine ⟨rfl, ?_⟩
    conv => whnf
    refine .inl ⟨fun p L S => ∃ k : Nat, k ≤ 4 ∧ p = 4 - k ∧ L = [(2, .ptr 1 []), (7, .ptr 3 []), (8, i64 (j : Int)), (9, w32 (H8.w ⟨a1, b1, c1, d1, e1, f1, g1, k1⟩ j)), (41, .d (H8.mk a1 b1 c1 d1 e1 f1 g1 k1).D), (42, i64 (j : Int)), (46, i64 (k : Int))] ∧
        S = [.var (.d (stD ⟨a1, b1, c1, d1, e1, f1, g1, k1⟩ rest c2)), .var (.d (.arr 32 1 (List.replicate 32 (.int .u8 0)))), .var (.d (.arr 8 1 (D.bytes (ofL8 (upto (beB N) 8))))), .var (.d (.arr 32 1 (arrB 32 (upto (dgBs ⟨a1, b1, c1, d1, e1, f1, g1, k1⟩) (4 * j + k)))))],
      ⟨_, _, ⟨0, Nat.zero_le _, rfl, rfl, rfl⟩, ⟨rfl, rfl, rfl, rfl, rfl, rfl, rfl, trivial⟩⟩, ?_⟩
    rintro p _ _ ⟨k, hk, rfl, rfl, rfl⟩
    have hul := upto_len (dgBs ⟨a1, b1, c1, d1, e1, f1, g1, k1⟩) (4 * j + k)
    conv => whnf
    refine brec (fun q => ?_) (fun q => ?_)
    · have q := of_decide_eq_true q
      have hlk : k < 4 := by omega
      have e3 : IntKind.i64.wrap ((k : Int) + 1) = ((k + 1 : Nat) : Int) := by rw [w64 (by omega)]; omega
      have e4 : IntKind.i64.wrap (IntKind.i64.wrap (4 * (j : Int)) + (k : Int)) = ((4 * j + k : Nat) : Int) := by
        rw [w64 (n := 4 * (j : Int)) (by omega), w64 (by omega)]; omega
      have e24 : IntKind.i64.wrap (24 - IntKind.i64.wrap (8 * (k : Int))) = ((24 - 8 * k : Nat) : Int) := by
        rw [w64 (n := 8 * (k : Int)) (by omega), w64 (by omega)]; omega
      have gv := dgV ⟨a1, b1, c1, d1, e1, f1, g1, k1⟩ (4 * j + k)
      rw [show (4 * j + k) / 4 = j by omega, show (4 * j + k) % 4 = k by omega] at gv
      have hN : (arrB 32 (upto (dgBs ⟨a1, b1, c1, d1, e1, f1, g1, k1⟩) (4 * j + k))).getD (4 * j + k) .nilP = .int .u8 0 := by
        have := arrB_new (n := 32) (l := upto (dgBs ⟨a1, b1, c1, d1, e1, f1, g1, k1⟩) (4 * j + k)) (by rw [hul]; omega)
        rw [hul] at this; exact this
      have e5 : arrB 32 (upto (dgBs ⟨a1, b1, c1, d1, e1, f1, g1, k1⟩) (4 * j + (k + 1))) = (arrB 32 (upto (dgBs ⟨a1, b1, c1, d1, e1, f1, g1, k1⟩) (4 * j + k))).set (4 * j + k) (.int .u8 ((dgBs ⟨a1, b1, c1, d1, e1, f1, g1, k1⟩ (4 * j + k)).toNat : Int)) := by
        rw [← Nat.add_assoc, upto, ← arrB_set (by rw [hul]; omega), hul]
      conv => whnf
      rw [e24]
      refine ⟨by omega, ?_⟩
      conv => whnf
      rw [gv, e4]
      refine ⟨⟨by omega, by omega⟩, ?_⟩
      conv => whnf
      rw [Int.toNat_natCast, tiu8, setP_int (a := 0) hN]
      conv => whnf
      refine ⟨_, _, 4, (by omega : 4 - (k + 1) < 4 - k), ⟨k + 1, by omega, rfl, rfl, ?_⟩, ⟨rfl, rfl, rfl, rfl, rfl, rfl, congrArg (fun z => some (i64 z)) e3, trivial⟩, rfl⟩
      rw [e5]
      rfl
    · have q := of_decide_eq_false q
      obtain rfl : k = 4 := by omega
      conv => whnf
      refine ⟨_, _, 4, (by omega : 8 - (j + 1) < 8 - j), ⟨j + 1, by omega, rfl, rfl, ?_⟩, ⟨rfl, rfl, rfl, congrArg (fun z => some (i64 z)) e3, trivial⟩, rfl⟩
      rw [show 4 * (j + 1) = 4 * j + 4 by omega]
      rfl
  · have q := of_decide_eq_false q
    obtain rfl : j = 8 := by omega
    have ed : dgD (digP ⟨a1, b1, c1, d1, e1, f1, g1, k1⟩) = .arr 32 1 (arrB 32 (upto (dgBs ⟨a1, b1, c1, d1, e1, f1, g1, k1⟩) 32)) := by
      rw [arrB_full (upto_len _ _)]; rfl
    rw [ed]
    conv => whnf
    exact ⟨rfl, rfl⟩
end Go.Proofs.YtghblnkplfajjaaDoor

/- sha-256 of texts: the program's Sum, the document's. -/
set_option linter.unusedVariables false
namespace Go.Proofs.YtghblnkplfajjaaDoor
open Go.Ab

def fw (i : Nat) : W32 := BitVec.ofInt 32 (fiL.getD i 0)
def H0 : H8 := ⟨fw 0, fw 1, fw 2, fw 3, fw 4, fw 5, fw 6, fw 7⟩
/-- sha-256. -/
def shaP (s : ByteArray) : ByteArray := endP (afterP H0 s).1 (afterP H0 s).2 s.size
theorem shaP_size (s : ByteArray) : (shaP s).size = 32 := digP_size _

theorem afterN_size : ∀ (n : Nat) (h : H8) (s : ByteArray), (afterN n h s).2.size ≤ s.size
  | 0, _, _ => Nat.le_refl _
  | n + 1, h, s => by
    rw [afterN]
    split
    · refine Nat.le_trans (afterN_size n _ _) ?_
      rw [ByteArray.size_extract]; omega
    · exact Nat.le_refl _
theorem H0_first : H0.D = .arr 8 1 (fiL.map fun z => .int .u32 z) := by
  have h : ∀ i : Fin 8, wi (fw i.val) = fiL.getD i.val 0 := by decide +kernel
  show D.arr 8 1 [wD (fw 0), wD (fw 1), wD (fw 2), wD (fw 3), wD (fw 4), wD (fw 5), wD (fw 6), wD (fw 7)] = _
  unfold wD
  rw [show wi (fw 0) = _ from h 0, show wi (fw 1) = _ from h 1, show wi (fw 2) = _ from h 2, show wi (fw 3) = _ from h 3, show wi (fw 4) = _ from h 4, show wi (fw 5) = _ from h 5, show wi (fw 6) = _ from h 6, show wi (fw 7) = _ from h 7]
  rfl

theorem begin_c : CallR cx 54 [] [] fun r S => r = .d (stD H0 .empty 0) ∧ S = [] := by
  refine callR_of (R := R1) cx_ok Tryd.func54 (by kernel_rfl) rfl ?_
  conv => whnf
  unfold stD
  rw [H0_first]
  exact ⟨rfl, rfl⟩

def stA (s : ByteArray) : Nat → D
  | 0 => stD H0 .empty 0
  | _ => stD (afterP H0 s).1 (afterP H0 s).2 s.size

theorem psum_sha {s : ByteArray} (hs : s.size ≤ 100000) : CallR cx 43 [.d (.sl 1 [.str s])] [] fun r S => r = .d (dgD (shaP s)) ∧ S = [] := by
  have pa := padd_c (h := H0) (r := .empty) (t := s) (c := 0) (by show 0 + s.size ≤ _; omega)
  rw [ByteArray.empty_append, show (0 + s.size) % 18446744073709551616 = s.size by omega] at pa
  have hz := afterN_size s.size H0 s
  have re := pend_sha (h := (afterP H0 s).1) (r := (afterP H0 s).2) (c := s.size) (by omega) (by unfold afterP; omega)
  unfold shaP
  generalize endP (afterP H0 s).1 (afterP H0 s).2 s.size = E at *
  refine callR_of (R := R1) cx_ok Tryd.func43 (by kernel_rfl) rfl ?_
  conv => whnf
  refine ⟨_, begin_c, ?_⟩
  rintro _ _ ⟨rfl, rfl⟩
  conv => whnf
  refine .inl ⟨fun p L S => ∃ j : Nat, j ≤ 1 ∧ p = 1 - j ∧ L = [(2, .ptr 0 []), (3, .ptr 1 []), (7, .d (.sl 1 [.str s])), (8, i64 1), (9, i64 (j : Int))] ∧
      S = [.var (.d (.arr 32 1 (List.replicate 32 (.int .u8 0)))), .var (.d (stA s j))],
    ⟨_, _, ⟨0, Nat.zero_le _, rfl, rfl, rfl⟩, ⟨rfl, rfl, rfl, rfl, rfl, trivial⟩⟩, ?_⟩
  rintro p _ _ ⟨j, hj, rfl, rfl, rfl⟩
  match j, hj with
  | 0, _ =>
    conv => whnf
    refine ⟨⟨by decide, (by decide : (0 : Int) < 1)⟩, ?_⟩
    conv => whnf
    refine ⟨_, pa, ?_⟩
    rintro _ _ ⟨rfl, rfl⟩
    generalize hq : (afterP H0 s).1 = Q
    obtain ⟨a1, b1, c1, d1, e1, f1, g1, k1⟩ := Q
    conv => whnf
    refine ⟨_, _, 2, (by decide : 1 - 1 < 1 - 0), ⟨1, by decide, rfl, rfl, ?_⟩, ⟨rfl, rfl, rfl, rfl, rfl, trivial⟩, rfl⟩
    unfold stA
    rw [hq]
    rfl
  | 1, _ =>
    unfold stA
    generalize (afterP H0 s).2 = q at *
    generalize (afterP H0 s).1 = Q at *
    obtain ⟨a1, b1, c1, d1, e1, f1, g1, k1⟩ := Q
    conv => whnf
    refine ⟨_, re, ?_⟩
    rintro _ _ ⟨rfl, rfl⟩
    conv => whnf
    exact ⟨rfl, rfl⟩
end Go.Proofs.YtghblnkplfajjaaDoor

/- Inputs and digests (layer 4): the program's, the document's, of two parts. -/
set_option linter.unusedVariables false
namespace Go.Proofs.YtghblnkplfajjaaDoor
open Go.Ab

def one (b : UInt8) : ByteArray := ⟨#[b]⟩
theorem wbyteB_c {s : ByteArray} {b : UInt8} {p : AV} (hp : p = .d .nilP ∨ p = .ptr 0 []) (hb : s.size ≤ 1000000000) : CallR cx 53 [.ptr 0 [], u8 (b.toNat : Int)] (bd p s) fun r S =>
    r = .d .nilI ∧ S = [.tvar 86 (.agg [.ptr 0 [], .row 2]), .sealed (.sl 1 (D.bytes s)), .row 5 1 (D.bytes (s ++ one b))] := by
  have cc := copyCheck_c (p := p) (s := s) hp
  have hl := bytes_length s
  unfold bd at cc ⊢
  rw [bytes_app]
  have e1 : D.bytes (one b) = [.int .u8 (b.toNat : Int)] := rfl
  rw [e1]
  generalize D.bytes s = xs at *
  rcases hp with rfl | rfl <;>
  · refine callR_of (R := R1) cx_ok Tryd.func53 (by kernel_rfl) rfl ?_
    conv => whnf
    refine ⟨_, cc, ?_⟩
    rintro _ _ ⟨rfl, rfl⟩
    conv => whnf
    refine ⟨⟨Nat.succ_pos _, by show (xs.length + 1) * (1 + 1) ≤ _; omega⟩, ?_⟩
    conv => whnf
    exact ⟨rfl, rfl⟩

end Go.Proofs.YtghblnkplfajjaaDoor

/- Digests (layer 4) without a log: the program's Of, the document's. -/
set_option linter.unusedVariables false
namespace Go.Proofs.YtghblnkplfajjaaDoor
open Go.Ab

theorem pnote_nil {x : D} {s : ByteArray} : CallR cx 44 [.d .nilP, .d x, st s] [] fun r S => r = .tup [] ∧ S = [] := by
  refine callR_of (R := R1) cx_ok Tryd.func44 (by kernel_rfl) rfl ?_
  conv => whnf
  exact ⟨rfl, rfl⟩
end Go.Proofs.YtghblnkplfajjaaDoor

/- Digests (layer 4) without a log, of any parts: the program's Of. -/
set_option linter.unusedVariables false
namespace Go.Proofs.YtghblnkplfajjaaDoor
open Go.Ab

/-- An input of a domain and parts. -/
def inL (d : UInt8) (l : List ByteArray) : ByteArray := l.foldl (fun z s => z ++ textB s) (one d)
theorem inL_step (d : UInt8) (l : List ByteArray) (s : ByteArray) : inL d (l ++ [s]) = inL d l ++ textB s := by unfold inL; rw [List.foldl_append]; rfl
theorem inL_take {d : UInt8} {l : List ByteArray} {j : Nat} (h : j < l.length) : inL d (l.take (j + 1)) = inL d (l.take j) ++ textB (l[j]'h) := by
  rw [← inL_step, List.take_add_one, List.getElem?_eq_getElem h]; rfl
theorem fold_le (l : List ByteArray) : ∀ z : ByteArray, z.size ≤ (l.foldl (fun z s => z ++ textB s) z).size := by
  induction l with
  | nil => intro z; exact Nat.le_refl _
  | cons s l ih => intro z; rw [List.foldl_cons]; exact Nat.le_trans (by rw [ByteArray.size_append]; omega) (ih _)
theorem inL_le (d : UInt8) (l : List ByteArray) (j : Nat) : (inL d (l.take j)).size ≤ (inL d l).size := by
  have h : l = l.take j ++ l.drop j := (List.take_append_drop j l).symm
  have e : (inL d l) = (l.drop j).foldl (fun z s => z ++ textB s) (inL d (l.take j)) := by
    unfold inL; rw [← List.foldl_append, ← h]
  rw [e]
  exact fold_le _ _

abbrev strs (l : List ByteArray) : List D := l.map D.str
theorem strs_getD {l : List ByteArray} {j : Nat} (h : j < l.length) : (strs l).getD j .nilP = .str (l[j]'h) := by
  rw [List.getD_eq_getElem?_getD, List.getElem?_map, List.getElem?_eq_getElem h]; rfl

theorem pinputL_c {d : UInt8} {l : List ByteArray} (hl : l.length ≤ 100000) (hz : (inL d l).size ≤ 100000) :
    CallR cx 42 [u8 (d.toNat : Int), .d (.sl 1 (strs l))] [] fun r S => r = st (inL d l) ∧ S = [] := by
  have hlen : (strs l).length = l.length := List.length_map _
  have sc := string_c (p := .ptr 0 []) (s := inL d l) (.inr rfl)
  have hg := fun j h => strs_getD (l := l) (j := j) h
  generalize hX : strs l = X at *
  refine callR_of (R := R1) cx_ok Tryd.func42 (by kernel_rfl) rfl ?_
  conv => whnf
  refine ⟨_, wbyteB_c (s := .empty) (b := d) (.inl rfl) (by decide), ?_⟩
  rintro _ _ ⟨rfl, rfl⟩
  conv => whnf
  rw [hlen]
  have e0 : D.bytes (ByteArray.empty ++ one d) = D.bytes (inL d (l.take 0)) := by rw [ByteArray.empty_append, List.take_zero]; rfl
  refine .inr ⟨fun m L S => ∃ j : Nat, j ≤ l.length ∧ m = l.length - j ∧
      L = [(5, .ptr 1 []), (10, .d (.sl 1 X)), (11, i64 (l.length : Int)), (12, i64 (j : Int))] ∧
      S = [.sealed (.sl 1 (D.bytes .empty)), .tvar 86 (.agg [.ptr 1 [], .row 2]), .row 5 1 (D.bytes (inL d (l.take j)))],
    ⟨_, _, ⟨0, Nat.zero_le _, rfl, rfl, congrArg (fun z => [Blk.sealed (.sl 1 (D.bytes .empty)), .tvar 86 (.agg [.ptr 1 [], .row 2]), .row 5 1 z]) e0⟩, ⟨rfl, rfl, rfl, rfl, trivial⟩⟩, ?_⟩
  rintro _ _ _ ⟨j, hj, rfl, rfl, rfl⟩
  have hle := inL_le d l j
  conv => whnf
  refine brec (fun c => ?_) (fun c => ?_)
  · have hlt : j < l.length := by have := of_decide_eq_true c; omega
    have e3 : IntKind.i64.wrap ((j : Int) + 1) = ((j + 1 : Nat) : Int) := by rw [w64 (by omega)]; omega
    have hle2 := inL_le d l (j + 1)
    have ht := inL_take (d := d) hlt
    have hgj := hg j hlt
    rw [ht, ByteArray.size_append, textB_size] at hle2
    generalize l[j]'hlt = s at *
    generalize inL d (l.take j) = C at *
    have tc := wtext_c (s := s) (by omega)
    have zt := textB_size s
    have wc := writeString_c (p := .ptr 0 []) (s := C) (t := textB s) (.inr rfl) (by omega)
    conv => whnf
    refine ⟨⟨by omega, by rw [hlen]; omega⟩, ?_⟩
    rw [show X.getD ((j : Int)).toNat .nilP = D.str s by rw [Int.toNat_natCast]; exact hgj]
    conv => whnf
    refine ⟨_, tc, ?_⟩
    rintro _ _ ⟨rfl, rfl⟩
    conv => whnf
    refine ⟨_, wc, ?_⟩
    rintro _ _ ⟨rfl, rfl⟩
    conv => whnf
    refine ⟨l.length - (j + 1), [(5, .ptr 1 []), (10, .d (.sl 1 X)), (11, i64 (l.length : Int)), (12, i64 ((j + 1 : Nat) : Int))], [0, 1, 3], by omega, ⟨rfl, rfl, rfl, congrArg (fun z => some (i64 z)) e3, trivial⟩, ?_⟩
    conv => whnf
    exact ⟨j + 1, by omega, rfl, rfl, by rw [ht]⟩
  · have hlt : j = l.length := by have := of_decide_eq_false c; omega
    subst hlt
    rw [List.take_length]
    conv => whnf
    refine ⟨_, sc, ?_⟩
    rintro _ _ ⟨rfl, rfl⟩
    conv => whnf
    exact ⟨rfl, rfl⟩

/-- The digest of a domain and parts. -/
def dgL (d : UInt8) (l : List ByteArray) : ByteArray := shaP (inL d l)
theorem dgL_size (d : UInt8) (l : List ByteArray) : (dgL d l).size = 32 := shaP_size _
theorem pofL_c {d : UInt8} {l : List ByteArray} (hl : l.length ≤ 100000) (hz : (inL d l).size ≤ 100000) :
    CallR cx 26 [.d .nilP, u8 (d.toNat : Int), .d (.sl 1 (strs l))] [] fun r S => r = .d (dgD (dgL d l)) ∧ S = [] := by
  have hi := pinputL_c (d := d) hl hz
  have hs := psum_sha (s := inL d l) hz
  unfold dgL
  generalize inL d l = I at *
  generalize shaP I = H at *
  generalize strs l = X at *
  refine callR_of (R := R1) cx_ok Tryd.func26 (by kernel_rfl) rfl ?_
  conv => whnf
  refine ⟨_, hi, ?_⟩
  rintro _ _ ⟨rfl, rfl⟩
  conv => whnf
  refine ⟨_, hs, ?_⟩
  rintro _ _ ⟨rfl, rfl⟩
  conv => whnf
  refine ⟨_, pnote_nil, ?_⟩
  rintro _ _ ⟨rfl, rfl⟩
  conv => whnf
  exact ⟨rfl, rfl⟩
end Go.Proofs.YtghblnkplfajjaaDoor

/- Calls with another signature; what is signed of them. -/
set_option linter.unusedVariables false
namespace Go.Proofs.YtghblnkplfajjaaDoor
open Go.Ab

def Cl.withS (g : Sg) : Cl → Cl
  | .pay a b n k _ => .pay a b n k g
  | .send a o t b n k _ => .send a o t b n k g
  | .say a b k _ => .say a b k g
  | .tell a b k _ => .tell a b k g
  | c => c

theorem cwith_c {c : Cl} {g : Sg} : CallR cx 19 [.d c.d, .d g.d] [] fun r S => r = .d (c.withS g).d ∧ S = [] := by
  obtain ⟨wi0, w1, w2, w3⟩ := g
  cases c with
  | pay a b n k g =>
    obtain ⟨gi, g1, g2, g3⟩ := g
    refine callR_of (R := R1) cx_ok Tryd.func19 (by kernel_rfl) rfl ?_
    conv => whnf
    exact ⟨rfl, rfl⟩
  | send a o t b n k g =>
    obtain ⟨gi, g1, g2, g3⟩ := g
    refine callR_of (R := R1) cx_ok Tryd.func19 (by kernel_rfl) rfl ?_
    conv => whnf
    exact ⟨rfl, rfl⟩
  | say a b k g =>
    obtain ⟨gi, g1, g2, g3⟩ := g
    refine callR_of (R := R1) cx_ok Tryd.func19 (by kernel_rfl) rfl ?_
    conv => whnf
    exact ⟨rfl, rfl⟩
  | tell a b k g =>
    obtain ⟨gi, g1, g2, g3⟩ := g
    refine callR_of (R := R1) cx_ok Tryd.func19 (by kernel_rfl) rfl ?_
    conv => whnf
    exact ⟨rfl, rfl⟩
  | submit u =>
    refine callR_of (R := R1) cx_ok Tryd.func19 (by kernel_rfl) rfl ?_
    conv => whnf
    exact ⟨rfl, rfl⟩
  | improp u c =>
    refine callR_of (R := R1) cx_ok Tryd.func19 (by kernel_rfl) rfl ?_
    conv => whnf
    exact ⟨rfl, rfl⟩
  | double u v c =>
    refine callR_of (R := R1) cx_ok Tryd.func19 (by kernel_rfl) rfl ?_
    conv => whnf
    exact ⟨rfl, rfl⟩
  | accept u =>
    refine callR_of (R := R1) cx_ok Tryd.func19 (by kernel_rfl) rfl ?_
    conv => whnf
    exact ⟨rfl, rfl⟩
  | doubled u v =>
    refine callR_of (R := R1) cx_ok Tryd.func19 (by kernel_rfl) rfl ?_
    conv => whnf
    exact ⟨rfl, rfl⟩
  | halt s =>
    refine callR_of (R := R1) cx_ok Tryd.func19 (by kernel_rfl) rfl ?_
    conv => whnf
    exact ⟨rfl, rfl⟩
  | prove l i br =>
    refine callR_of (R := R1) cx_ok Tryd.func19 (by kernel_rfl) rfl ?_
    conv => whnf
    exact ⟨rfl, rfl⟩
  | process l =>
    refine callR_of (R := R1) cx_ok Tryd.func19 (by kernel_rfl) rfl ?_
    conv => whnf
    exact ⟨rfl, rfl⟩
  | no =>
    refine callR_of (R := R1) cx_ok Tryd.func19 (by kernel_rfl) rfl ?_
    conv => whnf
    exact ⟨rfl, rfl⟩
  | word =>
    refine callR_of (R := R1) cx_ok Tryd.func19 (by kernel_rfl) rfl ?_
    conv => whnf
    exact ⟨rfl, rfl⟩
end Go.Proofs.YtghblnkplfajjaaDoor
