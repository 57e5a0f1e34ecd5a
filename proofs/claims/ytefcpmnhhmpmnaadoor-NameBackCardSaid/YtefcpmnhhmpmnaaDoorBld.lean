/- strings.Builder: copyCheck, WriteString, WriteByte, Write, String, in the own logic: a builder is a variable that holds its own place and a row of bytes. -/
import Derived.Test.YtefcpmnhhmpmnaaDoorCx
import Derived.Shelf.RegionOpenPlain
import Derived.Lib.Walk
import Derived.Lib.Builder
import Derived.Lib.AppendStr
import Derived.Lib.UnsafeStr
import Derived.WalkKit
import Derived.Laws.Externs
namespace Go.Ab
open Go.RowKit

/-- A live block's own memory turns, but not its cells. -/
theorem St.turn {B S μ G w} (st : St B S μ G w) {w' : World} {n g : Nat} {b : Blk} (hn : S[n]? = some b) (hl : b.live = true) (hg : bid (μ n) = some g) (h : Next w w' (some g))
    (hcell : ∀ o, w'.cell? ⟨g, o, none⟩ = w.cell? ⟨g, o, none⟩) (hb : BlkOk μ S.length w' G (μ n) b) : St B S μ G w' := by
  have hc := h.cells st.gv (G := G) (fun k hk o v _ hv => by cases hk; rw [hcell]; exact hv)
  exact {
    blks := by
      intro i d hd
      by_cases e : i = n
      · subst e; rw [hn] at hd; cases hd; exact hb
      · refine (st.blks i d hd).mono (Nat.le_refl _) (fun _ _ _ => rfl) (fun _ _ h => h) hc (fun hl1 m hm => h.heap m ((st.blks i d hd).bid_lt hl1 m hm) ?_)
        intro e'
        cases e'
        exact st.apart n i b d hn hd hl hl1 (Ne.symm e) g hg hm
    apart := st.apart
    free := st.free
    gv := fun b o hG => Nat.lt_of_lt_of_le (st.gv b o hG) h.size
    k0 := st.k0
    keep := st.keep
    g0 := st.g0
    gn := st.gn
    new := st.new
    os := h.os.trans st.os
    tape := h.tape.trans st.tape
    output := h.output.trans st.output
    size := Nat.le_trans st.size h.size
    fr := by
      intro k hk hx
      refine (h.heap k (Nat.lt_of_lt_of_le hk st.size) ?_).trans (st.fr k hk hx)
      intro e
      cases e
      by_cases hi : n < B.k0
      · exact hx (st.xx hi hn hl hg)
      · rcases st.new n b g (by omega) hn hl hg with h | h
        · omega
        · exact hx h
    lv := st.lv
    glob := fun g x hg => (st.glob g x hg).mono (fun _ _ h => h) hc
    gw := fun b o v h1 h2 => hc b o v (st.g0 b o h1) (st.gw b o v h1 h2) }

theorem VS.ptr0 {μ k w G vals} (h : VS μ k w G [.ptr 0 []] vals) : ∃ b, vals = [.pointer (some ⟨b, 0, none⟩)] ∧ μ 0 = .pointer (some ⟨b, 0, none⟩) := by
  obtain ⟨v, rfl, h1⟩ := VS.one h
  obtain ⟨b, _, h3, _, e⟩ := h1.ptr_inv
  exact ⟨b, by rw [e]; rfl, h3.nil⟩

theorem bytes_append (s t : ByteArray) : D.bytes (s ++ t) = D.bytes s ++ D.bytes t := by
  unfold D.bytes
  rw [ByteArray.data_append, Array.toList_append, List.map_append]

theorem freeze_next (w : World) (g n : Nat) : Next w (w.freeze ⟨g, 0, none⟩ n) (some g) := by
  unfold World.freeze
  split
  · exact ⟨rfl, rfl, rfl, Nat.le_refl _, fun _ _ _ => rfl⟩
  · refine ⟨rfl, rfl, rfl, by simp, fun k hk hne => ?_⟩
    simp only [Array.getElem?_modify]
    rw [if_neg (fun e => hne (by rw [e]))]

theorem freeze_heap {w : World} {g n : Nat} {cur : Array Value} {t : TypeId} {fz : Nat × Nat} (h : w.heap[g]? = some (.cells cur t fz)) :
    ∃ fz' : Nat × Nat, (w.freeze ⟨g, 0, none⟩ n).heap[g]? = some (.cells cur t fz') ∧ (fz.2 ≤ n → fz'.2 ≤ n) := by
  unfold World.freeze
  split
  · exact ⟨fz, h, fun h => h⟩
  · obtain ⟨lo, hi⟩ := fz
    refine ⟨if lo == hi then (0, 0 + n) else (min lo 0, max hi (0 + n)), ?_, ?_⟩
    · simp [Array.getElem?_modify, h]
    · intro hle
      simp only at hle
      split
      · simp
      · simp only [Nat.zero_add]; omega
end Go.Ab
namespace Go.Proofs.YtefcpmnhhmpmnaaDoor
open Go.Ab Go.RowKit

/-- A builder and its bytes. -/
abbrev bd (p : AV) (s : ByteArray) : List Blk := [.tvar 44 (.agg [p, .row 1]), .row 5 1 (D.bytes s)]

set_option maxHeartbeats 1000000 in
set_option maxRecDepth 100000 in
theorem raw_copy_used (b : Nat) (w : World) (h0 : w.cell? ⟨b, 0, none⟩ = some (.pointer (some ⟨b, 0, none⟩))) :
    Calls Tryd.prog 42 #[.pointer (some ⟨b, 0, none⟩)] w fun e w' => e = .returned (.tuple #[]) ∧ w' = w := by
  obtain ⟨j, hj, _⟩ := Option.map_eq_some_iff.1 (show (Tryd.prog.info? 44).map (·.size) = some 2 by kernel_rfl)
  have mixed : Tryd.prog.follows .mixedOrders = true := by kernel_rfl
  have t72 := Tryd.underlying44; have a72 := Tryd.isAgg44; have z72 := Tryd.sizeOf44; have v72 := Tryd.zeroValue44; have u72 := run_underlying t72
  have t70 := Tryd.underlying41; have a70 := Tryd.isAgg41; have z70 := Tryd.sizeOf41; have v70 := Tryd.zeroValue41; have u70 := run_underlying t70
  have t9 := Tryd.underlying9; have a9 := Tryd.isAgg9; have z9 := Tryd.sizeOf9; have v9 := Tryd.zeroValue9; have u9 := run_underlying t9
  have t4 := Tryd.underlying4; have a4 := Tryd.isAgg4; have z4 := Tryd.sizeOf4; have v4 := Tryd.zeroValue4; have u4 := run_underlying t4
  have t164 := Tryd.underlying68; have a164 := Tryd.isAgg68; have z164 := Tryd.sizeOf68; have v164 := Tryd.zeroValue68; have u164 := run_underlying t164
  go_enter Tryd.func42, Tryd.ntmps42
  go_wp2
  rw [Lib.run_neq_ptr_same w _ t70 hj]
  go_wp2
  go_end0
  exact ⟨rfl, rfl⟩

set_option maxHeartbeats 1000000 in
set_option maxRecDepth 100000 in
theorem raw_copy_fresh (b : Nat) (w : World) (h0 : w.cell? ⟨b, 0, none⟩ = some (.pointer none)) (hsh : w.shape? b = some (44, 2)) (hfz : w.frozen? ⟨b, 0, none⟩ = false) :
    Calls Tryd.prog 42 #[.pointer (some ⟨b, 0, none⟩)] w fun e w' => e = .returned (.tuple #[]) ∧ w' = w.setCell ⟨b, 0, none⟩ (.pointer (some ⟨b, 0, none⟩)) := by
  obtain ⟨j, hj, hjs⟩ := Option.map_eq_some_iff.1 (show (Tryd.prog.info? 44).map (·.size) = some 2 by kernel_rfl)
  have hlies : liesAt Tryd.prog Tryd.prog.depth 44 (2 / Tryd.prog.cellsOf 44) 0 44 1 = true := by kernel_rfl
  have mixed : Tryd.prog.follows .mixedOrders = true := by kernel_rfl
  have t72 := Tryd.underlying44; have a72 := Tryd.isAgg44; have z72 := Tryd.sizeOf44; have v72 := Tryd.zeroValue44; have u72 := run_underlying t72
  have t70 := Tryd.underlying41; have a70 := Tryd.isAgg41; have z70 := Tryd.sizeOf41; have v70 := Tryd.zeroValue41; have u70 := run_underlying t70
  have t9 := Tryd.underlying9; have a9 := Tryd.isAgg9; have z9 := Tryd.sizeOf9; have v9 := Tryd.zeroValue9; have u9 := run_underlying t9
  have t4 := Tryd.underlying4; have a4 := Tryd.isAgg4; have z4 := Tryd.sizeOf4; have v4 := Tryd.zeroValue4; have u4 := run_underlying t4
  have t164 := Tryd.underlying68; have a164 := Tryd.isAgg68; have z164 := Tryd.sizeOf68; have v164 := Tryd.zeroValue68; have u164 := run_underlying t164
  go_enter Tryd.func42, Tryd.ntmps42
  go_wp2
  rw [Lib.run_to_unsafe w ⟨b, 0, none⟩ t70 t164 hj (by rw [hjs]; decide) hsh (Nat.zero_lt_succ 1)]
  simp only [Result.andThen]
  rw [Oper.upon_value]
  go_wp2
  rw [run_callFunc_extern Tryd.func51 (by kernel_rfl) (by kernel_rfl) (by kernel_rfl) (e := Extern.AbiNoEscape.same) (by kernel_rfl)]
  rw [Lib.run_noEscape]
  simp only [Result.andThen]
  rw [Oper.upon_value]
  go_wp2
  rw [Lib.run_from_unsafe w ⟨b, 0, none⟩ t164 t70 hj hsh hlies]
  simp only [Result.andThen]
  rw [Oper.upon_value]
  go_wp2
  go_end0
  exact ⟨rfl, rfl⟩
end Go.Proofs.YtefcpmnhhmpmnaaDoor
