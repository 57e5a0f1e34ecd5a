/- The document's log (layer 4): a new one; an input noted; do two clash? -/
import Derived.Test.YtboohfijacjhjaaDoorSA
import Derived.Test.YtboohfijacjhjaaDoorAbM
set_option linter.unusedVariables false
namespace Go.Proofs.YtboohfijacjhjaaDoor
open Go.Ab Go.RowKit

theorem keyT : KeyOk Tryd.prog 43 :=
  ⟨Maps.Keyed.of_law (deep_law (m := 3) (by decide) (by kernel_rfl) (by kernel_rfl) (by kernel_rfl)), fun b hb => keyOf_dig (n := Tryd.prog.types.size - 1) Tryd.underlying43 Tryd.underlying5 (by kernel_rfl) (by kernel_rfl) (by kernel_rfl) (by kernel_rfl) hb⟩

theorem lognew_raw (w : World) : Calls Tryd.prog 47 #[] w fun e w' =>
    e = .returned (.pointer (some ⟨w.heap.size + 1, 0, none⟩)) ∧ w' = (w.alloc (.map #[] 0)).alloc (.cells #[.slice none 0 0, .map (some w.heap.size)] 185) := by
  have t1 := Tryd.underlying185; have a1 := Tryd.isAgg185; have z1 := Tryd.sizeOf185; have v1 := Tryd.zeroValue185
  have t2 := Tryd.underlying183; have a2 := Tryd.isAgg183; have z2 := Tryd.sizeOf183; have v2 := Tryd.zeroValue183
  have mk : ∀ w : World, Sem.run Tryd.prog (Instr.makeMap 183 none) w = .ok (.map (some w.heap.size)) (w.alloc (.map #[] 0)) := fun w => rfl
  go_enter Tryd.func47, Tryd.ntmps47
  go_wp2
  go_ret
  exact ⟨rfl, rfl⟩

/-- A log: its inputs, its digests. -/
abbrev logS (ins : List D) (ks : List ByteArray) (vs : List AV) : List Blk := [.var (.agg [.row 1, .row 2]), .row 9 1 ins, .mapb ks (.agg vs)]

theorem lognew_c : CallR cx 47 [] [] fun r S => r = .ptr 2 [] ∧ S = [.row 9 1 [], .mapb [] (.agg []), .var (.agg [.row 0, .row 1])] := by
  refine callR_raw (c := cx) Tryd.func47 (by kernel_rfl) (by kernel_rfl) fun μ G w vals st hv => ?_
  cases hv
  refine (lognew_raw w).mono ?_
  rintro e w' ⟨rfl, rfl⟩
  have h0 := st.push (w' := w) (G' := G) (v := .slice none 0 0) (b := .row 9 1 []) ⟨rfl, rfl, rfl, Nat.le_refl _, fun _ _ _ => rfl⟩ (fun _ _ h => h) (fun _ _ h => .inl h) (fun _ n h => by cases h) (fun _ n h => by cases h) ⟨[], World.ownsRowF_nil w 0 9 1, .nil, by simp, fun n h => by cases h⟩
  have hn2 : Go.Ab.Next w (w.alloc (.map #[] 0)) none := ⟨rfl, rfl, rfl, by show w.heap.size ≤ (w.heap.push _).size; simp, fun k hk _ => (MapKept.heap_alloc w _).2 k hk⟩
  have h1 := h0.push (w' := w.alloc (.map #[] 0)) (G' := G) (v := .map (some w.heap.size)) (b := .mapb [] (.agg [])) hn2 (fun _ _ h => h) (fun _ _ h => .inl h) (fun _ n h => by cases h; exact Nat.le_refl _) (fun _ n h o _ hg => by
      cases h; have := st.gv _ _ hg; exact Nat.lt_irrefl _ this) ⟨w.heap.size, #[], rfl, (MapKept.heap_alloc w _).1, rfl, by simp, by simp, by simpa using CA.agg (w := w.alloc (.map #[] 0)) (G := G) .nil .nil⟩
  have hsz : (w.alloc (.map #[] 0)).heap.size = w.heap.size + 1 := by show (w.heap.push _).size = _; simp
  have hn3 : Go.Ab.Next (w.alloc (.map #[] 0)) ((w.alloc (.map #[] 0)).alloc (.cells #[.slice none 0 0, .map (some w.heap.size)] 185)) none := ⟨rfl, rfl, rfl, by show _ ≤ (Array.push _ _).size; simp, fun k hk _ => (MapKept.heap_alloc _ _).2 k hk⟩
  have hal := (MapKept.heap_alloc (w.alloc (.map #[] 0)) (.cells #[.slice none 0 0, .map (some w.heap.size)] 185)).1
  rw [hsz] at hal
  have h2 := h1.push (w' := (w.alloc (.map #[] 0)).alloc (.cells #[.slice none 0 0, .map (some w.heap.size)] 185)) (G' := G) (v := .pointer (some ⟨w.heap.size + 1, 0, none⟩)) (b := .var (.agg [.row 0, .row 1])) hn3 (fun _ _ h => h) (fun _ _ h => .inl h)
    (fun _ n h => by cases h; rw [hsz]; exact Nat.le_refl _) (fun _ n h o _ hg => by cases h; have : w.heap.size + 1 < w.heap.size := st.gv _ _ hg; omega)
    ⟨w.heap.size + 1, _, _, _, [], rfl, hal, (List.append_nil _).symm, by simpa using CA.agg (.row (by simp) (by simp [upd]) (.mp (by simp) (by simp [upd]) .nil)) .nil⟩
  exact ⟨_, .ptr 2 [], _, _, _, rfl, ⟨rfl, rfl⟩, h2, VA.ra (VA.of_single (.ptr (by simp) (.inl (by simp [upd])) (fun s hs => by cases hs) .nil) rfl) (fun l e => by cases e)⟩

theorem logclash1_c {ins e : List D} {b : ByteArray} :
    CallR cx 48 [.ptr 0 []] (logS ins [b] [.row 3] ++ [.row 9 1 e]) fun r S => r = bo (decide ((1 : Int) < (ins.length : Int))) ∧ S = logS ins [b] [.row 3] ++ [.row 9 1 e] := by
  refine callR_of (R := R4) cx_ok Tryd.func48 (by kernel_rfl) rfl ?_
  conv => whnf
  refine ⟨by kernel_rfl, ?_⟩
  conv => whnf
  refine ⟨⟨_, _, Tryd.underlying183⟩, ?_⟩
  conv => whnf
  refine ⟨by kernel_rfl, ?_⟩
  conv => whnf
  exact ⟨rfl, rfl⟩

theorem logclash2_c {ins e f : List D} {b d : ByteArray} :
    CallR cx 48 [.ptr 0 []] (logS ins [b, d] [.row 3, .row 4] ++ [.row 9 1 e, .row 9 1 f]) fun r S => r = bo (decide ((2 : Int) < (ins.length : Int))) ∧ S = logS ins [b, d] [.row 3, .row 4] ++ [.row 9 1 e, .row 9 1 f] := by
  refine callR_of (R := R4) cx_ok Tryd.func48 (by kernel_rfl) rfl ?_
  conv => whnf
  refine ⟨by kernel_rfl, ?_⟩
  conv => whnf
  refine ⟨⟨_, _, Tryd.underlying183⟩, ?_⟩
  conv => whnf
  refine ⟨by kernel_rfl, ?_⟩
  conv => whnf
  exact ⟨rfl, rfl⟩

theorem lognote0_c {b s : ByteArray} (hb : b.size = 32) :
    CallR cx 131 [.ptr 0 [], .d (dgD b), st s] (logS [] [] []) fun r S => r = .tup [] ∧ S = [.var (.agg [.row 16, .row 2]), .sealed (.sl 1 []), .mapb [b] (.agg [.row 13]), .var (.d (dgD b)), .dead, .dead, .dead, .dead, .dead, .dead, .dead, .sealed (.sl 1 []), .dead, .row 9 1 [.str s], .dead, .dead, .row 9 1 [.str s]] := by
  refine callR_of (R := R4) cx_ok Tryd.func131 (by kernel_rfl) rfl ?_
  conv => whnf
  refine ⟨by kernel_rfl, ?_⟩
  conv => whnf
  refine ⟨_, _, _, _, b, ⟨Tryd.underlying183, keyT, rfl, rfl, rfl, hb, rfl⟩, .inr ⟨by simp, ?_⟩⟩
  conv => whnf
  refine ⟨by kernel_rfl, ?_⟩
  conv => whnf
  refine .inl ⟨fun p L S => p = 0 ∧ L = [(0, .ptr 0 []), (2, st s), (4, .ptr 3 []), (16, i64 0), (17, i64 0)] ∧ S = logS [] [] [] ++ [.var (.d (dgD b))],
    ⟨_, _, ⟨rfl, rfl, rfl⟩, ⟨rfl, rfl, rfl, rfl, rfl, trivial⟩⟩, ?_⟩
  rintro _ _ _ ⟨rfl, rfl, rfl⟩
  conv => whnf
  refine ⟨by kernel_rfl, ?_⟩
  conv => whnf
  refine ⟨_, _, _, _, b, ⟨Tryd.underlying183, keyT, rfl, rfl, rfl, rfl, hb, rfl⟩, .inr ⟨by simp, 9, 1, rfl, ?_⟩⟩
  conv => whnf
  refine ⟨⟨by simp, by simp⟩, ?_⟩
  conv => whnf
  refine ⟨0, ⟨rfl, rfl, rfl, rfl, by simp⟩, ?_⟩
  conv => whnf
  refine ⟨by kernel_rfl, ?_⟩
  conv => whnf
  refine .inl ?_
  conv => whnf
  refine ⟨⟨by simp, by simp⟩, ?_⟩
  conv => whnf
  exact ⟨rfl, rfl⟩

/-- A log with one input. -/
abbrev logS1 (s b : ByteArray) : List Blk := logS [.str s] [b] [.row 3] ++ [.row 9 1 [.str s]]

theorem lognoteS_c {b s : ByteArray} (hb : b.size = 32) :
    CallR cx 131 [.ptr 0 [], .d (dgD b), st s] (logS1 s b) fun r S => r = .tup [] ∧ S = logS1 s b := by
  refine callR_of (R := R4) cx_ok Tryd.func131 (by kernel_rfl) rfl ?_
  conv => whnf
  refine ⟨by kernel_rfl, ?_⟩
  conv => whnf
  refine ⟨_, _, _, _, b, ⟨Tryd.underlying183, keyT, rfl, rfl, rfl, hb, rfl⟩, .inl ⟨0, 3, _, _, _, ⟨fun i hi => by cases i with | zero => rfl | succ i => simp at hi, rfl, rfl, rfl⟩, ?_⟩⟩
  conv => whnf
  refine ⟨by kernel_rfl, ?_⟩
  conv => whnf
  refine .inl ⟨fun p L S => p = 0 ∧ L = [(0, .ptr 0 []), (2, st s), (4, .ptr 4 []), (15, .d (.sl 1 [.str s])), (16, i64 1), (17, i64 0)] ∧ S = logS1 s b ++ [.var (.d (dgD b))],
    ⟨_, _, ⟨rfl, rfl, rfl⟩, ⟨rfl, rfl, rfl, rfl, rfl, rfl, trivial⟩⟩, ?_⟩
  rintro _ _ _ ⟨rfl, rfl, rfl⟩
  conv => whnf
  refine ⟨⟨by simp, by simp⟩, ?_⟩
  conv => whnf
  refine brT (decide_eq_true rfl) ?_
  conv => whnf
  exact ⟨rfl, rfl⟩

theorem lognoteC_c {b s t : ByteArray} (hb : b.size = 32) (hst : s ≠ t) :
    CallR cx 131 [.ptr 0 [], .d (dgD b), st t] (logS1 s b) fun r S => r = .tup [] ∧ S = [.var (.agg [.row 17, .row 2]), .sealed (.sl 1 [.str s]), .mapb [b] (.agg [.row 14]), .sealed (.sl 1 [.str s]), .var (.d (dgD b)), .dead, .dead, .dead, .dead, .dead, .dead, .dead, .dead, .dead, .row 9 1 [.str s, .str t], .dead, .dead, .row 9 1 [.str s, .str t]] := by
  refine callR_of (R := R4) cx_ok Tryd.func131 (by kernel_rfl) rfl ?_
  conv => whnf
  refine ⟨by kernel_rfl, ?_⟩
  conv => whnf
  refine ⟨_, _, _, _, b, ⟨Tryd.underlying183, keyT, rfl, rfl, rfl, hb, rfl⟩, .inl ⟨0, 3, _, _, _, ⟨fun i hi => by cases i with | zero => rfl | succ i => simp at hi, rfl, rfl, rfl⟩, ?_⟩⟩
  conv => whnf
  refine ⟨by kernel_rfl, ?_⟩
  conv => whnf
  refine .inl ⟨fun p L S => ∃ j : Nat, j ≤ 1 ∧ p = 1 - j ∧ L = [(0, .ptr 0 []), (2, st t), (4, .ptr 4 []), (15, .d (.sl 1 [.str s])), (16, i64 1), (17, i64 (j : Int))] ∧ S = logS1 s b ++ [.var (.d (dgD b))],
    ⟨_, _, ⟨0, by decide, rfl, rfl, rfl⟩, ⟨rfl, rfl, rfl, rfl, rfl, rfl, trivial⟩⟩, ?_⟩
  rintro _ _ _ ⟨j, hj, rfl, rfl, rfl⟩
  have hj' : j = 0 ∨ j = 1 := by omega
  rcases hj' with rfl | rfl
  · conv => whnf
    refine ⟨⟨by simp, by simp⟩, ?_⟩
    conv => whnf
    refine brF (decide_eq_false hst) ?_
    conv => whnf
    exact ⟨_, _, 5, (by omega : 1 - (0 + 1) < 1 - 0), ⟨1, by decide, rfl, rfl, rfl⟩, ⟨rfl, rfl, rfl, rfl, rfl, rfl, trivial⟩, rfl⟩
  · conv => whnf
    refine ⟨by kernel_rfl, ?_⟩
    conv => whnf
    refine ⟨_, _, _, _, b, ⟨Tryd.underlying183, keyT, rfl, rfl, rfl, rfl, hb, rfl⟩, .inl ⟨0, _, ⟨fun i hi => by cases i with | zero => rfl | succ i => simp at hi, rfl, rfl, rfl⟩, ?_⟩⟩
    conv => whnf
    refine ⟨⟨by simp, by simp⟩, ?_⟩
    conv => whnf
    refine ⟨0, ⟨rfl, rfl, rfl, rfl, by simp⟩, ?_⟩
    conv => whnf
    refine ⟨by kernel_rfl, ?_⟩
    conv => whnf
    refine .inl ?_
    conv => whnf
    refine ⟨⟨by simp, by simp⟩, ?_⟩
    conv => whnf
    exact ⟨rfl, rfl⟩

theorem lognoteD_c {b d s t : ByteArray} (hb : b.size = 32) (hd : d.size = 32) (hbd : d ≠ b) :
    CallR cx 131 [.ptr 0 [], .d (dgD d), st t] (logS1 s b) fun r S => r = .tup [] ∧ S = [.var (.agg [.row 17, .row 2]), .sealed (.sl 1 [.str s]), .mapb [b, d] (.agg [.row 3, .row 14]), .row 9 1 [.str s], .var (.d (dgD d)), .dead, .dead, .dead, .dead, .dead, .dead, .dead, .sealed (.sl 1 []), .dead, .row 9 1 [.str t], .dead, .dead, .row 9 1 [.str s, .str t]] := by
  refine callR_of (R := R4) cx_ok Tryd.func131 (by kernel_rfl) rfl ?_
  conv => whnf
  refine ⟨by kernel_rfl, ?_⟩
  conv => whnf
  refine ⟨_, _, _, _, d, ⟨Tryd.underlying183, keyT, rfl, rfl, rfl, hd, rfl⟩, .inr ⟨by simp [hbd], ?_⟩⟩
  conv => whnf
  refine ⟨by kernel_rfl, ?_⟩
  conv => whnf
  refine .inl ⟨fun p L S => p = 0 ∧ L = [(0, .ptr 0 []), (2, st t), (4, .ptr 4 []), (16, i64 0), (17, i64 0)] ∧ S = logS1 s b ++ [.var (.d (dgD d))],
    ⟨_, _, ⟨rfl, rfl, rfl⟩, ⟨rfl, rfl, rfl, rfl, rfl, trivial⟩⟩, ?_⟩
  rintro _ _ _ ⟨rfl, rfl, rfl⟩
  conv => whnf
  refine ⟨by kernel_rfl, ?_⟩
  conv => whnf
  refine ⟨_, _, _, _, d, ⟨Tryd.underlying183, keyT, rfl, rfl, rfl, rfl, hd, rfl⟩, .inr ⟨by simp [hbd], 9, 1, rfl, ?_⟩⟩
  conv => whnf
  refine ⟨⟨by simp, by simp⟩, ?_⟩
  conv => whnf
  refine ⟨1, ⟨rfl, rfl, rfl, rfl, by simp⟩, ?_⟩
  conv => whnf
  refine ⟨by kernel_rfl, ?_⟩
  conv => whnf
  refine .inl ?_
  conv => whnf
  refine ⟨⟨by simp, by simp⟩, ?_⟩
  conv => whnf
  exact ⟨rfl, rfl⟩
end Go.Proofs.YtboohfijacjhjaaDoor
