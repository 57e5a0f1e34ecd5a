/- strings.Builder: String, in the own logic. -/
import Derived.Test.YtefcpmnhhmpmnaaDoorBld
namespace Go.Ab
open Go.RowKit
theorem Next.ofDrew {w w' : World} {n : Option Nat} (h : Next w.drew w' n) : Next w w' n := ⟨h.os, h.tape, h.output, h.size, h.heap⟩
theorem Next.toDrew {w w' : World} {n : Option Nat} (h : Next w w' n) : Next w w'.drew n := ⟨h.os, h.tape, h.output, h.size, h.heap⟩
theorem next_alloc1 (w : World) (o : Obj) (q : Option Nat) : Next w (w.alloc o) q :=
  ⟨rfl, rfl, rfl, by show w.heap.size ≤ (w.heap.push _).size; simp, fun k hk _ => by
    show (w.heap.push _)[k]? = _
    rw [Array.getElem?_push, if_neg (by omega)]⟩
end Go.Ab
namespace Go.Proofs.YtefcpmnhhmpmnaaDoor
open Go.Ab Go.RowKit

set_option maxHeartbeats 2000000 in
set_option maxRecDepth 100000 in
theorem raw_string_some (b g cap : Nat) (p : Value) (cur : Array Value) (fz : Nat × Nat) (l : List UInt8) (w : World) (h0 : l ≠ []) (hbk : w.heap[b]? = some (.cells #[p, .slice (some ⟨g, 0, none⟩) l.length cap] 44 (0, 0)))
    (hg : w.heap[g]? = some (.cells cur 5 fz)) (hnc : l.length ≤ cap) (hcm : cap ≤ maxLen) (hcs : cur.size = cap) (hcells : ∀ j x, l[j]? = some x → w.cell? ((⟨g, 0, none⟩ : Addr).add j) = some (.int .u8 x.toNat)) :
    Calls Tryd.prog 32 #[.pointer (some ⟨b, 0, none⟩)] w fun e w' => e = .returned (.string ⟨l.toArray⟩) ∧ w' = w.drew.freeze ⟨g, 0, none⟩ l.length := by
  have hl0 : l.length ≠ 0 := by simpa using h0
  have c1 : w.drew.cell? ⟨b, 1, none⟩ = some (.slice (some ⟨g, 0, none⟩) l.length cap) := by
    have : w.drew.heap[b]? = some (.cells #[p, .slice (some ⟨g, 0, none⟩) l.length cap] 44 (0, 0)) := hbk
    rw [Lib.cell_of_heap this]; rfl
  have hSD : (Builtin.unsafeSliceData_ #[42] 63 #[.slice (some ⟨g, 0, none⟩) l.length cap]).run Tryd.prog w.drew = .ok (.pointer (some ⟨g, 0, none⟩)) w.drew :=
    Lib.run_unsafeSliceData_row _ _ _ _ _ _ (by omega)
  have hUS : (Builtin.unsafeString_ #[63, 3] 9 #[.pointer (some ⟨g, 0, none⟩), .int .i64 l.length]).run Tryd.prog w.drew = .ok (.string ⟨l.toArray⟩) (w.drew.freeze ⟨g, 0, none⟩ l.length) := by
    refine Lib.run_unsafeString_row w.drew 63 3 9 5 Tryd.underlying63 (by kernel_rfl) g cur.size (by have hg' : w.drew.heap[g]? = some (.cells cur 5 fz) := hg; simp [World.shape?, hg']) l h0 (by omega) (by unfold maxLen at hcm; omega) ?_
    intro j x hx
    exact hcells j x hx
  have mixed : Tryd.prog.follows .mixedOrders = true := by kernel_rfl
  have t72 := Tryd.underlying44; have a72 := Tryd.isAgg44; have z72 := Tryd.sizeOf44; have v72 := Tryd.zeroValue44; have u72 := run_underlying t72
  have t70 := Tryd.underlying41; have a70 := Tryd.isAgg41; have z70 := Tryd.sizeOf41; have v70 := Tryd.zeroValue41; have u70 := run_underlying t70
  have t37 := Tryd.underlying42; have a37 := Tryd.isAgg42; have z37 := Tryd.sizeOf42; have v37 := Tryd.zeroValue42; have u37 := run_underlying t37
  have t127 := Tryd.underlying63; have a127 := Tryd.isAgg63; have z127 := Tryd.sizeOf63; have v127 := Tryd.zeroValue63; have u127 := run_underlying t127
  have t3 := Tryd.underlying3; have a3 := Tryd.isAgg3; have z3 := Tryd.sizeOf3; have v3 := Tryd.zeroValue3; have u3 := run_underlying t3
  have t9 := Tryd.underlying9; have a9 := Tryd.isAgg9; have z9 := Tryd.sizeOf9; have v9 := Tryd.zeroValue9; have u9 := run_underlying t9
  have t5 := Tryd.underlying5; have a5 := Tryd.isAgg5; have z5 := Tryd.sizeOf5; have v5 := Tryd.zeroValue5; have u5 := run_underlying t5
  go_enter Tryd.func32, Tryd.ntmps32
  go_wp2
  go_region_o
  all_goals (go_wp2; go_ret; exact ⟨rfl, rfl⟩)

set_option maxHeartbeats 2000000 in
set_option maxRecDepth 100000 in
theorem raw_string_nil (b : Nat) (p : Value) (w : World) (hbk : w.heap[b]? = some (.cells #[p, .slice none 0 0] 44 (0, 0))) :
    Calls Tryd.prog 32 #[.pointer (some ⟨b, 0, none⟩)] w fun e w' => e = .returned (.string ⟨#[]⟩) ∧ w' = w.drew := by
  have hUS : ∀ (W : World) (q : Option Addr), (Builtin.unsafeString_ #[63, 3] 9 #[.pointer q, .int .i64 0]).run Tryd.prog W = .ok (.string .empty) W := fun W q => Lib.run_unsafeString_none W _ _ _ q
  have c1 : w.drew.cell? ⟨b, 1, none⟩ = some (.slice none 0 0) := by
    have : w.drew.heap[b]? = some (.cells #[p, .slice none 0 0] 44 (0, 0)) := hbk
    rw [Lib.cell_of_heap this]; rfl
  have hSD : (Builtin.unsafeSliceData_ #[42] 63 #[.slice none 0 0]).run Tryd.prog w.drew = .ok (.pointer none) w.drew := rfl
  have mixed : Tryd.prog.follows .mixedOrders = true := by kernel_rfl
  have t72 := Tryd.underlying44; have a72 := Tryd.isAgg44; have z72 := Tryd.sizeOf44; have v72 := Tryd.zeroValue44; have u72 := run_underlying t72
  have t70 := Tryd.underlying41; have a70 := Tryd.isAgg41; have z70 := Tryd.sizeOf41; have v70 := Tryd.zeroValue41; have u70 := run_underlying t70
  have t37 := Tryd.underlying42; have a37 := Tryd.isAgg42; have z37 := Tryd.sizeOf42; have v37 := Tryd.zeroValue42; have u37 := run_underlying t37
  have t127 := Tryd.underlying63; have a127 := Tryd.isAgg63; have z127 := Tryd.sizeOf63; have v127 := Tryd.zeroValue63; have u127 := run_underlying t127
  have t3 := Tryd.underlying3; have a3 := Tryd.isAgg3; have z3 := Tryd.sizeOf3; have v3 := Tryd.zeroValue3; have u3 := run_underlying t3
  have t9 := Tryd.underlying9; have a9 := Tryd.isAgg9; have z9 := Tryd.sizeOf9; have v9 := Tryd.zeroValue9; have u9 := run_underlying t9
  have t5 := Tryd.underlying5; have a5 := Tryd.isAgg5; have z5 := Tryd.sizeOf5; have v5 := Tryd.zeroValue5; have u5 := run_underlying t5
  go_enter Tryd.func32, Tryd.ntmps32
  go_wp2
  go_region_o
  all_goals (go_wp2; go_ret; exact ⟨rfl, rfl⟩)

set_option maxHeartbeats 2000000 in
set_option maxRecDepth 100000 in
theorem raw_string_room (b g cap : Nat) (p : Value) (w : World) (hc0 : cap ≠ 0) (hbk : w.heap[b]? = some (.cells #[p, .slice (some ⟨g, 0, none⟩) 0 cap] 44 (0, 0))) :
    Calls Tryd.prog 32 #[.pointer (some ⟨b, 0, none⟩)] w fun e w' => e = .returned (.string ⟨#[]⟩) ∧ w' = w.drew := by
  have hUS : ∀ (W : World) (q : Option Addr), (Builtin.unsafeString_ #[63, 3] 9 #[.pointer q, .int .i64 0]).run Tryd.prog W = .ok (.string .empty) W := fun W q => Lib.run_unsafeString_none W _ _ _ q
  have c1 : w.drew.cell? ⟨b, 1, none⟩ = some (.slice (some ⟨g, 0, none⟩) 0 cap) := by
    have : w.drew.heap[b]? = some (.cells #[p, .slice (some ⟨g, 0, none⟩) 0 cap] 44 (0, 0)) := hbk
    rw [Lib.cell_of_heap this]; rfl
  have hSD : (Builtin.unsafeSliceData_ #[42] 63 #[.slice (some ⟨g, 0, none⟩) 0 cap]).run Tryd.prog w.drew = .ok (.pointer (some ⟨g, 0, none⟩)) w.drew :=
    Lib.run_unsafeSliceData_row _ _ _ _ _ _ hc0
  clear hc0
  have mixed : Tryd.prog.follows .mixedOrders = true := by kernel_rfl
  have t72 := Tryd.underlying44; have a72 := Tryd.isAgg44; have z72 := Tryd.sizeOf44; have v72 := Tryd.zeroValue44; have u72 := run_underlying t72
  have t70 := Tryd.underlying41; have a70 := Tryd.isAgg41; have z70 := Tryd.sizeOf41; have v70 := Tryd.zeroValue41; have u70 := run_underlying t70
  have t37 := Tryd.underlying42; have a37 := Tryd.isAgg42; have z37 := Tryd.sizeOf42; have v37 := Tryd.zeroValue42; have u37 := run_underlying t37
  have t127 := Tryd.underlying63; have a127 := Tryd.isAgg63; have z127 := Tryd.sizeOf63; have v127 := Tryd.zeroValue63; have u127 := run_underlying t127
  have t3 := Tryd.underlying3; have a3 := Tryd.isAgg3; have z3 := Tryd.sizeOf3; have v3 := Tryd.zeroValue3; have u3 := run_underlying t3
  have t9 := Tryd.underlying9; have a9 := Tryd.isAgg9; have z9 := Tryd.sizeOf9; have v9 := Tryd.zeroValue9; have u9 := run_underlying t9
  have t5 := Tryd.underlying5; have a5 := Tryd.isAgg5; have z5 := Tryd.sizeOf5; have v5 := Tryd.zeroValue5; have u5 := run_underlying t5
  go_enter Tryd.func32, Tryd.ntmps32
  go_wp2
  go_region_o
  all_goals (go_wp2; go_ret; exact ⟨rfl, rfl⟩)

set_option maxHeartbeats 2000000 in
set_option maxRecDepth 100000 in
theorem raw_string_noroom (b g : Nat) (p : Value) (cur : Array Value) (fz : Nat × Nat) (w : World) (hbk : w.heap[b]? = some (.cells #[p, .slice (some ⟨g, 0, none⟩) 0 0] 44 (0, 0))) (hg : w.heap[g]? = some (.cells cur 5 fz)) :
    Calls Tryd.prog 32 #[.pointer (some ⟨b, 0, none⟩)] w fun e w' => e = .returned (.string ⟨#[]⟩) ∧ Ab.Next w w' none := by
  have hUS : ∀ (W : World) (q : Option Addr), (Builtin.unsafeString_ #[63, 3] 9 #[.pointer q, .int .i64 0]).run Tryd.prog W = .ok (.string .empty) W := fun W q => Lib.run_unsafeString_none W _ _ _ q
  have hlt : b < w.heap.size := (Array.getElem?_eq_some_iff.1 hbk).1
  have c1 : w.drew.cell? ⟨b, 1, none⟩ = some (.slice (some ⟨g, 0, none⟩) 0 0) := by
    have : w.drew.heap[b]? = some (.cells #[p, .slice (some ⟨g, 0, none⟩) 0 0] 44 (0, 0)) := hbk
    rw [Lib.cell_of_heap this]; rfl
  have hSD : (Builtin.unsafeSliceData_ #[42] 63 #[.slice (some ⟨g, 0, none⟩) 0 0]).run Tryd.prog w.drew = .ok (.pointer (some ⟨w.drew.heap.size, 0, none⟩)) (w.drew.alloc (.view ⟨g, 0, none⟩ 5)) :=
    Lib.run_unsafeSliceData_zero w.drew _ _ 5 Tryd.underlying63 ⟨g, 0, none⟩ 0 (5, cur.size) (by have hg' : w.drew.heap[g]? = some (.cells cur 5 fz) := hg; simp [World.shape?, hg'])
  have c2 : (w.drew.alloc (.view ⟨g, 0, none⟩ 5)).cell? ⟨b, 1, none⟩ = some (.slice (some ⟨g, 0, none⟩) 0 0) := by
    have : (w.drew.alloc (.view ⟨g, 0, none⟩ 5)).heap[b]? = _ := (Lib.alloc_old w.drew _ b hlt).trans hbk
    rw [Lib.cell_of_heap this]; rfl
  have c3 : (w.alloc (.view ⟨g, 0, none⟩ 5)).drew.cell? ⟨b, 1, none⟩ = some (.slice (some ⟨g, 0, none⟩) 0 0) := c2
  have c0 : w.cell? ⟨b, 1, none⟩ = some (.slice (some ⟨g, 0, none⟩) 0 0) := c1
  have mixed : Tryd.prog.follows .mixedOrders = true := by kernel_rfl
  have t72 := Tryd.underlying44; have a72 := Tryd.isAgg44; have z72 := Tryd.sizeOf44; have v72 := Tryd.zeroValue44; have u72 := run_underlying t72
  have t70 := Tryd.underlying41; have a70 := Tryd.isAgg41; have z70 := Tryd.sizeOf41; have v70 := Tryd.zeroValue41; have u70 := run_underlying t70
  have t37 := Tryd.underlying42; have a37 := Tryd.isAgg42; have z37 := Tryd.sizeOf42; have v37 := Tryd.zeroValue42; have u37 := run_underlying t37
  have t127 := Tryd.underlying63; have a127 := Tryd.isAgg63; have z127 := Tryd.sizeOf63; have v127 := Tryd.zeroValue63; have u127 := run_underlying t127
  have t3 := Tryd.underlying3; have a3 := Tryd.isAgg3; have z3 := Tryd.sizeOf3; have v3 := Tryd.zeroValue3; have u3 := run_underlying t3
  have t9 := Tryd.underlying9; have a9 := Tryd.isAgg9; have z9 := Tryd.sizeOf9; have v9 := Tryd.zeroValue9; have u9 := run_underlying t9
  have t5 := Tryd.underlying5; have a5 := Tryd.isAgg5; have z5 := Tryd.sizeOf5; have v5 := Tryd.zeroValue5; have u5 := run_underlying t5
  go_enter Tryd.func32, Tryd.ntmps32
  go_wp2
  go_region_o
  all_goals (go_wp2; go_ret; first | exact ⟨rfl, next_alloc1 w _ none⟩ | exact ⟨rfl, (next_alloc1 w _ none).toDrew⟩ | exact ⟨rfl, (next_alloc1 w.drew _ none).ofDrew⟩)
end Go.Proofs.YtefcpmnhhmpmnaaDoor
