/- internal/strconv.FormatUint at base 10: the numeral. -/
import Derived.Test.YtmmgdbcppmabaaaDoorFA
set_option linter.unusedVariables false
namespace Go.Proofs.YtmmgdbcppmabaaaDoor
open Go.Shelf Go.RowKit Go.Sort Go.Lib

theorem fin_zero (w : World) (o : Obj) (dk : Array UInt8) (k : Nat) : ∃ os, (putRow (fun (b : UInt8) => Value.int .u8 (b.toNat : Int)) (w.alloc o) w.heap.size 0 dk).drewN k = grow (w.drewN k) os := by
  rw [alloc_eq_grow]
  obtain ⟨os', _, e⟩ := putRow_grow_new (fun (b : UInt8) => Value.int .u8 (b.toNat : Int)) w #[o] w.heap.size 0 dk (Nat.le_refl _)
  exact ⟨os', by rw [e]; rfl⟩

theorem holds_zero0 (w : World) (T : TypeId) (nd : Nat) (hs : nd ≤ 24) : Holds (fun (b : UInt8) => Value.int .u8 (b.toNat : Int)) (w.alloc (.cells zeros24 T)) w.heap.size 0 (Array.replicate nd (0 : UInt8)) := fun j hj => by
  have hj' : j < nd := by simpa using hj
  refine ⟨?_, World.frozen?_alloc_new _ _ _ _⟩
  rw [World.cell?_alloc_new, zeros24_at _ (by omega), getElem!_pos _ j hj]
  simp

set_option maxHeartbeats 6400000 in
set_option maxRecDepth 100000 in
theorem fmtU_raw (u : Nat) (hu64 : u < 18446744073709551616) (w : World)
    (htab : ∀ q, q < 20 → w.cell? ⟨4, q, none⟩ = some (.int .u64 ((10 ^ q : Nat) : Int))) :
    Calls Tryd.prog 18 #[.int .u64 u, .int .i64 10] w fun e w' => e = .returned (.string ⟨(Lib.decDigits u).toArray⟩) ∧ ∃ k os, w' = grow (w.drewN k) os := by
  have mixed : Tryd.prog.follows .mixedOrders = true := by kernel_rfl
  have t_int := Tryd.underlying3; have a_int := Tryd.isAgg3; have z_int := Tryd.sizeOf3; have v_int := Tryd.zeroValue3
  have t_u64 := Tryd.underlying22; have a_u64 := Tryd.isAgg22; have z_u64 := Tryd.sizeOf22; have v_u64 := Tryd.zeroValue22
  have t_str := Tryd.underlying9; have a_str := Tryd.isAgg9; have z_str := Tryd.sizeOf9; have v_str := Tryd.zeroValue9
  have t_bool := Tryd.underlying4; have a_bool := Tryd.isAgg4; have z_bool := Tryd.sizeOf4; have v_bool := Tryd.zeroValue4
  have t_u8 := Tryd.underlying5; have a_u8 := Tryd.isAgg5; have z_u8 := Tryd.sizeOf5; have v_u8 := Tryd.zeroValue5
  have t_arr := Tryd.underlying50; have a_arr := Tryd.isAgg50; have z_arr := Tryd.sizeOf50; have v_arr := Tryd.zeroValue50
  have t_sl := Tryd.underlying38; have a_sl := Tryd.isAgg38; have z_sl := Tryd.sizeOf38; have v_sl := Tryd.zeroValue38
  have t_0 := Tryd.underlying0; have a_0 := Tryd.isAgg0; have z_0 := Tryd.sizeOf0; have v_0 := Tryd.zeroValue0
  have e283 : ∀ args w, (callFunc 26 args).run Tryd.prog w = .ok (.enter 26 args) w := enters_of laysSm.f283 (by kernel_rfl) rfl
  have e284 : ∀ args w, (callFunc 27 args).run Tryd.prog w = .ok (.enter 27 args) w := enters_of laysNd.f284 (by kernel_rfl) rfl
  have e285 : ∀ args w, (callFunc 28 args).run Tryd.prog w = .ok (.enter 28 args) w := enters_of laysFb.f285 (by kernel_rfl) rfl
  by_cases hs : u < 100
  · go_enter Tryd.func18, Tryd.ntmps18
    go_wp2_with (go_at_fn 26; refine (Any.internal_strconv_small laysSm u hs _).mono ?_; rintro e w' ⟨rfl, rfl⟩)
    go_ret
    exact ⟨rfl, 0, #[], by simp [World.drewN_zero]⟩
  · have hu1 : 1 ≤ u := by omega
    have hnd20 : Lib.nDigits u ≤ 20 := by have := Lib.numDigits_eq u hu1 hu64; split at this <;> omega
    have hb3 : Lib.nDigits u ≤ 24 := by omega
    have hal : Tryd.prog.arrayLen 50 = 24 := by simp [Program.arrayLen, t_arr]
    have hsl1 : ∀ W, (Instr.sliceAt 50 (.pointer (some ⟨w.heap.size, 0, none⟩)) none (some (.int .i64 (Lib.nDigits u : Int))) none).run Tryd.prog W = .ok (.slice (some ⟨w.heap.size, 0, none⟩) (Lib.nDigits u) 24) W := fun W => by
      rw [run_sliceAt_array_h W 50 ⟨w.heap.size, 0, none⟩ (by simp [Program.arrayLen, Program.elem, t_arr]) .i64 (Lib.nDigits u : Int) (by omega) (by rw [hal]; omega)]
      go_simp
    have hH0 := holds_zero0 w 50 (Lib.nDigits u) hb3
    have hfmt := Any.internal_strconv_formatBase10 laysFb w.heap.size 0 24 u (Array.replicate (Lib.nDigits u) 0) (w.alloc (.cells Lib.zeros24 50)) hH0 (by rw [Array.size_replicate]; exact Lib.lt_pow_nDigits u) hu64 (by rw [Array.size_replicate]; omega)
    rw [Array.size_replicate] at hfmt
    have hfmt : Calls Tryd.prog 28 _ _ _ := hfmt
    have HH0 := Lib.hid hH0
    clear hH0 hal
    go_enter Tryd.func18, Tryd.ntmps18
    go_wp2_with (first
      | (go_at_fn 27; refine (numDigits_t laysNd u hu1 hu64 _ (fun q hq => (((Below.refl _ w).alloc (Nat.le_refl _) _).cell (show (⟨4, q, none⟩ : Addr).block < w.heap.size from World.block_lt_of_cell? w _ (htab q hq))).trans (htab q hq))).mono ?_; rintro e w' ⟨rfl, rfl⟩))
    go_at_fn 28
    refine hfmt.mono ?_
    rintro e w' ⟨rfl, k, v', dk, rfl, hF⟩
    have hcv : (convert 38 9 (.slice (some ⟨w.heap.size, 0, none⟩) (Lib.nDigits u) 24)).run Tryd.prog ((putRow (fun (b : UInt8) => Value.int .u8 (b.toNat : Int)) (w.alloc (.cells Lib.zeros24 50)) w.heap.size 0 dk).drewN k) = .ok (.string ⟨(Lib.decDigits u).toArray⟩) ((putRow (fun (b : UInt8) => Value.int .u8 (b.toNat : Int)) (w.alloc (.cells Lib.zeros24 50)) w.heap.size 0 dk).drewN k) := by
      have h := run_convert_bytes_back (P := Tryd.prog) ((putRow (fun (b : UInt8) => Value.int .u8 (b.toNat : Int)) (w.alloc (.cells Lib.zeros24 50)) w.heap.size 0 dk).drewN k) 38 9 5 ⟨w.heap.size, 0, none⟩ 24 (Lib.decDigits u) t_sl t_u8 t_str (fun j hj => by
        rw [Lib.row_is_numeral hF j hj, Lib.add_plain, World.cell?_drewN]
        exact cell?_putRow (fun (b : UInt8) => Value.int .u8 (b.toNat : Int)) _ w.heap.size 0 _ dk HH0.out (by rw [hF.size, Array.size_replicate]) j (by rw [hF.size]; rw [Lib.decDigits_length] at hj; exact hj))
      rw [Lib.decDigits_length] at h
      exact h
    go_wp2
    go_ret
    obtain ⟨os, eo⟩ := fin_zero w (.cells Lib.zeros24 50) dk k
    exact ⟨rfl, k, os, eo⟩

/-- strconv.FormatUint at base 10. -/
theorem fmtU_pub (u : Nat) (hu64 : u < 18446744073709551616) (w : World)
    (htab : ∀ q, q < 20 → w.cell? ⟨4, q, none⟩ = some (.int .u64 ((10 ^ q : Nat) : Int))) :
    Calls Tryd.prog 12 #[.int .u64 u, .int .i64 10] w fun e w' => e = .returned (.string ⟨(Lib.decDigits u).toArray⟩) ∧ Below w.heap.size w w' := by
  have mixed : Tryd.prog.follows .mixedOrders = true := by kernel_rfl
  have t_int := Tryd.underlying3; have a_int := Tryd.isAgg3; have z_int := Tryd.sizeOf3; have v_int := Tryd.zeroValue3
  have t_u64 := Tryd.underlying22; have a_u64 := Tryd.isAgg22; have z_u64 := Tryd.sizeOf22; have v_u64 := Tryd.zeroValue22
  have t_str := Tryd.underlying9; have a_str := Tryd.isAgg9; have z_str := Tryd.sizeOf9; have v_str := Tryd.zeroValue9
  have e18 : ∀ args w, (callFunc 18 args).run Tryd.prog w = .ok (.enter 18 args) w := enters_of Tryd.func18 (by kernel_rfl) rfl
  go_enter Tryd.func12, Tryd.ntmps12
  go_wp2_with (go_at_fn 18; refine (fmtU_raw u hu64 _ htab).mono ?_; rintro e w' ⟨rfl, k, os, rfl⟩)
  go_wp2
  go_ret
  exact ⟨rfl, below_grow _ w (Nat.le_refl _) k os⟩

/-- amount.Text. -/
theorem text_raw (u : Nat) (hu64 : u < 18446744073709551616) (w : World)
    (htab : ∀ q, q < 20 → w.cell? ⟨4, q, none⟩ = some (.int .u64 ((10 ^ q : Nat) : Int))) :
    Calls Tryd.prog 7 #[.int .u64 u] w fun e w' => e = .returned (.string ⟨(Lib.decDigits u).toArray⟩) ∧ Below w.heap.size w w' := by
  have mixed : Tryd.prog.follows .mixedOrders = true := by kernel_rfl
  have t_int := Tryd.underlying3; have a_int := Tryd.isAgg3; have z_int := Tryd.sizeOf3; have v_int := Tryd.zeroValue3
  have t_u64 := Tryd.underlying22; have a_u64 := Tryd.isAgg22; have z_u64 := Tryd.sizeOf22; have v_u64 := Tryd.zeroValue22
  have t_str := Tryd.underlying9; have a_str := Tryd.isAgg9; have z_str := Tryd.sizeOf9; have v_str := Tryd.zeroValue9
  have e12 : ∀ args w, (callFunc 12 args).run Tryd.prog w = .ok (.enter 12 args) w := enters_of Tryd.func12 (by kernel_rfl) rfl
  go_enter Tryd.func7, Tryd.ntmps7
  go_wp2_with (go_at_fn 12; refine (fmtU_pub u hu64 _ htab).mono ?_; rintro e w' ⟨rfl, hb⟩)
  go_wp2
  go_ret
  exact ⟨rfl, hb⟩
end Go.Proofs.YtmmgdbcppmabaaaDoor
