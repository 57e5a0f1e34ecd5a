/- math/bits.TrailingZeros of sixteen. -/
import Derived.Test.YtefcpmnhhmpmnaaDoorN7
import Derived.WalkKit
namespace Go.Proofs.YtefcpmnhhmpmnaaDoor
open Go.Ab Go.RowKit

set_option maxHeartbeats 1000000 in
set_option maxRecDepth 100000 in
theorem raw_tz64 (w : World) (h0 : w.cell? ⟨7, 15, none⟩ = some (.int .u8 4)) :
    Calls Tryd.prog 82 #[.int .u64 16] w fun e w' => e = .returned (.int .i64 4) ∧ w' = w := by
  have mixed : Tryd.prog.follows .mixedOrders = true := by kernel_rfl
  have h1 : w.cell? ⟨7, (IntKind.u64.wrap (bits BinOp.and IntKind.u64 16 (IntKind.u64.wrap (-16)) * 285870213051353865) / 288230376151711744).toNat, none⟩ = some (.int .u8 4) := by
    rw [show (IntKind.u64.wrap (bits BinOp.and IntKind.u64 16 (IntKind.u64.wrap (-16)) * 285870213051353865) / 288230376151711744).toNat = 15 by decide +kernel]
    exact h0
  have h2 : (0 : Int) ≤ IntKind.u64.wrap (bits BinOp.and IntKind.u64 16 (IntKind.u64.wrap (-16)) * 285870213051353865) / 288230376151711744 ∧ IntKind.u64.wrap (bits BinOp.and IntKind.u64 16 (IntKind.u64.wrap (-16)) * 285870213051353865) / 288230376151711744 < 64 := by decide +kernel
  go_enter Tryd.func82, Tryd.ntmps82
  go_wp2
  go_ret
  exact ⟨rfl, rfl⟩

theorem tz64_c : CallR cx 82 [u64 16] [] fun r S => r = i64 4 ∧ S = [] := by
  refine callR_below (c := cx) Tryd.func82 (by kernel_rfl) (by kernel_rfl) fun μ G w vals st hv => ?_
  obtain ⟨v, rfl, h1⟩ := VS.one hv
  obtain rfl := (VA.d_iff.1 h1).int_inv
  have hT := glob_tab (st.glob 7 _ rfl) 15 (by decide)
  refine (raw_tz64 w hT).mono ?_
  rintro e w' ⟨rfl, rfl⟩
  exact ⟨_, rfl, VD.int.ra, Below.refl _ _⟩

theorem tz_c : CallR cx 73 [u64 16] [] fun r S => r = i64 4 ∧ S = [] := by
  refine callR_of (R := R1) cx_ok Tryd.func73 (by kernel_rfl) rfl ?_
  conv => whnf
  refine ⟨_, tz64_c, ?_⟩
  rintro _ _ ⟨rfl, rfl⟩
  conv => whnf
  exact ⟨rfl, rfl⟩

theorem pow2_c : CallR cx 72 [i64 16] [] fun r S => r = bo true ∧ S = [] := by
  refine callR_of (R := R1) cx_ok Tryd.func72 (by kernel_rfl) rfl ?_
  conv => whnf
  exact ⟨rfl, rfl⟩
end Go.Proofs.YtefcpmnhhmpmnaaDoor
