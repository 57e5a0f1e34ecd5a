/- The document's Bytes of a call's fields (printed by gen/cfby.py). -/
import Derived.Test.YtboohfijacjhjaaDoorKK
set_option linter.unusedVariables false
namespace Go.Proofs.YtboohfijacjhjaaDoor
open Go.Ab Go.RowKit

theorem fb_pay {a : ByteArray} {b : ByteArray} {n : Nat} {k : Nat} {g : Sg} (h : (Cl.pay a b n k g).fit) : CallR cx 33 [.d (Cl.pay a b n k g).fd.d] [] fun r S => r = .tup [st (Cl.pay a b n k g).cS, i64 (Cl.pay a b n k g).cE] ∧ S = [] := by
  obtain ⟨h0, h1, h2, h3, h4⟩ := h
  have wb : CallR cx 61 [u64 (IntKind.u64.wrap (1 : Int)), i64 1] [] fun r S => r = st (bigB 1 1) ∧ S = [] := by rw [show ((1 : Int)) = ((1 : Nat) : Int) from rfl, wrapN (by omega)]; exact rbig1_c (by omega)
  unfold tx at h0
  have c_a := rtext_c (s := a) (by omega)
  have z_a := textB_size a
  unfold tx at h1
  have c_b := rtext_c (s := b) (by omega)
  have z_b := textB_size b
  have c_n := rbig8_c (n := n) h2
  have c_k := rbig8_c (n := k) h3
  have c_g := rsig_c h4
  have z_g := sigB_size h4
  unfold Cl.cS Cl.cE Cl.bytes Cl.tail Cl.tag
  simp only
  rw [if_pos trivial]
  simp only [← ByteArray.append_assoc]
  generalize textB a = B_a at *
  generalize textB b = B_b at *
  generalize sigB g = B_g at *
  obtain ⟨gi, g1, g2, g3⟩ := g
  refine callR_of (R := R1) cx_ok Tryd.func33 (by kernel_rfl) rfl ?_
  conv => whnf
  refine ⟨_, wb, ?_⟩
  rintro _ _ ⟨rfl, rfl⟩
  conv => whnf
  refine ⟨by kernel_rfl, ?_⟩
  conv => whnf
  refine ⟨_, c_a, ?_⟩
  conv => whnf
  refine ⟨by (repeat (first | rw [ByteArray.size_append] | rw [bigB_size])); omega, ?_⟩
  conv => whnf
  refine ⟨_, c_b, ?_⟩
  conv => whnf
  refine ⟨by (repeat (first | rw [ByteArray.size_append] | rw [bigB_size])); omega, ?_⟩
  conv => whnf
  refine ⟨_, c_n, ?_⟩
  conv => whnf
  refine ⟨by (repeat (first | rw [ByteArray.size_append] | rw [bigB_size])); omega, ?_⟩
  conv => whnf
  refine ⟨by kernel_rfl, ?_⟩
  conv => whnf
  refine ⟨by kernel_rfl, ?_⟩
  conv => whnf
  refine ⟨_, c_k, ?_⟩
  conv => whnf
  refine ⟨by (repeat (first | rw [ByteArray.size_append] | rw [bigB_size])); omega, ?_⟩
  conv => whnf
  refine ⟨_, c_g, ?_⟩
  conv => whnf
  refine ⟨by (repeat (first | rw [ByteArray.size_append] | rw [bigB_size])); omega, ?_⟩
  conv => whnf
  refine ⟨by kernel_rfl, ?_⟩
  conv => whnf
  exact ⟨rfl, rfl⟩

theorem fb_send {a : ByteArray} {o : Nat} {t : ByteArray} {b : ByteArray} {n : Nat} {k : Nat} {g : Sg} (h : (Cl.send a o t b n k g).fit) : CallR cx 33 [.d (Cl.send a o t b n k g).fd.d] [] fun r S => r = .tup [st (Cl.send a o t b n k g).cS, i64 (Cl.send a o t b n k g).cE] ∧ S = [] := by
  obtain ⟨h0, h1, h2, h3, h4, h5, h6⟩ := h
  have wb : CallR cx 61 [u64 (IntKind.u64.wrap (2 : Int)), i64 1] [] fun r S => r = st (bigB 2 1) ∧ S = [] := by rw [show ((2 : Int)) = ((2 : Nat) : Int) from rfl, wrapN (by omega)]; exact rbig1_c (by omega)
  unfold tx at h0
  have c_a := rtext_c (s := a) (by omega)
  have z_a := textB_size a
  have c_o : CallR cx 61 [u64 (IntKind.u64.wrap (o : Int)), i64 4] [] fun r S => r = st (bigB o 4) ∧ S = [] := by rw [wrapN (by omega)]; exact rbig4_c (by omega)
  unfold tx at h2
  have c_t := rtext_c (s := t) (by omega)
  have z_t := textB_size t
  unfold tx at h3
  have c_b := rtext_c (s := b) (by omega)
  have z_b := textB_size b
  have c_n := rbig8_c (n := n) h4
  have c_k := rbig8_c (n := k) h5
  have c_g := rsig_c h6
  have z_g := sigB_size h6
  unfold Cl.cS Cl.cE Cl.bytes Cl.tail Cl.tag
  simp only
  rw [if_pos trivial]
  simp only [← ByteArray.append_assoc]
  generalize textB a = B_a at *
  generalize textB t = B_t at *
  generalize textB b = B_b at *
  generalize sigB g = B_g at *
  obtain ⟨gi, g1, g2, g3⟩ := g
  refine callR_of (R := R1) cx_ok Tryd.func33 (by kernel_rfl) rfl ?_
  conv => whnf
  refine ⟨_, wb, ?_⟩
  rintro _ _ ⟨rfl, rfl⟩
  conv => whnf
  refine ⟨by kernel_rfl, ?_⟩
  conv => whnf
  refine ⟨_, c_a, ?_⟩
  conv => whnf
  refine ⟨by (repeat (first | rw [ByteArray.size_append] | rw [bigB_size])); omega, ?_⟩
  conv => whnf
  refine ⟨_, c_o, ?_⟩
  conv => whnf
  refine ⟨by (repeat (first | rw [ByteArray.size_append] | rw [bigB_size])); omega, ?_⟩
  conv => whnf
  refine ⟨_, c_t, ?_⟩
  conv => whnf
  refine ⟨by (repeat (first | rw [ByteArray.size_append] | rw [bigB_size])); omega, ?_⟩
  conv => whnf
  refine ⟨_, c_b, ?_⟩
  conv => whnf
  refine ⟨by (repeat (first | rw [ByteArray.size_append] | rw [bigB_size])); omega, ?_⟩
  conv => whnf
  refine ⟨_, c_n, ?_⟩
  conv => whnf
  refine ⟨by (repeat (first | rw [ByteArray.size_append] | rw [bigB_size])); omega, ?_⟩
  conv => whnf
  refine ⟨by kernel_rfl, ?_⟩
  conv => whnf
  refine ⟨by kernel_rfl, ?_⟩
  conv => whnf
  refine ⟨_, c_k, ?_⟩
  conv => whnf
  refine ⟨by (repeat (first | rw [ByteArray.size_append] | rw [bigB_size])); omega, ?_⟩
  conv => whnf
  refine ⟨_, c_g, ?_⟩
  conv => whnf
  refine ⟨by (repeat (first | rw [ByteArray.size_append] | rw [bigB_size])); omega, ?_⟩
  conv => whnf
  refine ⟨by kernel_rfl, ?_⟩
  conv => whnf
  exact ⟨rfl, rfl⟩

theorem fb_say {a : ByteArray} {b : ByteArray} {k : Nat} {g : Sg} (h : (Cl.say a b k g).fit) : CallR cx 33 [.d (Cl.say a b k g).fd.d] [] fun r S => r = .tup [st (Cl.say a b k g).cS, i64 (Cl.say a b k g).cE] ∧ S = [] := by
  obtain ⟨h0, h1, h2, h3⟩ := h
  have wb : CallR cx 61 [u64 (IntKind.u64.wrap (3 : Int)), i64 1] [] fun r S => r = st (bigB 3 1) ∧ S = [] := by rw [show ((3 : Int)) = ((3 : Nat) : Int) from rfl, wrapN (by omega)]; exact rbig1_c (by omega)
  unfold tx at h0
  have c_a := rtext_c (s := a) (by omega)
  have z_a := textB_size a
  unfold tx at h1
  have c_b := rtext_c (s := b) (by omega)
  have z_b := textB_size b
  have c_k := rbig8_c (n := k) h2
  have c_g := rsig_c h3
  have z_g := sigB_size h3
  unfold Cl.cS Cl.cE Cl.bytes Cl.tail Cl.tag
  simp only
  rw [if_pos trivial]
  simp only [← ByteArray.append_assoc]
  generalize textB a = B_a at *
  generalize textB b = B_b at *
  generalize sigB g = B_g at *
  obtain ⟨gi, g1, g2, g3⟩ := g
  refine callR_of (R := R1) cx_ok Tryd.func33 (by kernel_rfl) rfl ?_
  conv => whnf
  refine ⟨_, wb, ?_⟩
  rintro _ _ ⟨rfl, rfl⟩
  conv => whnf
  refine ⟨by kernel_rfl, ?_⟩
  conv => whnf
  refine ⟨_, c_a, ?_⟩
  conv => whnf
  refine ⟨by (repeat (first | rw [ByteArray.size_append] | rw [bigB_size])); omega, ?_⟩
  conv => whnf
  refine ⟨_, c_b, ?_⟩
  conv => whnf
  refine ⟨by (repeat (first | rw [ByteArray.size_append] | rw [bigB_size])); omega, ?_⟩
  conv => whnf
  refine ⟨by kernel_rfl, ?_⟩
  conv => whnf
  refine ⟨by kernel_rfl, ?_⟩
  conv => whnf
  refine ⟨_, c_k, ?_⟩
  conv => whnf
  refine ⟨by (repeat (first | rw [ByteArray.size_append] | rw [bigB_size])); omega, ?_⟩
  conv => whnf
  refine ⟨_, c_g, ?_⟩
  conv => whnf
  refine ⟨by (repeat (first | rw [ByteArray.size_append] | rw [bigB_size])); omega, ?_⟩
  conv => whnf
  refine ⟨by kernel_rfl, ?_⟩
  conv => whnf
  exact ⟨rfl, rfl⟩

theorem fb_tell {a : ByteArray} {b : ByteArray} {k : Nat} {g : Sg} (h : (Cl.tell a b k g).fit) : CallR cx 33 [.d (Cl.tell a b k g).fd.d] [] fun r S => r = .tup [st (Cl.tell a b k g).cS, i64 (Cl.tell a b k g).cE] ∧ S = [] := by
  obtain ⟨h0, h1, h2, h3⟩ := h
  have wb : CallR cx 61 [u64 (IntKind.u64.wrap (4 : Int)), i64 1] [] fun r S => r = st (bigB 4 1) ∧ S = [] := by rw [show ((4 : Int)) = ((4 : Nat) : Int) from rfl, wrapN (by omega)]; exact rbig1_c (by omega)
  unfold tx at h0
  have c_a := rtext_c (s := a) (by omega)
  have z_a := textB_size a
  unfold tx at h1
  have c_b := rtext_c (s := b) (by omega)
  have z_b := textB_size b
  have c_k := rbig8_c (n := k) h2
  have c_g := rsig_c h3
  have z_g := sigB_size h3
  unfold Cl.cS Cl.cE Cl.bytes Cl.tail Cl.tag
  simp only
  rw [if_pos trivial]
  simp only [← ByteArray.append_assoc]
  generalize textB a = B_a at *
  generalize textB b = B_b at *
  generalize sigB g = B_g at *
  obtain ⟨gi, g1, g2, g3⟩ := g
  refine callR_of (R := R1) cx_ok Tryd.func33 (by kernel_rfl) rfl ?_
  conv => whnf
  refine ⟨_, wb, ?_⟩
  rintro _ _ ⟨rfl, rfl⟩
  conv => whnf
  refine ⟨by kernel_rfl, ?_⟩
  conv => whnf
  refine ⟨_, c_a, ?_⟩
  conv => whnf
  refine ⟨by (repeat (first | rw [ByteArray.size_append] | rw [bigB_size])); omega, ?_⟩
  conv => whnf
  refine ⟨_, c_b, ?_⟩
  conv => whnf
  refine ⟨by (repeat (first | rw [ByteArray.size_append] | rw [bigB_size])); omega, ?_⟩
  conv => whnf
  refine ⟨by kernel_rfl, ?_⟩
  conv => whnf
  refine ⟨by kernel_rfl, ?_⟩
  conv => whnf
  refine ⟨_, c_k, ?_⟩
  conv => whnf
  refine ⟨by (repeat (first | rw [ByteArray.size_append] | rw [bigB_size])); omega, ?_⟩
  conv => whnf
  refine ⟨_, c_g, ?_⟩
  conv => whnf
  refine ⟨by (repeat (first | rw [ByteArray.size_append] | rw [bigB_size])); omega, ?_⟩
  conv => whnf
  refine ⟨by kernel_rfl, ?_⟩
  conv => whnf
  exact ⟨rfl, rfl⟩

theorem fb_submit {u : Up} (h : (Cl.submit u).fit) : CallR cx 33 [.d (Cl.submit u).fd.d] [] fun r S => r = .tup [st (Cl.submit u).cS, i64 (Cl.submit u).cE] ∧ S = [] := by
  have h0 := h
  have wb : CallR cx 61 [u64 (IntKind.u64.wrap (5 : Int)), i64 1] [] fun r S => r = st (bigB 5 1) ∧ S = [] := by rw [show ((5 : Int)) = ((5 : Nat) : Int) from rfl, wrapN (by omega)]; exact rbig1_c (by omega)
  have c_u := rup_c h0
  have e_u := rtext_c (s := upB u) (Nat.lt_of_le_of_lt (upB_size h0) (by decide))
  have z_u := upB_size h0
  have y_u := textB_size (upB u)
  unfold Cl.cS Cl.cE Cl.bytes Cl.tail Cl.tag
  simp only
  rw [if_pos trivial]
  generalize textB (upB u) = B_u at *
  generalize upB u = P_u at *
  obtain ⟨uh, uo, un, ⟨ui, u1, u2, u3⟩⟩ := u
  refine callR_of (R := R1) cx_ok Tryd.func33 (by kernel_rfl) rfl ?_
  conv => whnf
  refine ⟨_, wb, ?_⟩
  rintro _ _ ⟨rfl, rfl⟩
  conv => whnf
  refine ⟨_, c_u, ?_⟩
  rintro _ _ ⟨rfl, rfl⟩
  conv => whnf
  refine ⟨_, e_u, ?_⟩
  rintro _ _ ⟨rfl, rfl⟩
  conv => whnf
  refine ⟨by (repeat (first | rw [ByteArray.size_append] | rw [bigB_size])); omega, ?_⟩
  conv => whnf
  exact ⟨rfl, rfl⟩

theorem fb_improp {u : Up} {c : ByteArray} (h : (Cl.improp u c).fit) : CallR cx 33 [.d (Cl.improp u c).fd.d] [] fun r S => r = .tup [st (Cl.improp u c).cS, i64 (Cl.improp u c).cE] ∧ S = [] := by
  obtain ⟨h0, h1⟩ := h
  have wb : CallR cx 61 [u64 (IntKind.u64.wrap (6 : Int)), i64 1] [] fun r S => r = st (bigB 6 1) ∧ S = [] := by rw [show ((6 : Int)) = ((6 : Nat) : Int) from rfl, wrapN (by omega)]; exact rbig1_c (by omega)
  have c_u := rup_c h0
  have e_u := rtext_c (s := upB u) (Nat.lt_of_le_of_lt (upB_size h0) (by decide))
  have z_u := upB_size h0
  have y_u := textB_size (upB u)
  unfold tx at h1
  have c_c := rtext_c (s := c) (by omega)
  have z_c := textB_size c
  unfold Cl.cS Cl.cE Cl.bytes Cl.tail Cl.tag
  simp only
  rw [if_pos trivial]
  simp only [← ByteArray.append_assoc]
  generalize textB (upB u) = B_u at *
  generalize upB u = P_u at *
  generalize textB c = B_c at *
  obtain ⟨uh, uo, un, ⟨ui, u1, u2, u3⟩⟩ := u
  refine callR_of (R := R1) cx_ok Tryd.func33 (by kernel_rfl) rfl ?_
  conv => whnf
  refine ⟨_, wb, ?_⟩
  rintro _ _ ⟨rfl, rfl⟩
  conv => whnf
  refine ⟨by kernel_rfl, ?_⟩
  conv => whnf
  refine ⟨_, c_u, ?_⟩
  conv => whnf
  refine ⟨_, e_u, ?_⟩
  conv => whnf
  refine ⟨by (repeat (first | rw [ByteArray.size_append] | rw [bigB_size])); omega, ?_⟩
  conv => whnf
  refine ⟨_, c_c, ?_⟩
  conv => whnf
  refine ⟨by (repeat (first | rw [ByteArray.size_append] | rw [bigB_size])); omega, ?_⟩
  conv => whnf
  refine ⟨by kernel_rfl, ?_⟩
  conv => whnf
  exact ⟨rfl, rfl⟩

theorem fb_double {u : Up} {v : Up} {c : ByteArray} (h : (Cl.double u v c).fit) : CallR cx 33 [.d (Cl.double u v c).fd.d] [] fun r S => r = .tup [st (Cl.double u v c).cS, i64 (Cl.double u v c).cE] ∧ S = [] := by
  obtain ⟨h0, h1, h2⟩ := h
  have wb : CallR cx 61 [u64 (IntKind.u64.wrap (7 : Int)), i64 1] [] fun r S => r = st (bigB 7 1) ∧ S = [] := by rw [show ((7 : Int)) = ((7 : Nat) : Int) from rfl, wrapN (by omega)]; exact rbig1_c (by omega)
  have c_u := rup_c h0
  have e_u := rtext_c (s := upB u) (Nat.lt_of_le_of_lt (upB_size h0) (by decide))
  have z_u := upB_size h0
  have y_u := textB_size (upB u)
  have c_v := rup_c h1
  have e_v := rtext_c (s := upB v) (Nat.lt_of_le_of_lt (upB_size h1) (by decide))
  have z_v := upB_size h1
  have y_v := textB_size (upB v)
  unfold tx at h2
  have c_c := rtext_c (s := c) (by omega)
  have z_c := textB_size c
  unfold Cl.cS Cl.cE Cl.bytes Cl.tail Cl.tag
  simp only
  rw [if_pos trivial]
  simp only [← ByteArray.append_assoc]
  generalize textB (upB u) = B_u at *
  generalize upB u = P_u at *
  generalize textB (upB v) = B_v at *
  generalize upB v = P_v at *
  generalize textB c = B_c at *
  obtain ⟨uh, uo, un, ⟨ui, u1, u2, u3⟩⟩ := u
  obtain ⟨vh, vo, vn, ⟨vi, v1, v2, v3⟩⟩ := v
  refine callR_of (R := R1) cx_ok Tryd.func33 (by kernel_rfl) rfl ?_
  conv => whnf
  refine ⟨_, wb, ?_⟩
  rintro _ _ ⟨rfl, rfl⟩
  conv => whnf
  refine ⟨by kernel_rfl, ?_⟩
  conv => whnf
  refine ⟨_, c_u, ?_⟩
  conv => whnf
  refine ⟨_, e_u, ?_⟩
  conv => whnf
  refine ⟨by (repeat (first | rw [ByteArray.size_append] | rw [bigB_size])); omega, ?_⟩
  conv => whnf
  refine ⟨_, c_v, ?_⟩
  conv => whnf
  refine ⟨_, e_v, ?_⟩
  conv => whnf
  refine ⟨by (repeat (first | rw [ByteArray.size_append] | rw [bigB_size])); omega, ?_⟩
  conv => whnf
  refine ⟨_, c_c, ?_⟩
  conv => whnf
  refine ⟨by (repeat (first | rw [ByteArray.size_append] | rw [bigB_size])); omega, ?_⟩
  conv => whnf
  refine ⟨by kernel_rfl, ?_⟩
  conv => whnf
  exact ⟨rfl, rfl⟩

theorem fb_accept {u : Up} (h : (Cl.accept u).fit) : CallR cx 33 [.d (Cl.accept u).fd.d] [] fun r S => r = .tup [st (Cl.accept u).cS, i64 (Cl.accept u).cE] ∧ S = [] := by
  have h0 := h
  have wb : CallR cx 61 [u64 (IntKind.u64.wrap (8 : Int)), i64 1] [] fun r S => r = st (bigB 8 1) ∧ S = [] := by rw [show ((8 : Int)) = ((8 : Nat) : Int) from rfl, wrapN (by omega)]; exact rbig1_c (by omega)
  have c_u := rup_c h0
  have e_u := rtext_c (s := upB u) (Nat.lt_of_le_of_lt (upB_size h0) (by decide))
  have z_u := upB_size h0
  have y_u := textB_size (upB u)
  unfold Cl.cS Cl.cE Cl.bytes Cl.tail Cl.tag
  simp only
  rw [if_pos trivial]
  generalize textB (upB u) = B_u at *
  generalize upB u = P_u at *
  obtain ⟨uh, uo, un, ⟨ui, u1, u2, u3⟩⟩ := u
  refine callR_of (R := R1) cx_ok Tryd.func33 (by kernel_rfl) rfl ?_
  conv => whnf
  refine ⟨_, wb, ?_⟩
  rintro _ _ ⟨rfl, rfl⟩
  conv => whnf
  refine ⟨_, c_u, ?_⟩
  rintro _ _ ⟨rfl, rfl⟩
  conv => whnf
  refine ⟨_, e_u, ?_⟩
  rintro _ _ ⟨rfl, rfl⟩
  conv => whnf
  refine ⟨by (repeat (first | rw [ByteArray.size_append] | rw [bigB_size])); omega, ?_⟩
  conv => whnf
  exact ⟨rfl, rfl⟩

theorem fb_doubled {u : Up} {v : Up} (h : (Cl.doubled u v).fit) : CallR cx 33 [.d (Cl.doubled u v).fd.d] [] fun r S => r = .tup [st (Cl.doubled u v).cS, i64 (Cl.doubled u v).cE] ∧ S = [] := by
  obtain ⟨h0, h1⟩ := h
  have wb : CallR cx 61 [u64 (IntKind.u64.wrap (9 : Int)), i64 1] [] fun r S => r = st (bigB 9 1) ∧ S = [] := by rw [show ((9 : Int)) = ((9 : Nat) : Int) from rfl, wrapN (by omega)]; exact rbig1_c (by omega)
  have c_u := rup_c h0
  have e_u := rtext_c (s := upB u) (Nat.lt_of_le_of_lt (upB_size h0) (by decide))
  have z_u := upB_size h0
  have y_u := textB_size (upB u)
  have c_v := rup_c h1
  have e_v := rtext_c (s := upB v) (Nat.lt_of_le_of_lt (upB_size h1) (by decide))
  have z_v := upB_size h1
  have y_v := textB_size (upB v)
  unfold Cl.cS Cl.cE Cl.bytes Cl.tail Cl.tag
  simp only
  rw [if_pos trivial]
  simp only [← ByteArray.append_assoc]
  generalize textB (upB u) = B_u at *
  generalize upB u = P_u at *
  generalize textB (upB v) = B_v at *
  generalize upB v = P_v at *
  obtain ⟨uh, uo, un, ⟨ui, u1, u2, u3⟩⟩ := u
  obtain ⟨vh, vo, vn, ⟨vi, v1, v2, v3⟩⟩ := v
  refine callR_of (R := R1) cx_ok Tryd.func33 (by kernel_rfl) rfl ?_
  conv => whnf
  refine ⟨_, wb, ?_⟩
  rintro _ _ ⟨rfl, rfl⟩
  conv => whnf
  refine ⟨by kernel_rfl, ?_⟩
  conv => whnf
  refine ⟨_, c_u, ?_⟩
  conv => whnf
  refine ⟨_, e_u, ?_⟩
  conv => whnf
  refine ⟨by (repeat (first | rw [ByteArray.size_append] | rw [bigB_size])); omega, ?_⟩
  conv => whnf
  refine ⟨_, c_v, ?_⟩
  conv => whnf
  refine ⟨_, e_v, ?_⟩
  conv => whnf
  refine ⟨by (repeat (first | rw [ByteArray.size_append] | rw [bigB_size])); omega, ?_⟩
  conv => whnf
  refine ⟨by kernel_rfl, ?_⟩
  conv => whnf
  exact ⟨rfl, rfl⟩

theorem fb_halt {s : Sp} (h : (Cl.halt s).fit) : CallR cx 33 [.d (Cl.halt s).fd.d] [] fun r S => r = .tup [st (Cl.halt s).cS, i64 (Cl.halt s).cE] ∧ S = [] := by
  have h0 := h
  have wb : CallR cx 61 [u64 (IntKind.u64.wrap (10 : Int)), i64 1] [] fun r S => r = st (bigB 10 1) ∧ S = [] := by rw [show ((10 : Int)) = ((10 : Nat) : Int) from rfl, wrapN (by omega)]; exact rbig1_c (by omega)
  have c_s := rsp_c h0
  have e_s := rtext_c (s := spB s) (Nat.lt_of_le_of_lt (spB_size h0) (by decide))
  have z_s := spB_size h0
  have y_s := textB_size (spB s)
  unfold Cl.cS Cl.cE Cl.bytes Cl.tail Cl.tag
  simp only
  rw [if_pos trivial]
  generalize textB (spB s) = B_s at *
  generalize spB s = P_s at *
  obtain ⟨sh, so, sw, ⟨si, s1, s2, s3⟩⟩ := s
  refine callR_of (R := R1) cx_ok Tryd.func33 (by kernel_rfl) rfl ?_
  conv => whnf
  refine ⟨_, wb, ?_⟩
  rintro _ _ ⟨rfl, rfl⟩
  conv => whnf
  refine ⟨_, c_s, ?_⟩
  rintro _ _ ⟨rfl, rfl⟩
  conv => whnf
  refine ⟨_, e_s, ?_⟩
  rintro _ _ ⟨rfl, rfl⟩
  conv => whnf
  refine ⟨by (repeat (first | rw [ByteArray.size_append] | rw [bigB_size])); omega, ?_⟩
  conv => whnf
  exact ⟨rfl, rfl⟩

theorem fb_prove {l : ByteArray} {i : Nat} {br : List ByteArray} (h : (Cl.prove l i br).fit) : CallR cx 33 [.d (Cl.prove l i br).fd.d] [] fun r S => r = .tup [st (Cl.prove l i br).cS, i64 (Cl.prove l i br).cE] ∧ S = [] := by
  obtain ⟨h0, h1, h2⟩ := h
  have wb : CallR cx 61 [u64 (IntKind.u64.wrap (11 : Int)), i64 1] [] fun r S => r = st (bigB 11 1) ∧ S = [] := by rw [show ((11 : Int)) = ((11 : Nat) : Int) from rfl, wrapN (by omega)]; exact rbig1_c (by omega)
  have c_l := rdig_c h0
  have c_i : CallR cx 61 [u64 (IntKind.u64.wrap (i : Int)), i64 4] [] fun r S => r = st (bigB i 4) ∧ S = [] := by rw [wrapN (by omega)]; exact rbig4_c (by omega)
  have c_br := rdgs_c h2
  have z_br := dgsB_size h2
  unfold Cl.cS Cl.cE Cl.bytes Cl.tail Cl.tag
  simp only
  rw [if_pos trivial]
  simp only [← ByteArray.append_assoc]
  generalize dgsB br = B_br at *
  refine callR_of (R := R1) cx_ok Tryd.func33 (by kernel_rfl) rfl ?_
  conv => whnf
  refine ⟨_, wb, ?_⟩
  rintro _ _ ⟨rfl, rfl⟩
  conv => whnf
  refine ⟨by kernel_rfl, ?_⟩
  conv => whnf
  refine ⟨_, c_l, ?_⟩
  conv => whnf
  refine ⟨by (repeat (first | rw [ByteArray.size_append] | rw [bigB_size])); omega, ?_⟩
  conv => whnf
  refine ⟨_, c_i, ?_⟩
  conv => whnf
  refine ⟨by (repeat (first | rw [ByteArray.size_append] | rw [bigB_size])); omega, ?_⟩
  conv => whnf
  refine ⟨_, c_br, ?_⟩
  conv => whnf
  refine ⟨by (repeat (first | rw [ByteArray.size_append] | rw [bigB_size])); omega, ?_⟩
  conv => whnf
  refine ⟨by kernel_rfl, ?_⟩
  conv => whnf
  exact ⟨rfl, rfl⟩

theorem fb_process {l : Le} (h : (Cl.process l).fit) : CallR cx 33 [.d (Cl.process l).fd.d] [] fun r S => r = .tup [st (Cl.process l).cS, i64 (Cl.process l).cE] ∧ S = [] := by
  have h0 := h
  have wb : CallR cx 61 [u64 (IntKind.u64.wrap (12 : Int)), i64 1] [] fun r S => r = st (bigB 12 1) ∧ S = [] := by rw [show ((12 : Int)) = ((12 : Nat) : Int) from rfl, wrapN (by omega)]; exact rbig1_c (by omega)
  have r_l := rleR_c h0
  have c_l := rle_c h0
  have e_l := rtext_c (s := leB l) (Nat.lt_of_le_of_lt (leB_size h0) (by decide))
  have z_l := leB_size h0
  have y_l := textB_size (leB l)
  unfold Cl.cS Cl.cE Cl.bytes Cl.tail Cl.tag
  simp only
  generalize textB (leB l) = B_l at *
  generalize leB l = P_l at *
  generalize l.right = R at *
  obtain ⟨l1, l2, l3, l4, l5, l6⟩ := l
  refine callR_of (R := R1) cx_ok Tryd.func33 (by kernel_rfl) rfl ?_
  conv => whnf
  refine ⟨_, wb, ?_⟩
  rintro _ _ ⟨rfl, rfl⟩
  conv => whnf
  refine ⟨_, r_l, ?_⟩
  rintro _ _ ⟨rfl, rfl⟩
  conv => whnf
  refine brec (fun g => ?_) (fun g => ?_)
  · have g : R = false := by simpa using g
    subst g
    conv => whnf
    exact ⟨rfl, rfl⟩
  have g : R = true := by simpa using g
  subst g
  conv => whnf
  refine ⟨_, c_l, ?_⟩
  rintro _ _ ⟨rfl, rfl⟩
  conv => whnf
  refine ⟨_, e_l, ?_⟩
  rintro _ _ ⟨rfl, rfl⟩
  conv => whnf
  refine ⟨by (repeat (first | rw [ByteArray.size_append] | rw [bigB_size])); omega, ?_⟩
  conv => whnf
  exact ⟨rfl, rfl⟩

theorem fb_no : CallR cx 33 [.d Cl.no.fd.d] [] fun r S => r = .tup [st Cl.no.cS, i64 Cl.no.cE] ∧ S = [] := by
  have wb : CallR cx 61 [u64 (IntKind.u64.wrap (0 : Int)), i64 1] [] fun r S => r = st (bigB 0 1) ∧ S = [] := by rw [show ((0 : Int)) = ((0 : Nat) : Int) from rfl, wrapN (by omega)]; exact rbig1_c (by omega)
  refine callR_of (R := R1) cx_ok Tryd.func33 (by kernel_rfl) rfl ?_
  conv => whnf
  refine ⟨_, wb, ?_⟩
  rintro _ _ ⟨rfl, rfl⟩
  conv => whnf
  exact ⟨rfl, rfl⟩

theorem fb_word : CallR cx 33 [.d Cl.word.fd.d] [] fun r S => r = .tup [st Cl.word.cS, i64 Cl.word.cE] ∧ S = [] := by
  have wb : CallR cx 61 [u64 (IntKind.u64.wrap (0 : Int)), i64 1] [] fun r S => r = st (bigB 0 1) ∧ S = [] := by rw [show ((0 : Int)) = ((0 : Nat) : Int) from rfl, wrapN (by omega)]; exact rbig1_c (by omega)
  refine callR_of (R := R1) cx_ok Tryd.func33 (by kernel_rfl) rfl ?_
  conv => whnf
  refine ⟨_, wb, ?_⟩
  rintro _ _ ⟨rfl, rfl⟩
  conv => whnf
  exact ⟨rfl, rfl⟩

theorem fbytes_c {c : Cl} (h : c.fit) : CallR cx 33 [.d c.fd.d] [] fun r S => r = .tup [st c.cS, i64 c.cE] ∧ S = [] := by
  cases c with
  | pay a b n k g => exact fb_pay h
  | send a o t b n k g => exact fb_send h
  | say a b k g => exact fb_say h
  | tell a b k g => exact fb_tell h
  | submit u => exact fb_submit h
  | improp u c => exact fb_improp h
  | double u v c => exact fb_double h
  | accept u => exact fb_accept h
  | doubled u v => exact fb_doubled h
  | halt s => exact fb_halt h
  | prove l i br => exact fb_prove h
  | process l => exact fb_process h
  | no => exact fb_no
  | word => exact fb_word
end Go.Proofs.YtboohfijacjhjaaDoor
