/- What one statement needs of the texts, by slice.py. -/
import Derived.Test.YtboohfijacjhjaaDoorP2

/- Calls: which one, its bytes, its signature's index (printed by gen/ccall.py). -/
set_option linter.unusedVariables false
namespace Go.Proofs.YtboohfijacjhjaaDoor
open Go.Ab Go.RowKit

def pay3 : ByteArray := ⟨#[112, 97, 121]⟩
def Cl.d : Cl → D
  | .pay a b n k g => .iface 97 (.agg [.str a, .str b, .int .u64 n, .int .u64 k, g.d])
  | .send a o t b n k g => .iface 95 (.agg [.str a, .int .u32 o, .str t, .str b, .int .u64 n, .int .u64 k, g.d])
  | .say a b k g => .iface 99 (.agg [.str a, .str b, .int .u64 k, g.d])
  | .tell a b k g => .iface 101 (.agg [.str a, .str b, .int .u64 k, g.d])
  | .submit u => .iface 103 (.agg [u.d])
  | .improp u c => .iface 105 (.agg [u.d, .str c])
  | .double u v c => .iface 107 (.agg [u.d, v.d, .str c])
  | .accept u => .iface 108 (.agg [u.d])
  | .doubled u v => .iface 110 (.agg [u.d, v.d])
  | .halt s => .iface 112 (.agg [s.d])
  | .prove l i br => .iface 114 (.agg [dgD l, .int .u32 i, .sl 32 (dgs br)])
  | .process l => .iface 116 (.agg [l.d])
  | .no => .nilI
  | .word => .iface 9 (.str pay3)

theorem ctag_c {c : Cl} : CallR cx 36 [.d c.d] [] fun r S => r = i64 (c.tag : Int) ∧ S = [] := by
  cases c <;>
  · refine callR_of (R := R1) cx_ok Tryd.func36 (by kernel_rfl) rfl ?_
    conv => whnf
    exact ⟨rfl, rfl⟩

def Cl.cE : Cl → Int
  | .process l => if l.right = true then 0 else 4
  | .no => 2
  | .word => 2
  | _ => 0
def Cl.cS (c : Cl) : ByteArray := if c.cE = 0 then c.bytes else .empty

theorem cb_pay {a : ByteArray} {b : ByteArray} {n : Nat} {k : Nat} {g : Sg} (h : (Cl.pay a b n k g).fit) : CallR cx 32 [.d (Cl.pay a b n k g).d] [] fun r S => r = .tup [st (Cl.pay a b n k g).cS, i64 (Cl.pay a b n k g).cE] ∧ S = [] := by
  have tg := ctag_c (c := Cl.pay a b n k g)
  obtain ⟨h0, h1, h2, h3, h4⟩ := h
  have wb : CallR cx 57 [u8 (IntKind.u8.wrap (1 : Int))] [] fun r S => r = st (bigB 1 1) ∧ S = [] := by rw [wrap8 (by omega)]; exact wbyte_c (n := 1) (by omega)
  unfold tx at h0
  have c_a := wtext_c (s := a) (by omega)
  have z_a := textB_size a
  unfold tx at h1
  have c_b := wtext_c (s := b) (by omega)
  have z_b := textB_size b
  have c_n := wlong_c (n := n)
  have c_k := wlong_c (n := k)
  have c_g := wsig_c h4
  have z_g := sigB_size h4
  unfold Cl.cS Cl.cE Cl.bytes Cl.tail Cl.tag Cl.d at *
  simp only at *
  rw [if_pos trivial]
  generalize textB a = B_a at *
  generalize textB b = B_b at *
  generalize sigB g = B_g at *
  obtain ⟨gi, g1, g2, g3⟩ := g
  unfold Sg.d at *
  try simp only at *
  generalize dgs g1 = gA at *
  generalize dgs g2 = gB at *
  generalize dgs g3 = gC at *
  refine callR_of (R := R1) cx_ok Tryd.func32 (by kernel_rfl) rfl ?_
  conv => whnf
  refine ⟨_, tg, ?_⟩
  rintro _ _ ⟨rfl, rfl⟩
  conv => whnf
  refine ⟨_, wb, ?_⟩
  rintro _ _ ⟨rfl, rfl⟩
  conv => whnf
  refine ⟨by kernel_rfl, ?_⟩
  conv => whnf
  refine ⟨_, c_a, ?_⟩
  conv => whnf
  refine ⟨_, c_b, ?_⟩
  conv => whnf
  refine ⟨by (repeat (first | rw [ByteArray.size_append] | rw [bigB_size])); omega, ?_⟩
  conv => whnf
  refine ⟨_, c_n, ?_⟩
  conv => whnf
  refine ⟨by (repeat (first | rw [ByteArray.size_append] | rw [bigB_size])); omega, ?_⟩
  conv => whnf
  refine ⟨_, c_k, ?_⟩
  conv => whnf
  refine ⟨by (repeat (first | rw [ByteArray.size_append] | rw [bigB_size])); omega, ?_⟩
  conv => whnf
  refine ⟨_, c_g, ?_⟩
  conv => whnf
  refine ⟨by (repeat (first | rw [ByteArray.size_append] | rw [bigB_size])); omega, ?_⟩
  conv => whnf
  refine ⟨by (repeat (first | rw [ByteArray.size_append] | rw [bigB_size])); omega, ?_⟩
  conv => whnf
  refine ⟨by kernel_rfl, ?_⟩
  conv => whnf
  exact ⟨rfl, rfl⟩

theorem cb_send {a : ByteArray} {o : Nat} {t : ByteArray} {b : ByteArray} {n : Nat} {k : Nat} {g : Sg} (h : (Cl.send a o t b n k g).fit) : CallR cx 32 [.d (Cl.send a o t b n k g).d] [] fun r S => r = .tup [st (Cl.send a o t b n k g).cS, i64 (Cl.send a o t b n k g).cE] ∧ S = [] := by
  have tg := ctag_c (c := Cl.send a o t b n k g)
  obtain ⟨h0, h1, h2, h3, h4, h5, h6⟩ := h
  have wb : CallR cx 57 [u8 (IntKind.u8.wrap (2 : Int))] [] fun r S => r = st (bigB 2 1) ∧ S = [] := by rw [wrap8 (by omega)]; exact wbyte_c (n := 2) (by omega)
  unfold tx at h0
  have c_a := wtext_c (s := a) (by omega)
  have z_a := textB_size a
  have c_o := wword_c (n := o) h1
  unfold tx at h2
  have c_t := wtext_c (s := t) (by omega)
  have z_t := textB_size t
  unfold tx at h3
  have c_b := wtext_c (s := b) (by omega)
  have z_b := textB_size b
  have c_n := wlong_c (n := n)
  have c_k := wlong_c (n := k)
  have c_g := wsig_c h6
  have z_g := sigB_size h6
  unfold Cl.cS Cl.cE Cl.bytes Cl.tail Cl.tag Cl.d at *
  simp only at *
  rw [if_pos trivial]
  generalize textB a = B_a at *
  generalize textB t = B_t at *
  generalize textB b = B_b at *
  generalize sigB g = B_g at *
  obtain ⟨gi, g1, g2, g3⟩ := g
  unfold Sg.d at *
  try simp only at *
  generalize dgs g1 = gA at *
  generalize dgs g2 = gB at *
  generalize dgs g3 = gC at *
  refine callR_of (R := R1) cx_ok Tryd.func32 (by kernel_rfl) rfl ?_
  conv => whnf
  refine ⟨_, tg, ?_⟩
  rintro _ _ ⟨rfl, rfl⟩
  conv => whnf
  refine ⟨_, wb, ?_⟩
  rintro _ _ ⟨rfl, rfl⟩
  conv => whnf
  refine ⟨by kernel_rfl, ?_⟩
  conv => whnf
  refine ⟨_, c_a, ?_⟩
  conv => whnf
  refine ⟨_, c_o, ?_⟩
  conv => whnf
  refine ⟨by (repeat (first | rw [ByteArray.size_append] | rw [bigB_size])); omega, ?_⟩
  conv => whnf
  refine ⟨_, c_t, ?_⟩
  conv => whnf
  refine ⟨by (repeat (first | rw [ByteArray.size_append] | rw [bigB_size])); omega, ?_⟩
  conv => whnf
  refine ⟨_, c_b, ?_⟩
  conv => whnf
  refine ⟨by (repeat (first | rw [ByteArray.size_append] | rw [bigB_size])); omega, ?_⟩
  conv => whnf
  refine ⟨_, c_n, ?_⟩
  conv => whnf
  refine ⟨by (repeat (first | rw [ByteArray.size_append] | rw [bigB_size])); omega, ?_⟩
  conv => whnf
  refine ⟨_, c_k, ?_⟩
  conv => whnf
  refine ⟨by (repeat (first | rw [ByteArray.size_append] | rw [bigB_size])); omega, ?_⟩
  conv => whnf
  refine ⟨_, c_g, ?_⟩
  conv => whnf
  refine ⟨by (repeat (first | rw [ByteArray.size_append] | rw [bigB_size])); omega, ?_⟩
  conv => whnf
  refine ⟨by (repeat (first | rw [ByteArray.size_append] | rw [bigB_size])); omega, ?_⟩
  conv => whnf
  refine ⟨by kernel_rfl, ?_⟩
  conv => whnf
  exact ⟨rfl, rfl⟩

theorem cb_say {a : ByteArray} {b : ByteArray} {k : Nat} {g : Sg} (h : (Cl.say a b k g).fit) : CallR cx 32 [.d (Cl.say a b k g).d] [] fun r S => r = .tup [st (Cl.say a b k g).cS, i64 (Cl.say a b k g).cE] ∧ S = [] := by
  have tg := ctag_c (c := Cl.say a b k g)
  obtain ⟨h0, h1, h2, h3⟩ := h
  have wb : CallR cx 57 [u8 (IntKind.u8.wrap (3 : Int))] [] fun r S => r = st (bigB 3 1) ∧ S = [] := by rw [wrap8 (by omega)]; exact wbyte_c (n := 3) (by omega)
  unfold tx at h0
  have c_a := wtext_c (s := a) (by omega)
  have z_a := textB_size a
  unfold tx at h1
  have c_b := wtext_c (s := b) (by omega)
  have z_b := textB_size b
  have c_k := wlong_c (n := k)
  have c_g := wsig_c h3
  have z_g := sigB_size h3
  unfold Cl.cS Cl.cE Cl.bytes Cl.tail Cl.tag Cl.d at *
  simp only at *
  rw [if_pos trivial]
  generalize textB a = B_a at *
  generalize textB b = B_b at *
  generalize sigB g = B_g at *
  obtain ⟨gi, g1, g2, g3⟩ := g
  unfold Sg.d at *
  try simp only at *
  generalize dgs g1 = gA at *
  generalize dgs g2 = gB at *
  generalize dgs g3 = gC at *
  refine callR_of (R := R1) cx_ok Tryd.func32 (by kernel_rfl) rfl ?_
  conv => whnf
  refine ⟨_, tg, ?_⟩
  rintro _ _ ⟨rfl, rfl⟩
  conv => whnf
  refine ⟨_, wb, ?_⟩
  rintro _ _ ⟨rfl, rfl⟩
  conv => whnf
  refine ⟨by kernel_rfl, ?_⟩
  conv => whnf
  refine ⟨_, c_a, ?_⟩
  conv => whnf
  refine ⟨_, c_b, ?_⟩
  conv => whnf
  refine ⟨by (repeat (first | rw [ByteArray.size_append] | rw [bigB_size])); omega, ?_⟩
  conv => whnf
  refine ⟨_, c_k, ?_⟩
  conv => whnf
  refine ⟨by (repeat (first | rw [ByteArray.size_append] | rw [bigB_size])); omega, ?_⟩
  conv => whnf
  refine ⟨_, c_g, ?_⟩
  conv => whnf
  refine ⟨by (repeat (first | rw [ByteArray.size_append] | rw [bigB_size])); omega, ?_⟩
  conv => whnf
  refine ⟨by (repeat (first | rw [ByteArray.size_append] | rw [bigB_size])); omega, ?_⟩
  conv => whnf
  refine ⟨by kernel_rfl, ?_⟩
  conv => whnf
  exact ⟨rfl, rfl⟩

theorem cb_tell {a : ByteArray} {b : ByteArray} {k : Nat} {g : Sg} (h : (Cl.tell a b k g).fit) : CallR cx 32 [.d (Cl.tell a b k g).d] [] fun r S => r = .tup [st (Cl.tell a b k g).cS, i64 (Cl.tell a b k g).cE] ∧ S = [] := by
  have tg := ctag_c (c := Cl.tell a b k g)
  obtain ⟨h0, h1, h2, h3⟩ := h
  have wb : CallR cx 57 [u8 (IntKind.u8.wrap (4 : Int))] [] fun r S => r = st (bigB 4 1) ∧ S = [] := by rw [wrap8 (by omega)]; exact wbyte_c (n := 4) (by omega)
  unfold tx at h0
  have c_a := wtext_c (s := a) (by omega)
  have z_a := textB_size a
  unfold tx at h1
  have c_b := wtext_c (s := b) (by omega)
  have z_b := textB_size b
  have c_k := wlong_c (n := k)
  have c_g := wsig_c h3
  have z_g := sigB_size h3
  unfold Cl.cS Cl.cE Cl.bytes Cl.tail Cl.tag Cl.d at *
  simp only at *
  rw [if_pos trivial]
  generalize textB a = B_a at *
  generalize textB b = B_b at *
  generalize sigB g = B_g at *
  obtain ⟨gi, g1, g2, g3⟩ := g
  unfold Sg.d at *
  try simp only at *
  generalize dgs g1 = gA at *
  generalize dgs g2 = gB at *
  generalize dgs g3 = gC at *
  refine callR_of (R := R1) cx_ok Tryd.func32 (by kernel_rfl) rfl ?_
  conv => whnf
  refine ⟨_, tg, ?_⟩
  rintro _ _ ⟨rfl, rfl⟩
  conv => whnf
  refine ⟨_, wb, ?_⟩
  rintro _ _ ⟨rfl, rfl⟩
  conv => whnf
  refine ⟨by kernel_rfl, ?_⟩
  conv => whnf
  refine ⟨_, c_a, ?_⟩
  conv => whnf
  refine ⟨_, c_b, ?_⟩
  conv => whnf
  refine ⟨by (repeat (first | rw [ByteArray.size_append] | rw [bigB_size])); omega, ?_⟩
  conv => whnf
  refine ⟨_, c_k, ?_⟩
  conv => whnf
  refine ⟨by (repeat (first | rw [ByteArray.size_append] | rw [bigB_size])); omega, ?_⟩
  conv => whnf
  refine ⟨_, c_g, ?_⟩
  conv => whnf
  refine ⟨by (repeat (first | rw [ByteArray.size_append] | rw [bigB_size])); omega, ?_⟩
  conv => whnf
  refine ⟨by (repeat (first | rw [ByteArray.size_append] | rw [bigB_size])); omega, ?_⟩
  conv => whnf
  refine ⟨by kernel_rfl, ?_⟩
  conv => whnf
  exact ⟨rfl, rfl⟩

theorem cb_submit {u : Up} (h : (Cl.submit u).fit) : CallR cx 32 [.d (Cl.submit u).d] [] fun r S => r = .tup [st (Cl.submit u).cS, i64 (Cl.submit u).cE] ∧ S = [] := by
  have tg := ctag_c (c := Cl.submit u)
  have h0 := h
  have wb : CallR cx 57 [u8 (IntKind.u8.wrap (5 : Int))] [] fun r S => r = st (bigB 5 1) ∧ S = [] := by rw [wrap8 (by omega)]; exact wbyte_c (n := 5) (by omega)
  have c_u := ctext_c h0
  have z_u := upB_size h0
  rw [← Nat.add_le_add_iff_left (n := 4), ← textB_size] at z_u
  unfold Cl.cS Cl.cE Cl.bytes Cl.tail Cl.tag Cl.d at *
  simp only at *
  rw [if_pos trivial]
  generalize textB (upB u) = B_u at *
  obtain ⟨uh, uo, un, ⟨ui, u1, u2, u3⟩⟩ := u
  unfold Up.d Sg.d dgD at *
  try simp only at *
  generalize dgs u1 = uA at *
  generalize dgs u2 = uB at *
  generalize dgs u3 = uC at *
  generalize D.bytes uo = uD at *
  generalize D.bytes un = uE at *
  refine callR_of (R := R1) cx_ok Tryd.func32 (by kernel_rfl) rfl ?_
  conv => whnf
  refine ⟨_, tg, ?_⟩
  rintro _ _ ⟨rfl, rfl⟩
  conv => whnf
  refine ⟨_, wb, ?_⟩
  rintro _ _ ⟨rfl, rfl⟩
  conv => whnf
  refine ⟨_, c_u, ?_⟩
  rintro _ _ ⟨rfl, rfl⟩
  conv => whnf
  refine ⟨by (repeat (first | rw [ByteArray.size_append] | rw [bigB_size])); omega, ?_⟩
  conv => whnf
  exact ⟨rfl, rfl⟩

theorem cb_improp {u : Up} {c : ByteArray} (h : (Cl.improp u c).fit) : CallR cx 32 [.d (Cl.improp u c).d] [] fun r S => r = .tup [st (Cl.improp u c).cS, i64 (Cl.improp u c).cE] ∧ S = [] := by
  have tg := ctag_c (c := Cl.improp u c)
  obtain ⟨h0, h1⟩ := h
  have wb : CallR cx 57 [u8 (IntKind.u8.wrap (6 : Int))] [] fun r S => r = st (bigB 6 1) ∧ S = [] := by rw [wrap8 (by omega)]; exact wbyte_c (n := 6) (by omega)
  have c_u := ctext_c h0
  have z_u := upB_size h0
  rw [← Nat.add_le_add_iff_left (n := 4), ← textB_size] at z_u
  unfold tx at h1
  have c_c := wtext_c (s := c) (by omega)
  have z_c := textB_size c
  unfold Cl.cS Cl.cE Cl.bytes Cl.tail Cl.tag Cl.d at *
  simp only at *
  rw [if_pos trivial]
  generalize textB (upB u) = B_u at *
  generalize textB c = B_c at *
  obtain ⟨uh, uo, un, ⟨ui, u1, u2, u3⟩⟩ := u
  unfold Up.d Sg.d dgD at *
  try simp only at *
  generalize dgs u1 = uA at *
  generalize dgs u2 = uB at *
  generalize dgs u3 = uC at *
  generalize D.bytes uo = uD at *
  generalize D.bytes un = uE at *
  refine callR_of (R := R1) cx_ok Tryd.func32 (by kernel_rfl) rfl ?_
  conv => whnf
  refine ⟨_, tg, ?_⟩
  rintro _ _ ⟨rfl, rfl⟩
  conv => whnf
  refine ⟨_, wb, ?_⟩
  rintro _ _ ⟨rfl, rfl⟩
  conv => whnf
  refine ⟨by kernel_rfl, ?_⟩
  conv => whnf
  refine ⟨_, c_u, ?_⟩
  conv => whnf
  refine ⟨_, c_c, ?_⟩
  conv => whnf
  refine ⟨by (repeat (first | rw [ByteArray.size_append] | rw [bigB_size])); omega, ?_⟩
  conv => whnf
  refine ⟨by (repeat (first | rw [ByteArray.size_append] | rw [bigB_size])); omega, ?_⟩
  conv => whnf
  refine ⟨by kernel_rfl, ?_⟩
  conv => whnf
  exact ⟨rfl, rfl⟩

theorem cb_double {u : Up} {v : Up} {c : ByteArray} (h : (Cl.double u v c).fit) : CallR cx 32 [.d (Cl.double u v c).d] [] fun r S => r = .tup [st (Cl.double u v c).cS, i64 (Cl.double u v c).cE] ∧ S = [] := by
  have tg := ctag_c (c := Cl.double u v c)
  obtain ⟨h0, h1, h2⟩ := h
  have wb : CallR cx 57 [u8 (IntKind.u8.wrap (7 : Int))] [] fun r S => r = st (bigB 7 1) ∧ S = [] := by rw [wrap8 (by omega)]; exact wbyte_c (n := 7) (by omega)
  have c_u := ctext_c h0
  have z_u := upB_size h0
  rw [← Nat.add_le_add_iff_left (n := 4), ← textB_size] at z_u
  have c_v := ctext_c h1
  have z_v := upB_size h1
  rw [← Nat.add_le_add_iff_left (n := 4), ← textB_size] at z_v
  unfold tx at h2
  have c_c := wtext_c (s := c) (by omega)
  have z_c := textB_size c
  unfold Cl.cS Cl.cE Cl.bytes Cl.tail Cl.tag Cl.d at *
  simp only at *
  rw [if_pos trivial]
  generalize textB (upB u) = B_u at *
  generalize textB (upB v) = B_v at *
  generalize textB c = B_c at *
  obtain ⟨uh, uo, un, ⟨ui, u1, u2, u3⟩⟩ := u
  obtain ⟨vh, vo, vn, ⟨vi, v1, v2, v3⟩⟩ := v
  unfold Up.d Sg.d dgD at *
  try simp only at *
  generalize dgs u1 = uA at *
  generalize dgs u2 = uB at *
  generalize dgs u3 = uC at *
  generalize D.bytes uo = uD at *
  generalize D.bytes un = uE at *
  generalize dgs v1 = vA at *
  generalize dgs v2 = vB at *
  generalize dgs v3 = vC at *
  generalize D.bytes vo = vD at *
  generalize D.bytes vn = vE at *
  refine callR_of (R := R1) cx_ok Tryd.func32 (by kernel_rfl) rfl ?_
  conv => whnf
  refine ⟨_, tg, ?_⟩
  rintro _ _ ⟨rfl, rfl⟩
  conv => whnf
  refine ⟨_, wb, ?_⟩
  rintro _ _ ⟨rfl, rfl⟩
  conv => whnf
  refine ⟨by kernel_rfl, ?_⟩
  conv => whnf
  refine ⟨_, c_u, ?_⟩
  conv => whnf
  refine ⟨_, c_v, ?_⟩
  conv => whnf
  refine ⟨by (repeat (first | rw [ByteArray.size_append] | rw [bigB_size])); omega, ?_⟩
  conv => whnf
  refine ⟨_, c_c, ?_⟩
  conv => whnf
  refine ⟨by (repeat (first | rw [ByteArray.size_append] | rw [bigB_size])); omega, ?_⟩
  conv => whnf
  refine ⟨by (repeat (first | rw [ByteArray.size_append] | rw [bigB_size])); omega, ?_⟩
  conv => whnf
  refine ⟨by kernel_rfl, ?_⟩
  conv => whnf
  exact ⟨rfl, rfl⟩

theorem cb_accept {u : Up} (h : (Cl.accept u).fit) : CallR cx 32 [.d (Cl.accept u).d] [] fun r S => r = .tup [st (Cl.accept u).cS, i64 (Cl.accept u).cE] ∧ S = [] := by
  have tg := ctag_c (c := Cl.accept u)
  have h0 := h
  have wb : CallR cx 57 [u8 (IntKind.u8.wrap (8 : Int))] [] fun r S => r = st (bigB 8 1) ∧ S = [] := by rw [wrap8 (by omega)]; exact wbyte_c (n := 8) (by omega)
  have c_u := ctext_c h0
  have z_u := upB_size h0
  rw [← Nat.add_le_add_iff_left (n := 4), ← textB_size] at z_u
  unfold Cl.cS Cl.cE Cl.bytes Cl.tail Cl.tag Cl.d at *
  simp only at *
  rw [if_pos trivial]
  generalize textB (upB u) = B_u at *
  obtain ⟨uh, uo, un, ⟨ui, u1, u2, u3⟩⟩ := u
  unfold Up.d Sg.d dgD at *
  try simp only at *
  generalize dgs u1 = uA at *
  generalize dgs u2 = uB at *
  generalize dgs u3 = uC at *
  generalize D.bytes uo = uD at *
  generalize D.bytes un = uE at *
  refine callR_of (R := R1) cx_ok Tryd.func32 (by kernel_rfl) rfl ?_
  conv => whnf
  refine ⟨_, tg, ?_⟩
  rintro _ _ ⟨rfl, rfl⟩
  conv => whnf
  refine ⟨_, wb, ?_⟩
  rintro _ _ ⟨rfl, rfl⟩
  conv => whnf
  refine ⟨_, c_u, ?_⟩
  rintro _ _ ⟨rfl, rfl⟩
  conv => whnf
  refine ⟨by (repeat (first | rw [ByteArray.size_append] | rw [bigB_size])); omega, ?_⟩
  conv => whnf
  exact ⟨rfl, rfl⟩

theorem cb_doubled {u : Up} {v : Up} (h : (Cl.doubled u v).fit) : CallR cx 32 [.d (Cl.doubled u v).d] [] fun r S => r = .tup [st (Cl.doubled u v).cS, i64 (Cl.doubled u v).cE] ∧ S = [] := by
  have tg := ctag_c (c := Cl.doubled u v)
  obtain ⟨h0, h1⟩ := h
  have wb : CallR cx 57 [u8 (IntKind.u8.wrap (9 : Int))] [] fun r S => r = st (bigB 9 1) ∧ S = [] := by rw [wrap8 (by omega)]; exact wbyte_c (n := 9) (by omega)
  have c_u := ctext_c h0
  have z_u := upB_size h0
  rw [← Nat.add_le_add_iff_left (n := 4), ← textB_size] at z_u
  have c_v := ctext_c h1
  have z_v := upB_size h1
  rw [← Nat.add_le_add_iff_left (n := 4), ← textB_size] at z_v
  unfold Cl.cS Cl.cE Cl.bytes Cl.tail Cl.tag Cl.d at *
  simp only at *
  rw [if_pos trivial]
  generalize textB (upB u) = B_u at *
  generalize textB (upB v) = B_v at *
  obtain ⟨uh, uo, un, ⟨ui, u1, u2, u3⟩⟩ := u
  obtain ⟨vh, vo, vn, ⟨vi, v1, v2, v3⟩⟩ := v
  unfold Up.d Sg.d dgD at *
  try simp only at *
  generalize dgs u1 = uA at *
  generalize dgs u2 = uB at *
  generalize dgs u3 = uC at *
  generalize D.bytes uo = uD at *
  generalize D.bytes un = uE at *
  generalize dgs v1 = vA at *
  generalize dgs v2 = vB at *
  generalize dgs v3 = vC at *
  generalize D.bytes vo = vD at *
  generalize D.bytes vn = vE at *
  refine callR_of (R := R1) cx_ok Tryd.func32 (by kernel_rfl) rfl ?_
  conv => whnf
  refine ⟨_, tg, ?_⟩
  rintro _ _ ⟨rfl, rfl⟩
  conv => whnf
  refine ⟨_, wb, ?_⟩
  rintro _ _ ⟨rfl, rfl⟩
  conv => whnf
  refine ⟨by kernel_rfl, ?_⟩
  conv => whnf
  refine ⟨_, c_u, ?_⟩
  conv => whnf
  refine ⟨_, c_v, ?_⟩
  conv => whnf
  refine ⟨by (repeat (first | rw [ByteArray.size_append] | rw [bigB_size])); omega, ?_⟩
  conv => whnf
  refine ⟨by (repeat (first | rw [ByteArray.size_append] | rw [bigB_size])); omega, ?_⟩
  conv => whnf
  refine ⟨by kernel_rfl, ?_⟩
  conv => whnf
  exact ⟨rfl, rfl⟩

theorem cb_halt {s : Sp} (h : (Cl.halt s).fit) : CallR cx 32 [.d (Cl.halt s).d] [] fun r S => r = .tup [st (Cl.halt s).cS, i64 (Cl.halt s).cE] ∧ S = [] := by
  have tg := ctag_c (c := Cl.halt s)
  have h0 := h
  have wb : CallR cx 57 [u8 (IntKind.u8.wrap (10 : Int))] [] fun r S => r = st (bigB 10 1) ∧ S = [] := by rw [wrap8 (by omega)]; exact wbyte_c (n := 10) (by omega)
  have c_s := wsp_c h0
  have e_s := wtext_c (s := spB s) (Nat.lt_of_le_of_lt (spB_size h0) (by decide))
  have z_s := spB_size h0
  have y_s := textB_size (spB s)
  unfold Cl.cS Cl.cE Cl.bytes Cl.tail Cl.tag Cl.d at *
  simp only at *
  rw [if_pos trivial]
  generalize textB (spB s) = B_s at *
  generalize spB s = P_s at *
  obtain ⟨sh, so, sw, ⟨si, s1, s2, s3⟩⟩ := s
  unfold Sp.d Sg.d dgD at *
  try simp only at *
  generalize dgs s1 = sA at *
  generalize dgs s2 = sB at *
  generalize dgs s3 = sC at *
  generalize D.bytes so = sD at *
  refine callR_of (R := R1) cx_ok Tryd.func32 (by kernel_rfl) rfl ?_
  conv => whnf
  refine ⟨_, tg, ?_⟩
  rintro _ _ ⟨rfl, rfl⟩
  conv => whnf
  refine ⟨_, wb, ?_⟩
  rintro _ _ ⟨rfl, rfl⟩
  conv => whnf
  refine ⟨_, c_s, ?_⟩
  rintro _ _ ⟨rfl, rfl⟩
  conv => whnf
  refine ⟨_, e_s, ?_⟩
  rintro _ _ ⟨rfl, rfl⟩
  conv => whnf
  refine ⟨by (repeat (first | rw [ByteArray.size_append] | rw [bigB_size])); omega, ?_⟩
  conv => whnf
  exact ⟨rfl, rfl⟩

theorem cb_prove {l : ByteArray} {i : Nat} {br : List ByteArray} (h : (Cl.prove l i br).fit) : CallR cx 32 [.d (Cl.prove l i br).d] [] fun r S => r = .tup [st (Cl.prove l i br).cS, i64 (Cl.prove l i br).cE] ∧ S = [] := by
  have tg := ctag_c (c := Cl.prove l i br)
  obtain ⟨h0, h1, h2⟩ := h
  have wb : CallR cx 57 [u8 (IntKind.u8.wrap (11 : Int))] [] fun r S => r = st (bigB 11 1) ∧ S = [] := by rw [wrap8 (by omega)]; exact wbyte_c (n := 11) (by omega)
  have c_l := wdig_c h0
  have c_i := wword_c (n := i) h1
  have c_br := wdgs_c h2
  have z_br := dgsB_size h2
  unfold Cl.cS Cl.cE Cl.bytes Cl.tail Cl.tag Cl.d at *
  simp only at *
  rw [if_pos trivial]
  generalize dgsB br = B_br at *
  unfold dgD at *
  try simp only at *
  generalize D.bytes l = lD at *
  generalize dgs br = brA at *
  refine callR_of (R := R1) cx_ok Tryd.func32 (by kernel_rfl) rfl ?_
  conv => whnf
  refine ⟨_, tg, ?_⟩
  rintro _ _ ⟨rfl, rfl⟩
  conv => whnf
  refine ⟨_, wb, ?_⟩
  rintro _ _ ⟨rfl, rfl⟩
  conv => whnf
  refine ⟨by kernel_rfl, ?_⟩
  conv => whnf
  refine ⟨_, c_l, ?_⟩
  conv => whnf
  refine ⟨_, c_i, ?_⟩
  conv => whnf
  refine ⟨by (repeat (first | rw [ByteArray.size_append] | rw [bigB_size])); omega, ?_⟩
  conv => whnf
  refine ⟨_, c_br, ?_⟩
  conv => whnf
  refine ⟨by (repeat (first | rw [ByteArray.size_append] | rw [bigB_size])); omega, ?_⟩
  conv => whnf
  refine ⟨by (repeat (first | rw [ByteArray.size_append] | rw [bigB_size])); omega, ?_⟩
  conv => whnf
  refine ⟨by kernel_rfl, ?_⟩
  conv => whnf
  exact ⟨rfl, rfl⟩

theorem cb_process {l : Le} (h : (Cl.process l).fit) : CallR cx 32 [.d (Cl.process l).d] [] fun r S => r = .tup [st (Cl.process l).cS, i64 (Cl.process l).cE] ∧ S = [] := by
  have tg := ctag_c (c := Cl.process l)
  have h0 := h
  have wb : CallR cx 57 [u8 (IntKind.u8.wrap (12 : Int))] [] fun r S => r = st (bigB 12 1) ∧ S = [] := by rw [wrap8 (by omega)]; exact wbyte_c (n := 12) (by omega)
  have c_l := leBytes_c h0
  have e_l := wtext_c (s := leB l) (Nat.lt_of_le_of_lt (leB_size h0) (by decide))
  have z_l := leB_size h0
  have y_l := textB_size (leB l)
  unfold Cl.cS Cl.cE Cl.bytes Cl.tail Cl.tag Cl.d at *
  simp only at *
  generalize textB (leB l) = B_l at *
  generalize leB l = P_l at *
  generalize l.right = R at *
  obtain ⟨la, lb, lc, lx, ly, lz⟩ := l
  unfold Le.d at *
  try simp only at *
  refine callR_of (R := R1) cx_ok Tryd.func32 (by kernel_rfl) rfl ?_
  conv => whnf
  refine ⟨_, tg, ?_⟩
  rintro _ _ ⟨rfl, rfl⟩
  conv => whnf
  refine ⟨_, wb, ?_⟩
  rintro _ _ ⟨rfl, rfl⟩
  conv => whnf
  cases R with
  | false =>
    rw [if_neg (by decide)] at c_l
    rw [if_neg (by decide : ¬ (false = true)), if_neg (by decide)]
    refine ⟨_, c_l, ?_⟩
    rintro _ _ ⟨rfl, rfl⟩
    conv => whnf
    exact ⟨rfl, rfl⟩
  | true =>
  rw [if_pos rfl] at c_l
  rw [if_pos (rfl : true = true), if_pos rfl]
  refine ⟨_, c_l, ?_⟩
  rintro _ _ ⟨rfl, rfl⟩
  conv => whnf
  refine ⟨_, e_l, ?_⟩
  rintro _ _ ⟨rfl, rfl⟩
  conv => whnf
  refine ⟨by (repeat (first | rw [ByteArray.size_append] | rw [bigB_size])); omega, ?_⟩
  conv => whnf
  exact ⟨rfl, rfl⟩

theorem cb_no : CallR cx 32 [.d Cl.no.d] [] fun r S => r = .tup [st Cl.no.cS, i64 Cl.no.cE] ∧ S = [] := by
  have tg := ctag_c (c := Cl.no)
  have wb : CallR cx 57 [u8 (IntKind.u8.wrap (0 : Int))] [] fun r S => r = st (bigB 0 1) ∧ S = [] := by rw [wrap8 (by omega)]; exact wbyte_c (n := 0) (by omega)
  refine callR_of (R := R1) cx_ok Tryd.func32 (by kernel_rfl) rfl ?_
  conv => whnf
  refine ⟨_, tg, ?_⟩
  rintro _ _ ⟨rfl, rfl⟩
  conv => whnf
  refine ⟨_, wb, ?_⟩
  rintro _ _ ⟨rfl, rfl⟩
  conv => whnf
  exact ⟨rfl, rfl⟩

theorem cb_word : CallR cx 32 [.d Cl.word.d] [] fun r S => r = .tup [st Cl.word.cS, i64 Cl.word.cE] ∧ S = [] := by
  have tg := ctag_c (c := Cl.word)
  have wb : CallR cx 57 [u8 (IntKind.u8.wrap (0 : Int))] [] fun r S => r = st (bigB 0 1) ∧ S = [] := by rw [wrap8 (by omega)]; exact wbyte_c (n := 0) (by omega)
  refine callR_of (R := R1) cx_ok Tryd.func32 (by kernel_rfl) rfl ?_
  conv => whnf
  refine ⟨_, tg, ?_⟩
  rintro _ _ ⟨rfl, rfl⟩
  conv => whnf
  refine ⟨_, wb, ?_⟩
  rintro _ _ ⟨rfl, rfl⟩
  conv => whnf
  exact ⟨rfl, rfl⟩

theorem cbytes_n {c : Cl} (h : c.fit) (h12 : c.tag ≠ 12) : CallR cx 32 [.d c.d] [] fun r S => r = .tup [st c.cS, i64 c.cE] ∧ S = [] := by
  cases c with
  | pay a b n k g => exact cb_pay h
  | send a o t b n k g => exact cb_send h
  | say a b k g => exact cb_say h
  | tell a b k g => exact cb_tell h
  | submit u => exact cb_submit h
  | improp u c => exact cb_improp h
  | double u v c => exact cb_double h
  | accept u => exact cb_accept h
  | doubled u v => exact cb_doubled h
  | halt s => exact cb_halt h
  | prove l i br => exact cb_prove h
  | process l => exact absurd rfl h12
  | no => exact cb_no
  | word => exact cb_word

theorem cbytes_c {c : Cl} (h : c.fit) : CallR cx 32 [.d c.d] [] fun r S => r = .tup [st c.cS, i64 c.cE] ∧ S = [] := by
  cases c with
  | process l => exact cb_process h
  | _ => exact cbytes_n h (by unfold Cl.tag; simp only; decide)
end Go.Proofs.YtboohfijacjhjaaDoor

/- Calls: who signs, the index, whether two are one (printed by gen/csame.py). -/
set_option linter.unusedVariables false
namespace Go.Proofs.YtboohfijacjhjaaDoor
open Go.Ab Go.RowKit

def Cl.who : Cl → ByteArray
  | .pay a _ _ _ _ => a
  | .send a _ _ _ _ _ _ => a
  | .say a _ _ _ => a
  | .tell a _ _ _ => a
  | _ => .empty
def Cl.non : Cl → Nat
  | .pay _ _ _ k _ => k
  | .send _ _ _ _ _ k _ => k
  | .say _ _ k _ => k
  | .tell _ _ k _ => k
  | _ => 0
def Cl.sg : Cl → Sg
  | .pay _ _ _ _ g => g
  | .send _ _ _ _ _ _ g => g
  | .say _ _ _ g => g
  | .tell _ _ _ g => g
  | _ => sg0
def Cl.isS : Cl → Bool
  | .pay .. => true
  | .send .. => true
  | .say .. => true
  | .tell .. => true
  | _ => false

theorem csigned_c {c : Cl} : CallR cx 42 [.d c.d] [] fun r S => r = .tup [st c.who, u64 (c.non : Int), .d c.sg.d, bo c.isS] ∧ S = [] := by
  cases c with
  | pay a b n k g =>
    obtain ⟨gi, g1, g2, g3⟩ := g
    unfold Cl.d Cl.who Cl.non Cl.sg Cl.isS Sg.d
    simp only
    generalize dgs g1 = gA at *
    generalize dgs g2 = gB at *
    generalize dgs g3 = gC at *
    refine callR_of (R := R1) cx_ok Tryd.func42 (by kernel_rfl) rfl ?_
    conv => whnf
    refine ⟨by kernel_rfl, ?_⟩
    conv => whnf
    refine ⟨by kernel_rfl, ?_⟩
    conv => whnf
    exact ⟨rfl, rfl⟩
  | send a o t b n k g =>
    obtain ⟨gi, g1, g2, g3⟩ := g
    unfold Cl.d Cl.who Cl.non Cl.sg Cl.isS Sg.d
    simp only
    generalize dgs g1 = gA at *
    generalize dgs g2 = gB at *
    generalize dgs g3 = gC at *
    refine callR_of (R := R1) cx_ok Tryd.func42 (by kernel_rfl) rfl ?_
    conv => whnf
    refine ⟨by kernel_rfl, ?_⟩
    conv => whnf
    refine ⟨by kernel_rfl, ?_⟩
    conv => whnf
    exact ⟨rfl, rfl⟩
  | say a b k g =>
    obtain ⟨gi, g1, g2, g3⟩ := g
    unfold Cl.d Cl.who Cl.non Cl.sg Cl.isS Sg.d
    simp only
    generalize dgs g1 = gA at *
    generalize dgs g2 = gB at *
    generalize dgs g3 = gC at *
    refine callR_of (R := R1) cx_ok Tryd.func42 (by kernel_rfl) rfl ?_
    conv => whnf
    refine ⟨by kernel_rfl, ?_⟩
    conv => whnf
    refine ⟨by kernel_rfl, ?_⟩
    conv => whnf
    exact ⟨rfl, rfl⟩
  | tell a b k g =>
    obtain ⟨gi, g1, g2, g3⟩ := g
    unfold Cl.d Cl.who Cl.non Cl.sg Cl.isS Sg.d
    simp only
    generalize dgs g1 = gA at *
    generalize dgs g2 = gB at *
    generalize dgs g3 = gC at *
    refine callR_of (R := R1) cx_ok Tryd.func42 (by kernel_rfl) rfl ?_
    conv => whnf
    refine ⟨by kernel_rfl, ?_⟩
    conv => whnf
    refine ⟨by kernel_rfl, ?_⟩
    conv => whnf
    exact ⟨rfl, rfl⟩
  | submit u =>
    refine callR_of (R := R1) cx_ok Tryd.func42 (by kernel_rfl) rfl ?_
    conv => whnf
    exact ⟨rfl, rfl⟩
  | improp u c =>
    refine callR_of (R := R1) cx_ok Tryd.func42 (by kernel_rfl) rfl ?_
    conv => whnf
    exact ⟨rfl, rfl⟩
  | double u v c =>
    refine callR_of (R := R1) cx_ok Tryd.func42 (by kernel_rfl) rfl ?_
    conv => whnf
    exact ⟨rfl, rfl⟩
  | accept u =>
    refine callR_of (R := R1) cx_ok Tryd.func42 (by kernel_rfl) rfl ?_
    conv => whnf
    exact ⟨rfl, rfl⟩
  | doubled u v =>
    refine callR_of (R := R1) cx_ok Tryd.func42 (by kernel_rfl) rfl ?_
    conv => whnf
    exact ⟨rfl, rfl⟩
  | halt s =>
    refine callR_of (R := R1) cx_ok Tryd.func42 (by kernel_rfl) rfl ?_
    conv => whnf
    exact ⟨rfl, rfl⟩
  | prove l i br =>
    refine callR_of (R := R1) cx_ok Tryd.func42 (by kernel_rfl) rfl ?_
    conv => whnf
    exact ⟨rfl, rfl⟩
  | process l =>
    refine callR_of (R := R1) cx_ok Tryd.func42 (by kernel_rfl) rfl ?_
    conv => whnf
    exact ⟨rfl, rfl⟩
  | no =>
    refine callR_of (R := R1) cx_ok Tryd.func42 (by kernel_rfl) rfl ?_
    conv => whnf
    exact ⟨rfl, rfl⟩
  | word =>
    refine callR_of (R := R1) cx_ok Tryd.func42 (by kernel_rfl) rfl ?_
    conv => whnf
    exact ⟨rfl, rfl⟩

def idxD (x : Int × Int) : D := .arr 3 1 [.int .i64 x.1, .int .i64 x.2, .int .i64 0]

theorem cindex_c {c : Cl} : CallR cx 52 [.d c.d] [] fun r S => r = .d (idxD c.idx) ∧ S = [] := by
  have sc := csigned_c (c := c)
  cases c with
  | pay a b n k g =>
    obtain ⟨gi, g1, g2, g3⟩ := g
    refine callR_of (R := R1) cx_ok Tryd.func52 (by kernel_rfl) rfl ?_
    conv => whnf
    refine ⟨_, sc, ?_⟩
    rintro _ _ ⟨rfl, rfl⟩
    conv => whnf
    exact ⟨rfl, rfl⟩
  | send a o t b n k g =>
    obtain ⟨gi, g1, g2, g3⟩ := g
    refine callR_of (R := R1) cx_ok Tryd.func52 (by kernel_rfl) rfl ?_
    conv => whnf
    refine ⟨_, sc, ?_⟩
    rintro _ _ ⟨rfl, rfl⟩
    conv => whnf
    exact ⟨rfl, rfl⟩
  | say a b k g =>
    obtain ⟨gi, g1, g2, g3⟩ := g
    refine callR_of (R := R1) cx_ok Tryd.func52 (by kernel_rfl) rfl ?_
    conv => whnf
    refine ⟨_, sc, ?_⟩
    rintro _ _ ⟨rfl, rfl⟩
    conv => whnf
    exact ⟨rfl, rfl⟩
  | tell a b k g =>
    obtain ⟨gi, g1, g2, g3⟩ := g
    refine callR_of (R := R1) cx_ok Tryd.func52 (by kernel_rfl) rfl ?_
    conv => whnf
    refine ⟨_, sc, ?_⟩
    rintro _ _ ⟨rfl, rfl⟩
    conv => whnf
    exact ⟨rfl, rfl⟩
  | submit u =>
    obtain ⟨uh, uo, un, ⟨ui, u1, u2, u3⟩⟩ := u
    refine callR_of (R := R1) cx_ok Tryd.func52 (by kernel_rfl) rfl ?_
    conv => whnf
    refine ⟨_, sc, ?_⟩
    rintro _ _ ⟨rfl, rfl⟩
    conv => whnf
    exact ⟨rfl, rfl⟩
  | improp u c =>
    obtain ⟨uh, uo, un, ⟨ui, u1, u2, u3⟩⟩ := u
    refine callR_of (R := R1) cx_ok Tryd.func52 (by kernel_rfl) rfl ?_
    conv => whnf
    refine ⟨_, sc, ?_⟩
    rintro _ _ ⟨rfl, rfl⟩
    conv => whnf
    exact ⟨rfl, rfl⟩
  | double u v c =>
    obtain ⟨uh, uo, un, ⟨ui, u1, u2, u3⟩⟩ := u
    obtain ⟨vh, vo, vn, ⟨vi, v1, v2, v3⟩⟩ := v
    refine callR_of (R := R1) cx_ok Tryd.func52 (by kernel_rfl) rfl ?_
    conv => whnf
    refine ⟨_, sc, ?_⟩
    rintro _ _ ⟨rfl, rfl⟩
    conv => whnf
    exact ⟨rfl, rfl⟩
  | accept u =>
    obtain ⟨uh, uo, un, ⟨ui, u1, u2, u3⟩⟩ := u
    refine callR_of (R := R1) cx_ok Tryd.func52 (by kernel_rfl) rfl ?_
    conv => whnf
    refine ⟨_, sc, ?_⟩
    rintro _ _ ⟨rfl, rfl⟩
    conv => whnf
    exact ⟨rfl, rfl⟩
  | doubled u v =>
    obtain ⟨uh, uo, un, ⟨ui, u1, u2, u3⟩⟩ := u
    obtain ⟨vh, vo, vn, ⟨vi, v1, v2, v3⟩⟩ := v
    refine callR_of (R := R1) cx_ok Tryd.func52 (by kernel_rfl) rfl ?_
    conv => whnf
    refine ⟨_, sc, ?_⟩
    rintro _ _ ⟨rfl, rfl⟩
    conv => whnf
    exact ⟨rfl, rfl⟩
  | halt s =>
    obtain ⟨sh, so, sw, ⟨si, s1, s2, s3⟩⟩ := s
    refine callR_of (R := R1) cx_ok Tryd.func52 (by kernel_rfl) rfl ?_
    conv => whnf
    refine ⟨_, sc, ?_⟩
    rintro _ _ ⟨rfl, rfl⟩
    conv => whnf
    exact ⟨rfl, rfl⟩
  | prove l i br =>
    refine callR_of (R := R1) cx_ok Tryd.func52 (by kernel_rfl) rfl ?_
    conv => whnf
    refine ⟨_, sc, ?_⟩
    rintro _ _ ⟨rfl, rfl⟩
    conv => whnf
    exact ⟨rfl, rfl⟩
  | process l =>
    obtain ⟨la, lb, lc, lx, ly, lz⟩ := l
    refine callR_of (R := R1) cx_ok Tryd.func52 (by kernel_rfl) rfl ?_
    conv => whnf
    refine ⟨_, sc, ?_⟩
    rintro _ _ ⟨rfl, rfl⟩
    conv => whnf
    exact ⟨rfl, rfl⟩
  | no =>
    refine callR_of (R := R1) cx_ok Tryd.func52 (by kernel_rfl) rfl ?_
    conv => whnf
    refine ⟨_, sc, ?_⟩
    rintro _ _ ⟨rfl, rfl⟩
    conv => whnf
    exact ⟨rfl, rfl⟩
  | word =>
    refine callR_of (R := R1) cx_ok Tryd.func52 (by kernel_rfl) rfl ?_
    conv => whnf
    refine ⟨_, sc, ?_⟩
    rintro _ _ ⟨rfl, rfl⟩
    conv => whnf
    exact ⟨rfl, rfl⟩

theorem cwhole_c {c : Cl} (h : c.fit) (h12 : c.tag ≠ 12) : CallR cx 51 [.d c.d] [] fun r S => r = .tup [st c.cS, i64 c.cE] ∧ S = [] := by
  have cb := cbytes_n h h12
  generalize c.cS = s at *
  generalize c.cE = e at *
  generalize c.d = x at *
  refine callR_of (R := R1) cx_ok Tryd.func51 (by kernel_rfl) rfl ?_
  conv => whnf
  refine ⟨_, cb, ?_⟩
  rintro _ _ ⟨rfl, rfl⟩
  conv => whnf
  exact ⟨rfl, rfl⟩

theorem deq_iff {x y : D} {P : Prop} [Decidable P] (h : x = y ↔ P) : deq x y = decide P := by
  by_cases g : P
  · rw [decide_eq_true g]; exact deq_true.2 (h.2 g)
  · rw [decide_eq_false g]; exact deq_false.2 (fun e => g (h.1 e))

theorem idxD_inj {I J : Int × Int} : idxD I = idxD J ↔ I = J := by
  constructor
  · intro h
    unfold idxD at h
    injection h with _ _ h
    simp only [List.cons.injEq, D.int.injEq] at h
    exact Prod.ext h.1.2 h.2.1.2
  · rintro rfl; rfl

theorem sideI {I J : Int × Int} : ∃ T : Ty, T.fitE cx.tt 130 = true ∧ Nat.blt T.depth 9999 = true ∧ T.is (idxD I) ∧ T.is (idxD J) :=
  ⟨.arr 3 1 (.int .i64), by kernel_rfl, by kernel_rfl,
    ⟨_, rfl, rfl, fun y hy => by simp only [List.mem_cons, List.not_mem_nil, or_false] at hy; rcases hy with rfl | rfl | rfl <;> exact ⟨_, rfl⟩⟩,
    ⟨_, rfl, rfl, fun y hy => by simp only [List.mem_cons, List.not_mem_nil, or_false] at hy; rcases hy with rfl | rfl | rfl <;> exact ⟨_, rfl⟩⟩⟩

theorem same_0 {x y : D} (tg : CallR cx 36 [.d x] [] fun r S => r = i64 0 ∧ S = []) :
    CallR cx 23 [.d x, .d y] [] fun r S => r = bo false ∧ S = [] := by
  refine callR_of (R := R1) cx_ok Tryd.func23 (by kernel_rfl) rfl ?_
  conv => whnf
  refine ⟨_, tg, ?_⟩
  rintro _ _ ⟨rfl, rfl⟩
  conv => whnf
  exact ⟨rfl, rfl⟩

theorem same_ne {x y : D} {t u : Int} (h0 : t ≠ 0) (h : t ≠ u) (tg : CallR cx 36 [.d x] [] fun r S => r = i64 t ∧ S = [])
    (tg2 : CallR cx 36 [.d y] [] fun r S => r = i64 u ∧ S = []) :
    CallR cx 23 [.d x, .d y] [] fun r S => r = bo false ∧ S = [] := by
  refine callR_of (R := R1) cx_ok Tryd.func23 (by kernel_rfl) rfl ?_
  conv => whnf
  refine ⟨_, tg, ?_⟩
  rintro _ _ ⟨rfl, rfl⟩
  conv => whnf
  refine brF (beq_eq_false_iff_ne.2 h0) ?_
  conv => whnf
  refine ⟨_, tg, ?_⟩
  rintro _ _ ⟨rfl, rfl⟩
  conv => whnf
  refine ⟨_, tg2, ?_⟩
  rintro _ _ ⟨rfl, rfl⟩
  conv => whnf
  refine brT (bne_iff_ne.2 h) ?_
  conv => whnf
  exact ⟨rfl, rfl⟩

theorem same_b {c : Cl} {y : D} {t e e2 : Int} {s s2 : ByteArray} {I J : Int × Int} (h0 : t ≠ 0) (h12 : c.tag ≠ 12) (tg : CallR cx 36 [.d c.d] [] fun r S => r = i64 t ∧ S = [])
    (tg2 : CallR cx 36 [.d y] [] fun r S => r = i64 t ∧ S = [])
    (wc : CallR cx 51 [.d c.d] [] fun r S => r = .tup [st s, i64 e] ∧ S = [])
    (wd : CallR cx 51 [.d y] [] fun r S => r = .tup [st s2, i64 e2] ∧ S = [])
    (ic : CallR cx 52 [.d c.d] [] fun r S => r = .d (idxD I) ∧ S = [])
    (jc : CallR cx 52 [.d y] [] fun r S => r = .d (idxD J) ∧ S = []) :
    CallR cx 23 [.d c.d, .d y] [] fun r S => r = bo (decide (s = s2) && decide (I = J)) ∧ S = [] := by
  have hI := deq_iff (idxD_inj (I := I) (J := J))
  have sd := sideI (I := I) (J := J)
  unfold idxD at hI sd ic jc
  cases c with
  | process l => exact absurd rfl h12
  | _ =>
    refine callR_of (R := R1) cx_ok Tryd.func23 (by kernel_rfl) rfl ?_
    conv => whnf
    refine ⟨_, tg, ?_⟩
    rintro _ _ ⟨rfl, rfl⟩
    conv => whnf
    refine brF (beq_eq_false_iff_ne.2 h0) ?_
    conv => whnf
    refine ⟨_, tg, ?_⟩
    rintro _ _ ⟨rfl, rfl⟩
    conv => whnf
    refine ⟨_, tg2, ?_⟩
    rintro _ _ ⟨rfl, rfl⟩
    conv => whnf
    refine brF (bne_eq_false_iff_eq.2 rfl) ?_
    conv => whnf
    refine ⟨_, wc, ?_⟩
    rintro _ _ ⟨rfl, rfl⟩
    conv => whnf
    refine ⟨_, wd, ?_⟩
    rintro _ _ ⟨rfl, rfl⟩
    conv => whnf
    by_cases hs : s = s2
    · rw [decide_eq_true hs]
      conv => whnf
      refine ⟨_, ic, ?_⟩
      rintro _ _ ⟨rfl, rfl⟩
      conv => whnf
      refine ⟨_, jc, ?_⟩
      rintro _ _ ⟨rfl, rfl⟩
      conv => whnf
      refine ⟨sd, ?_⟩
      conv => whnf
      refine ⟨?_, rfl⟩
      rw [hI, Bool.true_and]
      rfl
    · rw [decide_eq_false hs]
      conv => whnf
      exact ⟨rfl, rfl⟩


theorem leD_inj {l m : Le} : l.d = m.d ↔ l = m := by
  constructor
  · intro h
    obtain ⟨a, b, c, x, y, z⟩ := l
    obtain ⟨a', b', c', x', y', z'⟩ := m
    unfold Le.d at h
    injection h with h
    simp only [List.cons.injEq, D.int.injEq, D.str.injEq, true_and, and_true, Int.ofNat_inj] at h
    obtain ⟨rfl, rfl, rfl, rfl, rfl, rfl⟩ := h
    rfl
  · rintro rfl; rfl

theorem sideL {l m : Le} : ∃ T : Ty, T.fitE cx.tt 49 = true ∧ Nat.blt T.depth 9999 = true ∧ T.is l.d ∧ T.is m.d :=
  ⟨.st [.int .u32, .int .u32, .int .u32, .str, .str, .str], by kernel_rfl, by kernel_rfl,
    ⟨_, rfl, _, _, rfl, ⟨_, rfl⟩, _, _, rfl, ⟨_, rfl⟩, _, _, rfl, ⟨_, rfl⟩, _, _, rfl, ⟨_, rfl⟩, _, _, rfl, ⟨_, rfl⟩, _, _, rfl, ⟨_, rfl⟩, rfl⟩,
    ⟨_, rfl, _, _, rfl, ⟨_, rfl⟩, _, _, rfl, ⟨_, rfl⟩, _, _, rfl, ⟨_, rfl⟩, _, _, rfl, ⟨_, rfl⟩, _, _, rfl, ⟨_, rfl⟩, _, _, rfl, ⟨_, rfl⟩, rfl⟩⟩

noncomputable instance decLe : DecidableEq Le := fun a b => Classical.propDecidable _

theorem lsame_c {l m : Le} : CallR cx 50 [.d l.d, .d m.d] [] fun r S => r = bo (decide (l = m)) ∧ S = [] := by
  have h := deq_iff (leD_inj (l := l) (m := m))
  have sd := sideL (l := l) (m := m)
  obtain ⟨a, b, c, x, y, z⟩ := l
  obtain ⟨a', b', c', x', y', z'⟩ := m
  refine callR_of (R := R1) cx_ok Tryd.func50 (by kernel_rfl) rfl ?_
  conv => whnf
  refine ⟨sd, ?_⟩
  conv => whnf
  refine ⟨?_, rfl⟩
  rw [← h]
  rfl

theorem same_p {l m : Le} : CallR cx 23 [.d (Cl.process l).d, .d (Cl.process m).d] [] fun r S => r = bo (decide (l = m)) ∧ S = [] := by
  have tg := ctag_c (c := .process l)
  have tg2 := ctag_c (c := .process m)
  have ls := lsame_c (l := l) (m := m)
  generalize decide (l = m) = q at *
  obtain ⟨a, b, c, x, y, z⟩ := l
  obtain ⟨a', b', c', x', y', z'⟩ := m
  refine callR_of (R := R1) cx_ok Tryd.func23 (by kernel_rfl) rfl ?_
  conv => whnf
  refine ⟨_, tg, ?_⟩
  rintro _ _ ⟨rfl, rfl⟩
  conv => whnf
  refine ⟨_, tg, ?_⟩
  rintro _ _ ⟨rfl, rfl⟩
  conv => whnf
  refine ⟨_, tg2, ?_⟩
  rintro _ _ ⟨rfl, rfl⟩
  conv => whnf
  refine ⟨by kernel_rfl, ?_⟩
  conv => whnf
  refine ⟨_, ls, ?_⟩
  conv => whnf
  refine ⟨by kernel_rfl, ?_⟩
  conv => whnf
  exact ⟨rfl, rfl⟩

noncomputable instance decCl : DecidableEq Cl := fun a b => Classical.propDecidable _

theorem csame_c {c d : Cl} (hc : c.fit) (hd : d.fit) : CallR cx 23 [.d c.d, .d d.d] [] fun r S => r = bo (decide (0 < c.tag) && decide (c = d)) ∧ S = [] := by
  have tg := ctag_c (c := c)
  have tg2 := ctag_c (c := d)
  by_cases h0 : c.tag = 0
  · rw [h0] at tg ⊢
    exact same_0 tg
  have h0' : 0 < c.tag := by omega
  rw [decide_eq_true h0', Bool.true_and]
  by_cases ht : c.tag = d.tag
  case neg =>
    have hne : c ≠ d := fun e => ht (by rw [e])
    rw [decide_eq_false hne]
    exact same_ne (by omega) (by omega) tg tg2
  by_cases h12 : c.tag = 12
  · cases c <;> first | (simp [Cl.tag] at h12; done) | skip
    cases d <;> first | (simp [Cl.tag] at ht; done) | skip
    rename_i l m
    have e : (decide (Cl.process l = Cl.process m)) = decide (l = m) := by
      by_cases q : l = m
      · subst q; rw [decide_eq_true rfl, decide_eq_true rfl]
      · rw [decide_eq_false q, decide_eq_false (fun z => q (by injection z))]
    rw [e]
    exact same_p
  have wc := cwhole_c hc h12
  have wd := cwhole_c hd (by rw [← ht]; exact h12)
  have ic := cindex_c (c := c)
  have jc := cindex_c (c := d)
  rw [← ht] at tg2
  refine (same_b (by omega) h12 tg tg2 wc wd ic jc).mono fun r S ⟨g1, g2⟩ => ⟨?_, g2⟩
  rw [g1]
  refine congrArg bo ?_
  have hE : ∀ {c : Cl}, c.tag ≠ 0 → c.tag ≠ 12 → c.cS = c.bytes := by
    intro c a b
    unfold Cl.cS
    refine if_pos ?_
    cases c <;> first | rfl | (exact absurd rfl a) | (exact absurd rfl b)
  rw [hE h0 h12, hE (by omega) (by omega)]
  by_cases hcd : c = d
  · subst hcd
    rw [decide_eq_true rfl, decide_eq_true rfl, decide_eq_true rfl]; rfl
  · rw [decide_eq_false hcd]
    by_cases hb : c.bytes = d.bytes
    · by_cases hi : c.idx = d.idx
      · exact absurd (bytes_inj hc hd h0' hb ⟨fun _ => by rw [hi], fun _ => by rw [hi]⟩) hcd
      · rw [decide_eq_false hi, Bool.and_false]
    · rw [decide_eq_false hb, Bool.false_and]
end Go.Proofs.YtboohfijacjhjaaDoor

/- The document's Same: lists of digests, signatures, updates, stops, letters, fields (printed by gen/cref.py). -/
set_option linter.unusedVariables false
namespace Go.Proofs.YtboohfijacjhjaaDoor
open Go.Ab Go.RowKit

theorem bytes_inj_D {a b : ByteArray} (h : D.bytes a = D.bytes b) : a = b := by
  apply ba_ext
  unfold D.bytes at h
  have q : ∀ {l m : List UInt8}, l.map (fun b => D.int .u8 b.toNat) = m.map (fun b => D.int .u8 b.toNat) → l = m := by
    intro l
    induction l with
    | nil => intro m h; cases m with | nil => rfl | cons _ _ => cases h
    | cons x l ih =>
      intro m h
      cases m with
      | nil => cases h
      | cons y m =>
        simp only [List.map_cons, List.cons.injEq, D.int.injEq, true_and, Int.ofNat_inj] at h
        rw [UInt8.toNat_inj.1 h.1, ih h.2]
  exact q h

theorem dgD_inj {a b : ByteArray} : dgD a = dgD b ↔ a = b := by
  constructor
  · intro h
    unfold dgD at h
    injection h with _ _ h
    exact bytes_inj_D h
  · rintro rfl; rfl

theorem sideD {a b : ByteArray} (ha : a.size = 32) (hb : b.size = 32) : ∃ T : Ty, T.fitE cx.tt 43 = true ∧ Nat.blt T.depth 9999 = true ∧ T.is (dgD a) ∧ T.is (dgD b) := by
  have q : ∀ {a : ByteArray}, a.size = 32 → (Ty.arr 32 1 (.int .u8)).is (dgD a) := fun {a} h =>
    ⟨_, rfl, by rw [bytes_length]; exact h, fun y hy => by unfold D.bytes at hy; obtain ⟨b, _, rfl⟩ := List.mem_map.1 hy; exact ⟨_, rfl⟩⟩
  exact ⟨.arr 32 1 (.int .u8), by kernel_rfl, by kernel_rfl, q ha, q hb⟩

theorem slist_c {a b : List ByteArray} (ha : dgF a) (hb : dgF b) : CallR cx 55 [.d (.sl 32 (dgs a)), .d (.sl 32 (dgs b))] [] fun r S => r = bo (decide (a = b)) ∧ S = [] := by
  have la : (dgs a).length = a.length := List.length_map _
  have lb : (dgs b).length = b.length := List.length_map _
  have h1 := ha.1
  refine callR_of (R := R1) cx_ok Tryd.func55 (by kernel_rfl) rfl ?_
  conv => whnf
  by_cases hl : a.length = b.length
  case neg =>
    have e : a ≠ b := fun z => hl (by rw [z])
    rw [decide_eq_false e]
    refine brT (bne_iff_ne.2 (by rw [la, lb]; omega)) ?_
    conv => whnf
    exact ⟨rfl, rfl⟩
  refine brF (bne_eq_false_iff_eq.2 (by rw [la, lb, hl])) ?_
  conv => whnf
  refine .inl ⟨fun m L S => ∃ j : Nat, j ≤ a.length ∧ a.take j = b.take j ∧ m = a.length - j ∧
      L = [(0, .d (.sl 32 (dgs a))), (1, .d (.sl 32 (dgs b))), (12, i64 (((dgs a).length : Nat) : Int)), (13, i64 (j : Int))] ∧ S = [],
    ⟨_, _, ⟨0, Nat.zero_le _, rfl, rfl, rfl, rfl⟩, ⟨rfl, rfl, rfl, rfl, trivial⟩⟩, ?_⟩
  rintro _ _ _ ⟨j, hj, ht, rfl, rfl, rfl⟩
  conv => whnf
  refine brec (fun h4 => ?_) (fun h4 => ?_)
  · have h4 := of_decide_eq_true h4
    rw [la] at h4
    have hlt : j < a.length := by omega
    have hlt2 : j < b.length := by omega
    conv => whnf
    refine ⟨by kernel_rfl, ?_⟩
    conv => whnf
    refine ⟨⟨by omega, by rw [la]; omega⟩, ?_⟩
    rw [dgs_getD hlt]
    conv => whnf
    refine ⟨⟨by omega, by rw [lb]; omega⟩, ?_⟩
    rw [dgs_getD hlt2]
    have sd := sideD (ha.2 _ (List.getElem_mem hlt)) (hb.2 _ (List.getElem_mem hlt2))
    have hq := deq_iff (dgD_inj (a := a[j]'hlt) (b := b[j]'hlt2))
    have e3 : IntKind.i64.wrap ((j : Int) + 1) = ((j + 1 : Nat) : Int) := by rw [w64 (by omega)]; omega
    have hta : a.take (j + 1) = a.take j ++ [a[j]'hlt] := by rw [List.take_add_one, List.getElem?_eq_getElem hlt]; rfl
    have htb : b.take (j + 1) = b.take j ++ [b[j]'hlt2] := by rw [List.take_add_one, List.getElem?_eq_getElem hlt2]; rfl
    have hne : a[j]'hlt ≠ b[j]'hlt2 → a ≠ b := fun h z => h (by subst z; rfl)
    generalize a[j]'hlt = x at *
    generalize b[j]'hlt2 = y at *
    unfold dgD at *
    conv => whnf
    refine ⟨sd, ?_⟩
    conv => whnf
    refine ⟨by kernel_rfl, ?_⟩
    conv => whnf
    by_cases hxy : x = y
    · rw [decide_eq_true hxy] at hq
      refine brF ?_ ?_
      · rw [hq]; rfl
      conv => whnf
      exact ⟨_, _, 0, (by omega : a.length - (j + 1) < a.length - j), ⟨j + 1, by omega, by rw [hta, htb, ht, hxy], rfl, rfl, rfl⟩,
        ⟨rfl, rfl, rfl, congrArg (fun z => some (i64 z)) e3, trivial⟩, rfl⟩
    · rw [decide_eq_false hxy] at hq
      refine brT ?_ ?_
      · rw [hq]; rfl
      conv => whnf
      rw [decide_eq_false (hne hxy)]
      exact ⟨rfl, rfl⟩
  · have h4 := of_decide_eq_false h4
    rw [la] at h4
    obtain rfl : j = a.length := by omega
    have e : a = b := by
      rw [List.take_length] at ht
      rw [ht, hl, List.take_length]
    rw [decide_eq_true e]
    conv => whnf
    exact ⟨rfl, rfl⟩

theorem dec_iff {P Q : Prop} [Decidable P] [Decidable Q] (h : P ↔ Q) : decide P = decide Q := decide_eq_decide.2 h
noncomputable instance decSg : DecidableEq Sg := fun a b => Classical.propDecidable _
noncomputable instance decUp : DecidableEq Up := fun a b => Classical.propDecidable _
noncomputable instance decSp : DecidableEq Sp := fun a b => Classical.propDecidable _
noncomputable instance decFd : DecidableEq Fd := fun a b => Classical.propDecidable _

theorem ssig_c {s t : Sg} (hs : s.fit) (ht : t.fit) : CallR cx 44 [.d s.d, .d t.d] [] fun r S => r = bo (decide (s = t)) ∧ S = [] := by
  obtain ⟨_, h1, h2, h3⟩ := hs
  obtain ⟨_, g1, g2, g3⟩ := ht
  obtain ⟨si, s1, s2, s3⟩ := s
  obtain ⟨ti, t1, t2, t3⟩ := t
  simp only at h1 h2 h3 g1 g2 g3
  have c1 := slist_c h1 g1
  have c2 := slist_c h2 g2
  have c3 := slist_c h3 g3
  have e : decide (Sg.mk si s1 s2 s3 = Sg.mk ti t1 t2 t3) = (decide (si = ti) && (decide (s1 = t1) && (decide (s2 = t2) && decide (s3 = t3)))) := by
    rw [dec_iff (Q := si = ti ∧ s1 = t1 ∧ s2 = t2 ∧ s3 = t3) (by rw [Sg.mk.injEq]), Bool.decide_and, Bool.decide_and, Bool.decide_and]
  rw [e]
  clear e
  unfold Sg.d
  simp only
  generalize decide (s1 = t1) = b1 at *
  generalize decide (s2 = t2) = b2 at *
  generalize decide (s3 = t3) = b3 at *
  generalize dgs s1 = x1 at *
  generalize dgs s2 = x2 at *
  generalize dgs s3 = x3 at *
  generalize dgs t1 = y1 at *
  generalize dgs t2 = y2 at *
  generalize dgs t3 = y3 at *
  refine callR_of (R := R1) cx_ok Tryd.func44 (by kernel_rfl) rfl ?_
  conv => whnf
  by_cases q0 : si = ti
  case neg =>
    rw [decide_eq_false q0]
    refine brF (beq_eq_false_iff_ne.2 q0) ?_
    conv => whnf
    exact ⟨rfl, rfl⟩
  rw [decide_eq_true q0]
  refine brT (beq_iff_eq.2 q0) ?_
  conv => whnf
  refine ⟨_, c1, ?_⟩
  rintro _ _ ⟨rfl, rfl⟩
  conv => whnf
  cases b1 with
  | false =>
    conv => whnf
    exact ⟨rfl, rfl⟩
  | true =>
  conv => whnf
  refine ⟨_, c2, ?_⟩
  rintro _ _ ⟨rfl, rfl⟩
  conv => whnf
  cases b2 with
  | false =>
    conv => whnf
    exact ⟨rfl, rfl⟩
  | true =>
  conv => whnf
  refine ⟨_, c3, ?_⟩
  rintro _ _ ⟨rfl, rfl⟩
  conv => whnf
  exact ⟨rfl, rfl⟩

theorem sup_c {u v : Up} (hu : u.fit) (hv : v.fit) : CallR cx 53 [.d u.d, .d v.d] [] fun r S => r = bo (decide (u = v)) ∧ S = [] := by
  obtain ⟨_, h1, h2, h3⟩ := hu
  obtain ⟨_, g1, g2, g3⟩ := hv
  obtain ⟨uh, uo, un, us⟩ := u
  obtain ⟨vh, vo, vn, vs⟩ := v
  simp only at h1 h2 h3 g1 g2 g3
  have c3 := ssig_c h3 g3
  have sd1 := sideD h1 g1
  have hq1 := deq_iff (dgD_inj (a := uo) (b := vo))
  have sd2 := sideD h2 g2
  have hq2 := deq_iff (dgD_inj (a := un) (b := vn))
  have e : decide (Up.mk uh uo un us = Up.mk vh vo vn vs) = (decide ((uh : Int) = (vh : Int)) && (decide (uo = vo) && (decide (un = vn) && decide (us = vs)))) := by
    rw [dec_iff (Q := (uh : Int) = (vh : Int) ∧ uo = vo ∧ un = vn ∧ us = vs) (by rw [Up.mk.injEq, Int.ofNat_inj]), Bool.decide_and, Bool.decide_and, Bool.decide_and]
  rw [e]
  clear e
  unfold Up.d
  simp only
  generalize (uh : Int) = U at *
  generalize (vh : Int) = V at *
  generalize decide (us = vs) = b3 at *
  obtain ⟨usi, us1, us2, us3⟩ := us
  obtain ⟨vsi, vs1, vs2, vs3⟩ := vs
  unfold Sg.d dgD at *
  simp only at *
  generalize dgs us1 = usx1 at *
  generalize dgs us2 = usx2 at *
  generalize dgs us3 = usx3 at *
  generalize dgs vs1 = vsx1 at *
  generalize dgs vs2 = vsx2 at *
  generalize dgs vs3 = vsx3 at *
  refine callR_of (R := R1) cx_ok Tryd.func53 (by kernel_rfl) rfl ?_
  conv => whnf
  by_cases q0 : U = V
  case neg =>
    rw [decide_eq_false q0]
    refine brF (beq_eq_false_iff_ne.2 q0) ?_
    conv => whnf
    exact ⟨rfl, rfl⟩
  rw [decide_eq_true q0]
  refine brT (beq_iff_eq.2 q0) ?_
  conv => whnf
  refine ⟨sd1, ?_⟩
  conv => whnf
  by_cases q1 : uo = vo
  case neg =>
    rw [decide_eq_false q1] at hq1 ⊢
    refine brF hq1 ?_
    conv => whnf
    exact ⟨rfl, rfl⟩
  rw [decide_eq_true q1] at hq1 ⊢
  refine brT hq1 ?_
  conv => whnf
  refine ⟨sd2, ?_⟩
  conv => whnf
  by_cases q2 : un = vn
  case neg =>
    rw [decide_eq_false q2] at hq2 ⊢
    refine brF hq2 ?_
    conv => whnf
    exact ⟨rfl, rfl⟩
  rw [decide_eq_true q2] at hq2 ⊢
  refine brT hq2 ?_
  conv => whnf
  refine ⟨_, c3, ?_⟩
  rintro _ _ ⟨rfl, rfl⟩
  conv => whnf
  exact ⟨rfl, rfl⟩

theorem ssp_c {u v : Sp} (hu : u.fit) (hv : v.fit) : CallR cx 54 [.d u.d, .d v.d] [] fun r S => r = bo (decide (u = v)) ∧ S = [] := by
  obtain ⟨_, h1, h2, h3⟩ := hu
  obtain ⟨_, g1, g2, g3⟩ := hv
  obtain ⟨uh, uo, un, us⟩ := u
  obtain ⟨vh, vo, vn, vs⟩ := v
  simp only at h1 h3 g1 g3
  have c3 := ssig_c h3 g3
  have sd1 := sideD h1 g1
  have hq1 := deq_iff (dgD_inj (a := uo) (b := vo))
  have e : decide (Sp.mk uh uo un us = Sp.mk vh vo vn vs) = (decide ((uh : Int) = (vh : Int)) && (decide (uo = vo) && (decide (un = vn) && decide (us = vs)))) := by
    rw [dec_iff (Q := (uh : Int) = (vh : Int) ∧ uo = vo ∧ un = vn ∧ us = vs) (by rw [Sp.mk.injEq, Int.ofNat_inj]), Bool.decide_and, Bool.decide_and, Bool.decide_and]
  rw [e]
  clear e
  unfold Sp.d
  simp only
  generalize (uh : Int) = U at *
  generalize (vh : Int) = V at *
  generalize decide (us = vs) = b3 at *
  obtain ⟨usi, us1, us2, us3⟩ := us
  obtain ⟨vsi, vs1, vs2, vs3⟩ := vs
  unfold Sg.d dgD at *
  simp only at *
  generalize dgs us1 = usx1 at *
  generalize dgs us2 = usx2 at *
  generalize dgs us3 = usx3 at *
  generalize dgs vs1 = vsx1 at *
  generalize dgs vs2 = vsx2 at *
  generalize dgs vs3 = vsx3 at *
  refine callR_of (R := R1) cx_ok Tryd.func54 (by kernel_rfl) rfl ?_
  conv => whnf
  by_cases q0 : U = V
  case neg =>
    rw [decide_eq_false q0]
    refine brF (beq_eq_false_iff_ne.2 q0) ?_
    conv => whnf
    exact ⟨rfl, rfl⟩
  rw [decide_eq_true q0]
  refine brT (beq_iff_eq.2 q0) ?_
  conv => whnf
  refine ⟨sd1, ?_⟩
  conv => whnf
  by_cases q1 : uo = vo
  case neg =>
    rw [decide_eq_false q1] at hq1 ⊢
    refine brF hq1 ?_
    conv => whnf
    exact ⟨rfl, rfl⟩
  rw [decide_eq_true q1] at hq1 ⊢
  refine brT hq1 ?_
  conv => whnf
  by_cases q2 : un = vn
  case neg =>
    rw [decide_eq_false q2]
    refine brF (beq_eq_false_iff_ne.2 q2) ?_
    conv => whnf
    exact ⟨rfl, rfl⟩
  rw [decide_eq_true q2]
  refine brT (beq_iff_eq.2 q2) ?_
  conv => whnf
  refine ⟨_, c3, ?_⟩
  rintro _ _ ⟨rfl, rfl⟩
  conv => whnf
  exact ⟨rfl, rfl⟩

theorem sle_c {l m : Le} : CallR cx 56 [.d l.d, .d m.d] [] fun r S => r = bo (decide (l = m)) ∧ S = [] := by
  obtain ⟨a, b, c, x, y, z⟩ := l
  obtain ⟨a', b', c', x', y', z'⟩ := m
  have e : decide (Le.mk a b c x y z = Le.mk a' b' c' x' y' z') = (decide ((a : Int) = (a' : Int)) && (decide ((b : Int) = (b' : Int)) && (decide ((c : Int) = (c' : Int)) && (decide (x = x') && (decide (y = y') && decide (z = z')))))) := by
    rw [dec_iff (Q := (a : Int) = (a' : Int) ∧ (b : Int) = (b' : Int) ∧ (c : Int) = (c' : Int) ∧ x = x' ∧ y = y' ∧ z = z') (by rw [Le.mk.injEq, Int.ofNat_inj, Int.ofNat_inj, Int.ofNat_inj]), Bool.decide_and, Bool.decide_and, Bool.decide_and, Bool.decide_and, Bool.decide_and]
  rw [e]
  clear e
  unfold Le.d
  simp only
  generalize (a : Int) = A at *
  generalize (a' : Int) = A' at *
  generalize (b : Int) = B at *
  generalize (b' : Int) = B' at *
  generalize (c : Int) = C at *
  generalize (c' : Int) = C' at *
  refine callR_of (R := R1) cx_ok Tryd.func56 (by kernel_rfl) rfl ?_
  conv => whnf
  by_cases q0 : A = A'
  case neg =>
    rw [decide_eq_false q0]
    refine brF (beq_eq_false_iff_ne.2 q0) ?_
    conv => whnf
    exact ⟨rfl, rfl⟩
  rw [decide_eq_true q0]
  refine brT (beq_iff_eq.2 q0) ?_
  conv => whnf
  by_cases q1 : B = B'
  case neg =>
    rw [decide_eq_false q1]
    refine brF (beq_eq_false_iff_ne.2 q1) ?_
    conv => whnf
    exact ⟨rfl, rfl⟩
  rw [decide_eq_true q1]
  refine brT (beq_iff_eq.2 q1) ?_
  conv => whnf
  by_cases q2 : C = C'
  case neg =>
    rw [decide_eq_false q2]
    refine brF (beq_eq_false_iff_ne.2 q2) ?_
    conv => whnf
    exact ⟨rfl, rfl⟩
  rw [decide_eq_true q2]
  refine brT (beq_iff_eq.2 q2) ?_
  conv => whnf
  by_cases q3 : x = x'
  case neg =>
    refine brF (decide_eq_false q3) ?_
    rw [decide_eq_false q3]
    conv => whnf
    exact ⟨rfl, rfl⟩
  refine brT (decide_eq_true q3) ?_
  rw [decide_eq_true q3]
  conv => whnf
  by_cases q4 : y = y'
  case neg =>
    refine brF (decide_eq_false q4) ?_
    rw [decide_eq_false q4]
    conv => whnf
    exact ⟨rfl, rfl⟩
  refine brT (decide_eq_true q4) ?_
  rw [decide_eq_true q4]
  conv => whnf
  exact ⟨rfl, rfl⟩

def Fd.fit (f : Fd) : Prop := f.sig.fit ∧ f.u.fit ∧ f.v.fit ∧ f.stop.fit ∧ f.leaf.size = 32 ∧ dgF f.br

set_option maxHeartbeats 8000000 in
theorem fsame_c {f g : Fd} (hf : f.fit) (hg : g.fit) : CallR cx 24 [.d f.d, .d g.d] [] fun r S => r = bo (decide (f = g)) ∧ S = [] := by
  obtain ⟨h1, h2, h3, h4, h5, h6⟩ := hf
  obtain ⟨g1, g2, g3, g4, g5, g6⟩ := hg
  obtain ⟨ftag, fA, fB, fC, forg, fn, fk, fsig, fu, fv, fstop, fleaf, fix, fbr, flt⟩ := f
  obtain ⟨gtag, gA, gB, gC, gorg, gn, gk, gsig, gu, gv, gstop, gleaf, gix, gbr, glt⟩ := g
  simp only at h1 h2 h3 h4 h5 h6 g1 g2 g3 g4 g5 g6
  have c1 := ssig_c h1 g1
  have c2 := sup_c h2 g2
  have c3 := sup_c h3 g3
  have c4 := ssp_c h4 g4
  have sd := sideD h5 g5
  have hq := deq_iff (dgD_inj (a := fleaf) (b := gleaf))
  have c6 := slist_c h6 g6
  have c7 := sle_c (l := flt) (m := glt)
  have e : decide (Fd.mk ftag fA fB fC forg fn fk fsig fu fv fstop fleaf fix fbr flt = Fd.mk gtag gA gB gC gorg gn gk gsig gu gv gstop gleaf gix gbr glt) = (decide ((ftag : Int) = (gtag : Int)) && (decide (fA = gA) && (decide (fB = gB) && (decide (fC = gC) && (decide ((forg : Int) = (gorg : Int)) && (decide ((fn : Int) = (gn : Int)) && (decide ((fk : Int) = (gk : Int)) && (decide (fsig = gsig) && (decide (fu = gu) && (decide (fv = gv) && (decide (fstop = gstop) && (decide (fleaf = gleaf) && (decide ((fix : Int) = (gix : Int)) && (decide (fbr = gbr) && (decide (flt = glt)))))))))))))))) := by
    rw [dec_iff (Q := (ftag : Int) = (gtag : Int) ∧ fA = gA ∧ fB = gB ∧ fC = gC ∧ (forg : Int) = (gorg : Int) ∧ (fn : Int) = (gn : Int) ∧ (fk : Int) = (gk : Int) ∧ fsig = gsig ∧ fu = gu ∧ fv = gv ∧ fstop = gstop ∧ fleaf = gleaf ∧ (fix : Int) = (gix : Int) ∧ fbr = gbr ∧ flt = glt) (by rw [Fd.mk.injEq, Int.ofNat_inj, Int.ofNat_inj, Int.ofNat_inj, Int.ofNat_inj, Int.ofNat_inj])]
    simp only [Bool.decide_and]
  rw [e]
  clear e h1 h2 h3 h4 h5 h6 g1 g2 g3 g4 g5 g6
  unfold Fd.d
  simp only
  generalize (ftag : Int) = Ftag at *
  generalize (gtag : Int) = Gtag at *
  generalize (forg : Int) = Forg at *
  generalize (gorg : Int) = Gorg at *
  generalize (fn : Int) = Fn at *
  generalize (gn : Int) = Gn at *
  generalize (fk : Int) = Fk at *
  generalize (gk : Int) = Gk at *
  generalize (fix : Int) = Fix at *
  generalize (gix : Int) = Gix at *
  generalize decide (fsig = gsig) = bsig at *
  generalize decide (fu = gu) = bu at *
  generalize decide (fv = gv) = bv at *
  generalize decide (fstop = gstop) = bstop at *
  generalize decide (fbr = gbr) = bbr at *
  generalize decide (flt = glt) = blt at *
  obtain ⟨fxsi, fxs1, fxs2, fxs3⟩ := fsig
  obtain ⟨fxuh, fxuo, fxun, ⟨fxui, fxu1, fxu2, fxu3⟩⟩ := fu
  obtain ⟨fxvh, fxvo, fxvn, ⟨fxvi, fxv1, fxv2, fxv3⟩⟩ := fv
  obtain ⟨fxph, fxpo, fxpw, ⟨fxpi, fxp1, fxp2, fxp3⟩⟩ := fstop
  obtain ⟨fxla, fxlb, fxlc, fxlx, fxly, fxlz⟩ := flt
  obtain ⟨gxsi, gxs1, gxs2, gxs3⟩ := gsig
  obtain ⟨gxuh, gxuo, gxun, ⟨gxui, gxu1, gxu2, gxu3⟩⟩ := gu
  obtain ⟨gxvh, gxvo, gxvn, ⟨gxvi, gxv1, gxv2, gxv3⟩⟩ := gv
  obtain ⟨gxph, gxpo, gxpw, ⟨gxpi, gxp1, gxp2, gxp3⟩⟩ := gstop
  obtain ⟨gxla, gxlb, gxlc, gxlx, gxly, gxlz⟩ := glt
  unfold Sp.d Up.d Sg.d Le.d dgD at *
  simp only at *
  generalize dgs fxs1 = xfxs1 at *
  generalize dgs fxs2 = xfxs2 at *
  generalize dgs fxs3 = xfxs3 at *
  generalize dgs fxu1 = xfxu1 at *
  generalize dgs fxu2 = xfxu2 at *
  generalize dgs fxu3 = xfxu3 at *
  generalize dgs fxv1 = xfxv1 at *
  generalize dgs fxv2 = xfxv2 at *
  generalize dgs fxv3 = xfxv3 at *
  generalize dgs fxp1 = xfxp1 at *
  generalize dgs fxp2 = xfxp2 at *
  generalize dgs fxp3 = xfxp3 at *
  generalize D.bytes fxuo = yfxuo at *
  generalize D.bytes fxun = yfxun at *
  generalize D.bytes fxvo = yfxvo at *
  generalize D.bytes fxvn = yfxvn at *
  generalize D.bytes fxpo = yfxpo at *
  generalize dgs fbr = xfxbr at *
  generalize dgs gxs1 = xgxs1 at *
  generalize dgs gxs2 = xgxs2 at *
  generalize dgs gxs3 = xgxs3 at *
  generalize dgs gxu1 = xgxu1 at *
  generalize dgs gxu2 = xgxu2 at *
  generalize dgs gxu3 = xgxu3 at *
  generalize dgs gxv1 = xgxv1 at *
  generalize dgs gxv2 = xgxv2 at *
  generalize dgs gxv3 = xgxv3 at *
  generalize dgs gxp1 = xgxp1 at *
  generalize dgs gxp2 = xgxp2 at *
  generalize dgs gxp3 = xgxp3 at *
  generalize D.bytes gxuo = ygxuo at *
  generalize D.bytes gxun = ygxun at *
  generalize D.bytes gxvo = ygxvo at *
  generalize D.bytes gxvn = ygxvn at *
  generalize D.bytes gxpo = ygxpo at *
  generalize dgs gbr = xgxbr at *
  refine callR_of (R := R1) cx_ok Tryd.func24 (by kernel_rfl) rfl ?_
  conv => whnf
  by_cases q0 : Ftag = Gtag
  case neg =>
    rw [decide_eq_false q0]
    refine brF (beq_eq_false_iff_ne.2 q0) ?_
    conv => whnf
    exact ⟨rfl, rfl⟩
  rw [decide_eq_true q0]
  refine brT (beq_iff_eq.2 q0) ?_
  conv => whnf
  by_cases q1 : fA = gA
  case neg =>
    refine brF (decide_eq_false q1) ?_
    rw [decide_eq_false q1]
    conv => whnf
    exact ⟨rfl, rfl⟩
  refine brT (decide_eq_true q1) ?_
  rw [decide_eq_true q1]
  conv => whnf
  by_cases q2 : fB = gB
  case neg =>
    refine brF (decide_eq_false q2) ?_
    rw [decide_eq_false q2]
    conv => whnf
    exact ⟨rfl, rfl⟩
  refine brT (decide_eq_true q2) ?_
  rw [decide_eq_true q2]
  conv => whnf
  by_cases q3 : fC = gC
  case neg =>
    refine brF (decide_eq_false q3) ?_
    rw [decide_eq_false q3]
    conv => whnf
    exact ⟨rfl, rfl⟩
  refine brT (decide_eq_true q3) ?_
  rw [decide_eq_true q3]
  conv => whnf
  by_cases q4 : Forg = Gorg
  case neg =>
    rw [decide_eq_false q4]
    refine brF (beq_eq_false_iff_ne.2 q4) ?_
    conv => whnf
    exact ⟨rfl, rfl⟩
  rw [decide_eq_true q4]
  refine brT (beq_iff_eq.2 q4) ?_
  conv => whnf
  by_cases q5 : Fn = Gn
  case neg =>
    rw [decide_eq_false q5]
    refine brF (beq_eq_false_iff_ne.2 q5) ?_
    conv => whnf
    exact ⟨rfl, rfl⟩
  rw [decide_eq_true q5]
  refine brT (beq_iff_eq.2 q5) ?_
  conv => whnf
  by_cases q6 : Fk = Gk
  case neg =>
    rw [decide_eq_false q6]
    refine brF (beq_eq_false_iff_ne.2 q6) ?_
    conv => whnf
    exact ⟨rfl, rfl⟩
  rw [decide_eq_true q6]
  refine brT (beq_iff_eq.2 q6) ?_
  conv => whnf
  refine ⟨_, c1, ?_⟩
  rintro _ _ ⟨rfl, rfl⟩
  conv => whnf
  cases bsig with
  | false =>
    conv => whnf
    exact ⟨rfl, rfl⟩
  | true =>
  conv => whnf
  refine ⟨_, c2, ?_⟩
  rintro _ _ ⟨rfl, rfl⟩
  conv => whnf
  cases bu with
  | false =>
    conv => whnf
    exact ⟨rfl, rfl⟩
  | true =>
  conv => whnf
  refine ⟨_, c3, ?_⟩
  rintro _ _ ⟨rfl, rfl⟩
  conv => whnf
  cases bv with
  | false =>
    conv => whnf
    exact ⟨rfl, rfl⟩
  | true =>
  conv => whnf
  refine ⟨_, c4, ?_⟩
  rintro _ _ ⟨rfl, rfl⟩
  conv => whnf
  cases bstop with
  | false =>
    conv => whnf
    exact ⟨rfl, rfl⟩
  | true =>
  conv => whnf
  refine ⟨sd, ?_⟩
  conv => whnf
  by_cases q11 : fleaf = gleaf
  case neg =>
    rw [decide_eq_false q11] at hq ⊢
    refine brF hq ?_
    conv => whnf
    exact ⟨rfl, rfl⟩
  rw [decide_eq_true q11] at hq ⊢
  refine brT hq ?_
  conv => whnf
  by_cases q12 : Fix = Gix
  case neg =>
    rw [decide_eq_false q12]
    refine brF (beq_eq_false_iff_ne.2 q12) ?_
    conv => whnf
    exact ⟨rfl, rfl⟩
  rw [decide_eq_true q12]
  refine brT (beq_iff_eq.2 q12) ?_
  conv => whnf
  refine ⟨_, c6, ?_⟩
  rintro _ _ ⟨rfl, rfl⟩
  conv => whnf
  cases bbr with
  | false =>
    conv => whnf
    exact ⟨rfl, rfl⟩
  | true =>
  conv => whnf
  refine ⟨_, c7, ?_⟩
  rintro _ _ ⟨rfl, rfl⟩
  conv => whnf
  exact ⟨rfl, rfl⟩

theorem z32_size : z32.size = 32 := by decide
theorem sg0_fit : sg0.fit := ⟨by decide, ⟨by decide, by simp [sg0]⟩, ⟨by decide, by simp [sg0]⟩, ⟨by decide, by simp [sg0]⟩⟩
theorem up0_fit : up0.fit := ⟨by decide, z32_size, z32_size, sg0_fit⟩
theorem sp0_fit : sp0.fit := ⟨by decide, z32_size, by decide, sg0_fit⟩

theorem fd_fit {c : Cl} (h : c.fit) : c.fd.fit := by
  have hb : dgF ([] : List ByteArray) := ⟨by decide, by simp⟩
  cases c with
  | pay a b n k g => exact ⟨h.2.2.2.2, up0_fit, up0_fit, sp0_fit, z32_size, hb⟩
  | send a o t b n k g => exact ⟨h.2.2.2.2.2.2, up0_fit, up0_fit, sp0_fit, z32_size, hb⟩
  | say a b k g => exact ⟨h.2.2.2, up0_fit, up0_fit, sp0_fit, z32_size, hb⟩
  | tell a b k g => exact ⟨h.2.2.2, up0_fit, up0_fit, sp0_fit, z32_size, hb⟩
  | submit u => exact ⟨sg0_fit, h, up0_fit, sp0_fit, z32_size, hb⟩
  | improp u c => exact ⟨sg0_fit, h.1, up0_fit, sp0_fit, z32_size, hb⟩
  | double u v c => exact ⟨sg0_fit, h.1, h.2.1, sp0_fit, z32_size, hb⟩
  | accept u => exact ⟨sg0_fit, h, up0_fit, sp0_fit, z32_size, hb⟩
  | doubled u v => exact ⟨sg0_fit, h.1, h.2, sp0_fit, z32_size, hb⟩
  | halt s => exact ⟨sg0_fit, up0_fit, up0_fit, h, z32_size, hb⟩
  | prove l i br => exact ⟨sg0_fit, up0_fit, up0_fit, sp0_fit, h.1, h.2.2⟩
  | process l => exact ⟨sg0_fit, up0_fit, up0_fit, sp0_fit, z32_size, hb⟩
  | no => exact ⟨sg0_fit, up0_fit, up0_fit, sp0_fit, z32_size, hb⟩
  | word => exact ⟨sg0_fit, up0_fit, up0_fit, sp0_fit, z32_size, hb⟩

end Go.Proofs.YtboohfijacjhjaaDoor
