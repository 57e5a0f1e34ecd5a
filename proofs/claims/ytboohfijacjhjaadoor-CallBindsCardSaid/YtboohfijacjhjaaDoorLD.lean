/- The law CallBinds. -/
import Derived.Test.YtboohfijacjhjaaDoorLC
import Derived.Test.YtboohfijacjhjaaDoorKB
set_option linter.unusedVariables false
namespace Go.Proofs.YtboohfijacjhjaaDoor
open Go.Ab Go.RowKit

theorem inP_inj {d : UInt8} {a b a' b' : ByteArray} (ha : a.size < 4294967296) (ha' : a'.size < 4294967296) (hb : b.size < 4294967296) (hb' : b'.size < 4294967296) (h : inP d a b = inP d a' b') : a = a' ∧ b = b' := by
  unfold inP at h
  rw [ByteArray.append_assoc, ByteArray.append_assoc] at h
  obtain ⟨_, h1⟩ := app_inj h rfl
  obtain ⟨h2, h3⟩ := text_inj ha ha' h1
  exact ⟨h2, (text_inj hb hb' (app_e h3)).1⟩

theorem withS_idx {c : Cl} (h : c.isS = true) : (c.withS sg0).idx = (0, 0) := by
  cases c <;> first | rfl | exact absurd h (by simp [Cl.isS])
theorem withS_tag {c : Cl} (h : c.isS = true) : 0 < (c.withS sg0).tag := by
  cases c <;> first | exact Nat.zero_lt_succ _ | exact absurd h (by simp [Cl.isS])
theorem withS_cS {c : Cl} (h : c.isS = true) : (c.withS sg0).cS = (c.withS sg0).bytes := by
  cases c <;> first | exact if_pos rfl | exact absurd h (by simp [Cl.isS])
theorem dg_eq {ch : Nat} {c : Cl} (h : c.isS = true) : c.dg ch = dgP 8 (bigB ch 4) (c.withS sg0).cS := by
  unfold Cl.dg; rw [if_pos h]
theorem bare_inj {c d : Cl} (hc : c.fit) (hd : d.fit) (h1 : c.isS = true) (h2 : d.isS = true) (h : (c.withS sg0).cS = (d.withS sg0).cS) : c.withS sg0 = d.withS sg0 := by
  rw [withS_cS h1, withS_cS h2] at h
  refine bytes_inj (withS_fit hc sg0_fit) (withS_fit hd sg0_fit) (withS_tag h1) h ?_
  rw [withS_idx h1, withS_idx h2]
  exact ⟨fun _ => rfl, fun _ => rfl⟩

theorem callBinds_c (ys : List D) (hy : Ty.hass [tyAn, tyAn, .int .u32, .int .u32] ys) : CallR cx 10 (ys.map AV.d) [] fun r S => r = .d (.bool true) ∧ S = [] := by
  obtain ⟨_, _, rfl, hx, _, _, rfl, hy', _, _, rfl, ⟨a, rfl, wa⟩, _, _, rfl, ⟨b, rfl, wb⟩, rfl⟩ := hy
  obtain ⟨x, rfl, hxw⟩ := an_of hx
  obtain ⟨y, rfl, hyw⟩ := an_of hy'
  obtain ⟨a, rfl, ha⟩ := wf_u32 wa
  obtain ⟨b, rfl, hb⟩ := wf_u32 wb
  have lx0 := clight_c (x := x)
  have ly0 := clight_c (x := y)
  by_cases hlx : x.light
  case neg =>
    refine cbi_x (lx0.mono fun r S ⟨b, h1, h2, h3⟩ => ⟨?_, h3⟩)
    cases b with
    | false => exact h1
    | true => exact absurd (h2 rfl) hlx
  have lx := lx0.mono fun r S ⟨b, h1, h2, h3⟩ => (⟨b, h1, h3⟩ : ∃ b, r = bo b ∧ S = [])
  by_cases hly : y.light
  case neg =>
    refine cbi_y lx (ly0.mono fun r S ⟨b, h1, h2, h3⟩ => ⟨?_, h3⟩)
    cases b with
    | false => exact h1
    | true => exact absurd (h2 rfl) hly
  have ly := ly0.mono fun r S ⟨b, h1, h2, h3⟩ => (⟨b, h1, h3⟩ : ∃ b, r = bo b ∧ S = [])
  have fx := An.fit hxw hlx
  have fy := An.fit hyw hly
  have tx := cto_c (x := x)
  have ty := cto_c (x := y)
  generalize x.cl = c at *
  generalize y.cl = d at *
  have sX := csigned_c (c := c)
  have sY := csigned_c (c := d)
  by_cases hp : c.isS = true ∧ d.isS = true
  case neg =>
    refine cbi_u (p1 := c.isS) (p2 := d.isS) ?_ lx ly tx ty sX sY
    cases h1 : c.isS with
    | false => exact .inl rfl
    | true => cases h2 : d.isS with
      | false => exact .inr rfl
      | true => exact absurd ⟨h1, h2⟩ hp
  obtain ⟨h1, h2⟩ := hp
  have fwc := withS_fit fx sg0_fit
  have fwd := withS_fit fy sg0_fit
  have z1 := Cl.cS_signed fwc (by rw [withS_isS]; exact h1)
  have z2 := Cl.cS_signed fwd (by rw [withS_isS]; exact h2)
  have fbc := fbytes_c fwc
  have fbd := fbytes_c fwd
  rw [withS_fd h1] at fbc
  rw [withS_fd h2] at fbd
  have dX := cdigest_c fx ha
  have dY := cdigest_c fy hb
  rw [dg_eq h1] at dX
  rw [dg_eq h2] at dY
  have wX := cwith_c (c := c) (g := sg0)
  have wY := cwith_c (c := d) (g := sg0)
  have sm := csame_c fwc fwd
  rw [decide_eq_true (withS_tag h1), Bool.true_and] at sm
  have qX := logdig0_c (f := c.fd) ((isS_tag c).1 h1) ha z1 fbc
  have hqa := dgP_size 8 (bigB a 4) (c.withS sg0).cS
  have hqb := dgP_size 8 (bigB b 4) (d.withS sg0).cS
  by_cases hs : a = b ∧ c.withS sg0 = d.withS sg0
  · obtain ⟨rfl, hcd⟩ := hs
    have qY := logdigS_c (f := d.fd) ((isS_tag d).1 h2) hb z2 fbd
    have hB : (d.withS sg0).cS = (c.withS sg0).cS := by rw [hcd]
    rw [hB] at qY dY hqb
    exact cbi_same (I2 := .empty) h1 h2 hqa hqb rfl (decide_eq_true hcd) rfl lx ly tx ty sX sY cof_c cof_c dX dY wX wY sm qX qY
  · have hsb : a = b → decide (c.withS sg0 = d.withS sg0) = false := fun e => decide_eq_false fun k => hs ⟨e, k⟩
    have hI : inP 8 (bigB a 4) (c.withS sg0).cS ≠ inP 8 (bigB b 4) (d.withS sg0).cS := by
      intro e
      obtain ⟨e1, e2⟩ := inP_inj (by rw [bigB_size]; decide) (by rw [bigB_size]; decide) (by omega) (by omega) e
      exact hs ⟨(big_inj (k := 4) (by decide) ha hb (app_e e1)).1, bare_inj fx fy h1 h2 e2⟩
    by_cases hQ : dgP 8 (bigB a 4) (c.withS sg0).cS = dgP 8 (bigB b 4) (d.withS sg0).cS
    · have qY := logdigC_c (f := d.fd) ((isS_tag d).1 h2) hb z2 hI fbd
      rw [hQ] at qX dX
      exact cbi_clash h1 h2 hqb hqb hsb rfl lx ly tx ty sX sY cof_c cof_c dX dY wX wY sm qX qY
    · have qY := logdigD_c (f := d.fd) (I0 := inP 8 (bigB a 4) (c.withS sg0).cS) ((isS_tag d).1 h2) hb z2 hqa (fun e => hQ e.symm) fbd
      exact cbi_apart h1 h2 hqa hqb hsb hQ lx ly tx ty sX sY cof_c cof_c dX dY wX wY sm qX qY
end Go.Proofs.YtboohfijacjhjaaDoor
