/- The law CallSigns. -/
import Derived.Test.YtboohfijacjhjaaDoorSB
import Derived.Test.YtboohfijacjhjaaDoorKB
import Derived.Test.YtboohfijacjhjaaDoorK9w
set_option linter.unusedVariables false
namespace Go.Proofs.YtboohfijacjhjaaDoor
open Go.Ab Go.RowKit

theorem deq_self (x : D) : deq x x = true := by simp [deq]

theorem nd_self (a : ByteArray) : (!decide (a = a)) = false := by simp

theorem csg_no {x : An} {g : Sg} {ch : Nat} {L : Prop} (lx : CallR cx 20 [.d x.d] [] fun r S => ∃ b, r = bo b ∧ (b = true → L) ∧ S = [])
    (sx : L → CallR cx 41 [.d g.d] [] fun r S => r = bo false ∧ S = []) :
    CallR cx 9 [.d x.d, .d g.d, u32 (ch : Int)] [] fun r S => r = bo true ∧ S = [] := by
  refine callR_of (R := R1) cx_ok Tryd.func9 (by kernel_rfl) rfl ?_
  conv => whnf
  refine ⟨_, cawake_c, ?_⟩
  rintro _ _ ⟨rfl, rfl⟩
  conv => whnf
  refine ⟨_, lx, ?_⟩
  rintro _ _ ⟨b, rfl, hb, rfl⟩
  cases b with
  | false =>
    conv => whnf
    refine ⟨_, cawake_c, ?_⟩
    rintro _ _ ⟨rfl, rfl⟩
    conv => whnf
    exact ⟨rfl, rfl⟩
  | true =>
    have sx := sx (hb rfl)
    conv => whnf
    refine ⟨_, sx, ?_⟩
    rintro _ _ ⟨rfl, rfl⟩
    conv => whnf
    refine ⟨_, cawake_c, ?_⟩
    rintro _ _ ⟨rfl, rfl⟩
    conv => whnf
    exact ⟨rfl, rfl⟩

theorem csg_yes {x : An} {g : Sg} {ch : Nat} {X W : D} {F : Fd} {Q : ByteArray} (hQ : Q.size = 32) (hF : (1 ≤ F.tag ∧ F.tag ≤ 4))
    (lx : CallR cx 20 [.d x.d] [] fun r S => ∃ b, r = bo b ∧ S = [])
    (sx : CallR cx 41 [.d g.d] [] fun r S => ∃ b, r = bo b ∧ S = [])
    (tx : CallR cx 21 [.d x.d] [] fun r S => r = .d X ∧ S = [])
    (ox : CallR cx 22 [.d X] [] fun r S => r = .d F.d ∧ S = [])
    (sn : CallR cx 42 [.d X] [] fun r S => r = .tup [st F.A, u64 ((F.k : Nat) : Int), .d (F.sig).d, bo true] ∧ S = [])
    (wi : CallR cx 43 [.d X, .d g.d] [] fun r S => r = .d W ∧ S = [])
    (ss : CallR cx 44 [.d (F.sig).d, .d (F.sig).d] [] fun r S => r = bo true ∧ S = [])
    (ow : CallR cx 22 [.d W] [] fun r S => r = .d (Fd.d { F with sig := g }) ∧ S = [])
    (sm : CallR cx 24 [.d (Fd.d { F with sig := g }), .d (Fd.d { F with sig := g })] [] fun r S => r = bo true ∧ S = [])
    (pd : CallR cx 45 [.d .nilP, u32 (ch : Int), .d X] [] fun r S => r = .d (dgD Q) ∧ S = [])
    (pw : CallR cx 45 [.d .nilP, u32 (ch : Int), .d W] [] fun r S => r = .d (dgD Q) ∧ S = [])
    (fd : CallR cx 46 [.d F.d, .d .nilP, u32 (ch : Int)] [] fun r S => r = .d (dgD Q) ∧ S = []) :
    CallR cx 9 [.d x.d, .d g.d, u32 (ch : Int)] [] fun r S => r = bo true ∧ S = [] := by
  obtain ⟨gi, g1, g2, g3⟩ := g
  obtain ⟨ft, fA, fB, fC, fo, fn, fk, ⟨si, s1, s2, s3⟩, fu, fv, fp, fl, fi, fbr, fle⟩ := F
  simp only at hF sn ss ow sm
  refine callR_of (R := R1) cx_ok Tryd.func9 (by kernel_rfl) rfl ?_
  conv => whnf
  refine ⟨_, cawake_c, ?_⟩
  rintro _ _ ⟨rfl, rfl⟩
  conv => whnf
  refine ⟨_, lx, ?_⟩
  rintro _ _ ⟨b, rfl, rfl⟩
  cases b with
  | false =>
    conv => whnf
    refine ⟨_, cawake_c, ?_⟩
    rintro _ _ ⟨rfl, rfl⟩
    conv => whnf
    exact ⟨rfl, rfl⟩
  | true =>
  conv => whnf
  refine ⟨_, sx, ?_⟩
  rintro _ _ ⟨b, rfl, rfl⟩
  cases b with
  | false =>
    conv => whnf
    refine ⟨_, cawake_c, ?_⟩
    rintro _ _ ⟨rfl, rfl⟩
    conv => whnf
    exact ⟨rfl, rfl⟩
  | true =>
  conv => whnf
  refine ⟨_, tx, ?_⟩
  rintro _ _ ⟨rfl, rfl⟩
  conv => whnf
  refine ⟨_, ox, ?_⟩
  rintro _ _ ⟨rfl, rfl⟩
  conv => whnf
  refine ⟨_, sn, ?_⟩
  rintro _ _ ⟨rfl, rfl⟩
  conv => whnf
  refine ⟨_, wi, ?_⟩
  rintro _ _ ⟨rfl, rfl⟩
  conv => whnf
  refine brT (decide_eq_true (by show (1 : Int) ≤ (ft : Int); omega)) ?_
  conv => whnf
  refine brT (decide_eq_true (by show (ft : Int) ≤ (4 : Int); omega)) ?_
  conv => whnf
  refine brF (nd_self fA) ?_
  conv => whnf
  refine brF (bne_self_eq_false (fk : Int)) ?_
  conv => whnf
  refine ⟨_, ss, ?_⟩
  rintro _ _ ⟨rfl, rfl⟩
  conv => whnf
  refine ⟨by kernel_rfl, ?_⟩
  conv => whnf
  refine ⟨_, cawake_c, ?_⟩
  conv => whnf
  refine ⟨_, ow, ?_⟩
  conv => whnf
  refine ⟨_, sm, ?_⟩
  conv => whnf
  refine ⟨_, pd, ?_⟩
  conv => whnf
  refine ⟨_, fd, ?_⟩
  conv => whnf
  refine ⟨sideD hQ hQ, ?_⟩
  conv => whnf
  refine brT (deq_self _) ?_
  conv => whnf
  refine ⟨_, pw, ?_⟩
  conv => whnf
  refine ⟨_, fd, ?_⟩
  conv => whnf
  refine ⟨sideD hQ hQ, ?_⟩
  conv => whnf
  refine ⟨by kernel_rfl, ?_⟩
  conv => whnf
  exact ⟨congrArg bo (deq_self _), rfl⟩

theorem csg_non {x : An} {g : Sg} {ch : Nat} {X W : D} {F : Fd} {Q : ByteArray} (hQ : Q.size = 32) (hF : ¬ (1 ≤ F.tag ∧ F.tag ≤ 4))
    (lx : CallR cx 20 [.d x.d] [] fun r S => ∃ b, r = bo b ∧ S = [])
    (sx : CallR cx 41 [.d g.d] [] fun r S => ∃ b, r = bo b ∧ S = [])
    (tx : CallR cx 21 [.d x.d] [] fun r S => r = .d X ∧ S = [])
    (ox : CallR cx 22 [.d X] [] fun r S => r = .d F.d ∧ S = [])
    (sn : CallR cx 42 [.d X] [] fun r S => r = .tup [st .empty, u64 ((0 : Nat) : Int), .d (sg0).d, bo false] ∧ S = [])
    (wi : CallR cx 43 [.d X, .d g.d] [] fun r S => r = .d W ∧ S = [])
    (ss : CallR cx 44 [.d (sg0).d, .d (sg0).d] [] fun r S => r = bo true ∧ S = [])
    (ow : CallR cx 22 [.d W] [] fun r S => r = .d (Fd.d F) ∧ S = [])
    (sm : CallR cx 24 [.d (Fd.d F), .d (Fd.d F)] [] fun r S => r = bo true ∧ S = [])
    (pd : CallR cx 45 [.d .nilP, u32 (ch : Int), .d X] [] fun r S => r = .d (dgD Q) ∧ S = [])
    (pw : CallR cx 45 [.d .nilP, u32 (ch : Int), .d W] [] fun r S => r = .d (dgD Q) ∧ S = [])
    (fd : CallR cx 46 [.d F.d, .d .nilP, u32 (ch : Int)] [] fun r S => r = .d (dgD Q) ∧ S = []) :
    CallR cx 9 [.d x.d, .d g.d, u32 (ch : Int)] [] fun r S => r = bo true ∧ S = [] := by
  obtain ⟨gi, g1, g2, g3⟩ := g
  obtain ⟨ft, fA, fB, fC, fo, fn, fk, ⟨si, s1, s2, s3⟩, fu, fv, fp, fl, fi, fbr, fle⟩ := F
  simp only at hF sn ss ow sm
  refine callR_of (R := R1) cx_ok Tryd.func9 (by kernel_rfl) rfl ?_
  conv => whnf
  refine ⟨_, cawake_c, ?_⟩
  rintro _ _ ⟨rfl, rfl⟩
  conv => whnf
  refine ⟨_, lx, ?_⟩
  rintro _ _ ⟨b, rfl, rfl⟩
  cases b with
  | false =>
    conv => whnf
    refine ⟨_, cawake_c, ?_⟩
    rintro _ _ ⟨rfl, rfl⟩
    conv => whnf
    exact ⟨rfl, rfl⟩
  | true =>
  conv => whnf
  refine ⟨_, sx, ?_⟩
  rintro _ _ ⟨b, rfl, rfl⟩
  cases b with
  | false =>
    conv => whnf
    refine ⟨_, cawake_c, ?_⟩
    rintro _ _ ⟨rfl, rfl⟩
    conv => whnf
    exact ⟨rfl, rfl⟩
  | true =>
  conv => whnf
  refine ⟨_, tx, ?_⟩
  rintro _ _ ⟨rfl, rfl⟩
  conv => whnf
  refine ⟨_, ox, ?_⟩
  rintro _ _ ⟨rfl, rfl⟩
  conv => whnf
  refine ⟨_, sn, ?_⟩
  rintro _ _ ⟨rfl, rfl⟩
  conv => whnf
  refine ⟨_, wi, ?_⟩
  rintro _ _ ⟨rfl, rfl⟩
  conv => whnf
  refine brec (fun h1 => ?_) (fun h1 => ?_)
  · have h1 : (1 : Int) ≤ (ft : Int) := of_decide_eq_true h1
    conv => whnf
    refine brF (decide_eq_false (by show ¬ (ft : Int) ≤ (4 : Int); omega)) ?_
    conv => whnf
    refine ⟨_, ss, ?_⟩
    rintro _ _ ⟨rfl, rfl⟩
    conv => whnf
    refine ⟨by kernel_rfl, ?_⟩
    conv => whnf
    refine ⟨_, cawake_c, ?_⟩
    conv => whnf
    refine ⟨_, ow, ?_⟩
    conv => whnf
    refine ⟨_, sm, ?_⟩
    conv => whnf
    refine ⟨_, pd, ?_⟩
    conv => whnf
    refine ⟨_, fd, ?_⟩
    conv => whnf
    refine ⟨sideD hQ hQ, ?_⟩
    conv => whnf
    refine brT (deq_self _) ?_
    conv => whnf
    refine ⟨_, pw, ?_⟩
    conv => whnf
    refine ⟨_, fd, ?_⟩
    conv => whnf
    refine ⟨sideD hQ hQ, ?_⟩
    conv => whnf
    refine ⟨by kernel_rfl, ?_⟩
    conv => whnf
    exact ⟨congrArg bo (deq_self _), rfl⟩
  · conv => whnf
    refine ⟨_, ss, ?_⟩
    rintro _ _ ⟨rfl, rfl⟩
    conv => whnf
    refine ⟨by kernel_rfl, ?_⟩
    conv => whnf
    refine ⟨_, cawake_c, ?_⟩
    conv => whnf
    refine ⟨_, ow, ?_⟩
    conv => whnf
    refine ⟨_, sm, ?_⟩
    conv => whnf
    refine ⟨_, pd, ?_⟩
    conv => whnf
    refine ⟨_, fd, ?_⟩
    conv => whnf
    refine ⟨sideD hQ hQ, ?_⟩
    conv => whnf
    refine brT (deq_self _) ?_
    conv => whnf
    refine ⟨_, pw, ?_⟩
    conv => whnf
    refine ⟨_, fd, ?_⟩
    conv => whnf
    refine ⟨sideD hQ hQ, ?_⟩
    conv => whnf
    refine ⟨by kernel_rfl, ?_⟩
    conv => whnf
    exact ⟨congrArg bo (deq_self _), rfl⟩

theorem callSigns_c (ys : List D) (hy : Ty.hass [tyAn, tySg, .int .u32] ys) : CallR cx 9 (ys.map AV.d) [] fun r S => r = .d (.bool true) ∧ S = [] := by
  obtain ⟨_, _, rfl, ha, _, _, rfl, hg, _, _, rfl, ⟨ch, rfl, wc⟩, rfl⟩ := hy
  obtain ⟨x, rfl, hx⟩ := an_of ha
  obtain ⟨g, rfl, hi, q1, q2, q3⟩ := sg_of hg
  obtain ⟨ch, rfl, hch⟩ := wf_u32 wc
  have lx0 := clight_c (x := x)
  have sx0 := cshort_c (s := g)
  by_cases hlx : x.light ∧ g.short
  case neg =>
    refine csg_no lx0 fun hl => sx0.mono fun r S ⟨b, h1, h2, h3⟩ => ⟨?_, h3⟩
    cases b with
    | false => exact h1
    | true => exact absurd ⟨hl, h2 rfl⟩ hlx
  obtain ⟨hl, hs⟩ := hlx
  have fx := An.fit hx hl
  have fg : g.fit := ⟨hi, ⟨Nat.le_trans hs.1 (by decide), q1⟩, ⟨Nat.le_trans hs.2.1 (by decide), q2⟩, ⟨Nat.le_trans hs.2.2 (by decide), q3⟩⟩
  have fw := withS_fit fx fg
  have lx := lx0.mono fun r S ⟨b, h1, h2, h3⟩ => (⟨b, h1, h3⟩ : ∃ b, r = bo b ∧ S = [])
  have sx := sx0.mono fun r S ⟨b, h1, h2, h3⟩ => (⟨b, h1, h3⟩ : ∃ b, r = bo b ∧ S = [])
  have sn := csigned_c (c := x.cl)
  have ow := cof_c (c := x.cl.withS g)
  have sm := fsame_c (fd_fit fw) (fd_fit fw)
  have pw := cdigest_c fw hch
  rw [dg_withS] at pw
  rw [decide_eq_true rfl] at sm
  by_cases h : x.cl.isS = true
  · have hf : x.cl.sg.fit := by
      generalize x.cl = c at *
      cases c with
      | pay a b n k s => exact fx.2.2.2.2
      | send a o t b n k s => exact fx.2.2.2.2.2.2
      | say a b k s => exact fx.2.2.2
      | tell a b k s => exact fx.2.2.2
      | _ => exact absurd h (by simp [Cl.isS])
    have e : x.cl.who = x.cl.fd.A ∧ x.cl.non = x.cl.fd.k ∧ x.cl.sg = x.cl.fd.sig := by
      generalize x.cl = c at *
      cases c <;> first | exact ⟨rfl, rfl, rfl⟩ | exact absurd h (by simp [Cl.isS])
    obtain ⟨e1, e2, e3⟩ := e
    rw [e3] at hf
    rw [h, e1, e2, e3] at sn
    rw [withS_fd h] at ow sm
    have ss := ssig_c hf hf
    rw [decide_eq_true rfl] at ss
    exact csg_yes (dg_size ch x.cl) ((isS_tag _).1 h) lx sx cto_c cof_c sn cwith_c ss ow sm (cdigest_c fx hch) pw (fdigest_c fx hch)
  · have h' : x.cl.isS = false := by simpa using h
    have e : x.cl.who = .empty ∧ x.cl.non = 0 ∧ x.cl.sg = sg0 := by
      generalize x.cl = c at *
      cases c <;> first | exact ⟨rfl, rfl, rfl⟩ | exact absurd h' (by simp [Cl.isS])
    obtain ⟨e1, e2, e3⟩ := e
    rw [h', e1, e2, e3] at sn
    have cw := cwith_c (c := x.cl) (g := g)
    rw [withS_no h'] at cw ow sm pw
    have ss := ssig_c sg0_fit sg0_fit
    rw [decide_eq_true rfl] at ss
    exact csg_non (dg_size ch x.cl) (fun k => h ((isS_tag _).2 k)) lx sx cto_c cof_c sn cw ss ow sm (cdigest_c fx hch) pw (fdigest_c fx hch)
end Go.Proofs.YtboohfijacjhjaaDoor
