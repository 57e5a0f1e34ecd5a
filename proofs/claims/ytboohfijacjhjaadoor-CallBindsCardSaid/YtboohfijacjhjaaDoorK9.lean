/- Calls: what the law draws, fields, what it goes through (printed by gen/claw.py). -/
import Derived.Test.YtboohfijacjhjaaDoorP3
set_option linter.unusedVariables false
namespace Go.Proofs.YtboohfijacjhjaaDoor
open Go.Ab Go.RowKit

set_option maxRecDepth 10000 in
theorem z32_D : dgD z32 = .arr 32 1 (List.replicate 32 (.int .u8 0)) := by rfl

set_option maxRecDepth 20000 in
theorem cof_c {c : Cl} : CallR cx 22 [.d c.d] [] fun r S => r = .d c.fd.d ∧ S = [] := by
  cases c with
  | pay a b n k g =>
    obtain ⟨gi, g1, g2, g3⟩ := g
    refine callR_of (R := R1) cx_ok Tryd.func22 (by kernel_rfl) rfl ?_
    conv => whnf
    exact ⟨by kernel_rfl, by kernel_rfl⟩
  | send a o t b n k g =>
    obtain ⟨gi, g1, g2, g3⟩ := g
    refine callR_of (R := R1) cx_ok Tryd.func22 (by kernel_rfl) rfl ?_
    conv => whnf
    exact ⟨by kernel_rfl, by kernel_rfl⟩
  | say a b k g =>
    obtain ⟨gi, g1, g2, g3⟩ := g
    refine callR_of (R := R1) cx_ok Tryd.func22 (by kernel_rfl) rfl ?_
    conv => whnf
    exact ⟨by kernel_rfl, by kernel_rfl⟩
  | tell a b k g =>
    obtain ⟨gi, g1, g2, g3⟩ := g
    refine callR_of (R := R1) cx_ok Tryd.func22 (by kernel_rfl) rfl ?_
    conv => whnf
    exact ⟨by kernel_rfl, by kernel_rfl⟩
  | submit u =>
    obtain ⟨uh, uo, un, ⟨ui, u1, u2, u3⟩⟩ := u
    refine callR_of (R := R1) cx_ok Tryd.func22 (by kernel_rfl) rfl ?_
    conv => whnf
    exact ⟨by kernel_rfl, by kernel_rfl⟩
  | improp u c =>
    obtain ⟨uh, uo, un, ⟨ui, u1, u2, u3⟩⟩ := u
    refine callR_of (R := R1) cx_ok Tryd.func22 (by kernel_rfl) rfl ?_
    conv => whnf
    exact ⟨by kernel_rfl, by kernel_rfl⟩
  | double u v c =>
    obtain ⟨uh, uo, un, ⟨ui, u1, u2, u3⟩⟩ := u
    obtain ⟨vh, vo, vn, ⟨vi, v1, v2, v3⟩⟩ := v
    refine callR_of (R := R1) cx_ok Tryd.func22 (by kernel_rfl) rfl ?_
    conv => whnf
    exact ⟨by kernel_rfl, by kernel_rfl⟩
  | accept u =>
    obtain ⟨uh, uo, un, ⟨ui, u1, u2, u3⟩⟩ := u
    refine callR_of (R := R1) cx_ok Tryd.func22 (by kernel_rfl) rfl ?_
    conv => whnf
    exact ⟨by kernel_rfl, by kernel_rfl⟩
  | doubled u v =>
    obtain ⟨uh, uo, un, ⟨ui, u1, u2, u3⟩⟩ := u
    obtain ⟨vh, vo, vn, ⟨vi, v1, v2, v3⟩⟩ := v
    refine callR_of (R := R1) cx_ok Tryd.func22 (by kernel_rfl) rfl ?_
    conv => whnf
    exact ⟨by kernel_rfl, by kernel_rfl⟩
  | halt s =>
    obtain ⟨sh, so, sw, ⟨si, s1, s2, s3⟩⟩ := s
    refine callR_of (R := R1) cx_ok Tryd.func22 (by kernel_rfl) rfl ?_
    conv => whnf
    exact ⟨by kernel_rfl, by kernel_rfl⟩
  | prove l i br =>
    refine callR_of (R := R1) cx_ok Tryd.func22 (by kernel_rfl) rfl ?_
    conv => whnf
    exact ⟨by kernel_rfl, by kernel_rfl⟩
  | process l =>
    obtain ⟨la, lb, lc, lx, ly, lz⟩ := l
    refine callR_of (R := R1) cx_ok Tryd.func22 (by kernel_rfl) rfl ?_
    conv => whnf
    exact ⟨by kernel_rfl, by kernel_rfl⟩
  | no =>
    refine callR_of (R := R1) cx_ok Tryd.func22 (by kernel_rfl) rfl ?_
    conv => whnf
    exact ⟨by kernel_rfl, by kernel_rfl⟩
  | word =>
    refine callR_of (R := R1) cx_ok Tryd.func22 (by kernel_rfl) rfl ?_
    conv => whnf
    exact ⟨by kernel_rfl, by kernel_rfl⟩

theorem cshort_c {s : Sg} : CallR cx 41 [.d s.d] [] fun r S => ∃ b, r = bo b ∧ (b = true → s.short) ∧ S = [] := by
  obtain ⟨i, a, b, c⟩ := s
  have la : (dgs a).length = a.length := List.length_map _
  have lb : (dgs b).length = b.length := List.length_map _
  have lc : (dgs c).length = c.length := List.length_map _
  unfold Sg.d Sg.short
  simp only
  generalize dgs a = A at *
  generalize dgs b = B at *
  generalize dgs c = C at *
  refine callR_of (R := R1) cx_ok Tryd.func41 (by kernel_rfl) rfl ?_
  conv => whnf
  refine brec (fun h1 => ?_) (fun h1 => ?_)
  · have h1 := of_decide_eq_true h1
    conv => whnf
    refine brec (fun h2 => ?_) (fun h2 => ?_)
    · have h2 := of_decide_eq_true h2
      conv => whnf
      refine ⟨_, rfl, fun h3 => ?_, rfl⟩
      have h3 := of_decide_eq_true h3
      omega
    · conv => whnf
      exact ⟨false, rfl, by simp, rfl⟩
  · conv => whnf
    exact ⟨false, rfl, by simp, rfl⟩

theorem mx_le {a b c : Int} (h : (if b > a then b else a) ≤ c) : a ≤ c ∧ b ≤ c := by split at h <;> omega

theorem clight_c {x : An} : CallR cx 20 [.d x.d] [] fun r S => ∃ b, r = bo b ∧ (b = true → x.light) ∧ S = [] := by
  have c1 := cshort_c (s := x.sig)
  have c2 := cshort_c (s := x.u.sig)
  have c3 := cshort_c (s := x.v.sig)
  have c4 := cshort_c (s := x.stop.sig)
  obtain ⟨xk, xA, xB, xC, xo, xn, xN, xs, xu, xv, xp, xl, xi, xb, xt⟩ := x
  have lb : (dgs xb).length = xb.length := List.length_map _
  obtain ⟨si, s1, s2, s3⟩ := xs
  obtain ⟨uh, uo, un, ⟨ui, u1, u2, u3⟩⟩ := xu
  obtain ⟨vh, vo, vn, ⟨vi, v1, v2, v3⟩⟩ := xv
  obtain ⟨ph, po, pw, ⟨pi, p1, p2, p3⟩⟩ := xp
  obtain ⟨la, lc, ld, lx, ly, lz⟩ := xt
  have key : xA.size ≤ 1000 ∧ xB.size ≤ 1000 ∧ xC.size ≤ 1000 ∧ lx.size ≤ 1000 ∧ ly.size ≤ 1000 ∧ lz.size ≤ 1000 → xb.length ≤ 100 → Sg.short ⟨si, s1, s2, s3⟩ → Sg.short ⟨ui, u1, u2, u3⟩ → Sg.short ⟨vi, v1, v2, v3⟩ → Sg.short ⟨pi, p1, p2, p3⟩ → An.light ⟨xk, xA, xB, xC, xo, xn, xN, ⟨si, s1, s2, s3⟩, ⟨uh, uo, un, ⟨ui, u1, u2, u3⟩⟩, ⟨vh, vo, vn, ⟨vi, v1, v2, v3⟩⟩, ⟨ph, po, pw, ⟨pi, p1, p2, p3⟩⟩, xl, xi, xb, ⟨la, lc, ld, lx, ly, lz⟩⟩ :=
    fun a b c d e f => ⟨a.1, a.2.1, a.2.2.1, a.2.2.2.1, a.2.2.2.2.1, a.2.2.2.2.2, b, c, d, e, f⟩
  unfold An.d Up.d Sp.d Le.d
  simp only at c1 c2 c3 c4 ⊢
  unfold Sg.d dgD at *
  simp only at *
  generalize Sg.short ⟨si, s1, s2, s3⟩ = P1 at *
  generalize Sg.short ⟨ui, u1, u2, u3⟩ = P2 at *
  generalize Sg.short ⟨vi, v1, v2, v3⟩ = P3 at *
  generalize Sg.short ⟨pi, p1, p2, p3⟩ = P4 at *
  generalize An.light _ = L at *
  generalize dgs xb = XB at *
  generalize D.bytes xl = XL at *
  generalize dgs s1 = Xs1 at *
  generalize dgs s2 = Xs2 at *
  generalize dgs s3 = Xs3 at *
  generalize dgs u1 = Xu1 at *
  generalize dgs u2 = Xu2 at *
  generalize dgs u3 = Xu3 at *
  generalize dgs v1 = Xv1 at *
  generalize dgs v2 = Xv2 at *
  generalize dgs v3 = Xv3 at *
  generalize dgs p1 = Xp1 at *
  generalize dgs p2 = Xp2 at *
  generalize dgs p3 = Xp3 at *
  generalize D.bytes uo = Yuo at *
  generalize D.bytes un = Yun at *
  generalize D.bytes vo = Yvo at *
  generalize D.bytes vn = Yvn at *
  generalize D.bytes po = Ypo at *
  refine callR_of (R := R1) cx_ok Tryd.func20 (by kernel_rfl) rfl ?_
  conv => whnf
  refine brec (fun h1 => ?_) (fun h1 => ?_)
  case refine_2 =>
    conv => whnf
    exact ⟨false, rfl, by simp, rfl⟩
  have h1 := of_decide_eq_true h1
  obtain ⟨h1, m6⟩ := mx_le h1
  obtain ⟨h1, m5⟩ := mx_le h1
  obtain ⟨h1, m4⟩ := mx_le h1
  obtain ⟨h1, m3⟩ := mx_le h1
  obtain ⟨m1, m2⟩ := mx_le h1
  conv => whnf
  refine brec (fun h2 => ?_) (fun h2 => ?_)
  case refine_2 =>
    conv => whnf
    exact ⟨false, rfl, by simp, rfl⟩
  have h2 := of_decide_eq_true h2
  conv => whnf
  refine ⟨_, c1, ?_⟩
  rintro _ _ ⟨b1, rfl, q1, rfl⟩
  cases b1 with
  | false =>
    conv => whnf
    exact ⟨false, rfl, by simp, rfl⟩
  | true =>
  conv => whnf
  refine ⟨_, c2, ?_⟩
  rintro _ _ ⟨b2, rfl, q2, rfl⟩
  cases b2 with
  | false =>
    conv => whnf
    exact ⟨false, rfl, by simp, rfl⟩
  | true =>
  conv => whnf
  refine ⟨_, c3, ?_⟩
  rintro _ _ ⟨b3, rfl, q3, rfl⟩
  cases b3 with
  | false =>
    conv => whnf
    exact ⟨false, rfl, by simp, rfl⟩
  | true =>
  conv => whnf
  refine ⟨_, c4, ?_⟩
  rintro _ _ ⟨b4, rfl, q4, rfl⟩
  conv => whnf
  refine ⟨_, rfl, fun h => ?_, rfl⟩
  exact key ⟨by omega, by omega, by omega, by omega, by omega, by omega⟩ (by omega) (q1 rfl) (q2 rfl) (q3 rfl) (q4 h)

theorem cto_c {x : An} : CallR cx 21 [.d x.d] [] fun r S => r = .d x.cl.d ∧ S = [] := by
  unfold An.cl
  have hN : ∀ n : Nat, (x.kind.tmod 14).natAbs = n → n < 14 := by intro n h; rw [Int.natAbs_tmod] at h; have h : x.kind.natAbs % 14 = n := h; omega
  obtain ⟨xk, xA, xB, xC, xo, xn, xN, xs, xu, xv, xp, xl, xi, xb, xt⟩ := x
  obtain ⟨si, s1, s2, s3⟩ := xs
  obtain ⟨uh, uo, un, ⟨ui, u1, u2, u3⟩⟩ := xu
  obtain ⟨vh, vo, vn, ⟨vi, v1, v2, v3⟩⟩ := xv
  obtain ⟨ph, po, pw, ⟨pi, p1, p2, p3⟩⟩ := xp
  obtain ⟨la, lc, ld, lx, ly, lz⟩ := xt
  simp only at hN ⊢
  refine callR_of (R := R1) cx_ok Tryd.func21 (by kernel_rfl) rfl ?_
  conv => whnf
  refine ⟨by decide, ?_⟩
  conv => whnf
  generalize xk.tmod 14 = T at *
  generalize hn : T.natAbs = n at *
  have hn14 := hN n rfl
  refine brec (fun h => ?_) (fun h => ?_)
  · have h := of_decide_eq_true h
    have e : IntKind.i64.wrap (0 - T) = (n : Int) := by rw [w64 (by omega)]; omega
    conv => whnf
    rw [e]
    clear e h hN
    have q : n = 0 ∨ n = 1 ∨ n = 2 ∨ n = 3 ∨ n = 4 ∨ n = 5 ∨ n = 6 ∨ n = 7 ∨ n = 8 ∨ n = 9 ∨ n = 10 ∨ n = 11 ∨ n = 12 ∨ n = 13 := by omega
    clear hn hn14
    rcases q with rfl | rfl | rfl | rfl | rfl | rfl | rfl | rfl | rfl | rfl | rfl | rfl | rfl | rfl <;>
    · conv => whnf
      exact ⟨rfl, rfl⟩
  · have h := of_decide_eq_false h
    obtain rfl : T = (n : Int) := by omega
    clear h hN hn
    have q : n = 0 ∨ n = 1 ∨ n = 2 ∨ n = 3 ∨ n = 4 ∨ n = 5 ∨ n = 6 ∨ n = 7 ∨ n = 8 ∨ n = 9 ∨ n = 10 ∨ n = 11 ∨ n = 12 ∨ n = 13 := by omega
    clear hn14
    rcases q with rfl | rfl | rfl | rfl | rfl | rfl | rfl | rfl | rfl | rfl | rfl | rfl | rfl | rfl <;>
    · conv => whnf
      exact ⟨rfl, rfl⟩
end Go.Proofs.YtboohfijacjhjaaDoor
