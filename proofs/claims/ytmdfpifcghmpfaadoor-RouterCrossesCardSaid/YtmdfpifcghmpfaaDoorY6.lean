/- Routers: the walk of the law RouterSums, from the contracts of what it calls. -/
import Derived.Test.YtmdfpifcghmpfaaDoorY5
import Derived.Test.YtmdfpifcghmpfaaDoorV6
set_option linter.unusedVariables false
namespace Go.Proofs.YtmdfpifcghmpfaaDoor
open Go.Ab Go.RowKit

theorem rs_few {T H : List D} {here o k lf q lt : Int} {f t w remote s r b : ByteArray} {zn zi : Int} {zp zo zh : List D} (aw : CallR cx 42 [] [] fun r S => r = bo true ∧ S = [])
    (fc : CallR cx 29 [.d (.agg [.sl 7 T, .sl 4 H])] [] fun r S => r = bo false ∧ S = []) :
    CallR cx 11 [.d (.agg [.sl 7 T, .sl 4 H]), .d (.int .u32 here), .d (sdD f o t w k (.int .u64 zn) (.agg [.int .i64 zi, .sl 32 zp, .sl 32 zo, .sl 32 zh])), st remote, .d (ltD lf q lt s r b)] [] fun r S => r = bo true ∧ S = [] := by
  refine callR_of (R := R1) cx_ok Tryd.func11 (by kernel_rfl) rfl ?_
  conv => whnf
  refine ⟨_, aw, ?_⟩
  rintro _ _ ⟨rfl, rfl⟩
  conv => whnf
  refine ⟨_, fc, ?_⟩
  rintro _ _ ⟨rfl, rfl⟩
  conv => whnf
  exact ⟨rfl, rfl⟩

theorem rs_light {T H : List D} {here o k lf q lt : Int} {f t w remote s r b : ByteArray} {zn zi : Int} {zp zo zh : List D} (aw : CallR cx 42 [] [] fun r S => r = bo true ∧ S = [])
    (fc : CallR cx 29 [.d (.agg [.sl 7 T, .sl 4 H])] [] fun r S => ∃ b, r = bo b ∧ S = [])
    (lc : CallR cx 48 [.d (.sl 1 ([f, t, w, remote, s, r, b].map D.str))] [] fun r S => r = bo false ∧ S = []) :
    CallR cx 11 [.d (.agg [.sl 7 T, .sl 4 H]), .d (.int .u32 here), .d (sdD f o t w k (.int .u64 zn) (.agg [.int .i64 zi, .sl 32 zp, .sl 32 zo, .sl 32 zh])), st remote, .d (ltD lf q lt s r b)] [] fun r S => r = bo true ∧ S = [] := by
  refine callR_of (R := R1) cx_ok Tryd.func11 (by kernel_rfl) rfl ?_
  conv => whnf
  refine ⟨_, aw, ?_⟩
  rintro _ _ ⟨rfl, rfl⟩
  conv => whnf
  refine ⟨_, fc, ?_⟩
  rintro _ _ ⟨b, rfl, rfl⟩
  cases b with
  | false =>
    conv => whnf
    exact ⟨rfl, rfl⟩
  | true =>
  conv => whnf
  refine ⟨_, lc, ?_⟩
  rintro _ _ ⟨rfl, rfl⟩
  conv => whnf
  exact ⟨rfl, rfl⟩

theorem rs_right {T H : List D} {here o k lf q lt : Int} {f t w remote s r b : ByteArray} {zn zi : Int} {zp zo zh : List D} (aw : CallR cx 42 [] [] fun r S => r = bo true ∧ S = [])
    (fc : CallR cx 29 [.d (.agg [.sl 7 T, .sl 4 H])] [] fun r S => ∃ b, r = bo b ∧ S = [])
    (lc : CallR cx 48 [.d (.sl 1 ([f, t, w, remote, s, r, b].map D.str))] [] fun r S => ∃ b, r = bo b ∧ S = [])
    (rc : CallR cx 31 [.d (.agg [.sl 7 T, .sl 4 H])] [] fun r S => r = bo false ∧ S = []) :
    CallR cx 11 [.d (.agg [.sl 7 T, .sl 4 H]), .d (.int .u32 here), .d (sdD f o t w k (.int .u64 zn) (.agg [.int .i64 zi, .sl 32 zp, .sl 32 zo, .sl 32 zh])), st remote, .d (ltD lf q lt s r b)] [] fun r S => r = bo true ∧ S = [] := by
  refine callR_of (R := R1) cx_ok Tryd.func11 (by kernel_rfl) rfl ?_
  conv => whnf
  refine ⟨_, aw, ?_⟩
  rintro _ _ ⟨rfl, rfl⟩
  conv => whnf
  refine ⟨_, fc, ?_⟩
  rintro _ _ ⟨b, rfl, rfl⟩
  cases b with
  | false =>
    conv => whnf
    exact ⟨rfl, rfl⟩
  | true =>
  conv => whnf
  refine ⟨_, lc, ?_⟩
  rintro _ _ ⟨b, rfl, rfl⟩
  cases b with
  | false =>
    conv => whnf
    exact ⟨rfl, rfl⟩
  | true =>
  conv => whnf
  refine ⟨_, rc, ?_⟩
  rintro _ _ ⟨rfl, rfl⟩
  conv => whnf
  exact ⟨rfl, rfl⟩

theorem rs_nn {T H T2 H2 T3 H3 : List D} {here o k lf q lt e g : Int} {f t w remote s r b body : ByteArray} {zn zi : Int} {zp zo zh : List D} {Y : D}
    (aw : CallR cx 42 [] [] fun r S => r = bo true ∧ S = [])
    (fc : CallR cx 29 [.d (.agg [.sl 7 T, .sl 4 H])] [] fun r S => ∃ b, r = bo b ∧ S = [])
    (lc : CallR cx 48 [.d (.sl 1 ([f, t, w, remote, s, r, b].map D.str))] [] fun r S => ∃ b, r = bo b ∧ S = [])
    (rc : CallR cx 31 [.d (.agg [.sl 7 T, .sl 4 H])] [] fun r S => r = bo true ∧ S = [])
    (se : CallR cx 45 [.d (.agg [.sl 7 T, .sl 4 H]), .d (.int .u32 here), .d (sdD f o t w k (.int .u64 zn) (.agg [.int .i64 zi, .sl 32 zp, .sl 32 zo, .sl 32 zh]))] [] fun r S => r = .tup [.d (.agg [.sl 7 T2, .sl 4 H2]), st body, i64 e] ∧ S = [])
    (he : e ≠ 0)
    (hg : g ≠ 0)
    (ha : CallR cx 46 [.d (.agg [.sl 7 T, .sl 4 H]), .d (.int .u32 here), st remote, .d (ltD lf q lt s r b)] [] fun r S => r = .tup [.d (.agg [.sl 7 T, .sl 4 H]), .d Y, i64 g] ∧ S = [])
    (sm : CallR cx 35 [.d (.agg [.sl 7 T, .sl 4 H]), .d (.agg [.sl 7 T, .sl 4 H])] [] fun r S => r = bo true ∧ S = []) :
    CallR cx 11 [.d (.agg [.sl 7 T, .sl 4 H]), .d (.int .u32 here), .d (sdD f o t w k (.int .u64 zn) (.agg [.int .i64 zi, .sl 32 zp, .sl 32 zo, .sl 32 zh])), st remote, .d (ltD lf q lt s r b)] [] fun r S => r = bo true ∧ S = [] := by
  refine callR_of (R := R1) cx_ok Tryd.func11 (by kernel_rfl) rfl ?_
  conv => whnf
  refine ⟨_, aw, ?_⟩
  rintro _ _ ⟨rfl, rfl⟩
  conv => whnf
  refine ⟨_, fc, ?_⟩
  rintro _ _ ⟨b, rfl, rfl⟩
  cases b with
  | false =>
    conv => whnf
    exact ⟨rfl, rfl⟩
  | true =>
  conv => whnf
  refine ⟨_, lc, ?_⟩
  rintro _ _ ⟨b, rfl, rfl⟩
  cases b with
  | false =>
    conv => whnf
    exact ⟨rfl, rfl⟩
  | true =>
  conv => whnf
  refine ⟨_, rc, ?_⟩
  rintro _ _ ⟨rfl, rfl⟩
  conv => whnf
  refine ⟨_, se, ?_⟩
  rintro _ _ ⟨rfl, rfl⟩
  conv => whnf
  refine brF (beq_eq_false_iff_ne.2 he) ?_
  conv => whnf
  refine ⟨_, ha, ?_⟩
  rintro _ _ ⟨rfl, rfl⟩
  conv => whnf
  refine brT (bne_iff_ne.2 hg) ?_
  conv => whnf
  refine ⟨_, sm, ?_⟩
  rintro _ _ ⟨rfl, rfl⟩
  conv => whnf
  exact ⟨rfl, rfl⟩

theorem rs_no {T H T2 H2 T3 H3 : List D} {here o k lf q lt e g : Int} {f t w remote s r b body : ByteArray} {zn zi : Int} {zp zo zh : List D} {Y : Pl}
    (aw : CallR cx 42 [] [] fun r S => r = bo true ∧ S = [])
    (fc : CallR cx 29 [.d (.agg [.sl 7 T, .sl 4 H])] [] fun r S => ∃ b, r = bo b ∧ S = [])
    (lc : CallR cx 48 [.d (.sl 1 ([f, t, w, remote, s, r, b].map D.str))] [] fun r S => ∃ b, r = bo b ∧ S = [])
    (rc : CallR cx 31 [.d (.agg [.sl 7 T, .sl 4 H])] [] fun r S => r = bo true ∧ S = [])
    (se : CallR cx 45 [.d (.agg [.sl 7 T, .sl 4 H]), .d (.int .u32 here), .d (sdD f o t w k (.int .u64 zn) (.agg [.int .i64 zi, .sl 32 zp, .sl 32 zo, .sl 32 zh]))] [] fun r S => r = .tup [.d (.agg [.sl 7 T2, .sl 4 H2]), st body, i64 e] ∧ S = [])
    (he : e ≠ 0)
    (hg : g = 0)
    (ha : CallR cx 46 [.d (.agg [.sl 7 T, .sl 4 H]), .d (.int .u32 here), st remote, .d (ltD lf q lt s r b)] [] fun r S => r = .tup [.d (.agg [.sl 7 T3, .sl 4 H3]), .d Y.d, i64 g] ∧ S = [])
    (tf : CallR cx 50 [.d Y.d] [] fun r S => r = .tup [.d (tr4 0 .empty .empty 0), bo false] ∧ S = [])
    (hl : H3.length = H.length) :
    CallR cx 11 [.d (.agg [.sl 7 T, .sl 4 H]), .d (.int .u32 here), .d (sdD f o t w k (.int .u64 zn) (.agg [.int .i64 zi, .sl 32 zp, .sl 32 zo, .sl 32 zh])), st remote, .d (ltD lf q lt s r b)] [] fun r S => r = bo true ∧ S = [] := by
  refine callR_of (R := R1) cx_ok Tryd.func11 (by kernel_rfl) rfl ?_
  conv => whnf
  refine ⟨_, aw, ?_⟩
  rintro _ _ ⟨rfl, rfl⟩
  conv => whnf
  refine ⟨_, fc, ?_⟩
  rintro _ _ ⟨b, rfl, rfl⟩
  cases b with
  | false =>
    conv => whnf
    exact ⟨rfl, rfl⟩
  | true =>
  conv => whnf
  refine ⟨_, lc, ?_⟩
  rintro _ _ ⟨b, rfl, rfl⟩
  cases b with
  | false =>
    conv => whnf
    exact ⟨rfl, rfl⟩
  | true =>
  conv => whnf
  refine ⟨_, rc, ?_⟩
  rintro _ _ ⟨rfl, rfl⟩
  conv => whnf
  refine ⟨_, se, ?_⟩
  rintro _ _ ⟨rfl, rfl⟩
  conv => whnf
  refine brF (beq_eq_false_iff_ne.2 he) ?_
  conv => whnf
  refine ⟨_, ha, ?_⟩
  rintro _ _ ⟨rfl, rfl⟩
  conv => whnf
  refine brF (bne_eq_false_iff_eq.2 hg) ?_
  conv => whnf
  refine ⟨_, tf, ?_⟩
  rintro _ _ ⟨rfl, rfl⟩
  conv => whnf
  exact ⟨congrArg (fun z => AV.d (.bool z)) (beq_iff_eq.2 (by rw [hl])), rfl⟩

theorem rs_nt {T H T2 H2 T3 H3 : List D} {here o k lf q lt e g oo kk b1 b0 y1 y0 v1 v2 : Int} {f t w remote s r b body : ByteArray} {zn zi : Int} {zp zo zh : List D} {nn ww : ByteArray}
    (aw : CallR cx 42 [] [] fun r S => r = bo true ∧ S = [])
    (fc : CallR cx 29 [.d (.agg [.sl 7 T, .sl 4 H])] [] fun r S => ∃ b, r = bo b ∧ S = [])
    (lc : CallR cx 48 [.d (.sl 1 ([f, t, w, remote, s, r, b].map D.str))] [] fun r S => ∃ b, r = bo b ∧ S = [])
    (rc : CallR cx 31 [.d (.agg [.sl 7 T, .sl 4 H])] [] fun r S => r = bo true ∧ S = [])
    (se : CallR cx 45 [.d (.agg [.sl 7 T, .sl 4 H]), .d (.int .u32 here), .d (sdD f o t w k (.int .u64 zn) (.agg [.int .i64 zi, .sl 32 zp, .sl 32 zo, .sl 32 zh]))] [] fun r S => r = .tup [.d (.agg [.sl 7 T2, .sl 4 H2]), st body, i64 e] ∧ S = [])
    (he : e ≠ 0)
    (hg : g = 0)
    (ha : CallR cx 46 [.d (.agg [.sl 7 T, .sl 4 H]), .d (.int .u32 here), st remote, .d (ltD lf q lt s r b)] [] fun r S => r = .tup [.d (.agg [.sl 7 T3, .sl 4 H3]), .d (Pl.tr oo nn ww kk).d, i64 g] ∧ S = [])
    (s3 : CallR cx 39 [.d (.agg [.sl 7 T, .sl 4 H]), .d (.int .u32 oo), st nn] [] fun r S => r = .d (wd b1 b0) ∧ S = [])
    (ae : CallR cx 19 [.d (wd b1 b0), .d (wd 0 kk)] [] fun r S => r = .tup [.d (wd y1 y0), i64 0] ∧ S = [])
    (s4 : CallR cx 39 [.d (.agg [.sl 7 T3, .sl 4 H3]), .d (.int .u32 oo), st nn] [] fun r S => r = .d (wd y1 y0) ∧ S = [])
    (h1 : CallR cx 47 [.d (.agg [.sl 7 T3, .sl 4 H3]), .d (.int .u32 oo), st nn, st ww] [] fun r S => r = u64 v1 ∧ S = [])
    (h2 : CallR cx 47 [.d (.agg [.sl 7 T, .sl 4 H]), .d (.int .u32 oo), st nn, st ww] [] fun r S => r = u64 v2 ∧ S = [])
    (hv : IntKind.u64.wrap (v1 - v2) = kk) :
    CallR cx 11 [.d (.agg [.sl 7 T, .sl 4 H]), .d (.int .u32 here), .d (sdD f o t w k (.int .u64 zn) (.agg [.int .i64 zi, .sl 32 zp, .sl 32 zo, .sl 32 zh])), st remote, .d (ltD lf q lt s r b)] [] fun r S => r = bo true ∧ S = [] := by
  refine callR_of (R := R1) cx_ok Tryd.func11 (by kernel_rfl) rfl ?_
  conv => whnf
  refine ⟨_, aw, ?_⟩
  rintro _ _ ⟨rfl, rfl⟩
  conv => whnf
  refine ⟨_, fc, ?_⟩
  rintro _ _ ⟨b, rfl, rfl⟩
  cases b with
  | false =>
    conv => whnf
    exact ⟨rfl, rfl⟩
  | true =>
  conv => whnf
  refine ⟨_, lc, ?_⟩
  rintro _ _ ⟨b, rfl, rfl⟩
  cases b with
  | false =>
    conv => whnf
    exact ⟨rfl, rfl⟩
  | true =>
  conv => whnf
  refine ⟨_, rc, ?_⟩
  rintro _ _ ⟨rfl, rfl⟩
  conv => whnf
  refine ⟨_, se, ?_⟩
  rintro _ _ ⟨rfl, rfl⟩
  conv => whnf
  refine brF (beq_eq_false_iff_ne.2 he) ?_
  conv => whnf
  refine ⟨_, ha, ?_⟩
  rintro _ _ ⟨rfl, rfl⟩
  conv => whnf
  refine brF (bne_eq_false_iff_eq.2 hg) ?_
  conv => whnf
  refine ⟨_, transfer_c, ?_⟩
  rintro _ _ ⟨rfl, rfl⟩
  conv => whnf
  refine ⟨by kernel_rfl, ?_⟩
  conv => whnf
  refine ⟨_, s3, ?_⟩
  conv => whnf
  refine ⟨_, ae, ?_⟩
  conv => whnf
  refine ⟨by kernel_rfl, ?_⟩
  conv => whnf
  refine ⟨by kernel_rfl, ?_⟩
  conv => whnf
  refine ⟨_, s4, ?_⟩
  conv => whnf
  refine ⟨sideW _ _ _ _, ?_⟩
  rw [deq_self]
  conv => whnf
  refine ⟨_, h1, ?_⟩
  conv => whnf
  refine ⟨_, h2, ?_⟩
  conv => whnf
  refine ⟨by kernel_rfl, ?_⟩
  conv => whnf
  exact ⟨congrArg (fun z => AV.d (.bool z)) (beq_iff_eq.2 hv), rfl⟩

theorem rs_sn {T H T2 H2 T3 H3 : List D} {here o k lf q lt e g a1 a0 x1 x0 : Int} {f t w remote s r b body : ByteArray} {zn zi : Int} {zp zo zh : List D} {Y : D}
    (aw : CallR cx 42 [] [] fun r S => r = bo true ∧ S = [])
    (fc : CallR cx 29 [.d (.agg [.sl 7 T, .sl 4 H])] [] fun r S => ∃ b, r = bo b ∧ S = [])
    (lc : CallR cx 48 [.d (.sl 1 ([f, t, w, remote, s, r, b].map D.str))] [] fun r S => ∃ b, r = bo b ∧ S = [])
    (rc : CallR cx 31 [.d (.agg [.sl 7 T, .sl 4 H])] [] fun r S => r = bo true ∧ S = [])
    (se : CallR cx 45 [.d (.agg [.sl 7 T, .sl 4 H]), .d (.int .u32 here), .d (sdD f o t w k (.int .u64 zn) (.agg [.int .i64 zi, .sl 32 zp, .sl 32 zo, .sl 32 zh]))] [] fun r S => r = .tup [.d (.agg [.sl 7 T2, .sl 4 H2]), st body, i64 e] ∧ S = [])
    (he : e = 0)
    (rd : CallR cx 49 [st body] [] fun r S => r = .tup [.d (Pl.tr o t w k).d, i64 0] ∧ S = [])
    (s1 : CallR cx 39 [.d (.agg [.sl 7 T2, .sl 4 H2]), .d (.int .u32 o), st t] [] fun r S => r = .d (wd a1 a0) ∧ S = [])
    (ad : CallR cx 19 [.d (wd a1 a0), .d (wd 0 k)] [] fun r S => r = .tup [.d (wd x1 x0), i64 0] ∧ S = [])
    (s2 : CallR cx 39 [.d (.agg [.sl 7 T, .sl 4 H]), .d (.int .u32 o), st t] [] fun r S => r = .d (wd x1 x0) ∧ S = [])
    (hg : g ≠ 0)
    (ha : CallR cx 46 [.d (.agg [.sl 7 T, .sl 4 H]), .d (.int .u32 here), st remote, .d (ltD lf q lt s r b)] [] fun r S => r = .tup [.d (.agg [.sl 7 T, .sl 4 H]), .d Y, i64 g] ∧ S = [])
    (sm : CallR cx 35 [.d (.agg [.sl 7 T, .sl 4 H]), .d (.agg [.sl 7 T, .sl 4 H])] [] fun r S => r = bo true ∧ S = []) :
    CallR cx 11 [.d (.agg [.sl 7 T, .sl 4 H]), .d (.int .u32 here), .d (sdD f o t w k (.int .u64 zn) (.agg [.int .i64 zi, .sl 32 zp, .sl 32 zo, .sl 32 zh])), st remote, .d (ltD lf q lt s r b)] [] fun r S => r = bo true ∧ S = [] := by
  refine callR_of (R := R1) cx_ok Tryd.func11 (by kernel_rfl) rfl ?_
  conv => whnf
  refine ⟨_, aw, ?_⟩
  rintro _ _ ⟨rfl, rfl⟩
  conv => whnf
  refine ⟨_, fc, ?_⟩
  rintro _ _ ⟨b, rfl, rfl⟩
  cases b with
  | false =>
    conv => whnf
    exact ⟨rfl, rfl⟩
  | true =>
  conv => whnf
  refine ⟨_, lc, ?_⟩
  rintro _ _ ⟨b, rfl, rfl⟩
  cases b with
  | false =>
    conv => whnf
    exact ⟨rfl, rfl⟩
  | true =>
  conv => whnf
  refine ⟨_, rc, ?_⟩
  rintro _ _ ⟨rfl, rfl⟩
  conv => whnf
  refine ⟨_, se, ?_⟩
  rintro _ _ ⟨rfl, rfl⟩
  conv => whnf
  refine brT (beq_iff_eq.2 he) ?_
  conv => whnf
  refine ⟨_, rd, ?_⟩
  rintro _ _ ⟨rfl, rfl⟩
  conv => whnf
  refine ⟨_, transfer_c, ?_⟩
  rintro _ _ ⟨rfl, rfl⟩
  conv => whnf
  refine ⟨by kernel_rfl, ?_⟩
  conv => whnf
  refine ⟨_, s1, ?_⟩
  conv => whnf
  refine ⟨_, ad, ?_⟩
  conv => whnf
  refine ⟨by kernel_rfl, ?_⟩
  conv => whnf
  refine ⟨by kernel_rfl, ?_⟩
  conv => whnf
  refine brF (bne_self_eq_false _) ?_
  conv => whnf
  refine brF (by rw [decide_eq_true rfl]; rfl) ?_
  conv => whnf
  refine brF (by rw [decide_eq_true rfl]; rfl) ?_
  conv => whnf
  refine brF (bne_self_eq_false _) ?_
  conv => whnf
  refine ⟨_, s2, ?_⟩
  conv => whnf
  refine ⟨sideW _ _ _ _, ?_⟩
  rw [deq_self]
  conv => whnf
  refine ⟨by kernel_rfl, ?_⟩
  conv => whnf
  refine ⟨_, ha, ?_⟩
  rintro _ _ ⟨rfl, rfl⟩
  conv => whnf
  refine brT (bne_iff_ne.2 hg) ?_
  conv => whnf
  refine ⟨_, sm, ?_⟩
  rintro _ _ ⟨rfl, rfl⟩
  conv => whnf
  exact ⟨rfl, rfl⟩

theorem rs_so {T H T2 H2 T3 H3 : List D} {here o k lf q lt e g a1 a0 x1 x0 : Int} {f t w remote s r b body : ByteArray} {zn zi : Int} {zp zo zh : List D} {Y : Pl}
    (aw : CallR cx 42 [] [] fun r S => r = bo true ∧ S = [])
    (fc : CallR cx 29 [.d (.agg [.sl 7 T, .sl 4 H])] [] fun r S => ∃ b, r = bo b ∧ S = [])
    (lc : CallR cx 48 [.d (.sl 1 ([f, t, w, remote, s, r, b].map D.str))] [] fun r S => ∃ b, r = bo b ∧ S = [])
    (rc : CallR cx 31 [.d (.agg [.sl 7 T, .sl 4 H])] [] fun r S => r = bo true ∧ S = [])
    (se : CallR cx 45 [.d (.agg [.sl 7 T, .sl 4 H]), .d (.int .u32 here), .d (sdD f o t w k (.int .u64 zn) (.agg [.int .i64 zi, .sl 32 zp, .sl 32 zo, .sl 32 zh]))] [] fun r S => r = .tup [.d (.agg [.sl 7 T2, .sl 4 H2]), st body, i64 e] ∧ S = [])
    (he : e = 0)
    (rd : CallR cx 49 [st body] [] fun r S => r = .tup [.d (Pl.tr o t w k).d, i64 0] ∧ S = [])
    (s1 : CallR cx 39 [.d (.agg [.sl 7 T2, .sl 4 H2]), .d (.int .u32 o), st t] [] fun r S => r = .d (wd a1 a0) ∧ S = [])
    (ad : CallR cx 19 [.d (wd a1 a0), .d (wd 0 k)] [] fun r S => r = .tup [.d (wd x1 x0), i64 0] ∧ S = [])
    (s2 : CallR cx 39 [.d (.agg [.sl 7 T, .sl 4 H]), .d (.int .u32 o), st t] [] fun r S => r = .d (wd x1 x0) ∧ S = [])
    (hg : g = 0)
    (ha : CallR cx 46 [.d (.agg [.sl 7 T, .sl 4 H]), .d (.int .u32 here), st remote, .d (ltD lf q lt s r b)] [] fun r S => r = .tup [.d (.agg [.sl 7 T3, .sl 4 H3]), .d Y.d, i64 g] ∧ S = [])
    (tf : CallR cx 50 [.d Y.d] [] fun r S => r = .tup [.d (tr4 0 .empty .empty 0), bo false] ∧ S = [])
    (hl : H3.length = H.length) :
    CallR cx 11 [.d (.agg [.sl 7 T, .sl 4 H]), .d (.int .u32 here), .d (sdD f o t w k (.int .u64 zn) (.agg [.int .i64 zi, .sl 32 zp, .sl 32 zo, .sl 32 zh])), st remote, .d (ltD lf q lt s r b)] [] fun r S => r = bo true ∧ S = [] := by
  refine callR_of (R := R1) cx_ok Tryd.func11 (by kernel_rfl) rfl ?_
  conv => whnf
  refine ⟨_, aw, ?_⟩
  rintro _ _ ⟨rfl, rfl⟩
  conv => whnf
  refine ⟨_, fc, ?_⟩
  rintro _ _ ⟨b, rfl, rfl⟩
  cases b with
  | false =>
    conv => whnf
    exact ⟨rfl, rfl⟩
  | true =>
  conv => whnf
  refine ⟨_, lc, ?_⟩
  rintro _ _ ⟨b, rfl, rfl⟩
  cases b with
  | false =>
    conv => whnf
    exact ⟨rfl, rfl⟩
  | true =>
  conv => whnf
  refine ⟨_, rc, ?_⟩
  rintro _ _ ⟨rfl, rfl⟩
  conv => whnf
  refine ⟨_, se, ?_⟩
  rintro _ _ ⟨rfl, rfl⟩
  conv => whnf
  refine brT (beq_iff_eq.2 he) ?_
  conv => whnf
  refine ⟨_, rd, ?_⟩
  rintro _ _ ⟨rfl, rfl⟩
  conv => whnf
  refine ⟨_, transfer_c, ?_⟩
  rintro _ _ ⟨rfl, rfl⟩
  conv => whnf
  refine ⟨by kernel_rfl, ?_⟩
  conv => whnf
  refine ⟨_, s1, ?_⟩
  conv => whnf
  refine ⟨_, ad, ?_⟩
  conv => whnf
  refine ⟨by kernel_rfl, ?_⟩
  conv => whnf
  refine ⟨by kernel_rfl, ?_⟩
  conv => whnf
  refine brF (bne_self_eq_false _) ?_
  conv => whnf
  refine brF (by rw [decide_eq_true rfl]; rfl) ?_
  conv => whnf
  refine brF (by rw [decide_eq_true rfl]; rfl) ?_
  conv => whnf
  refine brF (bne_self_eq_false _) ?_
  conv => whnf
  refine ⟨_, s2, ?_⟩
  conv => whnf
  refine ⟨sideW _ _ _ _, ?_⟩
  rw [deq_self]
  conv => whnf
  refine ⟨by kernel_rfl, ?_⟩
  conv => whnf
  refine ⟨_, ha, ?_⟩
  rintro _ _ ⟨rfl, rfl⟩
  conv => whnf
  refine brF (bne_eq_false_iff_eq.2 hg) ?_
  conv => whnf
  refine ⟨_, tf, ?_⟩
  rintro _ _ ⟨rfl, rfl⟩
  conv => whnf
  exact ⟨congrArg (fun z => AV.d (.bool z)) (beq_iff_eq.2 (by rw [hl])), rfl⟩

theorem rs_st {T H T2 H2 T3 H3 : List D} {here o k lf q lt e g a1 a0 x1 x0 oo kk b1 b0 y1 y0 v1 v2 : Int} {f t w remote s r b body : ByteArray} {zn zi : Int} {zp zo zh : List D} {nn ww : ByteArray}
    (aw : CallR cx 42 [] [] fun r S => r = bo true ∧ S = [])
    (fc : CallR cx 29 [.d (.agg [.sl 7 T, .sl 4 H])] [] fun r S => ∃ b, r = bo b ∧ S = [])
    (lc : CallR cx 48 [.d (.sl 1 ([f, t, w, remote, s, r, b].map D.str))] [] fun r S => ∃ b, r = bo b ∧ S = [])
    (rc : CallR cx 31 [.d (.agg [.sl 7 T, .sl 4 H])] [] fun r S => r = bo true ∧ S = [])
    (se : CallR cx 45 [.d (.agg [.sl 7 T, .sl 4 H]), .d (.int .u32 here), .d (sdD f o t w k (.int .u64 zn) (.agg [.int .i64 zi, .sl 32 zp, .sl 32 zo, .sl 32 zh]))] [] fun r S => r = .tup [.d (.agg [.sl 7 T2, .sl 4 H2]), st body, i64 e] ∧ S = [])
    (he : e = 0)
    (rd : CallR cx 49 [st body] [] fun r S => r = .tup [.d (Pl.tr o t w k).d, i64 0] ∧ S = [])
    (s1 : CallR cx 39 [.d (.agg [.sl 7 T2, .sl 4 H2]), .d (.int .u32 o), st t] [] fun r S => r = .d (wd a1 a0) ∧ S = [])
    (ad : CallR cx 19 [.d (wd a1 a0), .d (wd 0 k)] [] fun r S => r = .tup [.d (wd x1 x0), i64 0] ∧ S = [])
    (s2 : CallR cx 39 [.d (.agg [.sl 7 T, .sl 4 H]), .d (.int .u32 o), st t] [] fun r S => r = .d (wd x1 x0) ∧ S = [])
    (hg : g = 0)
    (ha : CallR cx 46 [.d (.agg [.sl 7 T, .sl 4 H]), .d (.int .u32 here), st remote, .d (ltD lf q lt s r b)] [] fun r S => r = .tup [.d (.agg [.sl 7 T3, .sl 4 H3]), .d (Pl.tr oo nn ww kk).d, i64 g] ∧ S = [])
    (s3 : CallR cx 39 [.d (.agg [.sl 7 T, .sl 4 H]), .d (.int .u32 oo), st nn] [] fun r S => r = .d (wd b1 b0) ∧ S = [])
    (ae : CallR cx 19 [.d (wd b1 b0), .d (wd 0 kk)] [] fun r S => r = .tup [.d (wd y1 y0), i64 0] ∧ S = [])
    (s4 : CallR cx 39 [.d (.agg [.sl 7 T3, .sl 4 H3]), .d (.int .u32 oo), st nn] [] fun r S => r = .d (wd y1 y0) ∧ S = [])
    (h1 : CallR cx 47 [.d (.agg [.sl 7 T3, .sl 4 H3]), .d (.int .u32 oo), st nn, st ww] [] fun r S => r = u64 v1 ∧ S = [])
    (h2 : CallR cx 47 [.d (.agg [.sl 7 T, .sl 4 H]), .d (.int .u32 oo), st nn, st ww] [] fun r S => r = u64 v2 ∧ S = [])
    (hv : IntKind.u64.wrap (v1 - v2) = kk) :
    CallR cx 11 [.d (.agg [.sl 7 T, .sl 4 H]), .d (.int .u32 here), .d (sdD f o t w k (.int .u64 zn) (.agg [.int .i64 zi, .sl 32 zp, .sl 32 zo, .sl 32 zh])), st remote, .d (ltD lf q lt s r b)] [] fun r S => r = bo true ∧ S = [] := by
  refine callR_of (R := R1) cx_ok Tryd.func11 (by kernel_rfl) rfl ?_
  conv => whnf
  refine ⟨_, aw, ?_⟩
  rintro _ _ ⟨rfl, rfl⟩
  conv => whnf
  refine ⟨_, fc, ?_⟩
  rintro _ _ ⟨b, rfl, rfl⟩
  cases b with
  | false =>
    conv => whnf
    exact ⟨rfl, rfl⟩
  | true =>
  conv => whnf
  refine ⟨_, lc, ?_⟩
  rintro _ _ ⟨b, rfl, rfl⟩
  cases b with
  | false =>
    conv => whnf
    exact ⟨rfl, rfl⟩
  | true =>
  conv => whnf
  refine ⟨_, rc, ?_⟩
  rintro _ _ ⟨rfl, rfl⟩
  conv => whnf
  refine ⟨_, se, ?_⟩
  rintro _ _ ⟨rfl, rfl⟩
  conv => whnf
  refine brT (beq_iff_eq.2 he) ?_
  conv => whnf
  refine ⟨_, rd, ?_⟩
  rintro _ _ ⟨rfl, rfl⟩
  conv => whnf
  refine ⟨_, transfer_c, ?_⟩
  rintro _ _ ⟨rfl, rfl⟩
  conv => whnf
  refine ⟨by kernel_rfl, ?_⟩
  conv => whnf
  refine ⟨_, s1, ?_⟩
  conv => whnf
  refine ⟨_, ad, ?_⟩
  conv => whnf
  refine ⟨by kernel_rfl, ?_⟩
  conv => whnf
  refine ⟨by kernel_rfl, ?_⟩
  conv => whnf
  refine brF (bne_self_eq_false _) ?_
  conv => whnf
  refine brF (by rw [decide_eq_true rfl]; rfl) ?_
  conv => whnf
  refine brF (by rw [decide_eq_true rfl]; rfl) ?_
  conv => whnf
  refine brF (bne_self_eq_false _) ?_
  conv => whnf
  refine ⟨_, s2, ?_⟩
  conv => whnf
  refine ⟨sideW _ _ _ _, ?_⟩
  rw [deq_self]
  conv => whnf
  refine ⟨by kernel_rfl, ?_⟩
  conv => whnf
  refine ⟨_, ha, ?_⟩
  rintro _ _ ⟨rfl, rfl⟩
  conv => whnf
  refine brF (bne_eq_false_iff_eq.2 hg) ?_
  conv => whnf
  refine ⟨_, transfer_c, ?_⟩
  rintro _ _ ⟨rfl, rfl⟩
  conv => whnf
  refine ⟨by kernel_rfl, ?_⟩
  conv => whnf
  refine ⟨_, s3, ?_⟩
  conv => whnf
  refine ⟨_, ae, ?_⟩
  conv => whnf
  refine ⟨by kernel_rfl, ?_⟩
  conv => whnf
  refine ⟨by kernel_rfl, ?_⟩
  conv => whnf
  refine ⟨_, s4, ?_⟩
  conv => whnf
  refine ⟨sideW _ _ _ _, ?_⟩
  rw [deq_self]
  conv => whnf
  refine ⟨_, h1, ?_⟩
  conv => whnf
  refine ⟨_, h2, ?_⟩
  conv => whnf
  refine ⟨by kernel_rfl, ?_⟩
  conv => whnf
  exact ⟨congrArg (fun z => AV.d (.bool z)) (beq_iff_eq.2 hv), rfl⟩

end Go.Proofs.YtmdfpifcghmpfaaDoor
