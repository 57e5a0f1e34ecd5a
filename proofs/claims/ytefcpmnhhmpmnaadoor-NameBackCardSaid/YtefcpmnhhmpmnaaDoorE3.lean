/- strconv's errors: values behind a new block, off the library's shelf. -/
import Derived.Test.YtefcpmnhhmpmnaaDoorE2
import Derived.Shelf.Pu.ToErrorRange
import Derived.Shelf.Pu.ToError
set_option linter.unusedVariables false
namespace Go.Proofs.YtefcpmnhhmpmnaaDoor
open Go.Shelf Go.RowKit Go.Lib Go.Ab

def renlaysTe : Go.Shelf.Ren := ⟨fun | 17 => 57 | 21 => 65 | 22 => 66 | 23 => 67 | 24 => 68 | 25 => 78 | 26 => 79 | 27 => 80 | 28 => 85 | 29 => 86 | 30 => 58 | 31 => 59 | 32 => 60 | 33 => 61 | 34 => 69 | 35 => 70 | 36 => 71 | 37 => 72 | 38 => 73 | 39 => 81 | 40 => 82 | n => n, fun | 0 => 0 | 2 => 2 | 3 => 3 | 4 => 4 | 5 => 5 | 9 => 9 | 20 => 20 | 22 => 58 | 24 => 46 | 34 => 81 | 36 => 29 | 37 => 42 | 39 => 83 | 44 => 93 | 47 => 63 | 48 => 98 | 50 => 100 | 52 => 72 | 55 => 75 | 59 => 88 | 60 => 70 | 61 => 89 | 65 => 101 | 66 => 102 | 67 => 50 | n => n, fun | 0 => 4 | 1 => 5 | 2 => 2 | 3 => 6 | 4 => 7 | n => n⟩
theorem laysTe : LaysPu.n17 Tryd.prog renlaysTe := {
  mixed := by kernel_rfl
  f17 := Tryd.func57.trans (congrArg some (by kernel_rfl))
  f21 := Tryd.func65.trans (congrArg some (by kernel_rfl))
  f22 := Tryd.func66.trans (congrArg some (by kernel_rfl))
  f23 := Tryd.func67.trans (congrArg some (by kernel_rfl))
  f24 := Tryd.func68.trans (congrArg some (by kernel_rfl))
  f25 := Tryd.func78.trans (congrArg some (by kernel_rfl))
  f26 := Tryd.func79.trans (congrArg some (by kernel_rfl))
  f27 := Tryd.func80.trans (congrArg some (by kernel_rfl))
  f28 := Tryd.func85.trans (congrArg some (by kernel_rfl))
  f29 := Tryd.func86.trans (congrArg some (by kernel_rfl))
  f30 := Tryd.func58.trans (congrArg some (by kernel_rfl))
  f31 := Tryd.func59.trans (congrArg some (by kernel_rfl))
  f32 := Tryd.func60.trans (congrArg some (by kernel_rfl))
  f33 := Tryd.func61.trans (congrArg some (by kernel_rfl))
  f34 := Tryd.func69.trans (congrArg some (by kernel_rfl))
  f35 := Tryd.func70.trans (congrArg some (by kernel_rfl))
  f36 := Tryd.func71.trans (congrArg some (by kernel_rfl))
  f37 := Tryd.func72.trans (congrArg some (by kernel_rfl))
  f38 := Tryd.func73.trans (congrArg some (by kernel_rfl))
  f39 := Tryd.func81.trans (congrArg some (by kernel_rfl))
  f40 := Tryd.func82.trans (congrArg some (by kernel_rfl))
  t0 := Tryd.underlying0
  a0 := Tryd.isAgg0
  z0 := Tryd.sizeOf0
  v0 := Tryd.zeroValue0
  i0 := by kernel_rfl
  t2 := Tryd.underlying2
  a2 := Tryd.isAgg2
  z2 := Tryd.sizeOf2
  v2 := Tryd.zeroValue2
  i2 := by kernel_rfl
  t3 := Tryd.underlying3
  a3 := Tryd.isAgg3
  z3 := Tryd.sizeOf3
  v3 := Tryd.zeroValue3
  i3 := by kernel_rfl
  t4 := Tryd.underlying4
  a4 := Tryd.isAgg4
  z4 := Tryd.sizeOf4
  v4 := Tryd.zeroValue4
  i4 := by kernel_rfl
  t5 := Tryd.underlying5
  a5 := Tryd.isAgg5
  z5 := Tryd.sizeOf5
  v5 := Tryd.zeroValue5
  i5 := by kernel_rfl
  t9 := Tryd.underlying9
  a9 := Tryd.isAgg9
  z9 := Tryd.sizeOf9
  v9 := Tryd.zeroValue9
  i9 := by kernel_rfl
  t20 := Tryd.underlying20
  a20 := Tryd.isAgg20
  z20 := Tryd.sizeOf20
  v20 := Tryd.zeroValue20
  i20 := by kernel_rfl
  t22 := Tryd.underlying58
  a22 := Tryd.isAgg58
  z22 := Tryd.sizeOf58
  v22 := Tryd.zeroValue58
  i22 := by kernel_rfl
  t24 := Tryd.underlying46
  a24 := Tryd.isAgg46
  z24 := Tryd.sizeOf46
  v24 := Tryd.zeroValue46
  i24 := by kernel_rfl
  t34 := Tryd.underlying81
  a34 := Tryd.isAgg81
  z34 := Tryd.sizeOf81
  v34 := Tryd.zeroValue81
  i34 := by kernel_rfl
  c34 := by kernel_rfl
  t36 := Tryd.underlying29
  a36 := Tryd.isAgg29
  z36 := Tryd.sizeOf29
  v36 := Tryd.zeroValue29
  i36 := by kernel_rfl
  t37 := Tryd.underlying42
  a37 := Tryd.isAgg42
  z37 := Tryd.sizeOf42
  v37 := Tryd.zeroValue42
  i37 := by kernel_rfl
  t39 := Tryd.underlying83
  a39 := Tryd.isAgg83
  z39 := Tryd.sizeOf83
  v39 := Tryd.zeroValue83
  i39 := by kernel_rfl
  t44 := Tryd.underlying93
  a44 := Tryd.isAgg93
  z44 := Tryd.sizeOf93
  v44 := Tryd.zeroValue93
  i44 := by kernel_rfl
  t47 := Tryd.underlying63
  a47 := Tryd.isAgg63
  z47 := Tryd.sizeOf63
  v47 := Tryd.zeroValue63
  i47 := by kernel_rfl
  t48 := Tryd.underlying98
  a48 := Tryd.isAgg98
  z48 := Tryd.sizeOf98
  v48 := Tryd.zeroValue98
  i48 := by kernel_rfl
  t50 := Tryd.underlying100
  a50 := Tryd.isAgg100
  z50 := Tryd.sizeOf100
  v50 := Tryd.zeroValue100
  i50 := by kernel_rfl
  t52 := Tryd.underlying72
  a52 := Tryd.isAgg72
  z52 := Tryd.sizeOf72
  v52 := Tryd.zeroValue72
  i52 := by kernel_rfl
  t55 := Tryd.underlying75
  a55 := Tryd.isAgg75
  z55 := Tryd.sizeOf75
  v55 := Tryd.zeroValue75
  i55 := by kernel_rfl
  t59 := Tryd.underlying88
  a59 := Tryd.isAgg88
  z59 := Tryd.sizeOf88
  v59 := Tryd.zeroValue88
  i59 := by kernel_rfl
  t60 := Tryd.underlying70
  a60 := Tryd.isAgg70
  z60 := Tryd.sizeOf70
  v60 := Tryd.zeroValue70
  i60 := by kernel_rfl
  t61 := Tryd.underlying89
  a61 := Tryd.isAgg89
  z61 := Tryd.sizeOf89
  t65 := Tryd.underlying101
  a65 := Tryd.isAgg101
  z65 := Tryd.sizeOf101
  v65 := Tryd.zeroValue101
  i65 := by kernel_rfl
  t66 := Tryd.underlying102
  a66 := Tryd.isAgg102
  z66 := Tryd.sizeOf102
  v66 := Tryd.zeroValue102
  i66 := by kernel_rfl
  t67 := Tryd.underlying50
  a67 := Tryd.isAgg50
  z67 := Tryd.sizeOf50
  v67 := Tryd.zeroValue50
  i67 := by kernel_rfl
  g0 := by kernel_rfl
  m0 := by kernel_rfl
  g1 := by kernel_rfl
  m1 := by kernel_rfl
  g2 := by kernel_rfl
  m2 := by kernel_rfl
  g3 := by kernel_rfl
  m3 := by kernel_rfl
  g4 := by kernel_rfl
  m4 := by kernel_rfl }

variable [Errs]

omit [Errs] in
theorem VS.five' {μ k w G x1 x2 x3 x4 x5 vals} (h : VS μ k w G [x1, x2, x3, x4, x5] vals) : ∃ v1 v2 v3 v4 v5, vals = [v1, v2, v3, v4, v5] ∧ VA μ k w G x1 v1 ∧ VA μ k w G x2 v2 ∧ VA μ k w G x3 v3 ∧ VA μ k w G x4 v4 ∧ VA μ k w G x5 v5 := by
  cases h with
  | cons h1 h => cases h with
    | cons h2 h => cases h with
      | cons h3 h => cases h with
        | cons h4 h => cases h with
          | cons h5 h => cases h; exact ⟨_, _, _, _, _, rfl, h1, h2, h3, h4, h5⟩

omit [Errs] in
theorem VD.iface_int {w G t k n v} (h : VD w G (.iface t (.int k n)) v) : v = .iface t (.int k n) := by
  obtain ⟨h1, h2⟩ := h
  generalize hc : v.cells.toList = c at h1
  cases h1 with
  | iface a b r =>
    cases r
    rename_i u
    have hu : u = .int k n := by
      have : VD w G (.int k n) u := ⟨a, b⟩
      exact this.int_inv
    subst hu
    cases v <;> simp_all [Value.cells, vAgg, D.isAgg]

omit [Errs] in
theorem err_cells {w' : World} {G' : Nat → Nat → Prop} {N : Nat} {fn s : ByteArray} {T : TypeId} {e : D} {ev : Value} (he : CL w' G' [e] [ev]) (hh : w'.heap[N]? = some (.cells #[.string fn, .string s, ev] T (0, 0))) (hG : ∀ o, G' N o) :
    CL w' G' [.iface 83 (.cptr (.agg [.str fn, .str s, e]))] [.iface 83 (.pointer (some ⟨N, 0, none⟩))] := by
  have h1 : CL w' G' [.agg [.str fn, .str s, e]] [.string fn, .string s, ev] := by
    have := CL.agg (CL.str (s := fn) (CL.str (s := s) he)) (CL.nil (w := w') (G := G'))
    simpa using this
  refine .iface (v := .pointer (some ⟨N, 0, none⟩)) (.cptr (c := [.string fn, .string s, ev]) h1 ?_ .nil) rfl .nil
  intro j v hj
  refine ⟨?_, hG _⟩
  rw [Nat.zero_add]
  unfold World.cell?
  simp only [hh]
  match j, hj with
  | 0, hj => simpa using hj
  | 1, hj => simpa using hj
  | 2, hj => simpa using hj
  | j + 3, hj => simp at hj

theorem toErrS_c {fn s : ByteArray} {b z : Int} (hlim : s.size ≤ 281474976710656) : CallR cxE 57 [st fn, st s, i64 b, i64 z, .d (.iface 81 (.int .i64 2))] [] fun r S =>
    r = .d (.iface 83 (.cptr (.agg [.str fn, .str s, Errs.s]))) ∧ S = [] := by
  refine callR_raw (c := cxE) Tryd.func57 (by kernel_rfl) rfl fun μ G w vals st0 hv => ?_
  obtain ⟨v1, v2, v3, v4, v5, rfl, h1, h2, h3, h4, h5⟩ := VS.five' hv
  obtain rfl := (VA.d_iff.1 h1).str_inv
  obtain rfl := (VA.d_iff.1 h2).str_inv
  obtain rfl := (VA.d_iff.1 h3).int_inv
  obtain rfl := (VA.d_iff.1 h4).int_inv
  obtain rfl := VD.iface_int (VA.d_iff.1 h5)
  obtain ⟨c, k1, k2⟩ := glob_cells st0 (g := 4) (x := Errs.s) rfl
  obtain ⟨t, x, he⟩ := Errs.hs
  obtain ⟨ev, hc, hev⟩ : ∃ ev, c = [ev] ∧ ∃ te pe, ev = Value.iface te pe := by
    rw [he] at k1
    cases k1 with
    | iface a b r => cases r; exact ⟨_, rfl, _, _, rfl⟩
  subst hc
  refine (AnyPu.strconv_toError_syntax laysTe fn s b z ev w hlim (k2 0 _ rfl) (.inr hev)).mono ?_
  rintro e w' ⟨N, rfl, hN, hh, hb⟩
  obtain ⟨G', hG, hGN, st'⟩ := St.promise st0 hb hN (Array.getElem?_eq_some_iff.1 hh).1
  refine ⟨_, .d (.iface 83 (.cptr (.agg [.str fn, .str s, Errs.s]))), [], μ, G', rfl, ⟨rfl, rfl⟩, st', va_d (err_cells (T := 93) (k1.mono hG ?_) hh hGN) rfl rfl⟩
  exact fun b o v hg h => by rw [← h]; exact (hb.cell (st0.gv b o hg))

theorem toErrR_c {fn s : ByteArray} {b z : Int} (hlim : s.size ≤ 281474976710656) : CallR cxE 57 [st fn, st s, i64 b, i64 z, .d (.iface 81 (.int .i64 1))] [] fun r S =>
    r = .d (.iface 83 (.cptr (.agg [.str fn, .str s, Errs.r]))) ∧ S = [] := by
  refine callR_raw (c := cxE) Tryd.func57 (by kernel_rfl) rfl fun μ G w vals st0 hv => ?_
  obtain ⟨v1, v2, v3, v4, v5, rfl, h1, h2, h3, h4, h5⟩ := VS.five' hv
  obtain rfl := (VA.d_iff.1 h1).str_inv
  obtain rfl := (VA.d_iff.1 h2).str_inv
  obtain rfl := (VA.d_iff.1 h3).int_inv
  obtain rfl := (VA.d_iff.1 h4).int_inv
  obtain rfl := VD.iface_int (VA.d_iff.1 h5)
  obtain ⟨c, k1, k2⟩ := glob_cells st0 (g := 5) (x := Errs.r) rfl
  obtain ⟨t, x, he⟩ := Errs.hr
  obtain ⟨ev, hc, hev⟩ : ∃ ev, c = [ev] ∧ ∃ te pe, ev = Value.iface te pe := by
    rw [he] at k1
    cases k1 with
    | iface a b r => cases r; exact ⟨_, rfl, _, _, rfl⟩
  subst hc
  refine (AnyPu.strconv_toError_range laysTe fn s b z ev w hlim (k2 0 _ rfl) (.inr hev)).mono ?_
  rintro e w' ⟨N, rfl, hN, hh, hb⟩
  obtain ⟨G', hG, hGN, st'⟩ := St.promise st0 hb hN (Array.getElem?_eq_some_iff.1 hh).1
  refine ⟨_, .d (.iface 83 (.cptr (.agg [.str fn, .str s, Errs.r]))), [], μ, G', rfl, ⟨rfl, rfl⟩, st', va_d (err_cells (T := 93) (k1.mono hG ?_) hh hGN) rfl rfl⟩
  exact fun b o v hg h => by rw [← h]; exact (hb.cell (st0.gv b o hg))
end Go.Proofs.YtefcpmnhhmpmnaaDoor
