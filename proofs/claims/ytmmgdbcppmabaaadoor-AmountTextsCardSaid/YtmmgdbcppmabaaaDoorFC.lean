/- amount.Read: the number that a text is. -/
import Derived.Test.YtmmgdbcppmabaaaDoorFB
import Derived.Shelf.Pu.ParseUintPublic10
set_option linter.unusedVariables false
namespace Go.Proofs.YtmmgdbcppmabaaaDoor
open Go.Shelf Go.RowKit Go.Sort Go.Lib

def renlaysPu : Go.Shelf.Ren := ⟨fun | 14 => 11 | 16 => 16 | 17 => 17 | 19 => 20 | 20 => 21 | 21 => 22 | 22 => 23 | 23 => 24 | 24 => 25 | 25 => 31 | 26 => 32 | 27 => 33 | 28 => 38 | 29 => 41 | 30 => 26 | 31 => 27 | 32 => 28 | 33 => 29 | 34 => 34 | 35 => 30 | 36 => 35 | 37 => 36 | 38 => 37 | 39 => 39 | 40 => 40 | n => n, fun | 0 => 0 | 2 => 2 | 3 => 3 | 4 => 4 | 5 => 5 | 9 => 9 | 20 => 20 | 21 => 21 | 22 => 22 | 24 => 34 | 25 => 35 | 34 => 43 | 36 => 41 | 37 => 38 | 39 => 46 | 44 => 56 | 47 => 65 | 48 => 66 | 50 => 68 | 52 => 50 | 55 => 52 | 59 => 60 | 60 => 61 | 61 => 62 | 65 => 71 | 66 => 72 | 67 => 73 | n => n, fun | 0 => 2 | 1 => 3 | 2 => 4 | 3 => 5 | 4 => 6 | n => n⟩
theorem laysPu : LaysPu.n14 Tryd.prog renlaysPu := {
  mixed := by kernel_rfl
  f14 := Tryd.func11.trans (congrArg some (by kernel_rfl))
  f16 := Tryd.func16.trans (congrArg some (by kernel_rfl))
  f17 := Tryd.func17.trans (congrArg some (by kernel_rfl))
  f19 := Tryd.func20.trans (congrArg some (by kernel_rfl))
  f20 := Tryd.func21.trans (congrArg some (by kernel_rfl))
  f21 := Tryd.func22.trans (congrArg some (by kernel_rfl))
  f22 := Tryd.func23.trans (congrArg some (by kernel_rfl))
  f23 := Tryd.func24.trans (congrArg some (by kernel_rfl))
  f24 := Tryd.func25.trans (congrArg some (by kernel_rfl))
  f25 := Tryd.func31.trans (congrArg some (by kernel_rfl))
  f26 := Tryd.func32.trans (congrArg some (by kernel_rfl))
  f27 := Tryd.func33.trans (congrArg some (by kernel_rfl))
  f28 := Tryd.func38.trans (congrArg some (by kernel_rfl))
  f29 := Tryd.func41.trans (congrArg some (by kernel_rfl))
  f30 := Tryd.func26.trans (congrArg some (by kernel_rfl))
  f31 := Tryd.func27.trans (congrArg some (by kernel_rfl))
  f32 := Tryd.func28.trans (congrArg some (by kernel_rfl))
  f33 := Tryd.func29.trans (congrArg some (by kernel_rfl))
  f34 := Tryd.func34.trans (congrArg some (by kernel_rfl))
  f35 := Tryd.func30.trans (congrArg some (by kernel_rfl))
  f36 := Tryd.func35.trans (congrArg some (by kernel_rfl))
  f37 := Tryd.func36.trans (congrArg some (by kernel_rfl))
  f38 := Tryd.func37.trans (congrArg some (by kernel_rfl))
  f39 := Tryd.func39.trans (congrArg some (by kernel_rfl))
  f40 := Tryd.func40.trans (congrArg some (by kernel_rfl))
  t0 := Tryd.underlying0
  a0 := Tryd.isAgg0
  z0 := Tryd.sizeOf0
  v0 := Tryd.zeroValue0
  i0 := by kernel_rfl
  t2 := Tryd.underlying2
  a2 := Tryd.isAgg2
  z2 := Tryd.sizeOf2
  v2 := Tryd.zeroValue2
  i2 := by kernel_rfl
  t3 := Tryd.underlying3
  a3 := Tryd.isAgg3
  z3 := Tryd.sizeOf3
  v3 := Tryd.zeroValue3
  i3 := by kernel_rfl
  t4 := Tryd.underlying4
  a4 := Tryd.isAgg4
  z4 := Tryd.sizeOf4
  v4 := Tryd.zeroValue4
  i4 := by kernel_rfl
  t5 := Tryd.underlying5
  a5 := Tryd.isAgg5
  z5 := Tryd.sizeOf5
  v5 := Tryd.zeroValue5
  i5 := by kernel_rfl
  t9 := Tryd.underlying9
  a9 := Tryd.isAgg9
  z9 := Tryd.sizeOf9
  v9 := Tryd.zeroValue9
  i9 := by kernel_rfl
  t20 := Tryd.underlying20
  a20 := Tryd.isAgg20
  z20 := Tryd.sizeOf20
  v20 := Tryd.zeroValue20
  i20 := by kernel_rfl
  t21 := Tryd.underlying21
  a21 := Tryd.isAgg21
  z21 := Tryd.sizeOf21
  v21 := Tryd.zeroValue21
  i21 := by kernel_rfl
  t22 := Tryd.underlying22
  a22 := Tryd.isAgg22
  z22 := Tryd.sizeOf22
  v22 := Tryd.zeroValue22
  i22 := by kernel_rfl
  t24 := Tryd.underlying34
  a24 := Tryd.isAgg34
  z24 := Tryd.sizeOf34
  v24 := Tryd.zeroValue34
  i24 := by kernel_rfl
  t25 := Tryd.underlying35
  a25 := Tryd.isAgg35
  z25 := Tryd.sizeOf35
  v25 := Tryd.zeroValue35
  i25 := by kernel_rfl
  t34 := Tryd.underlying43
  a34 := Tryd.isAgg43
  z34 := Tryd.sizeOf43
  v34 := Tryd.zeroValue43
  i34 := by kernel_rfl
  c34 := by kernel_rfl
  t36 := Tryd.underlying41
  a36 := Tryd.isAgg41
  z36 := Tryd.sizeOf41
  v36 := Tryd.zeroValue41
  i36 := by kernel_rfl
  t37 := Tryd.underlying38
  a37 := Tryd.isAgg38
  z37 := Tryd.sizeOf38
  v37 := Tryd.zeroValue38
  i37 := by kernel_rfl
  t39 := Tryd.underlying46
  a39 := Tryd.isAgg46
  z39 := Tryd.sizeOf46
  v39 := Tryd.zeroValue46
  i39 := by kernel_rfl
  t44 := Tryd.underlying56
  a44 := Tryd.isAgg56
  z44 := Tryd.sizeOf56
  v44 := Tryd.zeroValue56
  i44 := by kernel_rfl
  t47 := Tryd.underlying65
  a47 := Tryd.isAgg65
  z47 := Tryd.sizeOf65
  v47 := Tryd.zeroValue65
  i47 := by kernel_rfl
  t48 := Tryd.underlying66
  a48 := Tryd.isAgg66
  z48 := Tryd.sizeOf66
  v48 := Tryd.zeroValue66
  i48 := by kernel_rfl
  t50 := Tryd.underlying68
  a50 := Tryd.isAgg68
  z50 := Tryd.sizeOf68
  v50 := Tryd.zeroValue68
  i50 := by kernel_rfl
  t52 := Tryd.underlying50
  a52 := Tryd.isAgg50
  z52 := Tryd.sizeOf50
  v52 := Tryd.zeroValue50
  i52 := by kernel_rfl
  t55 := Tryd.underlying52
  a55 := Tryd.isAgg52
  z55 := Tryd.sizeOf52
  v55 := Tryd.zeroValue52
  i55 := by kernel_rfl
  t59 := Tryd.underlying60
  a59 := Tryd.isAgg60
  z59 := Tryd.sizeOf60
  v59 := Tryd.zeroValue60
  i59 := by kernel_rfl
  t60 := Tryd.underlying61
  a60 := Tryd.isAgg61
  z60 := Tryd.sizeOf61
  v60 := Tryd.zeroValue61
  i60 := by kernel_rfl
  t61 := Tryd.underlying62
  a61 := Tryd.isAgg62
  z61 := Tryd.sizeOf62
  t65 := Tryd.underlying71
  a65 := Tryd.isAgg71
  z65 := Tryd.sizeOf71
  v65 := Tryd.zeroValue71
  i65 := by kernel_rfl
  t66 := Tryd.underlying72
  a66 := Tryd.isAgg72
  z66 := Tryd.sizeOf72
  v66 := Tryd.zeroValue72
  i66 := by kernel_rfl
  t67 := Tryd.underlying73
  a67 := Tryd.isAgg73
  z67 := Tryd.sizeOf73
  v67 := Tryd.zeroValue73
  i67 := by kernel_rfl
  g0 := by kernel_rfl
  m0 := by kernel_rfl
  g1 := by kernel_rfl
  m1 := by kernel_rfl
  g2 := by kernel_rfl
  m2 := by kernel_rfl
  g3 := by kernel_rfl
  m3 := by kernel_rfl
  g4 := by kernel_rfl
  m4 := by kernel_rfl }

theorem loop_eq (s : ByteArray) (i : Nat) (r : List UInt8) : ByteArray.toList.loop s i r = r.reverse ++ s.data.toList.drop i := by
  fun_induction ByteArray.toList.loop s i r with
  | case1 i r h ih =>
    rw [ih, List.reverse_cons, List.append_assoc]
    have hi : i < s.data.size := h
    have hi' : i < s.data.toList.length := by simpa using h
    rw [List.drop_eq_getElem_cons hi']
    congr 2
    show s.data[i]! :: _ = _
    rw [getElem!_pos s.data i hi]
    simp
  | case2 i r h =>
    have hi : ¬ i < s.data.toList.length := by simpa using h
    rw [List.drop_eq_nil_of_le (by omega), List.append_nil]
theorem toList_eq (s : ByteArray) : s.toList = s.data.toList := by
  unfold ByteArray.toList
  rw [loop_eq]; rfl

/-- The number that a text is, and whether it is one. -/
def readP (s : ByteArray) : Nat × Bool := match Lib.parseUintB 64 s.data.toList with
  | .ok u => if (⟨(Lib.decDigits u).toArray⟩ : ByteArray) = s then (u, true) else (0, false)
  | _ => (0, false)

set_option maxHeartbeats 4000000 in
set_option maxRecDepth 100000 in
theorem read_ok (s : ByteArray) (hs : s.size ≤ 200) (u : Nat) (h : Lib.parseUintB 64 s.data.toList = .ok u) (hu : u < 18446744073709551616) (w : World)
    (htab : ∀ q, q < 20 → w.cell? ⟨4, q, none⟩ = some (.int .u64 ((10 ^ q : Nat) : Int))) :
    Calls Tryd.prog 5 #[.string s] w fun e w' => e = .returned (.tuple #[.int .u64 ((readP s).1 : Int), .bool (readP s).2]) ∧ Below w.heap.size w w' := by
  have mixed : Tryd.prog.follows .mixedOrders = true := by kernel_rfl
  have t_int := Tryd.underlying3; have a_int := Tryd.isAgg3; have z_int := Tryd.sizeOf3; have v_int := Tryd.zeroValue3
  have t_u64 := Tryd.underlying22; have a_u64 := Tryd.isAgg22; have z_u64 := Tryd.sizeOf22; have v_u64 := Tryd.zeroValue22
  have t_str := Tryd.underlying9; have a_str := Tryd.isAgg9; have z_str := Tryd.sizeOf9; have v_str := Tryd.zeroValue9
  have t_bool := Tryd.underlying4; have a_bool := Tryd.isAgg4; have z_bool := Tryd.sizeOf4; have v_bool := Tryd.zeroValue4
  have t_err := Tryd.underlying34; have a_err := Tryd.isAgg34; have z_err := Tryd.sizeOf34; have v_err := Tryd.zeroValue34
  have t_tup := Tryd.underlying35; have a_tup := Tryd.isAgg35; have z_tup := Tryd.sizeOf35; have v_tup := Tryd.zeroValue35
  have t_ptr := Tryd.underlying46; have a_ptr := Tryd.isAgg46; have z_ptr := Tryd.sizeOf46; have v_ptr := Tryd.zeroValue46
  have e11 : ∀ args w, (callFunc 11 args).run Tryd.prog w = .ok (.enter 11 args) w := enters_of laysPu.f14 (by kernel_rfl) rfl
  have e7 : ∀ args w, (callFunc 7 args).run Tryd.prog w = .ok (.enter 7 args) w := enters_of Tryd.func7 (by kernel_rfl) rfl
  have hp : Calls Tryd.prog 11 #[.string s, .int .i64 10, .int .i64 64] w fun e w' => e = .returned (.tuple #[.int .u64 u, .nilIface]) ∧ Below w.heap.size w w' :=
    (Any.strconv_ParseUint_10_at64_ok laysPu s (by omega) u h w).mono fun e w' ⟨h1, h2⟩ => ⟨h1, by
      rcases h2 with rfl | rfl
      · exact Below.refl _ _
      · exact Lib.bytesWorld_below _ _ _⟩
  have tab : ∀ w1, Below w.heap.size w w1 → ∀ q, q < 20 → w1.cell? ⟨4, q, none⟩ = some (.int .u64 ((10 ^ q : Nat) : Int)) := fun w1 hb q hq =>
    (hb.cell (show (⟨4, q, none⟩ : Addr).block < w.heap.size from World.block_lt_of_cell? w _ (htab q hq))).trans (htab q hq)
  unfold readP
  rw [h]
  simp only
  by_cases e : (⟨(Lib.decDigits u).toArray⟩ : ByteArray) = s
  · rw [if_pos e]
    clear h
    go_enter Tryd.func5, Tryd.ntmps5
    go_wp2_with (first
      | (go_at_fn 11; refine hp.mono ?_; rintro e w1 ⟨rfl, hb⟩)
      | (go_at_fn 7; refine (text_raw u hu _ (tab _ hb)).mono ?_; rintro e w2 ⟨rfl, hb2⟩))
    go_wp2
    go_ret2
    exact ⟨rfl, hb.trans (hb2.mono hb.size)⟩
  · rw [if_neg e]
    have hne : (Lib.decDigits u == s.toList) = false := beq_eq_false_iff_ne.2 fun h => e (by rw [h, toList_eq])
    clear h
    go_enter Tryd.func5, Tryd.ntmps5
    go_wp2_with (first
      | (go_at_fn 11; refine hp.mono ?_; rintro e w1 ⟨rfl, hb⟩)
      | (go_at_fn 7; refine (text_raw u hu _ (tab _ hb)).mono ?_; rintro e w2 ⟨rfl, hb2⟩))
    go_wp2
    go_ret2
    exact ⟨rfl, hb.trans (hb2.mono hb.size)⟩

set_option maxHeartbeats 4000000 in
set_option maxRecDepth 100000 in
theorem read_no (s : ByteArray) (v : Int) (w : World)
    (hp : Calls Tryd.prog 11 #[.string s, .int .i64 10, .int .i64 64] w fun e w' => ∃ N, e = .returned (.tuple #[.int .u64 v, .iface 46 (.pointer (some ⟨N, 0, none⟩))]) ∧ Below w.heap.size w w') :
    Calls Tryd.prog 5 #[.string s] w fun e w' => e = .returned (.tuple #[.int .u64 0, .bool false]) ∧ Below w.heap.size w w' := by
  have mixed : Tryd.prog.follows .mixedOrders = true := by kernel_rfl
  have t_int := Tryd.underlying3; have a_int := Tryd.isAgg3; have z_int := Tryd.sizeOf3; have v_int := Tryd.zeroValue3
  have t_u64 := Tryd.underlying22; have a_u64 := Tryd.isAgg22; have z_u64 := Tryd.sizeOf22; have v_u64 := Tryd.zeroValue22
  have t_str := Tryd.underlying9; have a_str := Tryd.isAgg9; have z_str := Tryd.sizeOf9; have v_str := Tryd.zeroValue9
  have t_bool := Tryd.underlying4; have a_bool := Tryd.isAgg4; have z_bool := Tryd.sizeOf4; have v_bool := Tryd.zeroValue4
  have t_err := Tryd.underlying34; have a_err := Tryd.isAgg34; have z_err := Tryd.sizeOf34; have v_err := Tryd.zeroValue34
  have t_tup := Tryd.underlying35; have a_tup := Tryd.isAgg35; have z_tup := Tryd.sizeOf35; have v_tup := Tryd.zeroValue35
  have t_ptr := Tryd.underlying46; have a_ptr := Tryd.isAgg46; have z_ptr := Tryd.sizeOf46; have v_ptr := Tryd.zeroValue46
  have e11 : ∀ args w, (callFunc 11 args).run Tryd.prog w = .ok (.enter 11 args) w := enters_of laysPu.f14 (by kernel_rfl) rfl
  have e7 : ∀ args w, (callFunc 7 args).run Tryd.prog w = .ok (.enter 7 args) w := enters_of Tryd.func7 (by kernel_rfl) rfl
  go_enter Tryd.func5, Tryd.ntmps5
  go_wp2_with (go_at_fn 11; refine hp.mono ?_; rintro e w1 ⟨N, rfl, hb⟩)
  go_wp2
  go_ret2
  exact ⟨rfl, hb⟩

theorem read_raw (s : ByteArray) (hs : s.size ≤ 200) (w : World)
    (htab : ∀ q, q < 20 → w.cell? ⟨4, q, none⟩ = some (.int .u64 ((10 ^ q : Nat) : Int)))
    (hsyn : ∃ te pe, w.cell? ⟨2, 0, none⟩ = some (.iface te pe)) (hran : ∃ te pe, w.cell? ⟨3, 0, none⟩ = some (.iface te pe)) :
    Calls Tryd.prog 5 #[.string s] w fun e w' => e = .returned (.tuple #[.int .u64 ((readP s).1 : Int), .bool (readP s).2]) ∧ Below w.heap.size w w' := by
  rcases h : Lib.parseUintB 64 s.data.toList with u | _ | _
  · exact read_ok s hs u h (by have := Lib.parseUintB_le h; omega) w htab
  · have e : readP s = (0, false) := by unfold readP; rw [h]
    rw [e]
    obtain ⟨te, pe, hc⟩ := hsyn
    exact read_no s 0 w ((Any.strconv_ParseUint_10_at64_syntax laysPu s (by omega) h _ w hc (.inr ⟨_, _, rfl⟩)).mono fun e w' ⟨N, h1, _, _, h2⟩ => ⟨N, h1, h2⟩)
  · have e : readP s = (0, false) := by unfold readP; rw [h]
    rw [e]
    obtain ⟨te, pe, hc⟩ := hran
    exact read_no s 18446744073709551615 w ((Any.strconv_ParseUint_10_at64_range laysPu s (by omega) h _ w hc (.inr ⟨_, _, rfl⟩)).mono fun e w' ⟨N, h1, _, _, h2⟩ => ⟨N, h1, h2⟩)
end Go.Proofs.YtmmgdbcppmabaaaDoor
