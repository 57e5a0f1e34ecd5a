/- What one statement needs of the texts, by slice.py. -/
import Derived.Test.YtboohfijacjhjaaDoorT1

/- The document's Same: lists of digests, signatures, updates, stops, letters, fields (printed by gen/cref.py). -/
set_option linter.unusedVariables false
namespace Go.Proofs.YtboohfijacjhjaaDoor
open Go.Ab Go.RowKit

theorem bytes_inj_D {a b : ByteArray} (h : D.bytes a = D.bytes b) : a = b := by
  apply ba_ext
  unfold D.bytes at h
  have q : ∀ {l m : List UInt8}, l.map (fun b => D.int .u8 b.toNat) = m.map (fun b => D.int .u8 b.toNat) → l = m := by
    intro l
    induction l with
    | nil => intro m h; cases m with | nil => rfl | cons _ _ => cases h
    | cons x l ih =>
      intro m h
      cases m with
      | nil => cases h
      | cons y m =>
        simp only [List.map_cons, List.cons.injEq, D.int.injEq, true_and, Int.ofNat_inj] at h
        rw [UInt8.toNat_inj.1 h.1, ih h.2]
  exact q h

theorem dgD_inj {a b : ByteArray} : dgD a = dgD b ↔ a = b := by
  constructor
  · intro h
    unfold dgD at h
    injection h with _ _ h
    exact bytes_inj_D h
  · rintro rfl; rfl

theorem sideD {a b : ByteArray} (ha : a.size = 32) (hb : b.size = 32) : ∃ T : Ty, T.fitE cx.tt 43 = true ∧ Nat.blt T.depth 9999 = true ∧ T.is (dgD a) ∧ T.is (dgD b) := by
  have q : ∀ {a : ByteArray}, a.size = 32 → (Ty.arr 32 1 (.int .u8)).is (dgD a) := fun {a} h =>
    ⟨_, rfl, by rw [bytes_length]; exact h, fun y hy => by unfold D.bytes at hy; obtain ⟨b, _, rfl⟩ := List.mem_map.1 hy; exact ⟨_, rfl⟩⟩
  exact ⟨.arr 32 1 (.int .u8), by kernel_rfl, by kernel_rfl, q ha, q hb⟩

theorem slist_c {a b : List ByteArray} (ha : dgF a) (hb : dgF b) : CallR cx 55 [.d (.sl 32 (dgs a)), .d (.sl 32 (dgs b))] [] fun r S => r = bo (decide (a = b)) ∧ S = [] := by
  have la : (dgs a).length = a.length := List.length_map _
  have lb : (dgs b).length = b.length := List.length_map _
  have h1 := ha.1
  refine callR_of (R := R1) cx_ok Tryd.func55 (by kernel_rfl) rfl ?_
  conv => whnf
  by_cases hl : a.length = b.length
  case neg =>
    have e : a ≠ b := fun z => hl (by rw [z])
    rw [decide_eq_false e]
    refine brT (bne_iff_ne.2 (by rw [la, lb]; omega)) ?_
    conv => whnf
    exact ⟨rfl, rfl⟩
  refine brF (bne_eq_false_iff_eq.2 (by rw [la, lb, hl])) ?_
  conv => whnf
  refine .inl ⟨fun m L S => ∃ j : Nat, j ≤ a.length ∧ a.take j = b.take j ∧ m = a.length - j ∧
      L = [(0, .d (.sl 32 (dgs a))), (1, .d (.sl 32 (dgs b))), (12, i64 (((dgs a).length : Nat) : Int)), (13, i64 (j : Int))] ∧ S = [],
    ⟨_, _, ⟨0, Nat.zero_le _, rfl, rfl, rfl, rfl⟩, ⟨rfl, rfl, rfl, rfl, trivial⟩⟩, ?_⟩
  rintro _ _ _ ⟨j, hj, ht, rfl, rfl, rfl⟩
  conv => whnf
  refine brec (fun h4 => ?_) (fun h4 => ?_)
  · have h4 := of_decide_eq_true h4
    rw [la] at h4
    have hlt : j < a.length := by omega
    have hlt2 : j < b.length := by omega
    conv => whnf
    refine ⟨by kernel_rfl, ?_⟩
    conv => whnf
    refine ⟨⟨by omega, by rw [la]; omega⟩, ?_⟩
    rw [dgs_getD hlt]
    conv => whnf
    refine ⟨⟨by omega, by rw [lb]; omega⟩, ?_⟩
    rw [dgs_getD hlt2]
    have sd := sideD (ha.2 _ (List.getElem_mem hlt)) (hb.2 _ (List.getElem_mem hlt2))
    have hq := deq_iff (dgD_inj (a := a[j]'hlt) (b := b[j]'hlt2))
    have e3 : IntKind.i64.wrap ((j : Int) + 1) = ((j + 1 : Nat) : Int) := by rw [w64 (by omega)]; omega
    have hta : a.take (j + 1) = a.take j ++ [a[j]'hlt] := by rw [List.take_add_one, List.getElem?_eq_getElem hlt]; rfl
    have htb : b.take (j + 1) = b.take j ++ [b[j]'hlt2] := by rw [List.take_add_one, List.getElem?_eq_getElem hlt2]; rfl
    have hne : a[j]'hlt ≠ b[j]'hlt2 → a ≠ b := fun h z => h (by subst z; rfl)
    generalize a[j]'hlt = x at *
    generalize b[j]'hlt2 = y at *
    unfold dgD at *
    conv => whnf
    refine ⟨sd, ?_⟩
    conv => whnf
    refine ⟨by kernel_rfl, ?_⟩
    conv => whnf
    by_cases hxy : x = y
    · rw [decide_eq_true hxy] at hq
      refine brF ?_ ?_
      · rw [hq]; rfl
      conv => whnf
      exact ⟨_, _, 0, (by omega : a.length - (j + 1) < a.length - j), ⟨j + 1, by omega, by rw [hta, htb, ht, hxy], rfl, rfl, rfl⟩,
        ⟨rfl, rfl, rfl, congrArg (fun z => some (i64 z)) e3, trivial⟩, rfl⟩
    · rw [decide_eq_false hxy] at hq
      refine brT ?_ ?_
      · rw [hq]; rfl
      conv => whnf
      rw [decide_eq_false (hne hxy)]
      exact ⟨rfl, rfl⟩
  · have h4 := of_decide_eq_false h4
    rw [la] at h4
    obtain rfl : j = a.length := by omega
    have e : a = b := by
      rw [List.take_length] at ht
      rw [ht, hl, List.take_length]
    rw [decide_eq_true e]
    conv => whnf
    exact ⟨rfl, rfl⟩

theorem dec_iff {P Q : Prop} [Decidable P] [Decidable Q] (h : P ↔ Q) : decide P = decide Q := decide_eq_decide.2 h
noncomputable instance decSg : DecidableEq Sg := fun a b => Classical.propDecidable _
noncomputable instance decUp : DecidableEq Up := fun a b => Classical.propDecidable _
noncomputable instance decSp : DecidableEq Sp := fun a b => Classical.propDecidable _
noncomputable instance decFd : DecidableEq Fd := fun a b => Classical.propDecidable _

theorem ssig_c {s t : Sg} (hs : s.fit) (ht : t.fit) : CallR cx 44 [.d s.d, .d t.d] [] fun r S => r = bo (decide (s = t)) ∧ S = [] := by
  obtain ⟨_, h1, h2, h3⟩ := hs
  obtain ⟨_, g1, g2, g3⟩ := ht
  obtain ⟨si, s1, s2, s3⟩ := s
  obtain ⟨ti, t1, t2, t3⟩ := t
  simp only at h1 h2 h3 g1 g2 g3
  have c1 := slist_c h1 g1
  have c2 := slist_c h2 g2
  have c3 := slist_c h3 g3
  have e : decide (Sg.mk si s1 s2 s3 = Sg.mk ti t1 t2 t3) = (decide (si = ti) && (decide (s1 = t1) && (decide (s2 = t2) && decide (s3 = t3)))) := by
    rw [dec_iff (Q := si = ti ∧ s1 = t1 ∧ s2 = t2 ∧ s3 = t3) (by rw [Sg.mk.injEq]), Bool.decide_and, Bool.decide_and, Bool.decide_and]
  rw [e]
  clear e
  unfold Sg.d
  simp only
  generalize decide (s1 = t1) = b1 at *
  generalize decide (s2 = t2) = b2 at *
  generalize decide (s3 = t3) = b3 at *
  generalize dgs s1 = x1 at *
  generalize dgs s2 = x2 at *
  generalize dgs s3 = x3 at *
  generalize dgs t1 = y1 at *
  generalize dgs t2 = y2 at *
  generalize dgs t3 = y3 at *
  refine callR_of (R := R1) cx_ok Tryd.func44 (by kernel_rfl) rfl ?_
  conv => whnf
  by_cases q0 : si = ti
  case neg =>
    rw [decide_eq_false q0]
    refine brF (beq_eq_false_iff_ne.2 q0) ?_
    conv => whnf
    exact ⟨rfl, rfl⟩
  rw [decide_eq_true q0]
  refine brT (beq_iff_eq.2 q0) ?_
  conv => whnf
  refine ⟨_, c1, ?_⟩
  rintro _ _ ⟨rfl, rfl⟩
  conv => whnf
  cases b1 with
  | false =>
    conv => whnf
    exact ⟨rfl, rfl⟩
  | true =>
  conv => whnf
  refine ⟨_, c2, ?_⟩
  rintro _ _ ⟨rfl, rfl⟩
  conv => whnf
  cases b2 with
  | false =>
    conv => whnf
    exact ⟨rfl, rfl⟩
  | true =>
  conv => whnf
  refine ⟨_, c3, ?_⟩
  rintro _ _ ⟨rfl, rfl⟩
  conv => whnf
  exact ⟨rfl, rfl⟩

theorem sup_c {u v : Up} (hu : u.fit) (hv : v.fit) : CallR cx 53 [.d u.d, .d v.d] [] fun r S => r = bo (decide (u = v)) ∧ S = [] := by
  obtain ⟨_, h1, h2, h3⟩ := hu
  obtain ⟨_, g1, g2, g3⟩ := hv
  obtain ⟨uh, uo, un, us⟩ := u
  obtain ⟨vh, vo, vn, vs⟩ := v
  simp only at h1 h2 h3 g1 g2 g3
  have c3 := ssig_c h3 g3
  have sd1 := sideD h1 g1
  have hq1 := deq_iff (dgD_inj (a := uo) (b := vo))
  have sd2 := sideD h2 g2
  have hq2 := deq_iff (dgD_inj (a := un) (b := vn))
  have e : decide (Up.mk uh uo un us = Up.mk vh vo vn vs) = (decide ((uh : Int) = (vh : Int)) && (decide (uo = vo) && (decide (un = vn) && decide (us = vs)))) := by
    rw [dec_iff (Q := (uh : Int) = (vh : Int) ∧ uo = vo ∧ un = vn ∧ us = vs) (by rw [Up.mk.injEq, Int.ofNat_inj]), Bool.decide_and, Bool.decide_and, Bool.decide_and]
  rw [e]
  clear e
  unfold Up.d
  simp only
  generalize (uh : Int) = U at *
  generalize (vh : Int) = V at *
  generalize decide (us = vs) = b3 at *
  obtain ⟨usi, us1, us2, us3⟩ := us
  obtain ⟨vsi, vs1, vs2, vs3⟩ := vs
  unfold Sg.d dgD at *
  simp only at *
  generalize dgs us1 = usx1 at *
  generalize dgs us2 = usx2 at *
  generalize dgs us3 = usx3 at *
  generalize dgs vs1 = vsx1 at *
  generalize dgs vs2 = vsx2 at *
  generalize dgs vs3 = vsx3 at *
  refine callR_of (R := R1) cx_ok Tryd.func53 (by kernel_rfl) rfl ?_
  conv => whnf
  by_cases q0 : U = V
  case neg =>
    rw [decide_eq_false q0]
    refine brF (beq_eq_false_iff_ne.2 q0) ?_
    conv => whnf
    exact ⟨rfl, rfl⟩
  rw [decide_eq_true q0]
  refine brT (beq_iff_eq.2 q0) ?_
  conv => whnf
  refine ⟨sd1, ?_⟩
  conv => whnf
  by_cases q1 : uo = vo
  case neg =>
    rw [decide_eq_false q1] at hq1 ⊢
    refine brF hq1 ?_
    conv => whnf
    exact ⟨rfl, rfl⟩
  rw [decide_eq_true q1] at hq1 ⊢
  refine brT hq1 ?_
  conv => whnf
  refine ⟨sd2, ?_⟩
  conv => whnf
  by_cases q2 : un = vn
  case neg =>
    rw [decide_eq_false q2] at hq2 ⊢
    refine brF hq2 ?_
    conv => whnf
    exact ⟨rfl, rfl⟩
  rw [decide_eq_true q2] at hq2 ⊢
  refine brT hq2 ?_
  conv => whnf
  refine ⟨_, c3, ?_⟩
  rintro _ _ ⟨rfl, rfl⟩
  conv => whnf
  exact ⟨rfl, rfl⟩

theorem ssp_c {u v : Sp} (hu : u.fit) (hv : v.fit) : CallR cx 54 [.d u.d, .d v.d] [] fun r S => r = bo (decide (u = v)) ∧ S = [] := by
  obtain ⟨_, h1, h2, h3⟩ := hu
  obtain ⟨_, g1, g2, g3⟩ := hv
  obtain ⟨uh, uo, un, us⟩ := u
  obtain ⟨vh, vo, vn, vs⟩ := v
  simp only at h1 h3 g1 g3
  have c3 := ssig_c h3 g3
  have sd1 := sideD h1 g1
  have hq1 := deq_iff (dgD_inj (a := uo) (b := vo))
  have e : decide (Sp.mk uh uo un us = Sp.mk vh vo vn vs) = (decide ((uh : Int) = (vh : Int)) && (decide (uo = vo) && (decide (un = vn) && decide (us = vs)))) := by
    rw [dec_iff (Q := (uh : Int) = (vh : Int) ∧ uo = vo ∧ un = vn ∧ us = vs) (by rw [Sp.mk.injEq, Int.ofNat_inj]), Bool.decide_and, Bool.decide_and, Bool.decide_and]
  rw [e]
  clear e
  unfold Sp.d
  simp only
  generalize (uh : Int) = U at *
  generalize (vh : Int) = V at *
  generalize decide (us = vs) = b3 at *
  obtain ⟨usi, us1, us2, us3⟩ := us
  obtain ⟨vsi, vs1, vs2, vs3⟩ := vs
  unfold Sg.d dgD at *
  simp only at *
  generalize dgs us1 = usx1 at *
  generalize dgs us2 = usx2 at *
  generalize dgs us3 = usx3 at *
  generalize dgs vs1 = vsx1 at *
  generalize dgs vs2 = vsx2 at *
  generalize dgs vs3 = vsx3 at *
  refine callR_of (R := R1) cx_ok Tryd.func54 (by kernel_rfl) rfl ?_
  conv => whnf
  by_cases q0 : U = V
  case neg =>
    rw [decide_eq_false q0]
    refine brF (beq_eq_false_iff_ne.2 q0) ?_
    conv => whnf
    exact ⟨rfl, rfl⟩
  rw [decide_eq_true q0]
  refine brT (beq_iff_eq.2 q0) ?_
  conv => whnf
  refine ⟨sd1, ?_⟩
  conv => whnf
  by_cases q1 : uo = vo
  case neg =>
    rw [decide_eq_false q1] at hq1 ⊢
    refine brF hq1 ?_
    conv => whnf
    exact ⟨rfl, rfl⟩
  rw [decide_eq_true q1] at hq1 ⊢
  refine brT hq1 ?_
  conv => whnf
  by_cases q2 : un = vn
  case neg =>
    rw [decide_eq_false q2]
    refine brF (beq_eq_false_iff_ne.2 q2) ?_
    conv => whnf
    exact ⟨rfl, rfl⟩
  rw [decide_eq_true q2]
  refine brT (beq_iff_eq.2 q2) ?_
  conv => whnf
  refine ⟨_, c3, ?_⟩
  rintro _ _ ⟨rfl, rfl⟩
  conv => whnf
  exact ⟨rfl, rfl⟩

theorem sle_c {l m : Le} : CallR cx 56 [.d l.d, .d m.d] [] fun r S => r = bo (decide (l = m)) ∧ S = [] := by
  obtain ⟨a, b, c, x, y, z⟩ := l
  obtain ⟨a', b', c', x', y', z'⟩ := m
  have e : decide (Le.mk a b c x y z = Le.mk a' b' c' x' y' z') = (decide ((a : Int) = (a' : Int)) && (decide ((b : Int) = (b' : Int)) && (decide ((c : Int) = (c' : Int)) && (decide (x = x') && (decide (y = y') && decide (z = z')))))) := by
    rw [dec_iff (Q := (a : Int) = (a' : Int) ∧ (b : Int) = (b' : Int) ∧ (c : Int) = (c' : Int) ∧ x = x' ∧ y = y' ∧ z = z') (by rw [Le.mk.injEq, Int.ofNat_inj, Int.ofNat_inj, Int.ofNat_inj]), Bool.decide_and, Bool.decide_and, Bool.decide_and, Bool.decide_and, Bool.decide_and]
  rw [e]
  clear e
  unfold Le.d
  simp only
  generalize (a : Int) = A at *
  generalize (a' : Int) = A' at *
  generalize (b : Int) = B at *
  generalize (b' : Int) = B' at *
  generalize (c : Int) = C at *
  generalize (c' : Int) = C' at *
  refine callR_of (R := R1) cx_ok Tryd.func56 (by kernel_rfl) rfl ?_
  conv => whnf
  by_cases q0 : A = A'
  case neg =>
    rw [decide_eq_false q0]
    refine brF (beq_eq_false_iff_ne.2 q0) ?_
    conv => whnf
    exact ⟨rfl, rfl⟩
  rw [decide_eq_true q0]
  refine brT (beq_iff_eq.2 q0) ?_
  conv => whnf
  by_cases q1 : B = B'
  case neg =>
    rw [decide_eq_false q1]
    refine brF (beq_eq_false_iff_ne.2 q1) ?_
    conv => whnf
    exact ⟨rfl, rfl⟩
  rw [decide_eq_true q1]
  refine brT (beq_iff_eq.2 q1) ?_
  conv => whnf
  by_cases q2 : C = C'
  case neg =>
    rw [decide_eq_false q2]
    refine brF (beq_eq_false_iff_ne.2 q2) ?_
    conv => whnf
    exact ⟨rfl, rfl⟩
  rw [decide_eq_true q2]
  refine brT (beq_iff_eq.2 q2) ?_
  conv => whnf
  by_cases q3 : x = x'
  case neg =>
    refine brF (decide_eq_false q3) ?_
    rw [decide_eq_false q3]
    conv => whnf
    exact ⟨rfl, rfl⟩
  refine brT (decide_eq_true q3) ?_
  rw [decide_eq_true q3]
  conv => whnf
  by_cases q4 : y = y'
  case neg =>
    refine brF (decide_eq_false q4) ?_
    rw [decide_eq_false q4]
    conv => whnf
    exact ⟨rfl, rfl⟩
  refine brT (decide_eq_true q4) ?_
  rw [decide_eq_true q4]
  conv => whnf
  exact ⟨rfl, rfl⟩

def Fd.fit (f : Fd) : Prop := f.sig.fit ∧ f.u.fit ∧ f.v.fit ∧ f.stop.fit ∧ f.leaf.size = 32 ∧ dgF f.br

set_option maxHeartbeats 8000000 in
theorem fsame_c {f g : Fd} (hf : f.fit) (hg : g.fit) : CallR cx 24 [.d f.d, .d g.d] [] fun r S => r = bo (decide (f = g)) ∧ S = [] := by
  obtain ⟨h1, h2, h3, h4, h5, h6⟩ := hf
  obtain ⟨g1, g2, g3, g4, g5, g6⟩ := hg
  obtain ⟨ftag, fA, fB, fC, forg, fn, fk, fsig, fu, fv, fstop, fleaf, fix, fbr, flt⟩ := f
  obtain ⟨gtag, gA, gB, gC, gorg, gn, gk, gsig, gu, gv, gstop, gleaf, gix, gbr, glt⟩ := g
  simp only at h1 h2 h3 h4 h5 h6 g1 g2 g3 g4 g5 g6
  have c1 := ssig_c h1 g1
  have c2 := sup_c h2 g2
  have c3 := sup_c h3 g3
  have c4 := ssp_c h4 g4
  have sd := sideD h5 g5
  have hq := deq_iff (dgD_inj (a := fleaf) (b := gleaf))
  have c6 := slist_c h6 g6
  have c7 := sle_c (l := flt) (m := glt)
  have e : decide (Fd.mk ftag fA fB fC forg fn fk fsig fu fv fstop fleaf fix fbr flt = Fd.mk gtag gA gB gC gorg gn gk gsig gu gv gstop gleaf gix gbr glt) = (decide ((ftag : Int) = (gtag : Int)) && (decide (fA = gA) && (decide (fB = gB) && (decide (fC = gC) && (decide ((forg : Int) = (gorg : Int)) && (decide ((fn : Int) = (gn : Int)) && (decide ((fk : Int) = (gk : Int)) && (decide (fsig = gsig) && (decide (fu = gu) && (decide (fv = gv) && (decide (fstop = gstop) && (decide (fleaf = gleaf) && (decide ((fix : Int) = (gix : Int)) && (decide (fbr = gbr) && (decide (flt = glt)))))))))))))))) := by
    rw [dec_iff (Q := (ftag : Int) = (gtag : Int) ∧ fA = gA ∧ fB = gB ∧ fC = gC ∧ (forg : Int) = (gorg : Int) ∧ (fn : Int) = (gn : Int) ∧ (fk : Int) = (gk : Int) ∧ fsig = gsig ∧ fu = gu ∧ fv = gv ∧ fstop = gstop ∧ fleaf = gleaf ∧ (fix : Int) = (gix : Int) ∧ fbr = gbr ∧ flt = glt) (by rw [Fd.mk.injEq, Int.ofNat_inj, Int.ofNat_inj, Int.ofNat_inj, Int.ofNat_inj, Int.ofNat_inj])]
    simp only [Bool.decide_and]
  rw [e]
  clear e h1 h2 h3 h4 h5 h6 g1 g2 g3 g4 g5 g6
  unfold Fd.d
  simp only
  generalize (ftag : Int) = Ftag at *
  generalize (gtag : Int) = Gtag at *
  generalize (forg : Int) = Forg at *
  generalize (gorg : Int) = Gorg at *
  generalize (fn : Int) = Fn at *
  generalize (gn : Int) = Gn at *
  generalize (fk : Int) = Fk at *
  generalize (gk : Int) = Gk at *
  generalize (fix : Int) = Fix at *
  generalize (gix : Int) = Gix at *
  generalize decide (fsig = gsig) = bsig at *
  generalize decide (fu = gu) = bu at *
  generalize decide (fv = gv) = bv at *
  generalize decide (fstop = gstop) = bstop at *
  generalize decide (fbr = gbr) = bbr at *
  generalize decide (flt = glt) = blt at *
  obtain ⟨fxsi, fxs1, fxs2, fxs3⟩ := fsig
  obtain ⟨fxuh, fxuo, fxun, ⟨fxui, fxu1, fxu2, fxu3⟩⟩ := fu
  obtain ⟨fxvh, fxvo, fxvn, ⟨fxvi, fxv1, fxv2, fxv3⟩⟩ := fv
  obtain ⟨fxph, fxpo, fxpw, ⟨fxpi, fxp1, fxp2, fxp3⟩⟩ := fstop
  obtain ⟨fxla, fxlb, fxlc, fxlx, fxly, fxlz⟩ := flt
  obtain ⟨gxsi, gxs1, gxs2, gxs3⟩ := gsig
  obtain ⟨gxuh, gxuo, gxun, ⟨gxui, gxu1, gxu2, gxu3⟩⟩ := gu
  obtain ⟨gxvh, gxvo, gxvn, ⟨gxvi, gxv1, gxv2, gxv3⟩⟩ := gv
  obtain ⟨gxph, gxpo, gxpw, ⟨gxpi, gxp1, gxp2, gxp3⟩⟩ := gstop
  obtain ⟨gxla, gxlb, gxlc, gxlx, gxly, gxlz⟩ := glt
  unfold Sp.d Up.d Sg.d Le.d dgD at *
  simp only at *
  generalize dgs fxs1 = xfxs1 at *
  generalize dgs fxs2 = xfxs2 at *
  generalize dgs fxs3 = xfxs3 at *
  generalize dgs fxu1 = xfxu1 at *
  generalize dgs fxu2 = xfxu2 at *
  generalize dgs fxu3 = xfxu3 at *
  generalize dgs fxv1 = xfxv1 at *
  generalize dgs fxv2 = xfxv2 at *
  generalize dgs fxv3 = xfxv3 at *
  generalize dgs fxp1 = xfxp1 at *
  generalize dgs fxp2 = xfxp2 at *
  generalize dgs fxp3 = xfxp3 at *
  generalize D.bytes fxuo = yfxuo at *
  generalize D.bytes fxun = yfxun at *
  generalize D.bytes fxvo = yfxvo at *
  generalize D.bytes fxvn = yfxvn at *
  generalize D.bytes fxpo = yfxpo at *
  generalize dgs fbr = xfxbr at *
  generalize dgs gxs1 = xgxs1 at *
  generalize dgs gxs2 = xgxs2 at *
  generalize dgs gxs3 = xgxs3 at *
  generalize dgs gxu1 = xgxu1 at *
  generalize dgs gxu2 = xgxu2 at *
  generalize dgs gxu3 = xgxu3 at *
  generalize dgs gxv1 = xgxv1 at *
  generalize dgs gxv2 = xgxv2 at *
  generalize dgs gxv3 = xgxv3 at *
  generalize dgs gxp1 = xgxp1 at *
  generalize dgs gxp2 = xgxp2 at *
  generalize dgs gxp3 = xgxp3 at *
  generalize D.bytes gxuo = ygxuo at *
  generalize D.bytes gxun = ygxun at *
  generalize D.bytes gxvo = ygxvo at *
  generalize D.bytes gxvn = ygxvn at *
  generalize D.bytes gxpo = ygxpo at *
  generalize dgs gbr = xgxbr at *
  refine callR_of (R := R1) cx_ok Tryd.func24 (by kernel_rfl) rfl ?_
  conv => whnf
  by_cases q0 : Ftag = Gtag
  case neg =>
    rw [decide_eq_false q0]
    refine brF (beq_eq_false_iff_ne.2 q0) ?_
    conv => whnf
    exact ⟨rfl, rfl⟩
  rw [decide_eq_true q0]
  refine brT (beq_iff_eq.2 q0) ?_
  conv => whnf
  by_cases q1 : fA = gA
  case neg =>
    refine brF (decide_eq_false q1) ?_
    rw [decide_eq_false q1]
    conv => whnf
    exact ⟨rfl, rfl⟩
  refine brT (decide_eq_true q1) ?_
  rw [decide_eq_true q1]
  conv => whnf
  by_cases q2 : fB = gB
  case neg =>
    refine brF (decide_eq_false q2) ?_
    rw [decide_eq_false q2]
    conv => whnf
    exact ⟨rfl, rfl⟩
  refine brT (decide_eq_true q2) ?_
  rw [decide_eq_true q2]
  conv => whnf
  by_cases q3 : fC = gC
  case neg =>
    refine brF (decide_eq_false q3) ?_
    rw [decide_eq_false q3]
    conv => whnf
    exact ⟨rfl, rfl⟩
  refine brT (decide_eq_true q3) ?_
  rw [decide_eq_true q3]
  conv => whnf
  by_cases q4 : Forg = Gorg
  case neg =>
    rw [decide_eq_false q4]
    refine brF (beq_eq_false_iff_ne.2 q4) ?_
    conv => whnf
    exact ⟨rfl, rfl⟩
  rw [decide_eq_true q4]
  refine brT (beq_iff_eq.2 q4) ?_
  conv => whnf
  by_cases q5 : Fn = Gn
  case neg =>
    rw [decide_eq_false q5]
    refine brF (beq_eq_false_iff_ne.2 q5) ?_
    conv => whnf
    exact ⟨rfl, rfl⟩
  rw [decide_eq_true q5]
  refine brT (beq_iff_eq.2 q5) ?_
  conv => whnf
  by_cases q6 : Fk = Gk
  case neg =>
    rw [decide_eq_false q6]
    refine brF (beq_eq_false_iff_ne.2 q6) ?_
    conv => whnf
    exact ⟨rfl, rfl⟩
  rw [decide_eq_true q6]
  refine brT (beq_iff_eq.2 q6) ?_
  conv => whnf
  refine ⟨_, c1, ?_⟩
  rintro _ _ ⟨rfl, rfl⟩
  conv => whnf
  cases bsig with
  | false =>
    conv => whnf
    exact ⟨rfl, rfl⟩
  | true =>
  conv => whnf
  refine ⟨_, c2, ?_⟩
  rintro _ _ ⟨rfl, rfl⟩
  conv => whnf
  cases bu with
  | false =>
    conv => whnf
    exact ⟨rfl, rfl⟩
  | true =>
  conv => whnf
  refine ⟨_, c3, ?_⟩
  rintro _ _ ⟨rfl, rfl⟩
  conv => whnf
  cases bv with
  | false =>
    conv => whnf
    exact ⟨rfl, rfl⟩
  | true =>
  conv => whnf
  refine ⟨_, c4, ?_⟩
  rintro _ _ ⟨rfl, rfl⟩
  conv => whnf
  cases bstop with
  | false =>
    conv => whnf
    exact ⟨rfl, rfl⟩
  | true =>
  conv => whnf
  refine ⟨sd, ?_⟩
  conv => whnf
  by_cases q11 : fleaf = gleaf
  case neg =>
    rw [decide_eq_false q11] at hq ⊢
    refine brF hq ?_
    conv => whnf
    exact ⟨rfl, rfl⟩
  rw [decide_eq_true q11] at hq ⊢
  refine brT hq ?_
  conv => whnf
  by_cases q12 : Fix = Gix
  case neg =>
    rw [decide_eq_false q12]
    refine brF (beq_eq_false_iff_ne.2 q12) ?_
    conv => whnf
    exact ⟨rfl, rfl⟩
  rw [decide_eq_true q12]
  refine brT (beq_iff_eq.2 q12) ?_
  conv => whnf
  refine ⟨_, c6, ?_⟩
  rintro _ _ ⟨rfl, rfl⟩
  conv => whnf
  cases bbr with
  | false =>
    conv => whnf
    exact ⟨rfl, rfl⟩
  | true =>
  conv => whnf
  refine ⟨_, c7, ?_⟩
  rintro _ _ ⟨rfl, rfl⟩
  conv => whnf
  exact ⟨rfl, rfl⟩

theorem z32_size : z32.size = 32 := by decide
theorem sg0_fit : sg0.fit := ⟨by decide, ⟨by decide, by simp [sg0]⟩, ⟨by decide, by simp [sg0]⟩, ⟨by decide, by simp [sg0]⟩⟩
theorem up0_fit : up0.fit := ⟨by decide, z32_size, z32_size, sg0_fit⟩
theorem sp0_fit : sp0.fit := ⟨by decide, z32_size, by decide, sg0_fit⟩

theorem fd_fit {c : Cl} (h : c.fit) : c.fd.fit := by
  have hb : dgF ([] : List ByteArray) := ⟨by decide, by simp⟩
  cases c with
  | pay a b n k g => exact ⟨h.2.2.2.2, up0_fit, up0_fit, sp0_fit, z32_size, hb⟩
  | send a o t b n k g => exact ⟨h.2.2.2.2.2.2, up0_fit, up0_fit, sp0_fit, z32_size, hb⟩
  | say a b k g => exact ⟨h.2.2.2, up0_fit, up0_fit, sp0_fit, z32_size, hb⟩
  | tell a b k g => exact ⟨h.2.2.2, up0_fit, up0_fit, sp0_fit, z32_size, hb⟩
  | submit u => exact ⟨sg0_fit, h, up0_fit, sp0_fit, z32_size, hb⟩
  | improp u c => exact ⟨sg0_fit, h.1, up0_fit, sp0_fit, z32_size, hb⟩
  | double u v c => exact ⟨sg0_fit, h.1, h.2.1, sp0_fit, z32_size, hb⟩
  | accept u => exact ⟨sg0_fit, h, up0_fit, sp0_fit, z32_size, hb⟩
  | doubled u v => exact ⟨sg0_fit, h.1, h.2, sp0_fit, z32_size, hb⟩
  | halt s => exact ⟨sg0_fit, up0_fit, up0_fit, h, z32_size, hb⟩
  | prove l i br => exact ⟨sg0_fit, up0_fit, up0_fit, sp0_fit, h.1, h.2.2⟩
  | process l => exact ⟨sg0_fit, up0_fit, up0_fit, sp0_fit, z32_size, hb⟩
  | no => exact ⟨sg0_fit, up0_fit, up0_fit, sp0_fit, z32_size, hb⟩
  | word => exact ⟨sg0_fit, up0_fit, up0_fit, sp0_fit, z32_size, hb⟩

end Go.Proofs.YtboohfijacjhjaaDoor
