/-
  An own logic over the kit's 'Calls' (AbB): memory's steps, comparisons, operations, calls.
-/
import Derived.Test.YtboohfijacjhjaaDoorAbA
import Derived.Laws.Strings
import Derived.ChangeKeysEq
namespace Go.Ab
open Go.RowKit

noncomputable def D.getS : D → Step → Option D
  | .agg l, .fld k o => match beqR (D.sizesR (l.take k)) o with | true => l[k]? | false => none
  | .arr n sz xs, .ix i sz' cnt => match Nat.beq n cnt && Nat.beq sz sz' with | true => some (xs.getD i .nilP) | false => none
  | _, _ => none

noncomputable def AV.getS : AV → Step → Option AV
  | .d x, s => match x.getS s with | some y => some (.d y) | none => none
  | .agg l, .fld k o => match beqR (AV.sizesR (l.take k)) o with | true => l[k]? | false => none
  | .agg l, .ix i sz cnt => match Nat.beq l.length cnt && beqR (AV.sizesR (l.take i)) (i * sz) with | true => l[i]? | false => none
  | _, _ => none

def AV.setS : AV → Step → AV → Option AV
  | .d (.agg l), .fld k _, .d z => some (.d (.agg (l.set k z)))
  | .d (.agg l), .fld k _, z => some (.agg ((l.map .d).set k z))
  | .d (.arr n sz xs), .ix i _ _, .d z => some (.d (.arr n sz (xs.set i z)))
  | .d (.arr _ _ xs), .ix i _ _, z => some (.agg ((xs.map .d).set i z))
  | .agg l, .fld k _, z => some (.agg (l.set k z))
  | .agg l, .ix i _ _, z => some (.agg (l.set i z))
  | _, _, _ => none

noncomputable def AV.getP : AV → List Step → Option AV
  | x, [] => some x
  | x, s :: p => match x.getS s with | some y => y.getP p | none => none

noncomputable def AV.setP : AV → List Step → AV → Option AV
  | x, [], y => match beqR y.sizeR x.sizeR && (y.isAgg == x.isAgg) with | true => some y | false => none
  | x, s :: p, y => match x.getS s with
    | some z => match z.setP p y with
      | some z' => x.setS s z'
      | none => none
    | none => none

theorem CL.get2 {w G l cs} (h : CL w G l cs) {i : Nat} {x : D} (hi : l[i]? = some x) :
    ∃ a c d, cs = a ++ (c ++ d) ∧ a.length = D.sizes (l.take i) ∧ CL w G [x] c ∧
      ∀ y c', CL w G [y] c' → CL w G (l.set i y) (a ++ (c' ++ d)) := by
  have hlt : i < l.length := (List.getElem?_eq_some_iff.1 hi).1
  have e : l = l.take i ++ (x :: l.drop (i + 1)) := by
    rw [List.getElem?_eq_getElem hlt] at hi
    simp only [Option.some.injEq] at hi
    rw [← hi, ← List.drop_eq_getElem_cons hlt, List.take_append_drop]
  have h' := h
  rw [e] at h'
  obtain ⟨a, d, rfl, h1, h2⟩ := CL.append_inv h'
  obtain ⟨c, d2, rfl, h3, h4⟩ := CL.cons_inv h2
  refine ⟨a, c, d2, rfl, h1.length, h3, fun y c' hy => ?_⟩
  rw [List.set_eq_take_append_cons_drop, if_pos hlt]
  exact CL.append h1 (by simpa using CL.append hy h4)

theorem D.sizes_set {l : List D} {k : Nat} {y z : D} (h : l[k]? = some y) (hz : z.size = y.size) : D.sizes (l.set k z) = D.sizes l := by
  induction l generalizing k with
  | nil => simp at h
  | cons x l ih =>
    cases k with
    | zero => simp at h; subst h; simp [D.sizes, hz]
    | succ k => simp at h; simp [D.sizes, ih h]

theorem AV.sizes_set {l : List AV} {k : Nat} {y z : AV} (h : l[k]? = some y) (hz : z.size = y.size) : AV.sizes (l.set k z) = AV.sizes l := by
  induction l generalizing k with
  | nil => simp at h
  | cons x l ih =>
    cases k with
    | zero => simp at h; subst h; simp [AV.sizes, hz]
    | succ k => simp at h; simp [AV.sizes, ih h]

theorem AV.sizes_map_d (l : List D) : AV.sizes (l.map .d) = D.sizes l := by
  induction l with
  | nil => rfl
  | cons x l ih => simp [AV.sizes, D.sizes, AV.size, ih]

def offs : Step → Nat
  | .fld _ o => o
  | .ix i sz _ => i * sz

theorem offp_cons (s : Step) (p : List Step) : offp (s :: p) = offs s + offp p := by cases s <;> rfl

theorem beq_true {a b : Nat} (h : Nat.beq a b = true) : a = b := Nat.eq_of_beq_eq_true h

theorem CA.mapd_set {μ k w G} {l : List D} {i : Nat} {z : D} {cs} (h : CA μ k w G ((l.map AV.d).set i (.d z)) cs) : CL w G (l.set i z) cs := by
  have e : (l.map AV.d).set i (.d z) = (l.set i z).map AV.d := by rw [List.map_set]
  rw [e] at h
  exact CL.of_map_d h

theorem CA.getS {μ k w G x cs s y} (h : CA μ k w G [x] cs) (hg : AV.getS x s = some y) (hs : s.ok) :
    ∃ a c d, cs = a ++ (c ++ d) ∧ a.length = offs s ∧ CA μ k w G [y] c ∧
      ∀ y' c' x', y'.size = y.size → CA μ k w G [y'] c' → AV.setS x s y' = some x' → CA μ k w G [x'] (a ++ (c' ++ d)) ∧ x'.size = x.size ∧ x'.isAgg = x.isAgg := by
  cases x with
  | d x =>
    simp only [AV.getS] at hg
    split at hg
    case h_2 => cases hg
    rename_i z hz
    cases hg
    have h' := CA.d_iff.1 h
    cases x with
    | agg l =>
      cases s with
      | ix => cases hz
      | fld f o =>
      simp only [D.getS, D.sizesR_eq, beqR_eq] at hz
      split at hz
      case h_2 => cases hz
      rename_i hb
      cases h' with
      | agg h1 h2 =>
      cases h2
      have h1' := (CA.agg_d (μ := μ) (k := k) h1)
      have hz' : (l.map AV.d)[f]? = some (.d z) := by simp [hz]
      obtain ⟨a, c, d, rfl, h3, h4, h5⟩ := h1'.get hz'
      refine ⟨a, c, d, by simp, by rw [h3, ← List.map_take, AV.sizes_map_d, beq_true hb]; rfl, h4, fun y' c' x' hsz hy hset => ?_⟩
      cases y' with
      | d z' =>
        simp only [AV.setS] at hset
        cases hset
        exact ⟨CA.d_iff.2 (by simpa using CL.agg (CA.mapd_set (h5 (.d z') c' hy)) .nil), by simp [AV.size, D.size, D.sizes_set hz hsz], rfl⟩
      | tup _ => cases hy
      | _ =>
        simp only [AV.setS] at hset
        cases hset
        exact ⟨by simpa using CA.agg (h5 _ c' hy) .nil, by simp only [AV.size]; rw [AV.sizes_set hz' hsz, AV.sizes_map_d]; rfl, rfl⟩
    | arr n sz xs =>
      cases s with
      | fld => cases hz
      | ix i sz' cnt =>
      simp only [D.getS] at hz
      split at hz
      case h_2 => cases hz
      rename_i hb
      simp only [Bool.and_eq_true] at hb
      obtain ⟨hb1, hb2⟩ := hb
      have hb1 := beq_true hb1
      have hb2 := beq_true hb2
      subst hb1; subst hb2
      cases hz
      cases h' with
      | arr h1 hlen hsz0 h2 =>
      cases h2
      have hi : i < xs.length := by rw [hlen]; exact hs
      have hz : xs[i]? = some (xs.getD i .nilP) := by simp [List.getD_eq_getElem?_getD, hi]
      have h1' := (CA.agg_d (μ := μ) (k := k) h1)
      have hz' : (xs.map AV.d)[i]? = some (.d (xs.getD i .nilP)) := by rw [List.getElem?_map, hz]; rfl
      obtain ⟨a, c, d, rfl, h3, h4, h5⟩ := h1'.get hz'
      have hsi : (xs.getD i .nilP).size = sz := hsz0 _ (List.mem_of_getElem? hz)
      have hoff : D.sizes (xs.take i) = i * sz := by
        rw [D.sizes_uniform (sz := sz) fun x hx => hsz0 x (List.mem_of_mem_take hx)]
        simp [Nat.min_eq_left (Nat.le_of_lt hi)]
      refine ⟨a, c, d, by simp, by rw [h3, ← List.map_take, AV.sizes_map_d, hoff]; rfl, h4, fun y' c' x' hsz hy hset => ?_⟩
      cases y' with
      | d z' =>
        simp only [AV.setS] at hset
        cases hset
        have hall : ∀ x ∈ xs.set i z', x.size = sz := fun x hx => by
          rcases List.mem_or_eq_of_mem_set hx with hx | rfl
          · exact hsz0 x hx
          · have : x.size = (xs.getD i .nilP).size := hsz
            rw [this, hsi]
        exact ⟨CA.d_iff.2 (by simpa using CL.arr (CA.mapd_set (h5 (.d z') c' hy)) (by simp [hlen]) hall .nil), rfl, rfl⟩
      | tup _ => cases hy
      | _ =>
        simp only [AV.setS] at hset
        cases hset
        refine ⟨by simpa using CA.agg (h5 _ c' hy) .nil, ?_, rfl⟩
        simp only [AV.size]
        rw [AV.sizes_set hz' hsz, AV.sizes_map_d, D.sizes_uniform hsz0, hlen]
        rfl
    | _ => cases hz
  | agg l =>
    cases h with
    | agg h1 h2 =>
    cases h2
    cases s with
    | fld f o =>
      simp only [AV.getS, AV.sizesR_eq, beqR_eq] at hg
      split at hg
      case h_2 => cases hg
      rename_i hb
      obtain ⟨a, c, d, rfl, h3, h4, h5⟩ := h1.get hg
      refine ⟨a, c, d, by simp, by rw [h3, beq_true hb]; rfl, h4, fun y' c' x' hsz hy hset => ?_⟩
      simp only [AV.setS] at hset
      cases hset
      exact ⟨by simpa using CA.agg (h5 _ c' hy) .nil, by simp only [AV.size]; rw [AV.sizes_set hg hsz], rfl⟩
    | ix i sz cnt =>
      simp only [AV.getS, AV.sizesR_eq, beqR_eq] at hg
      split at hg
      case h_2 => cases hg
      rename_i hb
      simp only [Bool.and_eq_true] at hb
      obtain ⟨a, c, d, rfl, h3, h4, h5⟩ := h1.get hg
      refine ⟨a, c, d, by simp, by rw [h3, beq_true hb.2]; rfl, h4, fun y' c' x' hsz hy hset => ?_⟩
      simp only [AV.setS] at hset
      cases hset
      exact ⟨by simpa using CA.agg (h5 _ c' hy) .nil, by simp only [AV.size]; rw [AV.sizes_set hg hsz], rfl⟩
  | _ => cases hg

theorem CA.getP {μ k w G} : ∀ {p x cs y}, CA μ k w G [x] cs → AV.getP x p = some y → pathOk p →
    ∃ a c d, cs = a ++ (c ++ d) ∧ a.length = offp p ∧ CA μ k w G [y] c ∧
      ∀ y' c' x', CA μ k w G [y'] c' → AV.setP x p y' = some x' → CA μ k w G [x'] (a ++ (c' ++ d)) ∧ x'.size = x.size ∧ x'.isAgg = x.isAgg ∧ y'.size = y.size
  | [], x, cs, y, h, hg, _ => by
    simp only [AV.getP] at hg
    cases hg
    refine ⟨[], cs, [], by simp, rfl, h, fun y' c' x' hy hset => ?_⟩
    simp only [AV.setP, AV.sizeR_eq, beqR_eq] at hset
    split at hset
    · rename_i hb
      simp only [Bool.and_eq_true] at hb
      cases hset
      exact ⟨by simpa using hy, beq_true hb.1, by simpa using hb.2, beq_true hb.1⟩
    · cases hset
  | s :: p, x, cs, y, h, hg, hp => by
    simp only [AV.getP] at hg
    split at hg
    case h_2 => cases hg
    rename_i z hz
    obtain ⟨a, c, d, rfl, h1, h2, h3⟩ := h.getS hz (hp s (by simp))
    obtain ⟨a', c', d', rfl, g1, g2, g3⟩ := CA.getP h2 hg (fun t ht => hp t (by simp [ht]))
    refine ⟨a ++ a', c', d' ++ d, by simp, by simp [offp_cons, h1, g1], g2, fun y' c'' x' hy hset => ?_⟩
    simp only [AV.setP, hz] at hset
    split at hset
    case h_2 => cases hset
    rename_i z' hz'
    obtain ⟨e1, e2, e3, e4⟩ := g3 y' c'' z' hy hz'
    obtain ⟨f1, f2, f3⟩ := h3 z' _ x' e2 e1 hset
    exact ⟨by simpa using f1, f2, f3, e4⟩

/-- A value's shape is its type's. -/
noncomputable def shapeB (i : TI) (y : AV) : Bool := beqR y.sizeR i.size && (y.isAgg == i.k.agg)

theorem shapeB_spec {i : TI} {y : AV} (h : shapeB i y = true) : y.size = i.size ∧ y.isAgg = i.k.agg := by
  simp only [shapeB, AV.sizeR_eq, beqR_eq, Bool.and_eq_true] at h
  exact ⟨beq_true h.1, by simpa using h.2⟩

theorem run_isAgg' {P : Program} {t : TypeId} {i : TI} (hi : i.fits P t) (w : World) : (isAgg t).run P w = .ok i.k.agg w := by
  obtain ⟨d, h, hk⟩ := hi.1
  rw [← hk, tkOf_agg]
  cases d <;> simp [isAgg, run_underlying h, descAgg]

theorem run_sizeOf' {P : Program} {t : TypeId} {i : TI} (hi : i.fits P t) (w : World) : (sizeOf t).run P w = .ok i.size w := by
  obtain ⟨_, info, h1, h2, _⟩ := hi
  simp [sizeOf, typeInfo, h1, h2]

theorem addr_add (b o n : Nat) : (⟨b, o, none⟩ : Addr).add n = ⟨b, o + n, none⟩ := by
  unfold Addr.add
  split
  · rename_i h; rw [h]; rfl
  · rfl

/-- Memory that holds a value's cells is read as that value. -/
theorem run_loadVar {P : Program} {t : TypeId} {i : TI} (hi : i.fits P t) {μ k w G y} {c : List Value} {b off : Nat} (hy : CA μ k w G [y] c) (hs : shapeB i y = true)
    (hm : ∀ j v, c[j]? = some v → w.cell? ⟨b, off + j, none⟩ = some v) : ∃ v, (loadVar t ⟨b, off, none⟩).run P w = .ok v w ∧ VA μ k w G y v := by
  obtain ⟨h1, h2⟩ := shapeB_spec hs
  have hlen : c.length = i.size := by have := hy.length; simp [AV.sizes] at this; omega
  cases ha : i.k.agg with
  | true =>
    refine ⟨.agg c.toArray, ?_, VA.of_agg hy (by rw [h2, ha])⟩
    have hl := run_loadCells_list (P := P) w ⟨b, off, none⟩ c (fun j v hj => by rw [addr_add]; exact hm j v hj)
    rw [hlen] at hl
    simp [loadVar, run_isAgg' hi, ha, run_sizeOf' hi, hl]
  | false =>
    obtain ⟨v, rfl, h3, h4⟩ := hy.single (by rw [h2, ha])
    refine ⟨v, ?_, VA.of_single hy (by rw [h2, ha])⟩
    have := hm 0 v (by simp)
    rw [Nat.add_zero] at this
    simp [loadVar, run_isAgg' hi, ha, this]

theorem cell_of_block {w : World} {b : Nat} {cs : Array Value} {T : TypeId} {fz : Nat × Nat} (h : w.heap[b]? = some (.cells cs T fz)) (o : Nat) : w.cell? ⟨b, o, none⟩ = cs[o]? := by
  simp [World.cell?, h]

theorem pieces_get {a c d s : List Value} {j : Nat} {v : Value} (h : c[j]? = some v) : (a ++ (c ++ d) ++ s)[a.length + j]? = some v := by
  rw [List.append_assoc, List.getElem?_append_right (by omega)]
  have : a.length + j - a.length = j := by omega
  rw [this, List.append_assoc, List.getElem?_append_left (List.getElem?_eq_some_iff.1 h).1]
  exact h

theorem VA.ptr_inv {μ k w G n p v} (h : VA μ k w G (.ptr n p) v) : ∃ b, n < k ∧ ptrAt (μ n) b p ∧ pathOk p ∧ v = .pointer (some ⟨b, offp p, none⟩) := by
  rcases h.inv with ⟨h1, _⟩ | ⟨_, h1, _⟩
  · simp [AV.isAgg] at h1
  · cases h1 with
    | ptr h2 h3 h4 _ => exact ⟨_, h2, h3, h4, rfl⟩

/-- A load from a variable of the store. -/
theorem St.load {B S μ G w} (hc : B.c.ok) (st : St B S μ G w) {t n p x y v i} (hi : B.c.tt t = some i) (hv : VA μ S.length w G (.ptr n p) v) (hn : S[n]? = some (.var x)) (hg : AV.getP x p = some y)
    (hs : shapeB i y = true) : ∃ u, (Instr.loadAt t v).run B.c.P w = .ok u w ∧ VA μ S.length w G y u := by
  have hf := hc t i hi
  rcases hv.inv with ⟨h1, _⟩ | ⟨_, h1, _⟩
  · simp [AV.isAgg] at h1
  · cases h1 with
    | ptr h2 h3 h4 _ =>
      obtain ⟨b', cs, T, l, s, e1, e2, e3, e4⟩ := st.blks n _ hn
      cases h3.eq e1
      obtain ⟨a, c, d, rfl, f1, f2, _⟩ := e4.getP hg h4
      obtain ⟨u, g1, g2⟩ := run_loadVar hf (b := _) (off := offp p) f2 hs (fun j v hj => by
        rw [cell_of_block e2, ← Array.getElem?_toList, e3, ← f1]
        exact pieces_get hj)
      refine ⟨u, ?_, g2⟩
      simp only [Instr.loadAt, Instr.sureAddr, Sem.run_bind, Sem.run_pure, Result.andThen_ok]
      exact g1

/-- A load from memory that stays. -/
theorem St.loadC {B S μ G w} (hc : B.c.ok) (_st : St B S μ G w) {t x v i} (hi : B.c.tt t = some i) (hv : VD w G (.cptr x) v)
    (hs : shapeB i (.d x) = true) : ∃ u, (Instr.loadAt t v).run B.c.P w = .ok u w ∧ VD w G x u := by
  have hf := hc t i hi
  rcases hv.inv with ⟨h1, _⟩ | ⟨_, h1, _⟩
  · simp [D.isAgg] at h1
  · cases h1 with
    | cptr h2 h3 _ =>
      obtain ⟨u, g1, g2⟩ := run_loadVar (μ := μ) (k := S.length) hf (CA.d_iff.2 h2) hs (fun j v hj => (h3 j v hj).1)
      refine ⟨u, ?_, VA.d_iff.1 g2⟩
      simp only [Instr.loadAt, Instr.sureAddr, Sem.run_bind, Sem.run_pure, Result.andThen_ok]
      exact g1

theorem setRow_next (w : World) (b : Nat) (cs : Array Value) : Next w (w.setRow b cs) (some b) :=
  ⟨rfl, rfl, rfl, by simp, fun k _ hn => setRow_other w b k cs (fun e => hn (by rw [e]))⟩

/-- A store into a variable of the store. -/
theorem St.store {B S μ G w} (hc : B.c.ok) (st : St B S μ G w) {t n p x x' y v u i} (hi : B.c.tt t = some i) (hv : VA μ S.length w G (.ptr n p) v) (hn : S[n]? = some (.var x)) (hg : (AV.getP x p).isSome = true)
    (hu : VA μ S.length w G y u) (hset : AV.setP x p y = some x') (hs : shapeB i y = true) :
    ∃ w', (Instr.storeAt t v u).run B.c.P w = .ok () w' ∧ St B (S.set n (.var x')) μ G w' ∧ Later S μ G w (S.set n (.var x')) μ G w' := by
  have hf := hc t i hi
  obtain ⟨h1, h2⟩ := shapeB_spec hs
  cases hg' : AV.getP x p with
  | none => rw [hg'] at hg; cases hg
  | some y0 =>
  obtain ⟨b, h3, h4, h5, rfl⟩ := hv.ptr_inv
  obtain ⟨b', cs, T, l, s, e1, e2, e3, e4⟩ := st.blks n _ hn
  have hbb : b' = b := h4.eq e1
  subst hbb
  replace h4 := e1
  obtain ⟨a, c, d, rfl, f1, f2, f3⟩ := e4.getP hg' h5
  have hcu : CA μ S.length w G [y] u.cells.toList := hu.1
  obtain ⟨g1, g2, g3, g4⟩ := f3 y _ x' hcu hset
  have hlu : u.cells.toList.length = i.size := by have := hcu.length; simp [AV.sizes] at this; simp; omega
  have hlc : c.length = u.cells.toList.length := by
    have q1 := f2.length; have q2 := hcu.length; simp [AV.sizes] at q1 q2; simp; omega
  have hone := hcu.oneCell
  have hsz : offp p + u.cells.toList.length ≤ cs.size := by
    have := congrArg List.length e3
    simp at this
    rw [← f1]
    simp at hlc ⊢
    omega
  have hst := run_storeCells_at B.c.P b' (offp p) T u.cells.toList 0 cs w e2 (by simpa using hsz) hone
  simp only [Nat.add_zero] at hst
  have hG : ∀ o, ¬ G b' o := fun o => st.free n _ b' hn rfl (by rw [h4]; rfl) o (Nat.zero_le _)
  obtain ⟨row, hrow⟩ : ∃ row : Array Value, row = (cs.toList.take (offp p) ++ u.cells.toList ++ cs.toList.drop (offp p + u.cells.toList.length)).toArray := ⟨_, rfl⟩
  rw [← hrow] at hst
  have hrl : row.toList = (a ++ (u.cells.toList ++ d)) ++ s := by
    rw [hrow, e3, ← f1, ← hlc]
    simp only [List.append_assoc]
    rw [List.take_left, ← List.append_assoc a c, ← List.length_append, List.drop_left]
  have hcells := (setRow_next w b' row).cells st.gv (G := G) (fun k hk o v hgk _ => by cases hk; exact absurd hgk (hG o))
  refine ⟨w.setRow b' row, ?_, ?_, ⟨by simp, fun _ _ => rfl, fun _ _ h => h, hcells⟩⟩
  · simp only [Instr.storeAt, Instr.sureAddr, Sem.run_bind, Sem.run_pure, Result.andThen_ok, storeVar, run_sizeOf' hf]
    rw [if_neg (by rw [← hlu]; simp)]
    exact hst
  · exact st.write hn rfl rfl rfl rfl (g := b') (by rw [h4]; rfl) (setRow_next w b' row)
      ⟨b', row, T, a ++ (u.cells.toList ++ d), s, h4, setRow_heap w b' cs row T _ e2, hrl, g1.mono (Nat.le_refl _) (fun _ _ _ => rfl) (fun _ _ h => h) hcells⟩

theorem St.loadT {B S μ G w} (hc : B.c.ok) (st : St B S μ G w) {t n p T x y v i} (hi : B.c.tt t = some i) (hv : VA μ S.length w G (.ptr n p) v) (hn : S[n]? = some (.tvar T x)) (hg : AV.getP x p = some y)
    (hs : shapeB i y = true) : ∃ u, (Instr.loadAt t v).run B.c.P w = .ok u w ∧ VA μ S.length w G y u := by
  have hf := hc t i hi
  rcases hv.inv with ⟨h1, _⟩ | ⟨_, h1, _⟩
  · simp [AV.isAgg] at h1
  · cases h1 with
    | ptr h2 h3 h4 _ =>
      obtain ⟨b', cs, e1, e2, e4'⟩ := st.blks n _ hn
      obtain ⟨l, s, e3, e4⟩ : ∃ l s, cs.toList = l ++ s ∧ CA μ S.length w G [x] l := ⟨cs.toList, [], by simp, e4'⟩
      cases h3.eq e1
      obtain ⟨a, c, d, rfl, f1, f2, _⟩ := e4.getP hg h4
      obtain ⟨u, g1, g2⟩ := run_loadVar hf (b := _) (off := offp p) f2 hs (fun j v hj => by
        rw [cell_of_block e2, ← Array.getElem?_toList, e3, ← f1]
        exact pieces_get hj)
      refine ⟨u, ?_, g2⟩
      simp only [Instr.loadAt, Instr.sureAddr, Sem.run_bind, Sem.run_pure, Result.andThen_ok]
      exact g1

/-- A load from memory that stays. -/
theorem St.storeT {B S μ G w} (hc : B.c.ok) (st : St B S μ G w) {t n p T x x' y v u i} (hi : B.c.tt t = some i) (hv : VA μ S.length w G (.ptr n p) v) (hn : S[n]? = some (.tvar T x)) (hg : (AV.getP x p).isSome = true)
    (hu : VA μ S.length w G y u) (hset : AV.setP x p y = some x') (hs : shapeB i y = true) :
    ∃ w', (Instr.storeAt t v u).run B.c.P w = .ok () w' ∧ St B (S.set n (.tvar T x')) μ G w' ∧ Later S μ G w (S.set n (.tvar T x')) μ G w' := by
  have hf := hc t i hi
  obtain ⟨h1, h2⟩ := shapeB_spec hs
  cases hg' : AV.getP x p with
  | none => rw [hg'] at hg; cases hg
  | some y0 =>
  obtain ⟨b, h3, h4, h5, rfl⟩ := hv.ptr_inv
  obtain ⟨b', cs, e1, e2, e4'⟩ := st.blks n _ hn
  obtain ⟨l, s, e3, e4, es⟩ : ∃ l s, cs.toList = l ++ s ∧ CA μ S.length w G [x] l ∧ s = [] := ⟨cs.toList, [], by simp, e4', rfl⟩
  have hbb : b' = b := h4.eq e1
  subst hbb
  replace h4 := e1
  obtain ⟨a, c, d, rfl, f1, f2, f3⟩ := e4.getP hg' h5
  have hcu : CA μ S.length w G [y] u.cells.toList := hu.1
  obtain ⟨g1, g2, g3, g4⟩ := f3 y _ x' hcu hset
  have hlu : u.cells.toList.length = i.size := by have := hcu.length; simp [AV.sizes] at this; simp; omega
  have hlc : c.length = u.cells.toList.length := by
    have q1 := f2.length; have q2 := hcu.length; simp [AV.sizes] at q1 q2; simp; omega
  have hone := hcu.oneCell
  have hsz : offp p + u.cells.toList.length ≤ cs.size := by
    have := congrArg List.length e3
    simp at this
    rw [← f1]
    simp at hlc ⊢
    omega
  have hst := run_storeCells_at B.c.P b' (offp p) T u.cells.toList 0 cs w e2 (by simpa using hsz) hone
  simp only [Nat.add_zero] at hst
  have hG : ∀ o, ¬ G b' o := fun o => st.free n _ b' hn rfl (by rw [h4]; rfl) o (Nat.zero_le _)
  obtain ⟨row, hrow⟩ : ∃ row : Array Value, row = (cs.toList.take (offp p) ++ u.cells.toList ++ cs.toList.drop (offp p + u.cells.toList.length)).toArray := ⟨_, rfl⟩
  rw [← hrow] at hst
  have hrl : row.toList = (a ++ (u.cells.toList ++ d)) ++ s := by
    rw [hrow, e3, ← f1, ← hlc]
    simp only [List.append_assoc]
    rw [List.take_left, ← List.append_assoc a c, ← List.length_append, List.drop_left]
  have hcells := (setRow_next w b' row).cells st.gv (G := G) (fun k hk o v hgk _ => by cases hk; exact absurd hgk (hG o))
  refine ⟨w.setRow b' row, ?_, ?_, ⟨by simp, fun _ _ => rfl, fun _ _ h => h, hcells⟩⟩
  · simp only [Instr.storeAt, Instr.sureAddr, Sem.run_bind, Sem.run_pure, Result.andThen_ok, storeVar, run_sizeOf' hf]
    rw [if_neg (by rw [← hlu]; simp)]
    exact hst
  · exact st.write hn rfl rfl rfl rfl (g := b') (by rw [h4]; rfl) (setRow_next w b' row)
      ⟨b', row, h4, setRow_heap w b' cs row T _ e2, by rw [hrl, es, List.append_nil]; exact g1.mono (Nat.le_refl _) (fun _ _ _ => rfl) (fun _ _ h => h) hcells⟩

/-- A new variable. -/
theorem St.newVar {B S μ G w} (st : St B S μ G w) {t : TypeId} {x : AV} {v : Value} (hx : VA μ S.length w G x v) :
    ∃ μ', (newVar t v).run B.c.P w = .ok ⟨w.heap.size, 0, none⟩ (w.alloc (.cells v.cells t)) ∧ St B (S ++ [Blk.var x]) μ' G (w.alloc (.cells v.cells t)) ∧
      Later S μ G w (S ++ [Blk.var x]) μ' G (w.alloc (.cells v.cells t)) ∧ VA μ' (S ++ [Blk.var x]).length (w.alloc (.cells v.cells t)) G (.ptr S.length []) (.pointer (some ⟨w.heap.size, 0, none⟩)) := by
  have hn : Next w (w.alloc (.cells v.cells t)) none := ⟨rfl, rfl, rfl, by show w.heap.size ≤ (w.heap.push _).size; simp, fun k hk _ => by
    show (w.heap.push _)[k]? = _
    rw [Array.getElem?_push, if_neg (by omega)]⟩
  have hcells := hn.cells st.gv (G := G) (fun k hk => by cases hk)
  have hnew : (w.alloc (.cells v.cells t)).heap[w.heap.size]? = some (.cells v.cells t (0, 0)) := by
    show (w.heap.push _)[w.heap.size]? = _
    simp
  have hμ : ∀ i, i < S.length → upd μ S.length (.pointer (some ⟨w.heap.size, 0, none⟩)) i = μ i := fun i hi => by simp [upd, Nat.ne_of_lt hi]
  refine ⟨upd μ S.length (.pointer (some ⟨w.heap.size, 0, none⟩)), rfl, ?_, ⟨by simp, hμ, fun _ _ h => h, hcells⟩, ?_⟩
  · refine st.push hn (fun _ _ h => h) (fun _ _ h => .inl h) (fun _ n h => by cases h; exact Nat.le_refl _) (fun _ n h o _ hg => by
      cases h; have := st.gv _ _ hg; exact Nat.lt_irrefl _ this) ?_
    exact ⟨w.heap.size, v.cells, t, v.cells.toList, [], rfl, hnew, by simp, hx.1.mono (Nat.le_succ _) (fun i hi _ => hμ i hi) (fun _ _ h => h) hcells⟩
  · refine VA.of_single ?_ rfl
    exact .ptr (b := w.heap.size) (by simp) (.inl (by simp [upd])) (fun s hs => by cases hs) .nil

/-- A new variable whose type is kept. -/
theorem St.newVarT {B S μ G w} (st : St B S μ G w) {t : TypeId} {x : AV} {v : Value} (hx : VA μ S.length w G x v) :
    ∃ μ', (Go.newVar t v).run B.c.P w = .ok ⟨w.heap.size, 0, none⟩ (w.alloc (.cells v.cells t)) ∧ St B (S ++ [Blk.tvar t x]) μ' G (w.alloc (.cells v.cells t)) ∧
      Later S μ G w (S ++ [Blk.tvar t x]) μ' G (w.alloc (.cells v.cells t)) ∧ VA μ' (S ++ [Blk.tvar t x]).length (w.alloc (.cells v.cells t)) G (.ptr S.length []) (.pointer (some ⟨w.heap.size, 0, none⟩)) := by
  have hn : Next w (w.alloc (.cells v.cells t)) none := ⟨rfl, rfl, rfl, by show w.heap.size ≤ (w.heap.push _).size; simp, fun k hk _ => by
    show (w.heap.push _)[k]? = _
    rw [Array.getElem?_push, if_neg (by omega)]⟩
  have hcells := hn.cells st.gv (G := G) (fun k hk => by cases hk)
  have hnew : (w.alloc (.cells v.cells t)).heap[w.heap.size]? = some (.cells v.cells t (0, 0)) := by
    show (w.heap.push _)[w.heap.size]? = _
    simp
  have hμ : ∀ i, i < S.length → upd μ S.length (.pointer (some ⟨w.heap.size, 0, none⟩)) i = μ i := fun i hi => by simp [upd, Nat.ne_of_lt hi]
  refine ⟨upd μ S.length (.pointer (some ⟨w.heap.size, 0, none⟩)), rfl, ?_, ⟨by simp, hμ, fun _ _ h => h, hcells⟩, ?_⟩
  · refine st.push hn (fun _ _ h => h) (fun _ _ h => .inl h) (fun _ n h => by cases h; exact Nat.le_refl _) (fun _ n h o _ hg => by
      cases h; have := st.gv _ _ hg; exact Nat.lt_irrefl _ this) ?_
    exact ⟨w.heap.size, v.cells, rfl, hnew, hx.1.mono (Nat.le_succ _) (fun i hi _ => hμ i hi) (fun _ _ h => h) hcells⟩
  · refine VA.of_single ?_ rfl
    exact .ptr (b := w.heap.size) (by simp) (.inl (by simp [upd])) (fun s hs => by cases hs) .nil

end Go.Ab

namespace Go.Ab
open Go.RowKit

theorem opsTo_value {B : Base} {N : Nat} {o : Oper} {env : Env} {S : List Blk} {K : Option AV → List Blk → Prop}
    (h : ∀ (μ : Nat → Value) (G : Nat → Nat → Prop) (a : Act) (w : World), At1 B N env S μ G a w → ∃ v w' μ' G' x S', (execOp a.eval o).run B.c.P w = .ok (.value v) w' ∧ K (some x) S' ∧
      St B S' μ' G' w' ∧ Later S μ G w S' μ' G' w' ∧ RA μ' S'.length w' G' x v) : OpsTo B N o env S K := by
  intro μ G a w st next Q hn
  obtain ⟨v, w', μ', G', x, S', h1, h2, h3, h4, h5⟩ := h μ G a w st
  unfold Oper.wp
  rw [h1, Oper.upon_value]
  exact hn (some x) S' μ' G' v w' h2 h3 h4 (fun y hy => by cases hy; exact h5)

/-- An operation that leaves the world alone. -/
theorem opsTo_pure {B : Base} {N : Nat} {o : Oper} {env : Env} {S : List Blk} {K : Option AV → List Blk → Prop} {x : AV} (hk : K (some x) S)
    (h : ∀ (μ : Nat → Value) (G : Nat → Nat → Prop) (a : Act) (w : World), At1 B N env S μ G a w → ∃ v, (execOp a.eval o).run B.c.P w = .ok (.value v) w ∧ RA μ S.length w G x v) : OpsTo B N o env S K :=
  opsTo_value fun μ G a w st => let ⟨v, h1, h2⟩ := h μ G a w st; ⟨v, w, μ, G, x, S, h1, hk, st.st, Later.refl _ _ _ _, h2⟩

theorem opsTo_skip {B : Base} {N : Nat} {o : Oper} {env : Env} {S : List Blk} {K : Option AV → List Blk → Prop}
    (h : ∀ (μ : Nat → Value) (G : Nat → Nat → Prop) (a : Act) (w : World), At1 B N env S μ G a w → ∃ w' μ' G' S', (execOp a.eval o).run B.c.P w = .ok .skip w' ∧ K none S' ∧
      St B S' μ' G' w' ∧ Later S μ G w S' μ' G' w') : OpsTo B N o env S K := by
  intro μ G a w st next Q hn
  obtain ⟨w', μ', G', S', h1, h2, h3, h4⟩ := h μ G a w st
  unfold Oper.wp
  rw [h1, Oper.upon_skip]
  exact hn none S' μ' G' _ w' h2 h3 h4 (fun y hy => by cases hy)

theorem OpsTo.mono {B N o env S K K'} (h : OpsTo B N o env S K) (hk : ∀ x S', K x S' → K' x S') : OpsTo B N o env S K' :=
  fun μ G a w st next Q hn => h μ G a w st next Q fun x S' μ' G' v w' h1 => hn x S' μ' G' v w' (hk x S' h1)

theorem RA.va {μ k w G x v} (h : RA μ k w G x v) (hx : ∀ l, x ≠ .tup l) : VA μ k w G x v := by
  cases x with
  | tup l => exact absurd rfl (hx l)
  | _ => exact h

theorem VA.ra {μ k w G x v} (h : VA μ k w G x v) (hx : ∀ l, x ≠ .tup l) : RA μ k w G x v := by
  cases x with
  | tup l => exact absurd rfl (hx l)
  | _ => exact h

theorem RA.vd {μ k w G x v} (h : RA μ k w G (.d x) v) : VD w G x v := VA.d_iff.1 h
theorem VD.ra {μ k w G x v} (h : VD w G x v) : RA μ k w G (.d x) v := VA.d_iff.2 h

theorem evalA_sound {B : Base} {N : Nat} {env : Env} {S μ G a w} (h : At1 B N env S μ G a w) {x : Operand} {v : AV} (hv : evalA B.c env x = some v) : RA μ S.length w G v (a.eval x) := by
  cases x with
  | tmp t =>
    obtain ⟨u, h1, h2⟩ := h.env t v hv
    have : a.eval (.tmp t) = u := by
      obtain ⟨e1, e2⟩ := Array.getElem?_eq_some_iff.1 h1
      simp [Act.eval, Array.getD, e1, e2]
    rw [this]; exact h2
  | const c =>
    simp only [evalA] at hv
    show RA μ S.length w G v c
    unfold constAV at hv
    split at hv <;> cases hv <;> refine VD.ra (VD.of_single ?_ rfl)
    · exact .bool .nil
    · exact .int .nil
    · exact .str .nil
    · exact .nilP .nil
    · exact .slnil .nil
    · exact .nilI .nil
    · exact .nilF .nil
  | global g =>
    simp only [evalA] at hv
    split at hv
    · rename_i y hy; cases hv; exact VD.ra (h.st.glob g y hy)
    · cases hv
  | func f =>
    simp only [evalA] at hv
    cases hv
    show RA μ S.length w G (.fn f []) (.func (.func f) #[] #[])
    exact (VA.of_single (by simpa using CA.fn (caps := []) (by simp) .nil) rfl).ra (fun l h => by cases h)

/-- The inversions: what a known shape is as a value. -/
theorem VD.int_inv {w G k n v} (h : VD w G (.int k n) v) : v = .int k n := by
  rcases h.inv with ⟨h1, _⟩ | ⟨_, h1, _⟩
  · simp [D.isAgg] at h1
  · cases h1; rfl
theorem VD.bool_inv {w G b v} (h : VD w G (.bool b) v) : v = .bool b := by
  rcases h.inv with ⟨h1, _⟩ | ⟨_, h1, _⟩
  · simp [D.isAgg] at h1
  · cases h1; rfl
theorem VD.str_inv {w G s v} (h : VD w G (.str s) v) : v = .string s := by
  rcases h.inv with ⟨h1, _⟩ | ⟨_, h1, _⟩
  · simp [D.isAgg] at h1
  · cases h1; rfl
theorem VD.nilP_inv {w G v} (h : VD w G .nilP v) : v = .pointer none := by
  rcases h.inv with ⟨h1, _⟩ | ⟨_, h1, _⟩
  · simp [D.isAgg] at h1
  · cases h1; rfl
theorem VD.nilI_inv {w G v} (h : VD w G .nilI v) : v = .nilIface := by
  rcases h.inv with ⟨h1, _⟩ | ⟨_, h1, _⟩
  · simp [D.isAgg] at h1
  · cases h1; rfl
theorem VD.iface_inv {w G t x v} (h : VD w G (.iface t x) v) : ∃ u, v = .iface t u ∧ VD w G x u := by
  rcases h.inv with ⟨h1, _⟩ | ⟨_, h1, _⟩
  · simp [D.isAgg] at h1
  · cases h1 with | iface h2 h3 _ => exact ⟨_, rfl, h2, h3⟩
theorem VD.cptr_inv {w G x v} (h : VD w G (.cptr x) v) : ∃ b off c, v = .pointer (some ⟨b, off, none⟩) ∧ CL w G [x] c ∧ At w G b off c := by
  rcases h.inv with ⟨h1, _⟩ | ⟨_, h1, _⟩
  · simp [D.isAgg] at h1
  · cases h1 with | cptr h2 h3 _ => exact ⟨_, _, _, rfl, h2, h3⟩
theorem VD.sl_inv {w G sz xs v} (h : VD w G (.sl sz xs) v) : (v = .slice none 0 0 ∧ xs = []) ∨
    ∃ a cap c, v = .slice (some a) xs.length cap ∧ CL w G xs c ∧ (∀ x ∈ xs, x.size = sz) ∧ At w G a.block a.off c ∧ (xs = [] ∨ a.spot = none) ∧ xs.length ≤ cap ∧ cap ≤ maxLen := by
  rcases h.inv with ⟨h1, _⟩ | ⟨_, h1, _⟩
  · simp [D.isAgg] at h1
  · cases h1 with
    | slnil => exact .inl ⟨rfl, rfl⟩
    | sl h2 h3 h4 h5 h6 h7 h8 _ => subst h3; exact .inr ⟨_, _, _, rfl, h2, h4, h5, h6, h7, h8⟩

theorem VD.int {w G k n} : VD w G (.int k n) (.int k n) := VD.of_single (.int .nil) rfl
theorem VD.bool {w G b} : VD w G (.bool b) (.bool b) := VD.of_single (.bool .nil) rfl
theorem VD.str {w G s} : VD w G (.str s) (.string s) := VD.of_single (.str .nil) rfl

/-- Part of a list of cells. -/
theorem CL.sub {w G xs c sz} (h : CL w G xs c) (hs : ∀ x ∈ xs, x.size = sz) (lo len : Nat) (hl : lo + len ≤ xs.length) :
    ∃ a m z, c = a ++ (m ++ z) ∧ a.length = lo * sz ∧ CL w G ((xs.drop lo).take len) m := by
  have e : xs = xs.take lo ++ ((xs.drop lo).take len ++ (xs.drop lo).drop len) := by rw [List.take_append_drop, List.take_append_drop]
  rw [e] at h
  obtain ⟨a, d, rfl, h1, h2⟩ := CL.append_inv h
  obtain ⟨m, z, rfl, h3, h4⟩ := CL.append_inv h2
  refine ⟨a, m, z, rfl, ?_, h3⟩
  rw [h1.length, D.sizes_uniform (sz := sz) fun x hx => hs x (List.mem_of_mem_take hx)]
  simp [Nat.min_eq_left (by omega : lo ≤ xs.length)]

theorem At.part {w G b off} {a m z : List Value} (h : At w G b off (a ++ (m ++ z))) : At w G b (off + a.length) m := by
  intro j v hj
  have := h (a.length + j) v (by simpa using pieces_get (s := []) hj)
  rw [← Nat.add_assoc] at this
  exact this

theorem sl_of_part {w G xs c sz b off cap} (h : CL w G xs c) (hs : ∀ x ∈ xs, x.size = sz) (hat : At w G b off c) (lo len : Nat) (hl : lo + len ≤ xs.length) (hc : len ≤ cap) (hm : cap ≤ maxLen) :
    VD w G (.sl sz ((xs.drop lo).take len)) (.slice (some ⟨b, off + lo * sz, none⟩) len cap) := by
  obtain ⟨a, m, z, rfl, h1, h2⟩ := h.sub hs lo len hl
  refine VD.of_single ?_ rfl
  refine .sl (a := ⟨b, off + lo * sz, none⟩) h2 (by simp; omega) (fun x hx => hs x (List.mem_of_mem_drop (List.mem_of_mem_take hx))) ?_ (.inr rfl) hc hm .nil
  show At w G b (off + lo * sz) m
  rw [← h1]
  exact hat.part

/-- A row as a slice. -/
theorem BlkOk.row_view {μ k w G v e sz xs} (h : BlkOk μ k w G v (.row e sz xs)) : VD w G (.sl sz xs) v := by
  obtain ⟨cs, ⟨h1, h2⟩, h3, h4, h5⟩ := h
  rcases h2 with ⟨rfl, h0⟩ | ⟨g, cap, cur, fz, rfl, _, hh, _, hn, hm, _, ht⟩
  · have : xs = [] := List.eq_nil_of_length_eq_zero h0
    subst this
    exact VD.of_single (.slnil .nil) rfl
  · refine VD.of_single (.sl h3 rfl h4 ?_ (.inr rfl) hn hm .nil) rfl
    intro j v hj
    show w.cell? ⟨g, 0 + j, none⟩ = some v ∧ G g (0 + j)
    refine ⟨?_, h5 g rfl _ (by have := (List.getElem?_eq_some_iff.1 hj).1; omega)⟩
    rw [cell_of_block hh, Nat.zero_add, ← Array.getElem?_toList]
    rw [← ht] at hj
    rw [List.getElem?_take] at hj
    split at hj
    · exact hj
    · cases hj

mutual
def AV.toD (k0 : Nat) (S : List Blk) : AV → Option (D × List Blk)
  | .d x => some (x, S)
  | .row n => match S[n]? with
    | some (.row _ sz xs) => some (.sl sz xs, S)
    | some (.sealed (.sl sz xs)) => some (.sl sz xs, S)
    | some (.own _ sz xs) => some (.sl sz xs, S.set n (.sealed (.sl sz xs)))
    | _ => none
  | .vw n [] lo len cnt sz => match S[n]? with
    | some (.var (.d (.arr cnt' sz' xs))) => match Nat.beq cnt cnt' && Nat.beq sz sz' && Nat.ble k0 n with
      | true => some (.sl sz ((xs.drop lo).take len), S.set n (.sealed (.cptr (.arr cnt sz xs))))
      | false => none
    | some (.sealed (.cptr (.arr cnt' sz' xs))) => match Nat.beq cnt cnt' && Nat.beq sz sz' with
      | true => some (.sl sz ((xs.drop lo).take len), S)
      | false => none
    | _ => none
  | .agg l => match AV.toDs k0 S l with | some (ds, S') => some (.agg ds, S') | none => none
  | _ => none
def AV.toDs (k0 : Nat) (S : List Blk) : List AV → Option (List D × List Blk)
  | [] => some ([], S)
  | x :: l => match x.toD k0 S with
    | some (y, S') => match AV.toDs k0 S' l with
      | some (ys, S'') => some (y :: ys, S'')
      | none => none
    | none => none
end

theorem toD_isAgg {k0 S x y S'} (h : AV.toD k0 S x = some (y, S')) : y.isAgg = x.isAgg := by
  cases x with
  | d x => simp only [AV.toD] at h; cases h; rfl
  | row n => simp only [AV.toD] at h; split at h <;> cases h <;> rfl
  | vw n p lo len cnt sz =>
    cases p with
    | nil => simp only [AV.toD] at h; split at h <;> (try (split at h)) <;> cases h <;> rfl
    | cons => simp only [AV.toD] at h; cases h
  | agg l => simp only [AV.toD] at h; split at h <;> cases h; rfl
  | _ => simp only [AV.toD] at h; cases h

theorem toD_sound {B : Base} {w : World} : ∀ (x : AV) {S S' : List Blk} {μ : Nat → Value} {G : Nat → Nat → Prop} {y : D} {c : List Value} {k0 : Nat}, AV.toD k0 S x = some (y, S') → St B S μ G w → CA μ S.length w G [x] c →
    ∃ G', St B S' μ G' w ∧ Later S μ G w S' μ G' w ∧ CL w G' [y] c
  | .d x, S, S', μ, G, y, c, _, h, st, hc => by
    simp only [AV.toD] at h; cases h; exact ⟨G, st, Later.refl _ _ _ _, CA.d_iff.1 hc⟩
  | .row n, S, S', μ, G, y, c, _, h, st, hc => by
    simp only [AV.toD] at h
    have hv : c = [μ n] := by
      cases hc with
      | row h1 h2 h3 => cases h3; rw [h2]
      | mp h1 h2 h3 => cases h3; rw [h2]
    have hcells : (μ n).cells = #[μ n] := by
      cases hc with
      | row h1 h2 h3 => rw [h2]; rfl
      | mp h1 h2 h3 => rw [h2]; rfl
    split at h
    · rename_i sz xs hs
      cases h
      have := (st.blks n _ hs).row_view
      refine ⟨G, st, Later.refl _ _ _ _, ?_⟩
      have h1 := this.1
      rw [hcells] at h1
      rw [hv]; exact h1
    · rename_i sz xs hs
      cases h
      have : VD w G (.sl sz xs) (μ n) := st.blks n _ hs
      refine ⟨G, st, Later.refl _ _ _ _, ?_⟩
      have h1 := this.1
      rw [hcells] at h1
      rw [hv]; exact h1
    · rename_i e sz xs hs
      cases h
      have hbk := st.blks n _ hs
      have hlt := hbk.bid_lt rfl
      obtain ⟨cs, ho, hcl, hsz⟩ := hbk
      let G' : Nat → Nat → Prop := fun k o => G k o ∨ bid (μ n) = some k
      have hG : ∀ k o, G k o → G' k o := fun _ _ h => .inl h
      have hmono : CL w G' xs cs := hcl.mono hG (fun _ _ _ _ h => h)
      have hvd : VD w G' (.sl sz xs) (μ n) := by
        rcases ho.2 with ⟨q1, q2⟩ | ⟨g, cap', cur, q1, _, q2, q3, q4, q5, q6⟩
        · rw [q1]
          have : xs = [] := List.eq_nil_of_length_eq_zero q2
          subst this
          exact VD.of_single (.slnil .nil) rfl
        · have hg : bid (μ n) = some g := by rw [q1]; rfl
          have hcl2 := (World.ownsRowF_of ho).cells (g := g) (by rw [q1]; rfl)
          rw [q1]
          refine VD.of_single (.sl hmono rfl hsz ?_ (.inr rfl) q3 q4 .nil) rfl
          intro j u hj
          have := hcl2 j u hj
          rw [addr_add] at this
          exact ⟨this, .inr hg⟩
      refine ⟨G', st.drop (List.getElem?_eq_some_iff.1 hs).1 rfl hG (fun k o hk => ?_) hvd, ⟨by simp, fun _ _ => rfl, hG, fun _ _ _ _ h => h⟩, ?_⟩
      · rcases hk with hk | hk
        · exact .inl hk
        · exact .inr ⟨_, hs, rfl, hk, hlt k hk⟩
      · have h1 := hvd.1
        rw [hcells] at h1
        rw [hv]; exact h1
    · cases h
  | .vw n p lo len cnt sz, S, S', μ, G, y, c, _, h, st, hc => by
    cases p with
    | cons => simp only [AV.toD] at h; cases h
    | nil =>
    simp only [AV.toD] at h
    cases hc with
    | @vw _ _ b _ _ _ _ cap _ cs h1 h2 h3 h4 h5 h6 h7 =>
    cases h7
    replace h2 := h2.nil
    simp only [offp, Nat.zero_add]
    split at h
    · rename_i cnt' sz' xs hs
      split at h
      case h_2 => cases h
      rename_i hb
      simp only [Bool.and_eq_true] at hb
      obtain ⟨⟨hb1, hb2⟩, _⟩ := hb
      have hb1 := beq_true hb1
      have hb2 := beq_true hb2
      subst hb1; subst hb2
      cases h
      obtain ⟨b', cells, T, l, s, e1, e2, e3, e4⟩ := st.blks n _ hs
      have hbb : b' = b := by rw [h2] at e1; simp at e1; exact e1.symm
      subst hbb
      have e5 := CA.d_iff.1 e4
      have hlt : b' < w.heap.size := (Array.getElem?_eq_some_iff.1 e2).1
      let G' : Nat → Nat → Prop := fun k o => G k o ∨ k = b'
      have hG : ∀ k o, G k o → G' k o := fun _ _ h => .inl h
      have hmono : CL w G' [.arr cnt sz xs] l := e5.mono hG (fun _ _ _ _ h => h)
      have hat : At w G' b' 0 l := fun j v hj => ⟨by
        rw [cell_of_block e2, Nat.zero_add, ← Array.getElem?_toList, e3, List.getElem?_append_left (List.getElem?_eq_some_iff.1 hj).1]; exact hj, .inr rfl⟩
      have hseal : BlkOk μ S.length w G' (μ n) (.sealed (.cptr (.arr cnt sz xs))) := by
        rw [h2]
        exact VD.of_single (.cptr hmono hat .nil) rfl
      refine ⟨G', st.drop h1 rfl hG (fun k o hk => ?_) hseal, ⟨by simp, fun _ _ => rfl, hG, fun _ _ _ _ h => h⟩, ?_⟩
      · rcases hk with hk | rfl
        · exact .inl hk
        · exact .inr ⟨_, hs, rfl, by rw [h2]; rfl, hlt⟩
      · cases hmono with
        | arr g1 g2 g3 g4 =>
        cases g4
        rw [List.append_nil] at hat
        have := sl_of_part g1 g3 hat lo len (by omega) (by omega) h6
        simpa [VD, Value.cells] using this.1
    · rename_i cnt' sz' xs hs
      split at h
      case h_2 => cases h
      rename_i hb
      simp only [Bool.and_eq_true] at hb
      have hb1 := beq_true hb.1
      have hb2 := beq_true hb.2
      subst hb1; subst hb2
      cases h
      have hsd : VD w G (.cptr (.arr cnt sz xs)) (μ n) := st.blks n _ hs
      rw [h2] at hsd
      obtain ⟨b', off, c', e1, e2, e3⟩ := hsd.cptr_inv
      simp at e1
      obtain ⟨rfl, rfl⟩ := e1
      refine ⟨G, st, Later.refl _ _ _ _, ?_⟩
      cases e2 with
      | arr g1 g2 g3 g4 =>
      cases g4
      rw [List.append_nil] at e3
      have := sl_of_part g1 g3 e3 lo len (by omega) (by omega) h6
      simpa [VD, Value.cells] using this.1
    · cases h
  | .agg l, S, S', μ, G, y, c, _, h, st, hc => by
    simp only [AV.toD] at h
    split at h
    case h_2 => cases h
    rename_i ds S1 hs
    cases h
    cases hc with
    | agg h1 h2 =>
    cases h2
    obtain ⟨G', g1, g2, g3⟩ := toDs_sound l hs st h1
    exact ⟨G', g1, g2, by simpa using CL.agg g3 .nil⟩
  | .ptr .., _, _, _, _, _, _, _, h, _, _ => by simp only [AV.toD] at h; cases h
  | .fn .., _, _, _, _, _, _, _, h, _, _ => by simp only [AV.toD] at h; cases h
  | .tup _, _, _, _, _, _, _, _, h, _, _ => by simp only [AV.toD] at h; cases h
where
  toDs_sound {B : Base} {w : World} : ∀ (l : List AV) {S S' : List Blk} {μ : Nat → Value} {G : Nat → Nat → Prop} {ys : List D} {c : List Value} {k0 : Nat}, AV.toDs k0 S l = some (ys, S') → St B S μ G w → CA μ S.length w G l c →
    ∃ G', St B S' μ G' w ∧ Later S μ G w S' μ G' w ∧ CL w G' ys c
  | [], S, S', μ, G, ys, c, _, h, st, hc => by
    simp only [AV.toDs] at h; cases h; cases hc; exact ⟨G, st, Later.refl _ _ _ _, .nil⟩
  | x :: l, S, S', μ, G, ys, c, _, h, st, hc => by
    simp only [AV.toDs] at h
    split at h
    case h_2 => cases h
    rename_i y S1 h1
    split at h
    case h_2 => cases h
    rename_i ys1 S2 h2
    cases h
    obtain ⟨c1, c2, rfl, g1, g2⟩ := hc.cons_inv
    obtain ⟨G1, a1, a2, a3⟩ := toD_sound x h1 st g1
    obtain ⟨G2, b1, b2, b3⟩ := toDs_sound l h2 a1 (g2.mono a2.k (fun i hi _ => a2.μ i hi) a2.g a2.cells)
    exact ⟨G2, b1, a2.trans b2, CL.append (a3.mono b2.g b2.cells) b3⟩

end Go.Ab

namespace Go.Ab
open Go.RowKit

theorem nbeq {a b : Nat} (h : Nat.beq a b = true) : a = b := Nat.eq_of_beq_eq_true h

def kindB : IntKind → IntKind → Bool
  | .i8, .i8 => true | .i16, .i16 => true | .i32, .i32 => true | .i64, .i64 => true
  | .u8, .u8 => true | .u16, .u16 => true | .u32, .u32 => true | .u64, .u64 => true
  | _, _ => false

theorem kindB_spec {a b : IntKind} (h : kindB a b = true) : a = b := by cases a <;> cases b <;> first | rfl | cases h

/-- The shape of data: what a type's values are. -/
inductive Ty where
  | bool
  | int (k : IntKind)
  | str
  | st (l : List Ty)
  | arr (n sz : Nat) (e : Ty)
  | sl (sz : Nat) (e : Ty)
  deriving Inhabited

mutual
def Ty.has : Ty → D → Prop
  | .bool, x => ∃ b, x = .bool b
  | .int k, x => ∃ n, x = .int k n ∧ (Lit.int k n).wf = true
  | .str, x => ∃ s : ByteArray, x = .str s ∧ s.size ≤ maxLen
  | .st l, x => ∃ ys, x = .agg ys ∧ Ty.hass l ys
  | .arr n sz e, x => ∃ ys, x = .arr n sz ys ∧ ys.length = n ∧ ∀ y ∈ ys, e.has y
  | .sl sz e, x => ∃ ys, x = .sl sz ys ∧ ys.length ≤ maxLen ∧ ∀ y ∈ ys, e.has y
def Ty.hass : List Ty → List D → Prop
  | [], ys => ys = []
  | t :: l, ys => ∃ y r, ys = y :: r ∧ t.has y ∧ Ty.hass l r
end

-- The same, without bounds.
mutual
def Ty.is : Ty → D → Prop
  | .bool, x => ∃ b, x = .bool b
  | .int k, x => ∃ n, x = .int k n
  | .str, x => ∃ s : ByteArray, x = .str s
  | .st l, x => ∃ ys, x = .agg ys ∧ Ty.iss l ys
  | .arr n sz e, x => ∃ ys, x = .arr n sz ys ∧ ys.length = n ∧ ∀ y ∈ ys, e.is y
  | .sl sz e, x => ∃ ys, x = .sl sz ys ∧ ∀ y ∈ ys, e.is y
def Ty.iss : List Ty → List D → Prop
  | [], ys => ys = []
  | t :: l, ys => ∃ y r, ys = y :: r ∧ t.is y ∧ Ty.iss l r
end

mutual
theorem Ty.has.toIs : ∀ {T : Ty} {x : D}, T.has x → T.is x
  | .bool, _, h => h
  | .int _, _, ⟨n, h, _⟩ => ⟨n, h⟩
  | .str, _, ⟨n, h, _⟩ => ⟨n, h⟩
  | .st _, _, ⟨ys, h, g⟩ => ⟨ys, h, Ty.hass.toIs g⟩
  | .arr _ _ _, _, ⟨ys, h, g, k⟩ => ⟨ys, h, g, fun y hy => (k y hy).toIs⟩
  | .sl _ _, _, ⟨ys, h, _, k⟩ => ⟨ys, h, fun y hy => (k y hy).toIs⟩
theorem Ty.hass.toIs : ∀ {l : List Ty} {xs : List D}, Ty.hass l xs → Ty.iss l xs
  | [], _, h => h
  | _ :: _, _, ⟨y, r, e, h, g⟩ => ⟨y, r, e, h.toIs, Ty.hass.toIs g⟩
end

mutual
def Ty.size : Ty → Nat
  | .st l => Ty.sizes l
  | .arr n sz _ => n * sz
  | _ => 1
def Ty.sizes : List Ty → Nat
  | [] => 0
  | t :: l => t.size + Ty.sizes l
end

mutual
def Ty.depth : Ty → Nat
  | .st l => Ty.depths l + 1
  | .arr _ _ e => e.depth + 1
  | _ => 0
def Ty.depths : List Ty → Nat
  | [] => 0
  | t :: l => t.depth + Ty.depths l + 1
end

def Ty.agg : Ty → Bool
  | .st _ => true
  | .arr .. => true
  | _ => false

mutual
def Ty.fit (tt : Nat → Option TI) : Ty → Nat → Bool
  | .bool, t => match tt t with
    | some i => Nat.beq i.size 1 && (match i.k with | .bool => true | _ => false)
    | none => false
  | .int k, t => match tt t with
    | some i => Nat.beq i.size 1 && (match i.k with | .int k' => kindB k k' | _ => false)
    | none => false
  | .str, t => match tt t with
    | some i => Nat.beq i.size 1 && (match i.k with | .str => true | _ => false)
    | none => false
  | .st l, t => match tt t with
    | some i => Nat.beq i.size (Ty.sizes l) && (match i.k with | .struct fs => Ty.fits tt l fs 0 | _ => false)
    | none => false
  | .arr n sz e, t => match tt t with
    | some i => Nat.beq i.size (n * sz) && (match i.k with | .arr n' e' => Nat.beq n n' && (Nat.beq sz e.size && e.fit tt e') | _ => false)
    | none => false
  | .sl sz e, t => match tt t with
    | some i => Nat.beq i.size 1 && (match i.k with | .slice e' => Nat.beq sz e.size && (Nat.blt 0 sz && e.fit tt e') | _ => false)
    | none => false
def Ty.fits (tt : Nat → Option TI) : List Ty → List (Nat × Nat × Bool) → Nat → Bool
  | [], [], _ => true
  | T :: l, (o', t, _) :: fs, o => Nat.beq o' o && (T.fit tt t && Ty.fits tt l fs (o + T.size))
  | _, _, _ => false
end

theorem Ty.fit_size {tt : Nat → Option TI} {T : Ty} {t : Nat} (h : T.fit tt t = true) : ∃ i, tt t = some i ∧ i.size = T.size := by
  cases T <;> simp only [Ty.fit] at h <;> split at h <;> first
    | (cases h; done)
    | (rename_i i hi; simp only [Bool.and_eq_true] at h; exact ⟨i, hi, nbeq h.1⟩)

theorem Ty.fit_agg {tt : Nat → Option TI} {T : Ty} {t : Nat} (hf : T.fit tt t = true) : ∃ i, tt t = some i ∧ i.k.agg = T.agg := by
  cases T <;> simp only [Ty.fit] at hf <;> split at hf <;> first
    | (cases hf; done)
    | (rename_i i hi; simp only [Bool.and_eq_true] at hf; refine ⟨i, hi, ?_⟩; have h3 := hf.2; split at h3 <;> first | (cases h3; done) | (rename_i hh; rw [hh]; rfl))

mutual
theorem Ty.is_size : ∀ (T : Ty) (x : D), T.is x → x.size = T.size
  | .bool, x, h => by obtain ⟨b, rfl⟩ := h; rfl
  | .int k, x, h => by obtain ⟨b, rfl⟩ := h; rfl
  | .str, x, h => by obtain ⟨b, rfl⟩ := h; rfl
  | .st l, x, h => by
    obtain ⟨ys, rfl, h⟩ := h
    exact Ty.iss_size l ys h
  | .arr n sz e, x, h => by obtain ⟨ys, rfl, _⟩ := h; rfl
  | .sl sz e, x, h => by obtain ⟨ys, rfl, _⟩ := h; rfl
theorem Ty.iss_size : ∀ (l : List Ty) (xs : List D), Ty.iss l xs → D.sizes xs = Ty.sizes l
  | [], xs, h => by
    have h : xs = [] := h
    subst h; rfl
  | T :: l, xs, h => by
    obtain ⟨y, r, rfl, h1, h2⟩ := h
    simp only [D.sizes, Ty.sizes, Ty.is_size T y h1, Ty.iss_size l r h2]
end

theorem Ty.has_size (T : Ty) (x : D) (h : T.has x) : x.size = T.size := T.is_size x h.toIs

theorem Ty.is_agg (T : Ty) (x : D) (h : T.is x) : x.isAgg = T.agg := by
  cases T
  case bool => obtain ⟨b, rfl⟩ := h; rfl
  case int => obtain ⟨b, rfl⟩ := h; rfl
  case str => obtain ⟨b, rfl⟩ := h; rfl
  all_goals (obtain ⟨ys, rfl, _⟩ := h; rfl)

theorem Ty.has_agg (T : Ty) (x : D) (h : T.has x) : x.isAgg = T.agg := T.is_agg x h.toIs

/-- Data compared. -/
noncomputable def deq (x y : D) : Bool := @decide (x = y) (Classical.propDecidable _)

theorem deq_true {x y : D} : deq x y = true ↔ x = y := by simp [deq]
theorem deq_false {x y : D} : deq x y = false ↔ x ≠ y := by simp [deq]

-- A type whose values are compared part by part.
mutual
def Ty.fitE (tt : Nat → Option TI) : Ty → Nat → Bool
  | .bool, t => Ty.fit tt .bool t
  | .int k, t => Ty.fit tt (.int k) t
  | .str, t => Ty.fit tt .str t
  | .st l, t => match tt t with
    | some i => i.eq && (Nat.beq i.size (Ty.sizes l) && (match i.k with | .struct fs => Ty.fitsE tt l fs 0 | _ => false))
    | none => false
  | .arr n sz e, t => match tt t with
    | some i => i.eq && (Nat.beq i.size (n * sz) && (match i.k with | .arr n' e' => Nat.beq n n' && (Nat.beq sz e.size && e.fitE tt e') | _ => false))
    | none => false
  | .sl _ _, _ => false
def Ty.fitsE (tt : Nat → Option TI) : List Ty → List (Nat × Nat × Bool) → Nat → Bool
  | [], [], _ => true
  | T :: l, (o', t, b) :: fs, o => Nat.beq o' o && (!b && (T.fitE tt t && Ty.fitsE tt l fs (o + T.size)))
  | _, _, _ => false
end

mutual
theorem Ty.fitE_fit {tt : Nat → Option TI} : ∀ {T : Ty} {t : Nat}, T.fitE tt t = true → T.fit tt t = true
  | .bool, _, h => h
  | .int k, _, h => h
  | .str, _, h => h
  | .st l, t, h => by
    simp only [Ty.fitE, Ty.fit] at h ⊢
    split at h
    case h_2 => cases h
    rename_i i hi
    simp only [Bool.and_eq_true] at h ⊢
    refine ⟨h.2.1, ?_⟩
    have h3 := h.2.2
    split at h3
    case h_2 => cases h3
    rename_i fs hk
    exact Ty.fitsE_fits h3
  | .arr n sz e, t, h => by
    simp only [Ty.fitE, Ty.fit] at h ⊢
    split at h
    case h_2 => cases h
    rename_i i hi
    simp only [Bool.and_eq_true] at h ⊢
    refine ⟨h.2.1, ?_⟩
    have h3 := h.2.2
    split at h3
    case h_2 => cases h3
    rename_i fs hk
    simp only [Bool.and_eq_true] at h3 ⊢
    exact ⟨h3.1, h3.2.1, Ty.fitE_fit h3.2.2⟩
  | .sl _ _, _, h => by cases h
theorem Ty.fitsE_fits {tt : Nat → Option TI} : ∀ {l : List Ty} {fs : List (Nat × Nat × Bool)} {o : Nat}, Ty.fitsE tt l fs o = true → Ty.fits tt l fs o = true
  | [], [], _, _ => rfl
  | T :: l, (o', t, b) :: fs, o, h => by
    simp only [Ty.fitsE, Ty.fits, Bool.and_eq_true] at h ⊢
    exact ⟨h.1, Ty.fitE_fit h.2.2.1, Ty.fitsE_fits h.2.2.2⟩
  | [], _ :: _, _, h => by cases h
  | _ :: _, [], _, h => by cases h
end

theorem run_part_ok {c : Ctx} (hc : c.ok) {T : Ty} {t : Nat} {w : World} {G : Nat → Nat → Prop} {y : D} {xs : Array Value} {o : Nat} {cs r : List Value} (hf : T.fit c.tt t = true) (hy : T.is y) (h : CL w G [y] cs) (hx : xs.toList.drop o = cs ++ r) :
    ∃ v, (part t xs o).run c.P w = .ok v w ∧ VD w G y v := by
  obtain ⟨i, hi, hs⟩ := Ty.fit_size hf
  obtain ⟨i', hi', ha⟩ := Ty.fit_agg hf
  rw [hi] at hi'
  cases hi'
  have hfit := hc t i hi
  have hya := Ty.is_agg T y hy
  have hlen := h.length
  simp only [D.sizes, Nat.add_zero, Ty.is_size T y hy] at hlen
  cases hb : T.agg with
  | true =>
    refine ⟨.agg (xs.extract o (o + i.size)), by simp [part, run_isAgg' hfit, ha, hb, run_sizeOf' hfit], ?_⟩
    have e : (xs.extract o (o + i.size)).toList = cs := by
      rw [Array.toList_extract, List.extract_eq_take_drop, hx, hs, ← hlen]
      simp
    refine ⟨by simp only [Value.cells]; rw [e]; exact h, by simp [vAgg, hya, hb]⟩
  | false =>
    obtain ⟨v, rfl, h1, h2⟩ := CL.single h (by rw [hya, hb])
    have e : xs[o]? = some v := by
      have : (xs.toList.drop o)[0]? = some v := by rw [hx]; rfl
      simpa using this
    exact ⟨v, by simp [part, run_isAgg' hfit, ha, hb, e], ⟨by rw [h2]; exact h, by rw [h1, hya, hb]⟩⟩

theorem VD.ty_int {w G k x v} (h : VD w G x v) (hx : Ty.is (.int k) x) : ∃ n, x = .int k n ∧ v = .int k n := by
  obtain ⟨n, rfl⟩ := hx
  obtain ⟨h1, h2⟩ := h
  refine ⟨n, rfl, ?_⟩
  generalize hq : v.cells.toList = q at h1
  cases h1 with
  | int h1 =>
    cases h1
    cases v <;> simp [vAgg, D.isAgg] at h2 <;> simp_all [Value.cells]

theorem VD.ty_bool {w G x v} (h : VD w G x v) (hx : Ty.is .bool x) : ∃ n, x = .bool n ∧ v = .bool n := by
  obtain ⟨n, rfl⟩ := hx
  obtain ⟨h1, h2⟩ := h
  refine ⟨n, rfl, ?_⟩
  generalize hq : v.cells.toList = q at h1
  cases h1 with
  | bool h1 =>
    cases h1
    cases v <;> simp [vAgg, D.isAgg] at h2 <;> simp_all [Value.cells]

theorem VD.ty_str {w G x v} (h : VD w G x v) (hx : Ty.is .str x) : ∃ n, x = .str n ∧ v = .string n := by
  obtain ⟨n, rfl⟩ := hx
  obtain ⟨h1, h2⟩ := h
  refine ⟨n, rfl, ?_⟩
  generalize hq : v.cells.toList = q at h1
  cases h1 with
  | str h1 =>
    cases h1
    cases v <;> simp [vAgg, D.isAgg] at h2 <;> simp_all [Value.cells]

theorem CL.agg_inv {w G l cs} (h : CL w G [.agg l] cs) : CL w G l cs := by
  generalize hq : [D.agg l] = q at h
  cases h with
  | agg h1 h2 =>
    simp only [List.cons.injEq, D.agg.injEq] at hq
    obtain ⟨rfl, rfl⟩ := hq
    cases h2
    simpa using h1
  | _ => simp at hq

theorem CL.arr_inv {w G n sz l cs} (h : CL w G [.arr n sz l] cs) : CL w G l cs := by
  generalize hq : [D.arr n sz l] = q at h
  cases h with
  | arr h1 h2 h3 h4 =>
    simp only [List.cons.injEq, D.arr.injEq] at hq
    obtain ⟨⟨rfl, rfl, rfl⟩, rfl⟩ := hq
    cases h4
    simpa using h1
  | _ => simp at hq

theorem kindB_refl (k : IntKind) : kindB k k = true := by cases k <;> rfl

mutual
theorem Ty.equalIn_ok {c : Ctx} (hc : c.ok) {w : World} {G : Nat → Nat → Prop} : ∀ (T : Ty) (t d : Nat) (x y : D) (vx vy : Value), T.fitE c.tt t = true → T.is x → T.is y → VD w G x vx → VD w G y vy → T.depth < d →
    (Op.equalIn d t vx vy).run c.P w = .ok (deq x y) w
  | .bool, t, d, x, y, vx, vy, hf, hx, hy, h1, h2, hd => by
    obtain ⟨a, rfl, rfl⟩ := h1.ty_bool hx
    obtain ⟨b, rfl, rfl⟩ := h2.ty_bool hy
    simp only [Ty.fitE, Ty.fit] at hf
    split at hf
    case h_2 => cases hf
    rename_i i hi
    obtain ⟨⟨dd, hu, hk⟩, _⟩ := hc t i hi
    simp only [Bool.and_eq_true] at hf
    rw [← hk] at hf
    cases dd <;> simp only [tkOf] at hf <;> first | (simp at hf; done) | skip
    cases d with
    | zero => omega
    | succ d =>
      rw [run_equalIn_bool w d t a b hu]
      congr 1
      by_cases e : a = b
      · subst e; simp [deq]
      · simp [deq, e]
  | .int k, t, d, x, y, vx, vy, hf, hx, hy, h1, h2, hd => by
    obtain ⟨a, rfl, rfl⟩ := h1.ty_int hx
    obtain ⟨b, rfl, rfl⟩ := h2.ty_int hy
    simp only [Ty.fitE, Ty.fit] at hf
    split at hf
    case h_2 => cases hf
    rename_i i hi
    obtain ⟨⟨dd, hu, hk⟩, _⟩ := hc t i hi
    simp only [Bool.and_eq_true] at hf
    rw [← hk] at hf
    cases dd <;> simp only [tkOf] at hf <;> first | (simp at hf; done) | skip
    cases d with
    | zero => omega
    | succ d =>
      rw [run_equalIn_int w d t k _ a b hu]
      congr 1
      by_cases e : a = b
      · subst e; simp [deq]
      · simp [deq, e]
  | .str, t, d, x, y, vx, vy, hf, hx, hy, h1, h2, hd => by
    obtain ⟨a, rfl, rfl⟩ := h1.ty_str hx
    obtain ⟨b, rfl, rfl⟩ := h2.ty_str hy
    simp only [Ty.fitE, Ty.fit] at hf
    split at hf
    case h_2 => cases hf
    rename_i i hi
    obtain ⟨⟨dd, hu, hk⟩, _⟩ := hc t i hi
    simp only [Bool.and_eq_true] at hf
    rw [← hk] at hf
    cases dd <;> simp only [tkOf] at hf <;> first | (simp at hf; done) | skip
    cases d with
    | zero => omega
    | succ d =>
      rw [run_equalIn_string w d t a b hu]
      congr 1
      by_cases e : a = b
      · subst e; simp [deq]
      · have : a.toList ≠ b.toList := by
          intro e'
          apply e
          rw [ByteArray.toList_eq, ByteArray.toList_eq] at e'
          cases a; cases b
          simp at e'
          rw [e']
        simp [deq, e, this]
  | .st l, t, d, x, y, vx, vy, hf, hx, hy, h1, h2, hd => by
    obtain ⟨xs, rfl, hx⟩ := hx
    obtain ⟨ys, rfl, hy⟩ := hy
    rcases h1.inv with ⟨_, cx, rfl, g1⟩ | ⟨e, _⟩
    case inr => simp [D.isAgg] at e
    rcases h2.inv with ⟨_, cy, rfl, g2⟩ | ⟨e, _⟩
    case inr => simp [D.isAgg] at e
    simp only [Ty.fitE] at hf
    split at hf
    case h_2 => cases hf
    rename_i i hi
    obtain ⟨⟨dd, hu, hk⟩, _⟩ := hc t i hi
    simp only [Bool.and_eq_true] at hf
    obtain ⟨f1, f2, f3⟩ := hf
    have hflag := ((hc.flags t i hi).1 f1).1
    rw [← hk] at f3
    cases dd <;> simp only [tkOf] at f3 <;> first | (simp at f3; done) | skip
    rename_i fs
    have hfo : c.P.fieldsOf t = fs := by simp [Program.fieldsOf, hu]
    cases d with
    | zero => omega
    | succ d =>
      rw [run_equalIn_struct w d t cx cy (by rw [hfo]; exact hu) hflag, hfo]
      have := Ty.eqFields_ok hc l fs.toList d xs ys cx cy 0 f3 hx hy (by simpa using g1.agg_inv) (by simpa using g2.agg_inv) (by simp only [Ty.depth] at hd; omega)
      rw [this]
      congr 1
      by_cases e : xs = ys
      · subst e; simp [deq]
      · simp [deq, e]
  | .arr n sz e, t, d, x, y, vx, vy, hf, hx, hy, h1, h2, hd => by
    obtain ⟨xs, rfl, hxl, hx⟩ := hx
    obtain ⟨ys, rfl, hyl, hy⟩ := hy
    rcases h1.inv with ⟨_, cx, rfl, g1⟩ | ⟨e, _⟩
    case inr => simp [D.isAgg] at e
    rcases h2.inv with ⟨_, cy, rfl, g2⟩ | ⟨e, _⟩
    case inr => simp [D.isAgg] at e
    simp only [Ty.fitE] at hf
    split at hf
    case h_2 => cases hf
    rename_i i hi
    obtain ⟨⟨dd, hu, hk⟩, _⟩ := hc t i hi
    simp only [Bool.and_eq_true] at hf
    obtain ⟨_, f2, f3⟩ := hf
    rw [← hk] at f3
    cases dd <;> simp only [tkOf] at f3 <;> first | (simp at f3; done) | skip
    rename_i n' e'
    simp only [Bool.and_eq_true] at f3
    obtain ⟨f3, f4, f5⟩ := f3
    obtain rfl := nbeq f3
    have hse := nbeq f4
    obtain ⟨ie, hie, hies⟩ := Ty.fit_size (Ty.fitE_fit f5)
    obtain ⟨_, infe, hinfe, hsze, _⟩ := hc e' ie hie
    have hce : c.P.cellsOf e' = sz := by rw [hse, ← hies, ← hsze]; simp [Program.cellsOf, hinfe]
    cases d with
    | zero => omega
    | succ d =>
      rw [run_equalIn_array w d cx cy hu hinfe, hce]
      have key : ∀ (m k : Nat) (as bs : List D), as.length = m → bs.length = m → (∀ a ∈ as, e.is a) → (∀ b ∈ bs, e.is b) → CL w G as (cx.toList.drop (k * sz)) → CL w G bs (cy.toList.drop (k * sz)) →
          (Op.eqItems d e' sz cx cy (List.range' k m)).run c.P w = .ok (@decide (as = bs) (Classical.propDecidable _)) w := by
        intro m
        induction m with
        | zero =>
          intro k as bs h1 h2 _ _ _ _
          obtain rfl := List.eq_nil_of_length_eq_zero h1
          obtain rfl := List.eq_nil_of_length_eq_zero h2
          simp [Op.eqItems, List.range']
        | succ m ih =>
          intro k as bs h1 h2 h3 h4 h5 h6
          cases as with
          | nil => simp at h1
          | cons a as =>
            cases bs with
            | nil => simp at h2
            | cons b bs =>
              obtain ⟨ca, da, e1, h7, h8⟩ := h5.cons_inv
              obtain ⟨cb, db, e2, h9, h10⟩ := h6.cons_inv
              obtain ⟨va, p1, p2⟩ := run_part_ok hc (Ty.fitE_fit f5) (h3 a (by simp)) h7 e1
              obtain ⟨vb, q1, q2⟩ := run_part_ok hc (Ty.fitE_fit f5) (h4 b (by simp)) h9 e2
              have la := h7.length
              have lb := h9.length
              simp only [D.sizes, Nat.add_zero, Ty.is_size e a (h3 a (by simp)), Ty.is_size e b (h4 b (by simp)), ← hse] at la lb
              have eq1 := Ty.equalIn_ok hc e e' d a b va vb f5 (h3 a (by simp)) (h4 b (by simp)) p2 q2 (by simp only [Ty.depth] at hd; omega)
              simp only [List.range', Op.eqItems, Sem.run_bind, p1, q1, eq1, Result.andThen_ok]
              have dd1 : cx.toList.drop ((k + 1) * sz) = da := by
                rw [Nat.add_mul, Nat.one_mul, ← List.drop_drop, e1, ← la]; simp
              have dd2 : cy.toList.drop ((k + 1) * sz) = db := by
                rw [Nat.add_mul, Nat.one_mul, ← List.drop_drop, e2, ← lb]; simp
              have hrec := ih (k + 1) as bs (by simpa using h1) (by simpa using h2) (fun z hz => h3 z (by simp [hz])) (fun z hz => h4 z (by simp [hz])) (by rw [dd1]; exact h8) (by rw [dd2]; exact h10)
              by_cases eab : a = b
              · subst eab
                simp only [deq, decide_true, Bool.not_true, Bool.false_eq_true, if_false, hrec]
                congr 1
                by_cases ers : as = bs
                · subst ers; simp
                · simp [ers]
              · simp [deq, eab]
      have := key n 0 xs ys hxl hyl hx hy (by simpa using g1.arr_inv) (by simpa using g2.arr_inv)
      rw [List.range_eq_range', this]
      congr 1
      by_cases e : xs = ys
      · subst e; simp [deq]
      · simp [deq, e]
  | .sl _ _, _, _, _, _, _, _, hf, _, _, _, _, _ => by cases hf
theorem Ty.eqFields_ok {c : Ctx} (hc : c.ok) {w : World} {G : Nat → Nat → Prop} : ∀ (l : List Ty) (fs : List Field) (d : Nat) (xs ys : List D) (cx cy : Array Value) (o : Nat), Ty.fitsE c.tt l (fs.map fun f => (f.offset, f.type, f.name == "_")) o = true →
    Ty.iss l xs → Ty.iss l ys → CL w G xs (cx.toList.drop o) → CL w G ys (cy.toList.drop o) → Ty.depths l < d + 1 → (Op.eqFields d cx cy fs).run c.P w = .ok (@decide (xs = ys) (Classical.propDecidable _)) w
  | [], [], d, xs, ys, cx, cy, o, hf, hx, hy, h1, h2, hd => by
    have hx : xs = [] := hx
    have hy : ys = [] := hy
    subst hx; subst hy
    simp [Op.eqFields]
  | T :: l, f :: fs, d, xs, ys, cx, cy, o, hf, hx, hy, h1, h2, hd => by
    obtain ⟨a, as, rfl, ha, has⟩ := hx
    obtain ⟨b, bs, rfl, hb, hbs⟩ := hy
    simp only [List.map_cons, Ty.fitsE, Bool.and_eq_true, Bool.not_eq_true', beq_eq_false_iff_ne] at hf
    obtain ⟨f1, f2, f3, f4⟩ := hf
    have ho := nbeq f1
    obtain ⟨ca, da, e1, h7, h8⟩ := h1.cons_inv
    obtain ⟨cb, db, e2, h9, h10⟩ := h2.cons_inv
    rw [← ho] at e1 e2
    obtain ⟨va, p1, p2⟩ := run_part_ok hc (Ty.fitE_fit f3) ha h7 e1
    obtain ⟨vb, q1, q2⟩ := run_part_ok hc (Ty.fitE_fit f3) hb h9 e2
    have la := h7.length
    have lb := h9.length
    simp only [D.sizes, Nat.add_zero, Ty.is_size T a ha, Ty.is_size T b hb] at la lb
    have eq1 := Ty.equalIn_ok hc T f.type d a b va vb f3 ha hb p2 q2 (by simp only [Ty.depths] at hd; omega)
    have dd1 : cx.toList.drop (o + T.size) = da := by
      rw [← List.drop_drop, ← ho, e1, ← la]; simp
    have dd2 : cy.toList.drop (o + T.size) = db := by
      rw [← List.drop_drop, ← ho, e2, ← lb]; simp
    have hrec := Ty.eqFields_ok hc l fs d as bs cx cy (o + T.size) f4 has hbs (by rw [dd1]; exact h8) (by rw [dd2]; exact h10) (by simp only [Ty.depths] at hd; omega)
    simp only [Op.eqFields, if_pos f2, Sem.run_bind, p1, q1, eq1, Result.andThen_ok]
    by_cases eab : a = b
    · subst eab
      simp only [deq, decide_true, Bool.not_true, Bool.false_eq_true, if_false, hrec]
      congr 1
      by_cases ers : as = bs
      · subst ers; simp
      · simp [ers]
    · simp [deq, eab]
  | [], _ :: _, _, _, _, _, _, _, h, _, _, _, _, _ => by cases h
  | _ :: _, [], _, _, _, _, _, _, h, _, _, _, _, _ => by cases h
end

end Go.Ab

namespace Go.Ab
open Go.RowKit

/-- What a binary operator gives, on data. -/
def evBin (op : BinOp) (x y : D) (K : D → Prop) : Prop :=
  match x, y with
  | .int k a, .int k' b =>
    match op with
    | .shl => 0 ≤ b ∧ K (.int k (k.wrap (a * 2 ^ (min b.toNat k.bits))))
    | .shr => 0 ≤ b ∧ K (.int k (a.fdiv (2 ^ (min b.toNat k.bits))))
    | op => match kindB k k' with
      | false => False
      | true => match op with
        | .add => K (.int k (k.wrap (a + b)))
        | .sub => K (.int k (k.wrap (a - b)))
        | .mul => K (.int k (k.wrap (a * b)))
        | .quo => b ≠ 0 ∧ K (.int k (k.wrap (a.tdiv b)))
        | .rem => b ≠ 0 ∧ K (.int k (a.tmod b))
        | .and => K (.int k (k.wrap (BitVec.ofInt k.bits a &&& BitVec.ofInt k.bits b).toNat))
        | .or => K (.int k (k.wrap (BitVec.ofInt k.bits a ||| BitVec.ofInt k.bits b).toNat))
        | .xor => K (.int k (k.wrap (BitVec.ofInt k.bits a ^^^ BitVec.ofInt k.bits b).toNat))
        | .andNot => K (.int k (k.wrap (BitVec.ofInt k.bits a &&& ~~~(BitVec.ofInt k.bits b)).toNat))
        | .eql => K (.bool (a == b))
        | .neq => K (.bool (a != b))
        | .lss => K (.bool (decide (a < b)))
        | .leq => K (.bool (decide (a ≤ b)))
        | .gtr => K (.bool (decide (a > b)))
        | .geq => K (.bool (decide (a ≥ b)))
        | _ => False
  | .str a, .str b =>
    match op with
    | .add => a.size + b.size ≤ 9223372036854775807 ∧ K (.str (a ++ b))
    | .eql => K (.bool (decide (a = b)))
    | .neq => K (.bool (!decide (a = b)))
    | _ => False
  | .bool a, .bool b =>
    match op with
    | .eql => K (.bool (a == b))
    | .neq => K (.bool (!(a == b)))
    | _ => False
  | _, _ => False

theorem toList_beq (a b : ByteArray) : (a.toList == b.toList) = decide (a = b) := by
  rw [ByteArray.toList_eq, ByteArray.toList_eq]
  by_cases h : a = b
  · subst h; simp
  · rw [decide_eq_false h, beq_eq_false_iff_ne]
    intro e
    apply h
    cases a; cases b
    simp at e
    rw [e]

theorem run_eqGuard_int (P : Program) (op : BinOp) (t : TypeId) (x y : Operand) (k k' : IntKind) (a b : Int) (w : World) : (eqGuard op t x y (.int k a) (.int k' b)).run P w = .ok () w := by
  unfold eqGuard; cases op <;> rfl
theorem run_eqGuard_str (P : Program) (op : BinOp) (t : TypeId) (x y : Operand) (a b : ByteArray) (w : World) : (eqGuard op t x y (.string a) (.string b)).run P w = .ok () w := by
  unfold eqGuard; cases op <;> rfl
theorem run_eqGuard_bool (P : Program) (op : BinOp) (t : TypeId) (x y : Operand) (a b : Bool) (w : World) : (eqGuard op t x y (.bool a) (.bool b)).run P w = .ok () w := by
  unfold eqGuard; cases op <;> rfl

theorem run_equalIn_bool' {P : Program} {t : TypeId} (hu : P.underlying t = some .bool) (a b : Bool) (d : Nat) (w : World) : (Op.equalIn (d + 1) t (.bool a) (.bool b)).run P w = .ok (a == b) w := by
  simp only [Op.equalIn, Sem.run_bind, run_underlying hu, Result.andThen_ok]
  rfl

theorem run_equal_bool {P : Program} {t : TypeId} (hu : P.underlying t = some .bool) (a b : Bool) (w : World) : (Op.equal t (.bool a) (.bool b)).run P w = .ok (a == b) w :=
  run_equalIn_bool' hu a b 9999 w

theorem run_bin_eql_bool {P : Program} {t : TypeId} (hu : P.underlying t = some .bool) (a b : Bool) (w : World) : (binOp .eql t (.bool a) (.bool b)).run P w = .ok (.bool (a == b)) w := by
  show (Op.equal t (.bool a) (.bool b) >>= fun r => pure (Value.bool r)).run P w = _
  rw [Sem.run_bind, run_equal_bool hu]
  rfl

theorem run_bin_neq_bool {P : Program} {t : TypeId} (hu : P.underlying t = some .bool) (a b : Bool) (w : World) : (binOp .neq t (.bool a) (.bool b)).run P w = .ok (.bool (!(a == b))) w := by
  show (Op.equal t (.bool a) (.bool b) >>= fun r => pure (Value.bool (!r))).run P w = _
  rw [Sem.run_bind, run_equal_bool hu]
  rfl

theorem evBin_sound {P : Program} {op : BinOp} {t : TypeId} {ox oy : Operand} {x y : D} {K : D → Prop} {w : World} {G} {vx vy : Value}
    (hb : ∀ a b, x = .bool a → y = .bool b → P.underlying t = some .bool) (h : evBin op x y K)
    (hx : VD w G x vx) (hy : VD w G y vy) : ∃ z v, K z ∧ (do eqGuard op t ox oy vx vy; binOp op t vx vy : Sem Value).run P w = .ok v w ∧ VD w G z v := by
  unfold evBin at h
  split at h
  · -- integers
    rename_i k a k' b
    have e1 := hx.int_inv; have e2 := hy.int_inv
    subst e1; subst e2
    simp only [Sem.run_bind, run_eqGuard_int, Result.andThen_ok]
    cases op <;> simp only at h
    case shl => exact ⟨_, .int k _, h.2, by simp [binOp, Op.shift, Int.not_lt.2 h.1], VD.int⟩
    case shr => exact ⟨_, .int k _, h.2, by simp [binOp, Op.shift, Int.not_lt.2 h.1], VD.int⟩
    all_goals
      cases hk : kindB k k' with
      | false => rw [hk] at h; exact h.elim
      | true =>
        rw [hk] at h
        have := kindB_spec hk
        subst this
        simp only at h
        first
          | exact h.elim
          | exact ⟨_, .int k _, h, by simp only [binOp, ne_eq, not_true_eq_false, if_false, Op.intArith]; rfl, VD.int⟩
          | exact ⟨_, .int k _, h.2, by simp [binOp, Op.intDiv, h.1], VD.int⟩
          | exact ⟨_, .int k _, h, by simp only [binOp, ne_eq, not_true_eq_false, if_false]; rfl, VD.int⟩
          | exact ⟨_, .bool _, h, by simp [binOp, Op.intCmp], VD.bool⟩
  · rename_i a b
    have e1 := hx.str_inv; have e2 := hy.str_inv
    subst e1; subst e2
    simp only [Sem.run_bind, run_eqGuard_str, Result.andThen_ok]
    cases op <;> simp only at h
    case add =>
      refine ⟨_, .string (a ++ b), h.2, ?_, VD.str⟩
      have : ¬ (((a.size + b.size : Nat) : Int) > IntKind.i64.max) := by
        have := h.1
        simp only [IntKind.max, IntKind.signed, IntKind.bits, if_true]
        omega
      simp only [binOp, Op.stringOp]
      rw [if_neg this]
      rfl
    case eql => exact ⟨_, .bool (decide (a = b)), h, by simp only [binOp, Op.stringOp, toList_beq]; rfl, VD.bool⟩
    case neq => exact ⟨_, .bool (!decide (a = b)), h, by simp only [binOp, Op.stringOp, toList_beq]; rfl, VD.bool⟩
    all_goals exact h.elim
  · rename_i a b
    have e1 := hx.bool_inv; have e2 := hy.bool_inv
    subst e1; subst e2
    simp only [Sem.run_bind, run_eqGuard_bool, Result.andThen_ok]
    have hu := hb a b rfl rfl
    cases op <;> simp only at h
    case eql => exact ⟨_, .bool (a == b), h, run_bin_eql_bool hu a b w, VD.bool⟩
    case neq => exact ⟨_, .bool (!(a == b)), h, run_bin_neq_bool hu a b w, VD.bool⟩
    all_goals exact h.elim
  · exact h.elim

def isBoolTK : TK → Bool
  | .bool => true
  | _ => false

/-- Equality's answer. -/
def wB (op : BinOp) (b : Bool) (K : AV → Prop) : Prop :=
  match op with
  | .eql => K (.d (.bool b))
  | .neq => K (.d (.bool (!b)))
  | _ => False

def wEqT (c : Ctx) (op : BinOp) (t : TypeId) (x y : D) (K : AV → Prop) : Prop :=
  (∃ T : Ty, T.fitE c.tt t = true ∧ Nat.blt T.depth 9999 = true ∧ T.is x ∧ T.is y) ∧ wB op (deq x y) K

def wEqI (c : Ctx) (op : BinOp) (t : TypeId) (x y : D) (K : AV → Prop) : Prop :=
  match c.tt t with
  | some i => match i.k with
    | .iface e => match x, y with
      | .nilI, .nilI => match e with
        | true => wB op true K
        | false => False
      | .nilI, .iface _ _ => wB op false K
      | .iface _ _, .nilI => wB op false K
      | .iface ta a, .iface tb b => match Nat.beq ta tb with
        | false => wB op false K
        | true => match c.tt ta with
          | some ia => match ia.cmp with
            | true => (∃ T : Ty, T.fitE c.tt ta = true ∧ Nat.blt T.depth 9999 = true ∧ T.is a ∧ T.is b) ∧ wB op (deq a b) K
            | false => False
          | none => False
      | _, _ => False
    | _ => False
  | none => False

/-- The literal nil of an interface type. -/
def nilLit : Operand → Bool
  | .const .nilIface => true
  | _ => false
theorem nilLit_inv {y : Operand} (h : nilLit y = true) : y = .const .nilIface := by
  unfold nilLit at h
  split at h
  · rfl
  · cases h
/-- A value of an interface type beside the literal nil. -/
def wNilL (c : Ctx) (op : BinOp) (t : TypeId) (x : Option AV) (K : AV → Prop) : Prop :=
  match c.tt t with
  | some i => match i.k with
    | .iface _ => match x with
      | some (.d .nilI) => wB op true K
      | some (.d (.iface _ _)) => wB op false K
      | _ => False
    | _ => False
  | none => False

def wEqP (c : Ctx) (op : BinOp) (t : TypeId) (b : Bool) (K : AV → Prop) : Prop :=
  match c.tt t with
  | some i => match i.k with
    | .ptr _ => wB op b K
    | _ => False
  | none => False

/-- 'K' of what an operation gives. -/
def wBin (c : Ctx) (op : BinOp) (t : TypeId) (x y : Option AV) (K : AV → Prop) : Prop :=
  match x, y with
  | some (.d x), some (.d y) =>
    match x with
    | .bool _ => match c.tt t with
      | some i => match isBoolTK i.k with | true => evBin op x y fun z => K (.d z) | false => False
      | none => False
    | .agg _ => wEqT c op t x y K
    | .arr _ _ _ => wEqT c op t x y K
    | .nilI => wEqI c op t x y K
    | .iface _ _ => wEqI c op t x y K
    | .nilP => match y with
      | .nilP => wEqP c op t true K
      | .cptr _ => wEqP c op t false K
      | _ => False
    | .cptr _ => match y with
      | .nilP => wEqP c op t false K
      | _ => False
    | x => evBin op x y fun z => K (.d z)
  | some (.ptr _ _), some (.d y) => match y with
    | .nilP => wEqP c op t false K
    | _ => False
  | some (.d x), some (.ptr _ _) => match x with
    | .nilP => wEqP c op t false K
    | _ => False
  | _, _ => False

theorem tkOf_bool {d : TypeDesc} (h : isBoolTK (tkOf d) = true) : d = .bool := by
  cases d <;> simp [tkOf, isBoolTK] at h ⊢

section
variable {B : Base} {N : Nat} {env : Env} {S : List Blk} {K : Option AV → List Blk → Prop} {op : BinOp} {t : TypeId} {x y : Operand} {yt : TypeId} {o : Oper}

/-- From the equality of two values to the rule. -/
theorem wB_sound {b : Bool} (ho : o.op = .binOp op t x y yt) (h : wB op b fun v => K (some v) S)
    (hr : ∀ (μ : Nat → Value) (G : Nat → Nat → Prop) (a : Act) (w : World), At1 B N env S μ G a w →
      (eqGuard op t x y (a.eval x) (a.eval y)).run B.c.P w = .ok () w ∧ (Op.equal t (a.eval x) (a.eval y)).run B.c.P w = .ok b w ∧
      (binOp .eql t (a.eval x) (a.eval y)).run B.c.P w = ((Op.equal t (a.eval x) (a.eval y)).run B.c.P w).andThen (fun r w' => .ok (.bool r) w') ∧
      (binOp .neq t (a.eval x) (a.eval y)).run B.c.P w = ((Op.equal t (a.eval x) (a.eval y)).run B.c.P w).andThen (fun r w' => .ok (.bool (!r)) w')) : OpsTo B N o env S K := by
  unfold wB at h
  split at h
  · refine opsTo_pure h fun μ G a w st => ⟨.bool b, ?_, VD.bool.ra⟩
    obtain ⟨h1, h2, h3, _⟩ := hr μ G a w st
    simp only [execOp, ho, Sem.run_bind, h1, Result.andThen_ok, h3, h2, Sem.run_pure]
  · refine opsTo_pure h fun μ G a w st => ⟨.bool (!b), ?_, VD.bool.ra⟩
    obtain ⟨h1, h2, _, h3⟩ := hr μ G a w st
    simp only [execOp, ho, Sem.run_bind, h1, Result.andThen_ok, h3, h2, Sem.run_pure]
  · exact h.elim

theorem VD.isVAgg {w G x v} (h : VD w G x v) (hx : x.isAgg = true) : ∃ cs, v = .agg cs := by
  rcases h.inv with ⟨_, cs, rfl, _⟩ | ⟨e, _⟩
  · exact ⟨cs, rfl⟩
  · rw [hx] at e; cases e

theorem wEqT_sound {dx dy : D} (hc : B.c.ok) (ho : o.op = .binOp op t x y yt) (hx : evalA B.c env x = some (.d dx)) (hy : evalA B.c env y = some (.d dy)) (hax : dx.isAgg = true)
    (h : wEqT B.c op t dx dy fun v => K (some v) S) : OpsTo B N o env S K := by
  obtain ⟨⟨T, h1, h2, h3, h4⟩, h5⟩ := h
  refine wB_sound ho h5 fun μ G a w st => ?_
  have vx := (evalA_sound st hx).vd
  have vy := (evalA_sound st hy).vd
  have hay : dy.isAgg = true := by rw [Ty.is_agg T dy h4, ← Ty.is_agg T dx h3]; exact hax
  have heq := Ty.equalIn_ok hc T t 10000 dx dy _ _ h1 h3 h4 vx vy (by have := Nat.le_of_ble_eq_true h2; omega)
  obtain ⟨cx, ex⟩ := vx.isVAgg hax
  obtain ⟨cy, ey⟩ := vy.isVAgg hay
  rw [ex, ey] at heq ⊢
  have hfl : B.c.P.eqGuardType B.c.P.depth t = false := by
    have hagg : T.agg = true := by rw [← Ty.is_agg T dx h3]; exact hax
    cases T <;> simp only [Ty.agg, Bool.false_eq_true] at hagg <;> simp only [Ty.fitE] at h1 <;> split at h1 <;> first
      | (cases h1; done)
      | (rename_i i hi; simp only [Bool.and_eq_true] at h1; exact ((hc.flags t i hi).1 h1.1).2)
  exact ⟨run_eqGuard_agg w op t x y cx cy hfl, heq, run_eql_struct w t cx cy, run_neq_struct w t cx cy⟩

theorem VD.cptr_inv' {w G x v} (h : VD w G (.cptr x) v) : ∃ a, v = .pointer (some a) := by
  obtain ⟨b, off, c, e, _⟩ := h.cptr_inv
  exact ⟨_, e⟩

def notNum : Value → Bool
  | .nilIface => true
  | .iface _ _ => true
  | .pointer _ => true
  | _ => false

theorem binEq_run {P : Program} {t : TypeId} {w : World} {vx vy : Value} (h : notNum vx = true) :
    (binOp .eql t vx vy).run P w = ((Op.equal t vx vy).run P w).andThen (fun r w' => .ok (.bool r) w') ∧
    (binOp .neq t vx vy).run P w = ((Op.equal t vx vy).run P w).andThen (fun r w' => .ok (.bool (!r)) w') := by
  have e1 : binOp .eql t vx vy = (Op.equal t vx vy >>= fun r => pure (.bool r)) := by
    cases vx <;> simp only [notNum, Bool.false_eq_true] at h <;> cases vy <;> rfl
  have e2 : binOp .neq t vx vy = (Op.equal t vx vy >>= fun r => pure (.bool (!r))) := by
    cases vx <;> simp only [notNum, Bool.false_eq_true] at h <;> cases vy <;> rfl
  rw [e1, e2, Sem.run_bind, Sem.run_bind]
  exact ⟨rfl, rfl⟩

section
variable {P : Program} {t : TypeId} {w : World}
theorem eqIn_nn {ms} (h : P.underlying t = some (.interface ms)) (d : Nat) : (Op.equalIn (d + 1) t .nilIface .nilIface).run P w = .ok true w := by
  simp only [Op.equalIn, Sem.run_bind, run_underlying h, Result.andThen_ok]; rfl
theorem eqIn_ni {ms} (h : P.underlying t = some (.interface ms)) (d : Nat) (ta u) : (Op.equalIn (d + 1) t .nilIface (.iface ta u)).run P w = .ok false w := by
  simp only [Op.equalIn, Sem.run_bind, run_underlying h, Result.andThen_ok]; rfl
theorem eqIn_in {ms} (h : P.underlying t = some (.interface ms)) (d : Nat) (ta u) : (Op.equalIn (d + 1) t (.iface ta u) .nilIface).run P w = .ok false w := by
  simp only [Op.equalIn, Sem.run_bind, run_underlying h, Result.andThen_ok]; rfl
theorem eqIn_ne {ms} (h : P.underlying t = some (.interface ms)) (d : Nat) {ta tb : TypeId} (hn : ta ≠ tb) (u v : Value) : (Op.equalIn (d + 1) t (.iface ta u) (.iface tb v)).run P w = .ok false w := by
  simp only [Op.equalIn, Sem.run_bind, run_underlying h, Result.andThen_ok]
  rw [if_pos hn]; rfl
theorem eqIn_ii {ms} (h : P.underlying t = some (.interface ms)) (d : Nat) {ta : TypeId} {info : TypeInfo} (hi : P.info? ta = some info) (hcmp : info.comparable = true) (u v : Value) :
    (Op.equalIn (d + 1) t (.iface ta u) (.iface ta v)).run P w = (Op.equalIn d ta u v).run P w := by
  simp only [Op.equalIn, Sem.run_bind, run_underlying h, Result.andThen_ok, ne_eq, not_true_eq_false, if_false, run_typeInfo w hi, hcmp, Bool.not_true, Bool.false_eq_true]
theorem eqIn_pp {e} (h : P.underlying t = some (.pointer e)) (d : Nat) : (Op.equalIn (d + 1) t (.pointer none) (.pointer none)).run P w = .ok true w := by
  simp only [Op.equalIn, Sem.run_bind, run_underlying h, Result.andThen_ok]; rfl
theorem eqIn_pn {e} (h : P.underlying t = some (.pointer e)) (d : Nat) (p) : (Op.equalIn (d + 1) t (.pointer (some p)) (.pointer none)).run P w = .ok false w := by
  simp only [Op.equalIn, Sem.run_bind, run_underlying h, Result.andThen_ok]; rfl
theorem eqIn_np {e} (h : P.underlying t = some (.pointer e)) (d : Nat) (p) : (Op.equalIn (d + 1) t (.pointer none) (.pointer (some p))).run P w = .ok false w := by
  simp only [Op.equalIn, Sem.run_bind, run_underlying h, Result.andThen_ok]; rfl
theorem eqGuard_nn {ms} (h : P.underlying t = some (.interface ms)) (he : ms.isEmpty = true) (op : BinOp) (x y : Operand) : (eqGuard op t x y .nilIface .nilIface).run P w = .ok () w := by
  have hg : ∀ d, (Op.eqGuardIn (d + 1) t .nilIface .nilIface).run P w = .ok false w := by
    intro d
    simp only [Op.eqGuardIn, Sem.run_bind, run_underlying h, Result.andThen_ok, Sem.run_pure, he]
    rfl
  have hg := hg 9999
  have inner : ∀ b : Bool, ((if b = true then pure () else do if ← Op.eqGuardIn Op.maxDepth t .nilIface .nilIface then unsupported (.noEntry "binop/eql: two nil values of an interface type with methods, neither of them the literal nil") : Sem Unit)).run P w = .ok () w := by
    intro b
    cases b
    · simp only [Bool.false_eq_true, if_false]
      rw [Sem.run_bind]
      show ((Op.eqGuardIn (9999 + 1) t .nilIface .nilIface).run P w).andThen _ = _
      rw [hg]
      rfl
    · rfl
  unfold eqGuard
  cases op <;> first | rfl | exact inner _
end

theorem wEqI_sound {dx dy : D} (hc : B.c.ok) (ho : o.op = .binOp op t x y yt) (hx : evalA B.c env x = some (.d dx)) (hy : evalA B.c env y = some (.d dy))
    (h : wEqI B.c op t dx dy fun v => K (some v) S) : OpsTo B N o env S K := by
  unfold wEqI at h
  split at h
  case h_2 => exact h.elim
  rename_i i hi
  split at h
  case h_2 => exact h.elim
  rename_i e hk
  obtain ⟨⟨d, h1, h2⟩, _⟩ := hc t i hi
  rw [hk] at h2
  cases d <;> simp [tkOf] at h2
  rename_i ms
  split at h
  · split at h
    case h_2 => exact h.elim
    refine wB_sound ho h fun μ G a w st => ?_
    have vx := (evalA_sound st hx).vd.nilI_inv
    have vy := (evalA_sound st hy).vd.nilI_inv
    rw [vx, vy]
    exact ⟨eqGuard_nn h1 (by simpa using h2) op x y, eqIn_nn h1 9999, binEq_run rfl⟩
  · refine wB_sound ho h fun μ G a w st => ?_
    have vx := (evalA_sound st hx).vd.nilI_inv
    obtain ⟨u, vy, _⟩ := (evalA_sound st hy).vd.iface_inv
    rw [vx, vy]
    exact ⟨by unfold eqGuard; cases op <;> rfl, eqIn_ni h1 9999 _ _, binEq_run rfl⟩
  · refine wB_sound ho h fun μ G a w st => ?_
    obtain ⟨u, vx, _⟩ := (evalA_sound st hx).vd.iface_inv
    have vy := (evalA_sound st hy).vd.nilI_inv
    rw [vx, vy]
    exact ⟨by unfold eqGuard; cases op <;> rfl, eqIn_in h1 9999 _ _, binEq_run rfl⟩
  · rename_i ta da tb db
    split at h
    · rename_i hb
      have hne : ta ≠ tb := fun e => by subst e; rw [Nat.beq_refl] at hb; cases hb
      refine wB_sound ho h fun μ G a w st => ?_
      obtain ⟨u, vx, _⟩ := (evalA_sound st hx).vd.iface_inv
      obtain ⟨u', vy, _⟩ := (evalA_sound st hy).vd.iface_inv
      rw [vx, vy]
      exact ⟨by unfold eqGuard; cases op <;> rfl, eqIn_ne h1 9999 hne _ _, binEq_run rfl⟩
    · rename_i hb
      have := nbeq hb
      subst this
      split at h
      case h_2 => exact h.elim
      rename_i ia hia
      split at h
      case h_2 => exact h.elim
      rename_i hcmp
      obtain ⟨⟨T, g1, g2, g3, g4⟩, g5⟩ := h
      obtain ⟨info, hinfo, hcomp⟩ := (hc.flags ta ia hia).2 hcmp
      refine wB_sound ho g5 fun μ G a w st => ?_
      obtain ⟨u, vx, wx⟩ := (evalA_sound st hx).vd.iface_inv
      obtain ⟨u', vy, wy⟩ := (evalA_sound st hy).vd.iface_inv
      rw [vx, vy]
      have heq := Ty.equalIn_ok hc T ta 9999 da db _ _ g1 g3 g4 wx wy (Nat.le_of_ble_eq_true g2)
      exact ⟨by unfold eqGuard; cases op <;> rfl, (eqIn_ii h1 9999 hinfo hcomp _ _).trans heq, binEq_run rfl⟩
  · exact h.elim

/-- A value that is a pointer, nil or not. -/
theorem wEqP_sound {b : Bool} (hc : B.c.ok) (ho : o.op = .binOp op t x y yt) (h : wEqP B.c op t b fun v => K (some v) S)
    (hv : ∀ (μ : Nat → Value) (G : Nat → Nat → Prop) (a : Act) (w : World), At1 B N env S μ G a w → (b = true ∧ a.eval x = .pointer none ∧ a.eval y = .pointer none) ∨
      (b = false ∧ ((∃ p, a.eval x = .pointer (some p) ∧ a.eval y = .pointer none) ∨ (∃ p, a.eval x = .pointer none ∧ a.eval y = .pointer (some p))))) : OpsTo B N o env S K := by
  unfold wEqP at h
  split at h
  case h_2 => exact h.elim
  rename_i i hi
  split at h
  case h_2 => exact h.elim
  rename_i e hk
  obtain ⟨⟨d, h1, h2⟩, _⟩ := hc t i hi
  rw [hk] at h2
  cases d <;> simp [tkOf] at h2
  refine wB_sound ho h fun μ G a w st => ?_
  rcases hv μ G a w st with ⟨rfl, ex, ey⟩ | ⟨rfl, ⟨p, ex, ey⟩ | ⟨p, ex, ey⟩⟩ <;> rw [ex, ey]
  · exact ⟨by unfold eqGuard; cases op <;> rfl, eqIn_pp h1 9999, binEq_run rfl⟩
  · exact ⟨by unfold eqGuard; cases op <;> rfl, eqIn_pn h1 9999 p, binEq_run rfl⟩
  · exact ⟨by unfold eqGuard; cases op <;> rfl, eqIn_np h1 9999 p, binEq_run rfl⟩

theorem VA.ptr_some {μ k w G n p v} (h : VA μ k w G (.ptr n p) v) : ∃ a, v = .pointer (some a) := by
  obtain ⟨b, _, _, _, e⟩ := h.ptr_inv
  exact ⟨_, e⟩

theorem wNilL_sound (hc : B.c.ok) (ho : o.op = .binOp op t x y yt) (hn : nilLit y = true) (h : wNilL B.c op t (evalA B.c env x) fun v => K (some v) S) : OpsTo B N o env S K := by
  obtain rfl := nilLit_inv hn
  unfold wNilL at h
  split at h
  case h_2 => exact h.elim
  rename_i i hi
  split at h
  case h_2 => exact h.elim
  rename_i e hk
  obtain ⟨⟨d, h1, h2⟩, _⟩ := hc t i hi
  rw [hk] at h2
  cases d <;> simp [tkOf] at h2
  rename_i ms
  split at h
  · rename_i hx
    refine wB_sound ho h fun μ G a w st => ?_
    have vx := (evalA_sound st hx).vd.nilI_inv
    have vy : a.eval (.const .nilIface) = .nilIface := rfl
    rw [vx, vy]
    refine ⟨?_, eqIn_nn h1 9999, binEq_run rfl⟩
    unfold eqGuard
    cases op <;> cases x <;> rfl
  · rename_i hx
    refine wB_sound ho h fun μ G a w st => ?_
    obtain ⟨u, vx, _⟩ := (evalA_sound st hx).vd.iface_inv
    have vy : a.eval (.const .nilIface) = .nilIface := rfl
    rw [vx, vy]
    exact ⟨by unfold eqGuard; cases op <;> rfl, eqIn_in h1 9999 _ _, binEq_run rfl⟩
  · exact h.elim

theorem wBin_sound (hc : B.c.ok) (ho : o.op = .binOp op t x y yt) (h : wBin B.c op t (evalA B.c env x) (evalA B.c env y) fun v => K (some v) S) :
    OpsTo B N o env S K := by
  unfold wBin at h
  split at h
  case h_4 => exact h.elim
  · rename_i dx dy hx hy
    have key : ∀ (hbb : ∀ a b, dx = .bool a → dy = .bool b → B.c.P.underlying t = some .bool), (evBin op dx dy fun z => K (some (.d z)) S) → OpsTo B N o env S K := by
      intro hbb hev
      refine opsTo_value fun μ G a w st => ?_
      obtain ⟨z, v, h1, h2, h3⟩ := evBin_sound (ox := x) (oy := y) hbb hev (evalA_sound st hx).vd (evalA_sound st hy).vd
      refine ⟨v, w, μ, G, .d z, S, ?_, h1, st.st, Later.refl _ _ _ _, h3.ra⟩
      simp only [execOp, ho]
      simp only [Sem.run_bind] at h2 ⊢
      rw [h2]
      rfl
    split at h
    · rename_i b
      split at h
      case h_2 => exact h.elim
      rename_i i hi
      split at h
      case h_2 => exact h.elim
      rename_i hk
      refine key (fun _ _ _ _ => ?_) h
      obtain ⟨⟨d, h1, h2⟩, _⟩ := hc t i hi
      have hd := tkOf_bool (d := d) (by rw [h2]; exact hk)
      rw [h1, hd]
    · exact wEqT_sound hc ho hx hy rfl h
    · exact wEqT_sound hc ho hx hy rfl h
    · exact wEqI_sound hc ho hx hy h
    · exact wEqI_sound hc ho hx hy h
    · split at h
      · exact wEqP_sound hc ho h fun μ G a w st => .inl ⟨rfl, (evalA_sound st hx).vd.nilP_inv, (evalA_sound st hy).vd.nilP_inv⟩
      · refine wEqP_sound hc ho h fun μ G a w st => .inr ⟨rfl, .inr ?_⟩
        obtain ⟨p, e⟩ := (evalA_sound st hy).vd.cptr_inv'
        exact ⟨p, (evalA_sound st hx).vd.nilP_inv, e⟩
      · exact h.elim
    · split at h
      · refine wEqP_sound hc ho h fun μ G a w st => .inr ⟨rfl, .inl ?_⟩
        obtain ⟨p, e⟩ := (evalA_sound st hx).vd.cptr_inv'
        exact ⟨p, e, (evalA_sound st hy).vd.nilP_inv⟩
      · exact h.elim
    · rename_i hb _ _ _ _ _ _
      exact key (fun a b e _ => absurd e (by intro e; exact hb a e)) h
  · rename_i n p dy hx hy
    split at h
    case h_2 => exact h.elim
    refine wEqP_sound hc ho h fun μ G a w st => .inr ⟨rfl, .inl ?_⟩
    obtain ⟨p, e⟩ := ((evalA_sound st hx).va (fun l e => by cases e)).ptr_some
    exact ⟨p, e, (evalA_sound st hy).vd.nilP_inv⟩
  · rename_i dx n p hx hy
    split at h
    case h_2 => exact h.elim
    refine wEqP_sound hc ho h fun μ G a w st => .inr ⟨rfl, .inr ?_⟩
    obtain ⟨p, e⟩ := ((evalA_sound st hy).va (fun l e => by cases e)).ptr_some
    exact ⟨p, (evalA_sound st hx).vd.nilP_inv, e⟩

end

end Go.Ab

namespace Go.Ab
open Go.RowKit

def notTup : AV → Bool
  | .tup _ => false
  | _ => true

theorem notTup_spec {x : AV} (h : notTup x = true) : ∀ l, x ≠ .tup l := by
  intro l e; subst e; cases h

section
variable {B : Base} {N : Nat} {o : Oper} {env : Env} {S : List Blk} {K : Option AV → List Blk → Prop}

theorem rule_move {x : Operand} {v : AV} (ho : o.op = .move x ∨ o.op = .assign x) (hx : evalA B.c env x = some v) (h : K (some v) S) : OpsTo B N o env S K :=
  opsTo_pure h fun μ G a w st => ⟨a.eval x, by rcases ho with ho | ho <;> simp [execOp, ho], evalA_sound st hx⟩

theorem rule_pick {c x y : Operand} {b : Bool} {v : AV} (ho : o.op = .pick c x y) (hc : evalA B.c env c = some (.d (.bool b))) (hv : evalA B.c env (if b then x else y) = some v) (h : K (some v) S) : OpsTo B N o env S K :=
  opsTo_pure h fun μ G a w st => ⟨a.eval (if b then x else y), by
    have := (evalA_sound st hc).vd.bool_inv
    cases b <;> simp [execOp, ho, this, asBool], evalA_sound st hv⟩

theorem rule_extract {x : Operand} {i : Nat} {l : List AV} {v : AV} (ho : o.op = .extract x i) (hx : evalA B.c env x = some (.tup l)) (hi : l[i]? = some v) (hv : notTup v = true) (h : K (some v) S) : OpsTo B N o env S K :=
  opsTo_pure h fun μ G a w st => by
    obtain ⟨vs, e, hvs⟩ := evalA_sound st hx
    have key : ∀ {l : List AV} {vs : List Value} {i : Nat}, VS μ S.length w G l vs → l[i]? = some v → ∃ u, vs[i]? = some u ∧ VA μ S.length w G v u := by
      intro l vs i hs
      induction hs generalizing i with
      | nil => intro h; simp at h
      | cons h1 _ ih =>
        intro h
        cases i with
        | zero => simp at h; subst h; exact ⟨_, by simp, h1⟩
        | succ i => simpa using ih (by simpa using h)
    obtain ⟨u, hu, hra⟩ := key hvs hi
    refine ⟨u, ?_, hra.ra (notTup_spec hv)⟩
    simp [execOp, ho, e, Instr.extract, hu]

theorem rule_un {op : UnOp} {t : TypeId} {x : Operand} {b : Bool} (ho : o.op = .unOp op t x) (hop : op = .not) (hx : evalA B.c env x = some (.d (.bool b))) (h : K (some (.d (.bool (!b)))) S) : OpsTo B N o env S K :=
  opsTo_pure h fun μ G a w st => ⟨.bool (!b), by
    have := (evalA_sound st hx).vd.bool_inv
    subst hop
    simp [execOp, ho, this, Op.unary], VD.bool.ra⟩

theorem rule_neg {t : TypeId} {x : Operand} {k : IntKind} {n : Int} (ho : o.op = .unOp .neg t x) (hx : evalA B.c env x = some (.d (.int k n))) (h : K (some (.d (.int k (k.wrap (0 - n))))) S) : OpsTo B N o env S K :=
  opsTo_pure h fun μ G a w st => ⟨.int k (k.wrap (0 - n)), by
    have := (evalA_sound st hx).vd.int_inv
    simp [execOp, ho, this, Op.unary, Op.intArith], VD.int.ra⟩

theorem rule_not {t : TypeId} {x : Operand} {k : IntKind} {n : Int} (ho : o.op = .unOp .xor t x) (hx : evalA B.c env x = some (.d (.int k n)))
    (h : K (some (.d (.int k (k.wrap (BitVec.ofInt k.bits (if k.signed then -1 else k.max) ^^^ BitVec.ofInt k.bits n).toNat)))) S) : OpsTo B N o env S K :=
  opsTo_pure h fun μ G a w st => ⟨.int k (k.wrap (BitVec.ofInt k.bits (if k.signed then -1 else k.max) ^^^ BitVec.ofInt k.bits n).toNat), by
    have := (evalA_sound st hx).vd.int_inv
    simp [execOp, ho, this, Op.unary, Op.intBits], VD.int.ra⟩

theorem rule_alloc {t : TypeId} {i : TI} {z : D} (hc : B.c.ok) (ho : o.op = .alloc t) (hi : B.c.tt t = some i) (hz : i.zero = some z) (h : K (some (.ptr S.length [])) (S ++ [.var (.d z)])) : OpsTo B N o env S K :=
  opsTo_value fun μ G a w st => by
    obtain ⟨_, info, h1, h2, h3, h4⟩ := hc t i hi
    obtain ⟨v, h5, h6⟩ := h4 z hz
    obtain ⟨μ', h7, h8, h9, h10⟩ := st.st.newVar (t := t) (x := .d z) (v := v) (VA.d_iff.2 (h6 w G))
    refine ⟨.pointer (some ⟨w.heap.size, 0, none⟩), _, μ', G, _, _, ?_, h, h8, h9, h10.ra (fun l e => by cases e)⟩
    simp only [execOp, ho, Sem.run_bind, Instr.alloc, zeroValue, typeInfo, run_program, Result.andThen_ok, h1, h5, Sem.run_pure, h7]

theorem rule_box {t : TypeId} {x : Operand} {v : AV} (ho : o.op = .box t x) (hx : evalA B.c env x = some v) (hv : notTup v = true) (h : K (some (.ptr S.length [])) (S ++ [.var v])) : OpsTo B N o env S K :=
  opsTo_value fun μ G a w st => by
    have hva := (evalA_sound st hx).va (notTup_spec hv)
    obtain ⟨μ', h7, h8, h9, h10⟩ := st.st.newVar (t := t) hva
    refine ⟨.pointer (some ⟨w.heap.size, 0, none⟩), _, μ', G, _, _, ?_, h, h8, h9, h10.ra (fun l e => by cases e)⟩
    simp only [execOp, ho, Sem.run_bind, Instr.box, Result.andThen_ok, Sem.run_pure, h7]

theorem rule_load {t : TypeId} {x : Operand} {i : TI} {n : Nat} {p : List Step} {X y : AV} (hc : B.c.ok) (ho : o.op = .load t x) (hi : B.c.tt t = some i) (hx : evalA B.c env x = some (.ptr n p))
    (hn : S[n]? = some (.var X)) (hg : AV.getP X p = some y) (hs : shapeB i y = true) (hy : notTup y = true) (h : K (some y) S) : OpsTo B N o env S K :=
  opsTo_pure h fun μ G a w st => by
    obtain ⟨u, h1, h2⟩ := st.st.load hc hi ((evalA_sound st hx).va (fun l e => by cases e)) hn hg hs
    refine ⟨u, ?_, h2.ra (notTup_spec hy)⟩
    simp only [execOp, ho, Sem.run_bind, h1, Result.andThen_ok, Sem.run_pure]

theorem rule_loadC {t : TypeId} {x : Operand} {i : TI} {X : D} (hc : B.c.ok) (ho : o.op = .load t x) (hi : B.c.tt t = some i) (hx : evalA B.c env x = some (.d (.cptr X)))
    (hs : shapeB i (.d X) = true) (h : K (some (.d X)) S) : OpsTo B N o env S K :=
  opsTo_pure h fun μ G a w st => by
    obtain ⟨u, h1, h2⟩ := st.st.loadC hc hi (evalA_sound st hx).vd hs
    refine ⟨u, ?_, h2.ra⟩
    simp only [execOp, ho, Sem.run_bind, h1, Result.andThen_ok, Sem.run_pure]

theorem rule_store {t : TypeId} {x y : Operand} {i : TI} {n : Nat} {p : List Step} {X X' v : AV} (hc : B.c.ok) (ho : o.op = .store t x y) (hi : B.c.tt t = some i) (hx : evalA B.c env x = some (.ptr n p))
    (hn : S[n]? = some (.var X)) (hg : (AV.getP X p).isSome = true) (hy : evalA B.c env y = some v) (hv : notTup v = true) (hset : AV.setP X p v = some X') (hs : shapeB i v = true) (h : K none (S.set n (.var X'))) : OpsTo B N o env S K :=
  opsTo_skip fun μ G a w st => by
    obtain ⟨w', h1, h2, h3⟩ := st.st.store hc hi ((evalA_sound st hx).va (fun l e => by cases e)) hn hg ((evalA_sound st hy).va (notTup_spec hv)) hset hs
    refine ⟨w', μ, G, _, ?_, h, h2, h3⟩
    simp only [execOp, ho, Sem.run_bind, h1, Result.andThen_ok, Sem.run_pure]

theorem rule_loadT {t : TypeId} {x : Operand} {i : TI} {n T : Nat} {p : List Step} {X y : AV} (hc : B.c.ok) (ho : o.op = .load t x) (hi : B.c.tt t = some i) (hx : evalA B.c env x = some (.ptr n p))
    (hn : S[n]? = some (.tvar T X)) (hg : AV.getP X p = some y) (hs : shapeB i y = true) (hy : notTup y = true) (h : K (some y) S) : OpsTo B N o env S K :=
  opsTo_pure h fun μ G a w st => by
    obtain ⟨u, h1, h2⟩ := st.st.loadT hc hi ((evalA_sound st hx).va (fun l e => by cases e)) hn hg hs
    refine ⟨u, ?_, h2.ra (notTup_spec hy)⟩
    simp only [execOp, ho, Sem.run_bind, h1, Result.andThen_ok, Sem.run_pure]

theorem rule_storeT {t : TypeId} {x y : Operand} {i : TI} {n T : Nat} {p : List Step} {X X' v : AV} (hc : B.c.ok) (ho : o.op = .store t x y) (hi : B.c.tt t = some i) (hx : evalA B.c env x = some (.ptr n p))
    (hn : S[n]? = some (.tvar T X)) (hg : (AV.getP X p).isSome = true) (hy : evalA B.c env y = some v) (hv : notTup v = true) (hset : AV.setP X p v = some X') (hs : shapeB i v = true) (h : K none (S.set n (.tvar T X'))) : OpsTo B N o env S K :=
  opsTo_skip fun μ G a w st => by
    obtain ⟨w', h1, h2, h3⟩ := st.st.storeT hc hi ((evalA_sound st hx).va (fun l e => by cases e)) hn hg ((evalA_sound st hy).va (notTup_spec hv)) hset hs
    refine ⟨w', μ, G, _, ?_, h, h2, h3⟩
    simp only [execOp, ho, Sem.run_bind, h1, Result.andThen_ok, Sem.run_pure]

/-- The field's place. -/
theorem run_fieldAt {P : Program} {t : TypeId} {i : TI} {fs : List (Nat × Nat × Bool)} (hi : i.fits P t) (hk : i.k = .struct fs) {f off ft : Nat} {nm : Bool} (hf : fs[f]? = some (off, ft, nm)) {fi : TI} (hfi : fi.fits P ft)
    (hz : fi.size ≠ 0) (b o : Nat) (w : World) : (Instr.fieldAt t (.pointer (some ⟨b, o, none⟩)) f).run P w = .ok (.pointer (some ⟨b, o + off, none⟩)) w := by
  obtain ⟨⟨d, h1, h2⟩, _⟩ := hi
  rw [hk] at h2
  cases d with
  | struct fields =>
    simp only [tkOf, TK.struct.injEq] at h2
    rw [← h2] at hf
    simp only [List.getElem?_map, Option.map_eq_some_iff] at hf
    obtain ⟨fld, hf1, hf2⟩ := hf
    simp only [Prod.mk.injEq] at hf2
    obtain ⟨rfl, rfl, _⟩ := hf2
    have hf3 : fields[f]? = some fld := by simpa using hf1
    simp only [Instr.fieldAt, Sem.run_bind, run_underlying h1, Result.andThen_ok, hf3, Instr.sureAddr, Sem.run_pure, fieldPlace, run_sizeOf' hfi, Sem.run_ite]
    rw [if_neg hz]
    simp only [Result.andThen_ok, addr_add]
  | _ => simp [tkOf] at h2

theorem rule_fieldAddr {t : TypeId} {x : Operand} {f n : Nat} {p : List Step} {i fi : TI} {fs : List (Nat × Nat × Bool)} {off ft : Nat} {nm : Bool} (hc : B.c.ok) (ho : o.op = .fieldAddr t x f) (hi : B.c.tt t = some i) (hk : i.k = .struct fs)
    (hf : fs[f]? = some (off, ft, nm)) (hfi : B.c.tt ft = some fi) (hz : Nat.beq fi.size 0 = false) (hx : evalA B.c env x = some (.ptr n p)) (h : K (some (.ptr n (p ++ [.fld f off]))) S) : OpsTo B N o env S K :=
  opsTo_pure h fun μ G a w st => by
    obtain ⟨b, h1, h2, h3, h4⟩ := ((evalA_sound st hx).va (fun l e => by cases e)).ptr_inv
    refine ⟨.pointer (some ⟨b, offp p + off, none⟩), ?_, ?_⟩
    · simp only [execOp, ho, h4, Sem.run_bind, run_fieldAt (hc t i hi) hk hf (hc ft fi hfi) (by intro e; rw [e] at hz; cases hz), Result.andThen_ok, Sem.run_pure]
    · have e : offp p + off = offp (p ++ [.fld f off]) := by simp [offp_append, offp]
      rw [e]
      exact (VA.of_single (.ptr h1 (h2.snoc _) (fun s hs => by
        rcases List.mem_append.1 hs with hs | hs
        · exact h3 s hs
        · simp at hs; subst hs; trivial) .nil) rfl).ra (fun l e => by cases e)

theorem rule_fieldAddrC {t : TypeId} {x : Operand} {f : Nat} {i fi : TI} {fs : List (Nat × Nat × Bool)} {off ft : Nat} {nm : Bool} {l : List D} {y : D} (hc : B.c.ok) (ho : o.op = .fieldAddr t x f) (hi : B.c.tt t = some i) (hk : i.k = .struct fs)
    (hf : fs[f]? = some (off, ft, nm)) (hfi : B.c.tt ft = some fi) (hz : Nat.beq fi.size 0 = false) (hx : evalA B.c env x = some (.d (.cptr (.agg l)))) (hl : Nat.beq (D.sizes (l.take f)) off = true) (hy : l[f]? = some y) (h : K (some (.d (.cptr y))) S) : OpsTo B N o env S K :=
  opsTo_pure h fun μ G a w st => by
    obtain ⟨b, o', c, e1, e2, e3⟩ := (evalA_sound st hx).vd.cptr_inv
    refine ⟨.pointer (some ⟨b, o' + off, none⟩), ?_, ?_⟩
    · simp only [execOp, ho, e1, Sem.run_bind, run_fieldAt (hc t i hi) hk hf (hc ft fi hfi) (by intro e; rw [e] at hz; cases hz), Result.andThen_ok, Sem.run_pure]
    · cases e2 with
      | agg g1 g2 =>
      cases g2
      obtain ⟨a', m, z, rfl, g3, g4⟩ := g1.get hy
      rw [List.append_nil] at e3
      have := e3.part
      rw [g3, beq_true hl] at this
      exact (VD.of_single (.cptr g4 this .nil) rfl).ra

end

end Go.Ab

namespace Go.Ab
open Go.RowKit

theorem run_asIntOf (P : Program) (k : IntKind) (i : Int) (w : World) : (asIntOf (.int k i)).run P w = .ok (k, i) w := rfl

theorem run_indexAt_arr {P : Program} {t : TypeId} {i : TI} {cnt e : Nat} (hi : i.fits P t) (hk : i.k = .arr cnt e) {fi : TI} (hfi : fi.fits P e) (b o : Nat) (k : IntKind) (n : Int) (h0 : 0 ≤ n) (h1 : n < cnt) (w : World) :
    (Instr.indexAt t (.pointer (some ⟨b, o, none⟩)) (.int k n)).run P w = .ok (.pointer (some ⟨b, o + n.toNat * fi.size, none⟩)) w := by
  obtain ⟨⟨d, h2, h3⟩, _⟩ := hi
  rw [hk] at h3
  cases d with
  | array len el =>
    simp only [tkOf, TK.arr.injEq] at h3
    obtain ⟨rfl, rfl⟩ := h3
    simp only [Instr.indexAt, Sem.run_bind, run_asIntOf, run_underlying h2, Result.andThen_ok, Instr.sureAddr, Sem.run_pure, Sem.run_ite, if_pos (And.intro h0 h1), run_sizeOf' hfi, addr_add]
  | _ => simp [tkOf] at h3

theorem run_indexAt_sl {P : Program} {t : TypeId} {i : TI} {e : Nat} (hi : i.fits P t) (hk : i.k = .slice e) {fi : TI} (hfi : fi.fits P e) (b o len cap : Nat) (k : IntKind) (n : Int) (h0 : 0 ≤ n) (h1 : n < len) (w : World) :
    (Instr.indexAt t (.slice (some ⟨b, o, none⟩) len cap) (.int k n)).run P w = .ok (.pointer (some ⟨b, o + n.toNat * fi.size, none⟩)) w := by
  obtain ⟨⟨d, h2, h3⟩, _⟩ := hi
  rw [hk] at h3
  cases d with
  | slice el =>
    simp only [tkOf, TK.slice.injEq] at h3
    subst h3
    simp only [Instr.indexAt, Sem.run_bind, run_asIntOf, run_underlying h2, Result.andThen_ok, Sem.run_pure, Sem.run_ite, if_pos (And.intro h0 h1), run_sizeOf' hfi, addr_add]
  | _ => simp [tkOf] at h3

section
variable {B : Base} {N : Nat} {o : Oper} {env : Env} {S : List Blk} {K : Option AV → List Blk → Prop}

theorem rule_indexAddr_arr {t : TypeId} {x ix : Operand} {n : Nat} {p : List Step} {i fi : TI} {cnt e : Nat} {k : IntKind} {j : Int} (hc : B.c.ok) (ho : o.op = .indexAddr t x ix) (hi : B.c.tt t = some i) (hk : i.k = .arr cnt e) (hfi : B.c.tt e = some fi)
    (hx : evalA B.c env x = some (.ptr n p)) (hj : evalA B.c env ix = some (.d (.int k j))) (h0 : 0 ≤ j) (h1 : j < cnt) (h : K (some (.ptr n (p ++ [.ix j.toNat fi.size cnt]))) S) : OpsTo B N o env S K :=
  opsTo_pure h fun μ G a w st => by
    obtain ⟨b, e1, e2, e3, e4⟩ := ((evalA_sound st hx).va (fun l e => by cases e)).ptr_inv
    have e5 := (evalA_sound st hj).vd.int_inv
    refine ⟨.pointer (some ⟨b, offp p + j.toNat * fi.size, none⟩), ?_, ?_⟩
    · simp only [execOp, ho, e4, e5, Sem.run_bind, run_indexAt_arr (hc t i hi) hk (hc e fi hfi) b _ k j h0 h1, Result.andThen_ok, Sem.run_pure]
    · have e : offp p + j.toNat * fi.size = offp (p ++ [.ix j.toNat fi.size cnt]) := by simp [offp_append, offp]
      rw [e]
      exact (VA.of_single (.ptr e1 (e2.snoc _) (fun s hs => by
        rcases List.mem_append.1 hs with hs | hs
        · exact e3 s hs
        · simp at hs; subst hs; show j.toNat < cnt; omega) .nil) rfl).ra (fun l e => by cases e)

theorem cptr_elem {w G sz xs v} (h : VD w G (.sl sz xs) v) {j : Int} (h0 : 0 ≤ j) (h1 : j < xs.length) :
    ∃ b off cap, v = .slice (some ⟨b, off, none⟩) xs.length cap ∧ VD w G (.cptr (xs.getD j.toNat .nilP)) (.pointer (some ⟨b, off + j.toNat * sz, none⟩)) := by
  rcases h.sl_inv with ⟨_, rfl⟩ | ⟨⟨b, off, sp⟩, cap, c, rfl, h2, h3, h4, h5', _, _⟩
  · simp at h1; omega
  · have hsp : sp = none := by
      rcases h5' with h5' | h5'
      · subst h5'; simp at h1; omega
      · exact h5'
    subst hsp
    refine ⟨b, off, cap, rfl, ?_⟩
    have hlt : j.toNat < xs.length := by omega
    obtain ⟨a, m, z, rfl, h5, h6⟩ := h2.sub h3 j.toNat 1 (by omega)
    have e : (xs.drop j.toNat).take 1 = [xs.getD j.toNat .nilP] := by
      rw [List.drop_eq_getElem_cons hlt, List.getD_eq_getElem?_getD, List.getElem?_eq_getElem hlt]
      rfl
    rw [e] at h6
    have := h4.part
    rw [h5] at this
    exact VD.of_single (.cptr h6 this .nil) rfl

theorem rule_indexAddr_sl {t : TypeId} {x ix : Operand} {sz : Nat} {xs : List D} {i fi : TI} {e : Nat} {k : IntKind} {j : Int} {v : AV} (hc : B.c.ok) (ho : o.op = .indexAddr t x ix) (hi : B.c.tt t = some i) (hk : i.k = .slice e) (hfi : B.c.tt e = some fi) (hsz : Nat.beq fi.size sz = true)
    (hx : evalA B.c env x = some v) (hv : AV.toD B.k0 S v = some (.sl sz xs, S)) (hj : evalA B.c env ix = some (.d (.int k j))) (h0 : 0 ≤ j) (h1 : j < xs.length) (h : K (some (.d (.cptr (xs.getD j.toNat .nilP)))) S) : OpsTo B N o env S K :=
  opsTo_value fun μ G a w st => by
    have hnt : ∀ l, v ≠ .tup l := fun l e => by subst e; simp [AV.toD] at hv
    have hva := (evalA_sound st hx).va hnt
    obtain ⟨G', g1, g2, g3⟩ := toD_sound v hv st.st hva.1
    have e5 := (evalA_sound st hj).vd.int_inv
    have hvd : VD w G' (.sl sz xs) (a.eval x) := ⟨g3, by rw [hva.2]; exact (toD_isAgg hv).symm⟩
    obtain ⟨b, off, cap, e1, e2⟩ := cptr_elem hvd h0 h1
    refine ⟨_, w, μ, G', _, S, ?_, h, g1, g2, e2.ra⟩
    have e3 := run_indexAt_sl (hc t i hi) hk (hc e fi hfi) b off xs.length cap k j h0 h1 w
    rw [beq_true hsz] at e3
    simp only [execOp, ho, e1, e5, Sem.run_bind, e3, Result.andThen_ok, Sem.run_pure]

end

/-- A row of values written over an array's cells. -/
theorem foldl_set (off : Nat) : ∀ (vs : List Value) (k : Nat) (cells : Array Value), off + k + vs.length ≤ cells.size →
    ((vs.zipIdx k).foldl (fun (cs : Array Value) (p : Value × Nat) => cs.setIfInBounds (off + p.2) p.1) cells).toList = cells.toList.take (off + k) ++ (vs ++ cells.toList.drop (off + k + vs.length))
  | [], k, cells, _ => by simp
  | v :: vs, k, cells, h => by
    simp only [List.zipIdx_cons, List.foldl_cons]
    rw [foldl_set off vs (k + 1) _ (by simp at h ⊢; omega)]
    simp only [Array.toList_setIfInBounds, List.length_cons]
    have hlt : off + k < cells.toList.length := by simp at h ⊢; omega
    rw [List.take_set, List.drop_set, if_pos (by omega)]
    have e1 : (cells.toList.take (off + (k + 1))).set (off + k) v = cells.toList.take (off + k) ++ [v] := by
      rw [← Nat.add_assoc, List.take_add_one, List.getElem?_eq_getElem hlt]
      simp only [Option.toList_some]
      rw [List.set_append_right _ _ (by simp; omega)]
      have e3 : off + k - (cells.toList.take (off + k)).length = 0 := by simp at hlt ⊢; omega
      rw [e3]
      rfl
    rw [e1]
    have e2 : off + (k + 1) + vs.length = off + k + (vs.length + 1) := by omega
    rw [e2]
    simp

noncomputable def fillA (ρ : Operand → Option AV) (st : Nat → Option (Step × Nat)) : List (Nat × Operand) → AV → Option AV
  | [], x => some x
  | (i, o) :: r, x => match st i with
    | some (s, sz) => match ρ o with
      | some v => match notTup v && Nat.beq v.size sz with
        | true => match x.setP [s] v with
          | some x' => fillA ρ st r x'
          | none => none
        | false => none
      | none => none
    | none => none

theorem fill_sound {B : Base} {N : Nat} {env : Env} {S μ G a w} (h : At1 B N env S μ G a w) {st : Nat → Option (Step × Nat)} {place : Nat → Option (Nat × Nat)}
    (hp : ∀ i s sz, st i = some (s, sz) → s.ok ∧ place i = some (offs s, sz)) : ∀ (parts : List (Nat × Operand)) (x x' : AV) (cells : Array Value), fillA (evalA B.c env) st parts x = some x' → CA μ S.length w G [x] cells.toList →
    ∃ cells', Instr.fill place cells (parts.map fun p => (p.1, a.eval p.2)) = some cells' ∧ CA μ S.length w G [x'] cells'.toList ∧ x'.size = x.size ∧ x'.isAgg = x.isAgg
  | [], x, x', cells, hf, hx => by simp only [fillA] at hf; cases hf; exact ⟨cells, rfl, hx, rfl, rfl⟩
  | (i, o) :: r, x, x', cells, hf, hx => by
    simp only [fillA] at hf
    split at hf
    case h_2 => cases hf
    rename_i s sz hs
    split at hf
    case h_2 => cases hf
    rename_i v hv
    split at hf
    case h_2 => cases hf
    rename_i hb
    simp only [Bool.and_eq_true] at hb
    split at hf
    case h_2 => cases hf
    rename_i x1 hx1
    obtain ⟨hok, hpl⟩ := hp i s sz hs
    have hva := (evalA_sound h hv).va (notTup_spec hb.1)
    have hvsz : (a.eval o).cells.size = sz := by rw [hva.size]; exact beq_true hb.2
    cases hg : x.getS s with
    | none => simp [AV.setP, hg] at hx1
    | some y =>
    have hgp : x.getP [s] = some y := by simp [AV.getP, hg]
    obtain ⟨c1, c2, c3, e1, e2, e3, e4⟩ := hx.getP hgp (fun t ht => by simp at ht; subst ht; exact hok)
    obtain ⟨f1, f2, f3, f4⟩ := e4 v _ x1 hva.1 hx1
    have hl2 : c2.length = (a.eval o).cells.toList.length := by
      have q1 := e3.length; have q2 := hva.1.length; simp [AV.sizes] at q1 q2; simp; omega
    have hoff : c1.length = offs s := by rw [e2, offp_cons]; rfl
    have hsize : offs s + (a.eval o).cells.toList.length ≤ cells.size := by
      have := congrArg List.length e1
      simp at this hl2
      simp
      omega
    have hfold := foldl_set (offs s) (a.eval o).cells.toList 0 cells (by simpa using hsize)
    simp only [Nat.add_zero] at hfold
    have hcells1 : ((a.eval o).cells.zipIdx.foldl (fun cs (c, j) => cs.setIfInBounds (offs s + j) c) cells).toList = c1 ++ ((a.eval o).cells.toList ++ c3) := by
      rw [← Array.foldl_toList, Array.toList_zipIdx]
      refine Eq.trans ?_ (hfold.trans ?_)
      · rfl
      · rw [e1, ← hoff, ← hl2, List.take_left, ← List.append_assoc c1 c2, ← List.length_append, List.drop_left]
    have hx1' : CA μ S.length w G [x1] ((a.eval o).cells.zipIdx.foldl (fun cs (c, j) => cs.setIfInBounds (offs s + j) c) cells).toList := by rw [hcells1]; exact f1
    obtain ⟨cells', g1, g2, g3, g4⟩ := fill_sound h hp r x1 x' _ hf hx1'
    refine ⟨cells', ?_, g2, g3.trans f2, g4.trans f3⟩
    simp only [List.map_cons, Instr.fill, hpl]
    rw [if_neg]
    · exact g1
    · simp only [ne_eq, Bool.or_eq_true, decide_eq_true_eq, not_or, Nat.not_lt]
      simp at hsize
      exact ⟨by simp [hvsz], hsize⟩

/-- The places of a struct's fields. -/
def stepOf (c : Ctx) (fs : List (Nat × Nat × Bool)) (i : Nat) : Option (Step × Nat) :=
  match fs[i]? with
  | some (off, ft, _) => match c.tt ft with
    | some fi => some (.fld i off, fi.size)
    | none => none
  | none => none

def allKnown (c : Ctx) : List (Nat × Nat × Bool) → Bool
  | [] => true
  | (_, ft, _) :: r => (c.tt ft).isSome && allKnown c r

theorem run_places {c : Ctx} (hc : c.ok) : ∀ (fs : List Field) (w : World), allKnown c (fs.map fun f => (f.offset, f.type, f.name == "_")) = true →
    ∃ ps : List (Nat × Nat), (fs.mapM (fun f => do pure (f.offset, ← sizeOf f.type) : Field → Sem (Nat × Nat))).run c.P w = .ok ps w ∧
      ∀ (i off ft : Nat) (nm : Bool) (fi : TI), (fs.map fun f => (f.offset, f.type, f.name == "_"))[i]? = some (off, ft, nm) → c.tt ft = some fi → ps[i]? = some (off, fi.size)
  | [], w, _ => ⟨[], by simp, by simp⟩
  | f :: fs, w, h => by
    simp only [List.map_cons, allKnown, Bool.and_eq_true] at h
    obtain ⟨h1, h2⟩ := h
    obtain ⟨fi, hfi⟩ := Option.isSome_iff_exists.1 h1
    obtain ⟨ps, g1, g2⟩ := run_places hc fs w h2
    refine ⟨(f.offset, fi.size) :: ps, ?_, ?_⟩
    · simp only [List.mapM_cons, Sem.run_bind, run_sizeOf' (hc _ _ hfi), Result.andThen_ok, Sem.run_pure]
      rw [g1]
      rfl
    · intro i off ft nm fi' hi hf
      cases i with
      | zero =>
        simp at hi
        obtain ⟨rfl, rfl, _⟩ := hi
        rw [hfi] at hf
        cases hf
        simp
      | succ i => simpa using g2 i off ft nm fi' (by simpa using hi) hf

section
variable {B : Base} {N : Nat} {o : Oper} {env : Env} {S : List Blk} {K : Option AV → List Blk → Prop}

theorem rule_build {t : TypeId} {parts : Array (Nat × Operand)} {i : TI} {fs : List (Nat × Nat × Bool)} {z : D} {x : AV} (hc : B.c.ok) (ho : o.op = .build t parts) (hi : B.c.tt t = some i) (hk : i.k = .struct fs) (hz : i.zero = some z) (ha : z.isAgg = true)
    (hall : allKnown B.c fs = true) (hf : fillA (evalA B.c env) (stepOf B.c fs) parts.toList (.d z) = some x) (h : K (some x) S) : OpsTo B N o env S K :=
  opsTo_pure h fun μ G a w st => by
    obtain ⟨⟨d, h1, h2⟩, info, h3, h4, h5, h6⟩ := hc t i hi
    obtain ⟨zv, h7, h8⟩ := h6 z hz
    rw [hk] at h2
    cases d with
    | struct fields =>
      simp only [tkOf, TK.struct.injEq] at h2
      obtain ⟨ps, g1, g2⟩ := run_places hc fields.toList w (by rw [h2]; exact hall)
      have hzc : CA μ S.length w G [.d z] zv.cells.toList := CA.d_iff.2 (h8 w G).1
      obtain ⟨cells', e1, e2, e3, e4⟩ := fill_sound st (st := stepOf B.c fs) (place := fun i => ps[i]?) (fun i s sz hs => by
        unfold stepOf at hs
        split at hs
        · rename_i off ft nm hfs
          split at hs
          · rename_i fi hfi
            cases hs
            exact ⟨trivial, g2 i off ft nm fi (by rw [h2]; exact hfs) hfi⟩
          · cases hs
        · cases hs) parts.toList (.d z) x zv.cells hf hzc
      refine ⟨.agg cells', ?_, ?_⟩
      · simp only [execOp, ho, Sem.run_bind, Instr.build, zeroValue, typeInfo, run_program, Result.andThen_ok, h3, h7, Sem.run_pure, run_underlying h1, Array.mapM_eq_mapM_toList, Sem.run_map]
        rw [g1]
        simp only [Result.andThen_ok, List.getElem?_toArray, Array.toList_map]
        rw [e1]
        rfl
      · have hxa : x.isAgg = true := by rw [e4]; exact ha
        have hnt : ∀ l, x ≠ .tup l := fun l e => by subst e; cases hxa
        have := VA.of_agg e2 hxa
        rw [Array.toArray_toList] at this
        exact this.ra hnt
    | _ => simp [tkOf] at h2

/-- The places of an array's elements. -/
def stepArr (n sz : Nat) (i : Nat) : Option (Step × Nat) :=
  match Nat.blt i n with
  | true => some (.ix i sz n, sz)
  | false => none

theorem rule_buildA {t : TypeId} {parts : Array (Nat × Operand)} {i fi : TI} {n e : Nat} {z : D} {x : AV} (hc : B.c.ok) (ho : o.op = .build t parts) (hi : B.c.tt t = some i) (hk : i.k = .arr n e) (hfi : B.c.tt e = some fi) (hz : i.zero = some z) (ha : z.isAgg = true)
    (hf : fillA (evalA B.c env) (stepArr n fi.size) parts.toList (.d z) = some x) (h : K (some x) S) : OpsTo B N o env S K :=
  opsTo_pure h fun μ G a w st => by
    obtain ⟨⟨d, h1, h2⟩, info, h3, h4, h5, h6⟩ := hc t i hi
    obtain ⟨zv, h7, h8⟩ := h6 z hz
    rw [hk] at h2
    cases d with
    | array len el =>
      simp only [tkOf, TK.arr.injEq] at h2
      obtain ⟨rfl, rfl⟩ := h2
      have hzc : CA μ S.length w G [.d z] zv.cells.toList := CA.d_iff.2 (h8 w G).1
      obtain ⟨cells', e1, e2, e3, e4⟩ := fill_sound st (st := stepArr len fi.size) (place := fun i => some (i * fi.size, fi.size)) (fun i s sz hs => by
        unfold stepArr at hs
        split at hs
        · rename_i hb
          cases hs
          exact ⟨Nat.le_of_ble_eq_true hb, rfl⟩
        · cases hs) parts.toList (.d z) x zv.cells hf hzc
      refine ⟨.agg cells', ?_, ?_⟩
      · simp only [execOp, ho, Sem.run_bind, Instr.build, zeroValue, typeInfo, run_program, Result.andThen_ok, h3, h7, Sem.run_pure, run_underlying h1, run_sizeOf' (hc el fi hfi), Array.toList_map]
        rw [e1]
        rfl
      · have hxa : x.isAgg = true := by rw [e4]; exact ha
        have hnt : ∀ l, x ≠ .tup l := fun l e => by subst e; cases hxa
        have := VA.of_agg e2 hxa
        rw [Array.toArray_toList] at this
        exact this.ra hnt
    | _ => simp [tkOf] at h2

end

end Go.Ab

namespace Go.Ab
open Go.RowKit

/-- An argument or a result as it is handed on: data, or a place. -/
def finA (rw : Bool) (k0 : Nat) (S : List Blk) (x : AV) : Option (AV × List Blk) :=
  match x with
  | .d x => some (.d x, S)
  | .ptr n p => some (.ptr n p, S)
  | .fn f caps => some (.fn f caps, S)
  | .tup _ => none
  | .row n => match rw with
    | true => some (.row n, S)
    | false => match (AV.row n).toD k0 S with | some (y, S') => some (.d y, S') | none => none
  | x => match x.toD k0 S with | some (y, S') => some (.d y, S') | none => none

theorem finA_sound {B : Base} {rw : Bool} {w : World} {S S' : List Blk} {μ G x y v} (h : finA rw B.k0 S x = some (y, S')) (st : St B S μ G w) (hv : VA μ S.length w G x v) :
    ∃ G', St B S' μ G' w ∧ Later S μ G w S' μ G' w ∧ VA μ S'.length w G' y v ∧ notTup y = true := by
  have gen : ∀ z, x.toD B.k0 S = some (z, S') → y = .d z → ∃ G', St B S' μ G' w ∧ Later S μ G w S' μ G' w ∧ VA μ S'.length w G' y v ∧ notTup y = true := by
    intro z hz hy
    obtain ⟨G', g1, g2, g3⟩ := toD_sound x hz st hv.1
    subst hy
    exact ⟨G', g1, g2, VA.d_iff.2 ⟨g3, by rw [hv.2]; exact (toD_isAgg hz).symm⟩, rfl⟩
  cases x with
  | d x => simp only [finA] at h; cases h; exact ⟨G, st, Later.refl _ _ _ _, hv, rfl⟩
  | ptr n p => simp only [finA] at h; cases h; exact ⟨G, st, Later.refl _ _ _ _, hv, rfl⟩
  | fn f c => simp only [finA] at h; cases h; exact ⟨G, st, Later.refl _ _ _ _, hv, rfl⟩
  | tup l => simp only [finA] at h; cases h
  | row n =>
    simp only [finA] at h
    split at h
    · cases h; exact ⟨G, st, Later.refl _ _ _ _, hv, rfl⟩
    split at h
    · rename_i z S1 hz; cases h; exact gen z hz rfl
    · cases h
  | vw =>
    simp only [finA] at h
    split at h
    · rename_i z S1 hz; cases h; exact gen z hz rfl
    · cases h
  | agg =>
    simp only [finA] at h
    split at h
    · rename_i z S1 hz; cases h; exact gen z hz rfl
    · cases h

def finL (rw : Bool) (k0 : Nat) (c : Ctx) (env : Env) : List Operand → List Blk → Option (List AV × List Blk)
  | [], S => some ([], S)
  | o :: r, S => match evalA c env o with
    | some x => match finA rw k0 S x with
      | some (y, S') => match finL rw k0 c env r S' with
        | some (ys, S'') => some (y :: ys, S'')
        | none => none
      | none => none
    | none => none

theorem finL_sound {B : Base} {rw : Bool} {N : Nat} {env : Env} {S0 μ G0 a w} (h0 : At1 B N env S0 μ G0 a w) : ∀ (l : List Operand) (S S' : List Blk) (G : Nat → Nat → Prop) (ys : List AV), finL rw B.k0 B.c env l S = some (ys, S') → St B S μ G w → Later S0 μ G0 w S μ G w →
    ∃ G', St B S' μ G' w ∧ Later S μ G w S' μ G' w ∧ VS μ S'.length w G' ys (l.map a.eval)
  | [], S, S', G, ys, h, st, _ => by simp only [finL] at h; cases h; exact ⟨G, st, Later.refl _ _ _ _, .nil⟩
  | o :: r, S, S', G, ys, h, st, lt => by
    simp only [finL] at h
    split at h
    case h_2 => cases h
    rename_i x hx
    split at h
    case h_2 => cases h
    rename_i y S1 h1
    split at h
    case h_2 => cases h
    rename_i ys1 S2 h2
    cases h
    have hra := lt.ra (evalA_sound h0 hx)
    have hnt : ∀ l, x ≠ .tup l := fun l e => by subst e; simp [finA] at h1
    obtain ⟨G1, g1, g2, g3, _⟩ := finA_sound h1 st (hra.va hnt)
    obtain ⟨G2, e1, e2, e3⟩ := finL_sound h0 r S1 _ G1 _ h2 g1 (lt.trans g2)
    exact ⟨G2, e1, g2.trans e2, .cons (g3.mono e2.k (fun i hi _ => e2.μ i hi) e2.g e2.cells) e3⟩

def capA (caps : List Nat) : List AV := caps.map fun n => AV.ptr n []

def addNew : List Nat → List Nat → List Nat
  | acc, [] => acc
  | acc, n :: l => match acc.any (Nat.beq n) with
    | true => addNew acc l
    | false => addNew (acc ++ [n]) l

/-- All names that can be reached, the first ones first. -/
def reach (S : List Blk) : Nat → List Nat → List Nat → List Nat
  | 0, acc, _ => acc
  | _, acc, [] => acc
  | fuel + 1, acc, n :: todo => match acc.any (Nat.beq n) with
    | true => reach S fuel acc todo
    | false => reach S fuel (acc ++ [n]) (todo ++ (match S[n]? with | some b => namesB b | none => []))

def into (S : List Blk) (ns : List Nat) (args : List AV) : Option (List AV × List Blk) :=
  match nodupB ns && allLt S.length ns with
  | true => match AV.rens (posOf ns) args with
    | some args' => match subStore S ns with
      | some m => match renBlks (posOf ns) m with
        | some S' => some (args', S')
        | none => none
      | none => none
    | none => none
  | false => none

theorem into_spec {S ns args args' S'} (h : into S ns args = some (args', S')) : Into S ns args args' S' := by
  unfold into at h
  split at h
  case h_2 => cases h
  rename_i hb
  simp only [Bool.and_eq_true] at hb
  split at h
  case h_2 => cases h
  rename_i a1 h1
  split at h
  case h_2 => cases h
  rename_i m hm
  split at h
  case h_2 => cases h
  rename_i s1 h2
  cases h
  exact ⟨hb.1, allLt_spec hb.2, h1, m, hm, h2⟩

def back (S : List Blk) (ns : List Nat) (S' : List Blk) (r : AV) : Option (AV × List Blk) :=
  match AV.ren (backOf ns S.length) r with
  | some r' => match renBlks (backOf ns S.length) S' with
    | some m => some (r', putBack S ns (m.take ns.length) ++ m.drop ns.length)
    | none => none
  | none => none

theorem back_spec {S ns S' r r' S''} (h : back S ns S' r = some (r', S'')) : Back S ns S' r r' S'' := by
  unfold back at h
  split at h
  case h_2 => cases h
  rename_i a1 h1
  split at h
  case h_2 => cases h
  rename_i m hm
  cases h
  exact ⟨h1, m, hm, rfl⟩

def allVars (S : List Blk) : List Nat → Bool
  | [] => true
  | n :: l => (match S[n]? with | some (.var _) => true | _ => false) && allVars S l

/-- Numbers, values and stores with nothing left to reckon in their outer form: the same, for proofs that reckon. -/
def fN (n : Nat) (K : Nat → Prop) : Prop := @Nat.rec (fun _ => (Nat → Prop) → Prop) (fun K => K 0) (fun _ ih K => ih fun k => K (k + 1)) n K

theorem fN_eq (n : Nat) : ∀ K, fN n K = K n := by
  induction n with
  | zero => intro K; rfl
  | succ n ih => intro K; exact ih fun k => K (k + 1)

mutual
def fA : AV → (AV → Prop) → Prop
  | .d x, K => K (.d x)
  | .ptr n p, K => fN n fun n => K (.ptr n p)
  | .row n, K => fN n fun n => K (.row n)
  | .vw n p lo len cnt sz, K => fN n fun n => K (.vw n p lo len cnt sz)
  | .fn f cs, K => K (.fn f cs)
  | .agg l, K => fAs l fun l => K (.agg l)
  | .tup l, K => fAs l fun l => K (.tup l)
def fAs : List AV → (List AV → Prop) → Prop
  | [], K => K []
  | x :: l, K => fA x fun x => fAs l fun l => K (x :: l)
end

mutual
theorem fA_eq : ∀ (x : AV) (K : AV → Prop), fA x K = K x
  | .d x, K => rfl
  | .ptr n p, K => by simp only [fA, fN_eq]
  | .row n, K => by simp only [fA, fN_eq]
  | .vw n p lo len cnt sz, K => by simp only [fA, fN_eq]
  | .fn f cs, K => rfl
  | .agg l, K => by simp only [fA]; exact fAs_eq l _
  | .tup l, K => by simp only [fA]; exact fAs_eq l _
theorem fAs_eq : ∀ (l : List AV) (K : List AV → Prop), fAs l K = K l
  | [], K => rfl
  | x :: l, K => by simp only [fAs]; rw [fA_eq x]; exact fAs_eq l _
end

def fB (b : Blk) (K : Blk → Prop) : Prop :=
  match b with
  | .var x => fA x fun x => K (.var x)
  | .tvar T x => fA x fun x => K (.tvar T x)
  | .row e sz xs => K (.row e sz xs)
  | .own e sz xs => K (.own e sz xs)
  | .iter s p => K (.iter s p)
  | .mapb ks x => fA x fun x => K (.mapb ks x)
  | .sealed x => K (.sealed x)
  | .dead => K .dead

theorem fB_eq (b : Blk) (K : Blk → Prop) : fB b K = K b := by
  cases b with
  | var x => exact fA_eq x _
  | tvar T x => exact fA_eq x _
  | mapb ks x => exact fA_eq x _
  | _ => rfl

def fS : List Blk → (List Blk → Prop) → Prop
  | [], K => K []
  | b :: l, K => fB b fun b => fS l fun l => K (b :: l)

theorem fS_eq : ∀ (S : List Blk) (K : List Blk → Prop), fS S K = K S
  | [], _ => rfl
  | b :: l, K => by simp only [fS]; rw [fB_eq]; exact fS_eq l _

def wCall (c : Ctx) (k0 : Nat) (env : Env) (S : List Blk) (fo : Operand) (args : List Operand) (K : AV → List Blk → Prop) : Prop :=
  match evalA c env fo with
  | some (.fn f caps) => match finL (c.rowf f) k0 c env args S with
    | some (ys, S1) => match allVars S1 caps with
      | true => match into S1 (reach S1 64 [] (namesVs (ys ++ capA caps))) (ys ++ capA caps) with
        | some (zs, Sc) => ∃ Post, CallR c f zs Sc Post ∧ ∀ r S', Post r S' →
          match back S1 (reach S1 64 [] (namesVs (ys ++ capA caps))) S' r with
          | some (r', S2) => fA r' fun r' => fS S2 fun S2 => K r' S2
          | none => False
        | none => False
      | false => False
    | none => False
  | _ => False

theorem VS.append {μ k w G l vs m us} (h : VS μ k w G l vs) (g : VS μ k w G m us) : VS μ k w G (l ++ m) (vs ++ us) := by
  induction h with
  | nil => exact g
  | cons h _ ih => exact .cons h ih

theorem caps_ok {B S μ G w} (st : St B S μ G w) : ∀ {caps : List Nat}, allVars S caps = true → VS μ S.length w G (capA caps) (caps.map μ)
  | [], _ => .nil
  | n :: l, h => by
    simp only [allVars, Bool.and_eq_true] at h
    obtain ⟨h1, h2⟩ := h
    split at h1
    · rename_i x hx
      obtain ⟨b, cs, T, l', s, e1, _⟩ := st.blks n _ hx
      refine .cons ?_ (caps_ok st h2)
      rw [e1]
      exact VA.of_single (.ptr (List.getElem?_eq_some_iff.1 hx).1 (.inl e1) (fun s hs => by cases hs) .nil) rfl
    · cases h1

section
variable {B : Base} {N : Nat} {o : Oper} {env : Env} {S : List Blk} {K : Option AV → List Blk → Prop}

theorem VA.fn_inv {μ k w G f caps v} (h : VA μ k w G (.fn f caps) v) : v = .func (.func f) #[] (caps.map μ).toArray := by
  rcases h.inv with ⟨h1, _⟩ | ⟨_, h1, _⟩
  · simp [AV.isAgg] at h1
  · cases h1; rfl

theorem rule_call {fo : Operand} {args : Array Operand} {ts : Array TypeId} (ho : o.op = .call { callee := .value fo, args := args, argTypes := ts }) (h : wCall B.c B.k0 env S fo args.toList fun r S' => K (some r) S') : OpsTo B N o env S K := by
  intro μ G a w st next Q hn
  unfold wCall at h
  split at h
  case h_2 => exact h.elim
  rename_i f caps hf
  split at h
  case h_2 => exact h.elim
  rename_i ys S1 hys
  split at h
  case h_2 => exact h.elim
  rename_i hcaps
  generalize reach S1 64 [] (namesVs (ys ++ capA caps)) = ns at h
  split at h
  case h_2 => exact h.elim
  rename_i zs Sc hinto
  obtain ⟨Post, hcall, hpost⟩ := h
  have hi := into_spec hinto
  obtain ⟨G1, g1, g2, g3⟩ := finL_sound st args.toList S S1 G ys hys st.st (Later.refl _ _ _ _)
  have hfv := ((evalA_sound st hf).va (fun l e => by cases e)).fn_inv
  have hvs : VS μ S1.length w G1 (ys ++ capA caps) (args.toList.map a.eval ++ caps.map μ) := g3.append (caps_ok g1 hcaps)
  have hrun : (execOp a.eval o).run B.c.P w = (callFunc f (args.toList.map a.eval ++ caps.map μ).toArray).run B.c.P w := by
    simp only [execOp, ho, resolve, hfv, Deferred.ofValue, Sem.run_bind, Sem.run_pure, Result.andThen_ok, invoke]
    congr 2
    apply Array.ext'
    simp
  have hct := hcall _ G1 w _ (hi.st g1) (hi.args_ok hvs)
  unfold Oper.wp
  rw [hrun]
  rcases hct with ⟨h1, h2⟩ | ⟨v, w', h1, v', r, S', μ', G', e1, e2, e3, e4⟩
  · rw [h1, Oper.upon_enter]
    refine h2.mono ?_
    rintro e w' ⟨v, r, S', μ', G', rfl, hp, st', hra⟩
    have hp' := hpost r S' hp
    split at hp'
    case h_2 => exact hp'.elim
    rename_i r' S2 hb
    rw [fA_eq, fS_eq] at hp'
    obtain ⟨μ'', a1, a2, a3⟩ := Back.st g1 hi (back_spec hb) st'
    exact hn (some r') S2 μ'' G' v w' hp' a1 (g2.trans a2) (fun y hy => by cases hy; exact a3 v hra)
  · rw [h1, Oper.upon_value]
    cases e1
    have hp' := hpost r S' e2
    split at hp'
    case h_2 => exact hp'.elim
    rename_i r' S2 hb
    rw [fA_eq, fS_eq] at hp'
    obtain ⟨μ'', a1, a2, a3⟩ := Back.st g1 hi (back_spec hb) e3
    exact hn (some r') S2 μ'' G' v w' hp' a1 (g2.trans a2) (fun y hy => by cases hy; exact a3 v e4)

end

end Go.Ab
