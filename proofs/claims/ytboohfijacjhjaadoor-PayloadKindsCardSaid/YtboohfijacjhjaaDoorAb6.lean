/-
  An own logic over the kit's 'Calls' (Ab6): parts of values; loads, stores, new variables.
-/
import Derived.Test.YtboohfijacjhjaaDoorAb5
namespace Go.Ab
open Go.RowKit

def D.getS : D → Step → Option D
  | .agg l, .fld k o => match Nat.beq (D.sizes (l.take k)) o with | true => l[k]? | false => none
  | .arr n sz xs, .ix i sz' cnt => match Nat.beq n cnt && Nat.beq sz sz' with | true => some (xs.getD i .nilP) | false => none
  | _, _ => none

def AV.getS : AV → Step → Option AV
  | .d x, s => match x.getS s with | some y => some (.d y) | none => none
  | .agg l, .fld k o => match Nat.beq (AV.sizes (l.take k)) o with | true => l[k]? | false => none
  | .agg l, .ix i sz cnt => match Nat.beq l.length cnt && Nat.beq (AV.sizes (l.take i)) (i * sz) with | true => l[i]? | false => none
  | _, _ => none

def AV.setS : AV → Step → AV → Option AV
  | .d (.agg l), .fld k _, .d z => some (.d (.agg (l.set k z)))
  | .d (.agg l), .fld k _, z => some (.agg ((l.map .d).set k z))
  | .d (.arr n sz xs), .ix i _ _, .d z => some (.d (.arr n sz (xs.set i z)))
  | .d (.arr _ _ xs), .ix i _ _, z => some (.agg ((xs.map .d).set i z))
  | .agg l, .fld k _, z => some (.agg (l.set k z))
  | .agg l, .ix i _ _, z => some (.agg (l.set i z))
  | _, _, _ => none

def AV.getP : AV → List Step → Option AV
  | x, [] => some x
  | x, s :: p => match x.getS s with | some y => y.getP p | none => none

def AV.setP : AV → List Step → AV → Option AV
  | x, [], y => match Nat.beq y.size x.size && (y.isAgg == x.isAgg) with | true => some y | false => none
  | x, s :: p, y => match x.getS s with
    | some z => match z.setP p y with
      | some z' => x.setS s z'
      | none => none
    | none => none

theorem CL.get2 {w G l cs} (h : CL w G l cs) {i : Nat} {x : D} (hi : l[i]? = some x) :
    ∃ a c d, cs = a ++ (c ++ d) ∧ a.length = D.sizes (l.take i) ∧ CL w G [x] c ∧
      ∀ y c', CL w G [y] c' → CL w G (l.set i y) (a ++ (c' ++ d)) := by
  have hlt : i < l.length := (List.getElem?_eq_some_iff.1 hi).1
  have e : l = l.take i ++ (x :: l.drop (i + 1)) := by
    rw [List.getElem?_eq_getElem hlt] at hi
    simp only [Option.some.injEq] at hi
    rw [← hi, ← List.drop_eq_getElem_cons hlt, List.take_append_drop]
  have h' := h
  rw [e] at h'
  obtain ⟨a, d, rfl, h1, h2⟩ := CL.append_inv h'
  obtain ⟨c, d2, rfl, h3, h4⟩ := CL.cons_inv h2
  refine ⟨a, c, d2, rfl, h1.length, h3, fun y c' hy => ?_⟩
  rw [List.set_eq_take_append_cons_drop, if_pos hlt]
  exact CL.append h1 (by simpa using CL.append hy h4)

theorem D.sizes_set {l : List D} {k : Nat} {y z : D} (h : l[k]? = some y) (hz : z.size = y.size) : D.sizes (l.set k z) = D.sizes l := by
  induction l generalizing k with
  | nil => simp at h
  | cons x l ih =>
    cases k with
    | zero => simp at h; subst h; simp [D.sizes, hz]
    | succ k => simp at h; simp [D.sizes, ih h]

theorem AV.sizes_set {l : List AV} {k : Nat} {y z : AV} (h : l[k]? = some y) (hz : z.size = y.size) : AV.sizes (l.set k z) = AV.sizes l := by
  induction l generalizing k with
  | nil => simp at h
  | cons x l ih =>
    cases k with
    | zero => simp at h; subst h; simp [AV.sizes, hz]
    | succ k => simp at h; simp [AV.sizes, ih h]

theorem AV.sizes_map_d (l : List D) : AV.sizes (l.map .d) = D.sizes l := by
  induction l with
  | nil => rfl
  | cons x l ih => simp [AV.sizes, D.sizes, AV.size, ih]

def offs : Step → Nat
  | .fld _ o => o
  | .ix i sz _ => i * sz

theorem offp_cons (s : Step) (p : List Step) : offp (s :: p) = offs s + offp p := by cases s <;> rfl

theorem beq_true {a b : Nat} (h : Nat.beq a b = true) : a = b := Nat.eq_of_beq_eq_true h

theorem CA.mapd_set {μ k w G} {l : List D} {i : Nat} {z : D} {cs} (h : CA μ k w G ((l.map AV.d).set i (.d z)) cs) : CL w G (l.set i z) cs := by
  have e : (l.map AV.d).set i (.d z) = (l.set i z).map AV.d := by rw [List.map_set]
  rw [e] at h
  exact CL.of_map_d h

theorem CA.getS {μ k w G x cs s y} (h : CA μ k w G [x] cs) (hg : AV.getS x s = some y) (hs : s.ok) :
    ∃ a c d, cs = a ++ (c ++ d) ∧ a.length = offs s ∧ CA μ k w G [y] c ∧
      ∀ y' c' x', y'.size = y.size → CA μ k w G [y'] c' → AV.setS x s y' = some x' → CA μ k w G [x'] (a ++ (c' ++ d)) ∧ x'.size = x.size ∧ x'.isAgg = x.isAgg := by
  cases x with
  | d x =>
    simp only [AV.getS] at hg
    split at hg
    case h_2 => cases hg
    rename_i z hz
    cases hg
    have h' := CA.d_iff.1 h
    cases x with
    | agg l =>
      cases s with
      | ix => cases hz
      | fld f o =>
      simp only [D.getS] at hz
      split at hz
      case h_2 => cases hz
      rename_i hb
      cases h' with
      | agg h1 h2 =>
      cases h2
      have h1' := (CA.agg_d (μ := μ) (k := k) h1)
      have hz' : (l.map AV.d)[f]? = some (.d z) := by simp [hz]
      obtain ⟨a, c, d, rfl, h3, h4, h5⟩ := h1'.get hz'
      refine ⟨a, c, d, by simp, by rw [h3, ← List.map_take, AV.sizes_map_d, beq_true hb]; rfl, h4, fun y' c' x' hsz hy hset => ?_⟩
      cases y' with
      | d z' =>
        simp only [AV.setS] at hset
        cases hset
        exact ⟨CA.d_iff.2 (by simpa using CL.agg (CA.mapd_set (h5 (.d z') c' hy)) .nil), by simp [AV.size, D.size, D.sizes_set hz hsz], rfl⟩
      | tup _ => cases hy
      | _ =>
        simp only [AV.setS] at hset
        cases hset
        exact ⟨by simpa using CA.agg (h5 _ c' hy) .nil, by simp only [AV.size]; rw [AV.sizes_set hz' hsz, AV.sizes_map_d]; rfl, rfl⟩
    | arr n sz xs =>
      cases s with
      | fld => cases hz
      | ix i sz' cnt =>
      simp only [D.getS] at hz
      split at hz
      case h_2 => cases hz
      rename_i hb
      simp only [Bool.and_eq_true] at hb
      obtain ⟨hb1, hb2⟩ := hb
      have hb1 := beq_true hb1
      have hb2 := beq_true hb2
      subst hb1; subst hb2
      cases hz
      cases h' with
      | arr h1 hlen hsz0 h2 =>
      cases h2
      have hi : i < xs.length := by rw [hlen]; exact hs
      have hz : xs[i]? = some (xs.getD i .nilP) := by simp [List.getD_eq_getElem?_getD, hi]
      have h1' := (CA.agg_d (μ := μ) (k := k) h1)
      have hz' : (xs.map AV.d)[i]? = some (.d (xs.getD i .nilP)) := by rw [List.getElem?_map, hz]; rfl
      obtain ⟨a, c, d, rfl, h3, h4, h5⟩ := h1'.get hz'
      have hsi : (xs.getD i .nilP).size = sz := hsz0 _ (List.mem_of_getElem? hz)
      have hoff : D.sizes (xs.take i) = i * sz := by
        rw [D.sizes_uniform (sz := sz) fun x hx => hsz0 x (List.mem_of_mem_take hx)]
        simp [Nat.min_eq_left (Nat.le_of_lt hi)]
      refine ⟨a, c, d, by simp, by rw [h3, ← List.map_take, AV.sizes_map_d, hoff]; rfl, h4, fun y' c' x' hsz hy hset => ?_⟩
      cases y' with
      | d z' =>
        simp only [AV.setS] at hset
        cases hset
        have hall : ∀ x ∈ xs.set i z', x.size = sz := fun x hx => by
          rcases List.mem_or_eq_of_mem_set hx with hx | rfl
          · exact hsz0 x hx
          · have : x.size = (xs.getD i .nilP).size := hsz
            rw [this, hsi]
        exact ⟨CA.d_iff.2 (by simpa using CL.arr (CA.mapd_set (h5 (.d z') c' hy)) (by simp [hlen]) hall .nil), rfl, rfl⟩
      | tup _ => cases hy
      | _ =>
        simp only [AV.setS] at hset
        cases hset
        refine ⟨by simpa using CA.agg (h5 _ c' hy) .nil, ?_, rfl⟩
        simp only [AV.size]
        rw [AV.sizes_set hz' hsz, AV.sizes_map_d, D.sizes_uniform hsz0, hlen]
        rfl
    | _ => cases hz
  | agg l =>
    cases h with
    | agg h1 h2 =>
    cases h2
    cases s with
    | fld f o =>
      simp only [AV.getS] at hg
      split at hg
      case h_2 => cases hg
      rename_i hb
      obtain ⟨a, c, d, rfl, h3, h4, h5⟩ := h1.get hg
      refine ⟨a, c, d, by simp, by rw [h3, beq_true hb]; rfl, h4, fun y' c' x' hsz hy hset => ?_⟩
      simp only [AV.setS] at hset
      cases hset
      exact ⟨by simpa using CA.agg (h5 _ c' hy) .nil, by simp only [AV.size]; rw [AV.sizes_set hg hsz], rfl⟩
    | ix i sz cnt =>
      simp only [AV.getS] at hg
      split at hg
      case h_2 => cases hg
      rename_i hb
      simp only [Bool.and_eq_true] at hb
      obtain ⟨a, c, d, rfl, h3, h4, h5⟩ := h1.get hg
      refine ⟨a, c, d, by simp, by rw [h3, beq_true hb.2]; rfl, h4, fun y' c' x' hsz hy hset => ?_⟩
      simp only [AV.setS] at hset
      cases hset
      exact ⟨by simpa using CA.agg (h5 _ c' hy) .nil, by simp only [AV.size]; rw [AV.sizes_set hg hsz], rfl⟩
  | _ => cases hg

theorem CA.getP {μ k w G} : ∀ {p x cs y}, CA μ k w G [x] cs → AV.getP x p = some y → pathOk p →
    ∃ a c d, cs = a ++ (c ++ d) ∧ a.length = offp p ∧ CA μ k w G [y] c ∧
      ∀ y' c' x', CA μ k w G [y'] c' → AV.setP x p y' = some x' → CA μ k w G [x'] (a ++ (c' ++ d)) ∧ x'.size = x.size ∧ x'.isAgg = x.isAgg ∧ y'.size = y.size
  | [], x, cs, y, h, hg, _ => by
    simp only [AV.getP] at hg
    cases hg
    refine ⟨[], cs, [], by simp, rfl, h, fun y' c' x' hy hset => ?_⟩
    simp only [AV.setP] at hset
    split at hset
    · rename_i hb
      simp only [Bool.and_eq_true] at hb
      cases hset
      exact ⟨by simpa using hy, beq_true hb.1, by simpa using hb.2, beq_true hb.1⟩
    · cases hset
  | s :: p, x, cs, y, h, hg, hp => by
    simp only [AV.getP] at hg
    split at hg
    case h_2 => cases hg
    rename_i z hz
    obtain ⟨a, c, d, rfl, h1, h2, h3⟩ := h.getS hz (hp s (by simp))
    obtain ⟨a', c', d', rfl, g1, g2, g3⟩ := CA.getP h2 hg (fun t ht => hp t (by simp [ht]))
    refine ⟨a ++ a', c', d' ++ d, by simp, by simp [offp_cons, h1, g1], g2, fun y' c'' x' hy hset => ?_⟩
    simp only [AV.setP, hz] at hset
    split at hset
    case h_2 => cases hset
    rename_i z' hz'
    obtain ⟨e1, e2, e3, e4⟩ := g3 y' c'' z' hy hz'
    obtain ⟨f1, f2, f3⟩ := h3 z' _ x' e2 e1 hset
    exact ⟨by simpa using f1, f2, f3, e4⟩

/-- A value's shape is its type's. -/
def shapeB (i : TI) (y : AV) : Bool := Nat.beq y.size i.size && (y.isAgg == i.k.agg)

theorem shapeB_spec {i : TI} {y : AV} (h : shapeB i y = true) : y.size = i.size ∧ y.isAgg = i.k.agg := by
  simp only [shapeB, Bool.and_eq_true] at h
  exact ⟨beq_true h.1, by simpa using h.2⟩

theorem run_isAgg' {P : Program} {t : TypeId} {i : TI} (hi : i.fits P t) (w : World) : (isAgg t).run P w = .ok i.k.agg w := by
  obtain ⟨d, h, hk⟩ := hi.1
  rw [← hk, tkOf_agg]
  cases d <;> simp [isAgg, run_underlying h, descAgg]

theorem run_sizeOf' {P : Program} {t : TypeId} {i : TI} (hi : i.fits P t) (w : World) : (sizeOf t).run P w = .ok i.size w := by
  obtain ⟨_, info, h1, h2, _⟩ := hi
  simp [sizeOf, typeInfo, h1, h2]

theorem addr_add (b o n : Nat) : (⟨b, o, none⟩ : Addr).add n = ⟨b, o + n, none⟩ := by
  unfold Addr.add
  split
  · rename_i h; rw [h]; rfl
  · rfl

/-- Memory that holds a value's cells is read as that value. -/
theorem run_loadVar {P : Program} {t : TypeId} {i : TI} (hi : i.fits P t) {μ k w G y} {c : List Value} {b off : Nat} (hy : CA μ k w G [y] c) (hs : shapeB i y = true)
    (hm : ∀ j v, c[j]? = some v → w.cell? ⟨b, off + j, none⟩ = some v) : ∃ v, (loadVar t ⟨b, off, none⟩).run P w = .ok v w ∧ VA μ k w G y v := by
  obtain ⟨h1, h2⟩ := shapeB_spec hs
  have hlen : c.length = i.size := by have := hy.length; simp [AV.sizes] at this; omega
  cases ha : i.k.agg with
  | true =>
    refine ⟨.agg c.toArray, ?_, VA.of_agg hy (by rw [h2, ha])⟩
    have hl := run_loadCells_list (P := P) w ⟨b, off, none⟩ c (fun j v hj => by rw [addr_add]; exact hm j v hj)
    rw [hlen] at hl
    simp [loadVar, run_isAgg' hi, ha, run_sizeOf' hi, hl]
  | false =>
    obtain ⟨v, rfl, h3, h4⟩ := hy.single (by rw [h2, ha])
    refine ⟨v, ?_, VA.of_single hy (by rw [h2, ha])⟩
    have := hm 0 v (by simp)
    rw [Nat.add_zero] at this
    simp [loadVar, run_isAgg' hi, ha, this]

theorem cell_of_block {w : World} {b : Nat} {cs : Array Value} {T : TypeId} {fz : Nat × Nat} (h : w.heap[b]? = some (.cells cs T fz)) (o : Nat) : w.cell? ⟨b, o, none⟩ = cs[o]? := by
  simp [World.cell?, h]

theorem pieces_get {a c d s : List Value} {j : Nat} {v : Value} (h : c[j]? = some v) : (a ++ (c ++ d) ++ s)[a.length + j]? = some v := by
  rw [List.append_assoc, List.getElem?_append_right (by omega)]
  have : a.length + j - a.length = j := by omega
  rw [this, List.append_assoc, List.getElem?_append_left (List.getElem?_eq_some_iff.1 h).1]
  exact h

theorem VA.ptr_inv {μ k w G n p v} (h : VA μ k w G (.ptr n p) v) : ∃ b, n < k ∧ μ n = .pointer (some ⟨b, 0, none⟩) ∧ pathOk p ∧ v = .pointer (some ⟨b, offp p, none⟩) := by
  rcases h.inv with ⟨h1, _⟩ | ⟨_, h1, _⟩
  · simp [AV.isAgg] at h1
  · cases h1 with
    | ptr h2 h3 h4 _ => exact ⟨_, h2, h3, h4, rfl⟩

/-- A load from a variable of the store. -/
theorem St.load {B S μ G w} (hc : B.c.ok) (st : St B S μ G w) {t n p x y v i} (hi : B.c.tt t = some i) (hv : VA μ S.length w G (.ptr n p) v) (hn : S[n]? = some (.var x)) (hg : AV.getP x p = some y)
    (hs : shapeB i y = true) : ∃ u, (Instr.loadAt t v).run B.c.P w = .ok u w ∧ VA μ S.length w G y u := by
  have hf := hc t i hi
  rcases hv.inv with ⟨h1, _⟩ | ⟨_, h1, _⟩
  · simp [AV.isAgg] at h1
  · cases h1 with
    | ptr h2 h3 h4 _ =>
      obtain ⟨b', cs, T, l, s, e1, e2, e3, e4⟩ := st.blks n _ hn
      rw [h3] at e1
      cases e1
      obtain ⟨a, c, d, rfl, f1, f2, _⟩ := e4.getP hg h4
      obtain ⟨u, g1, g2⟩ := run_loadVar hf (b := _) (off := offp p) f2 hs (fun j v hj => by
        rw [cell_of_block e2, ← Array.getElem?_toList, e3, ← f1]
        exact pieces_get hj)
      refine ⟨u, ?_, g2⟩
      simp only [Instr.loadAt, Instr.sureAddr, Sem.run_bind, Sem.run_pure, Result.andThen_ok]
      exact g1

/-- A load from memory that stays. -/
theorem St.loadC {B S μ G w} (hc : B.c.ok) (_st : St B S μ G w) {t x v i} (hi : B.c.tt t = some i) (hv : VD w G (.cptr x) v)
    (hs : shapeB i (.d x) = true) : ∃ u, (Instr.loadAt t v).run B.c.P w = .ok u w ∧ VD w G x u := by
  have hf := hc t i hi
  rcases hv.inv with ⟨h1, _⟩ | ⟨_, h1, _⟩
  · simp [D.isAgg] at h1
  · cases h1 with
    | cptr h2 h3 _ =>
      obtain ⟨u, g1, g2⟩ := run_loadVar (μ := μ) (k := S.length) hf (CA.d_iff.2 h2) hs (fun j v hj => (h3 j v hj).1)
      refine ⟨u, ?_, VA.d_iff.1 g2⟩
      simp only [Instr.loadAt, Instr.sureAddr, Sem.run_bind, Sem.run_pure, Result.andThen_ok]
      exact g1

theorem setRow_next (w : World) (b : Nat) (cs : Array Value) : Next w (w.setRow b cs) (some b) :=
  ⟨rfl, rfl, rfl, by simp, fun k _ hn => setRow_other w b k cs (fun e => hn (by rw [e]))⟩

/-- A store into a variable of the store. -/
theorem St.store {B S μ G w} (hc : B.c.ok) (st : St B S μ G w) {t n p x x' y v u i} (hi : B.c.tt t = some i) (hv : VA μ S.length w G (.ptr n p) v) (hn : S[n]? = some (.var x)) (hg : (AV.getP x p).isSome = true)
    (hu : VA μ S.length w G y u) (hset : AV.setP x p y = some x') (hs : shapeB i y = true) :
    ∃ w', (Instr.storeAt t v u).run B.c.P w = .ok () w' ∧ St B (S.set n (.var x')) μ G w' ∧ Later S μ G w (S.set n (.var x')) μ G w' := by
  have hf := hc t i hi
  obtain ⟨h1, h2⟩ := shapeB_spec hs
  cases hg' : AV.getP x p with
  | none => rw [hg'] at hg; cases hg
  | some y0 =>
  obtain ⟨b, h3, h4, h5, rfl⟩ := hv.ptr_inv
  obtain ⟨b', cs, T, l, s, e1, e2, e3, e4⟩ := st.blks n _ hn
  have hbb : b' = b := by rw [h4] at e1; simp at e1; exact e1.symm
  subst hbb
  obtain ⟨a, c, d, rfl, f1, f2, f3⟩ := e4.getP hg' h5
  have hcu : CA μ S.length w G [y] u.cells.toList := hu.1
  obtain ⟨g1, g2, g3, g4⟩ := f3 y _ x' hcu hset
  have hlu : u.cells.toList.length = i.size := by have := hcu.length; simp [AV.sizes] at this; simp; omega
  have hlc : c.length = u.cells.toList.length := by
    have q1 := f2.length; have q2 := hcu.length; simp [AV.sizes] at q1 q2; simp; omega
  have hone := hcu.oneCell
  have hsz : offp p + u.cells.toList.length ≤ cs.size := by
    have := congrArg List.length e3
    simp at this
    rw [← f1]
    simp at hlc ⊢
    omega
  have hst := run_storeCells_at B.c.P b' (offp p) T u.cells.toList 0 cs w e2 (by simpa using hsz) hone
  simp only [Nat.add_zero] at hst
  have hG : ∀ o, ¬ G b' o := fun o => st.free n _ b' hn rfl (by rw [h4]; rfl) o (Nat.zero_le _)
  obtain ⟨row, hrow⟩ : ∃ row : Array Value, row = (cs.toList.take (offp p) ++ u.cells.toList ++ cs.toList.drop (offp p + u.cells.toList.length)).toArray := ⟨_, rfl⟩
  rw [← hrow] at hst
  have hrl : row.toList = (a ++ (u.cells.toList ++ d)) ++ s := by
    rw [hrow, e3, ← f1, ← hlc]
    simp only [List.append_assoc]
    rw [List.take_left, ← List.append_assoc a c, ← List.length_append, List.drop_left]
  have hcells := (setRow_next w b' row).cells st.gv (G := G) (fun k hk o v hgk _ => by cases hk; exact absurd hgk (hG o))
  refine ⟨w.setRow b' row, ?_, ?_, ⟨by simp, fun _ _ => rfl, fun _ _ h => h, hcells⟩⟩
  · simp only [Instr.storeAt, Instr.sureAddr, Sem.run_bind, Sem.run_pure, Result.andThen_ok, storeVar, run_sizeOf' hf]
    rw [if_neg (by rw [← hlu]; simp)]
    exact hst
  · exact st.write hn rfl rfl rfl rfl (g := b') (by rw [h4]; rfl) (setRow_next w b' row)
      ⟨b', row, T, a ++ (u.cells.toList ++ d), s, h4, setRow_heap w b' cs row T _ e2, hrl, g1.mono (Nat.le_refl _) (fun _ _ _ => rfl) (fun _ _ h => h) hcells⟩

/-- A new variable. -/
theorem St.newVar {B S μ G w} (st : St B S μ G w) {t : TypeId} {x : AV} {v : Value} (hx : VA μ S.length w G x v) :
    ∃ μ', (newVar t v).run B.c.P w = .ok ⟨w.heap.size, 0, none⟩ (w.alloc (.cells v.cells t)) ∧ St B (S ++ [Blk.var x]) μ' G (w.alloc (.cells v.cells t)) ∧
      Later S μ G w (S ++ [Blk.var x]) μ' G (w.alloc (.cells v.cells t)) ∧ VA μ' (S ++ [Blk.var x]).length (w.alloc (.cells v.cells t)) G (.ptr S.length []) (.pointer (some ⟨w.heap.size, 0, none⟩)) := by
  have hn : Next w (w.alloc (.cells v.cells t)) none := ⟨rfl, rfl, rfl, by show w.heap.size ≤ (w.heap.push _).size; simp, fun k hk _ => by
    show (w.heap.push _)[k]? = _
    rw [Array.getElem?_push, if_neg (by omega)]⟩
  have hcells := hn.cells st.gv (G := G) (fun k hk => by cases hk)
  have hnew : (w.alloc (.cells v.cells t)).heap[w.heap.size]? = some (.cells v.cells t (0, 0)) := by
    show (w.heap.push _)[w.heap.size]? = _
    simp
  have hμ : ∀ i, i < S.length → upd μ S.length (.pointer (some ⟨w.heap.size, 0, none⟩)) i = μ i := fun i hi => by simp [upd, Nat.ne_of_lt hi]
  refine ⟨upd μ S.length (.pointer (some ⟨w.heap.size, 0, none⟩)), rfl, ?_, ⟨by simp, hμ, fun _ _ h => h, hcells⟩, ?_⟩
  · refine st.push hn (fun _ _ h => h) (fun _ _ h => .inl h) (fun _ n h => by cases h; exact Nat.le_refl _) (fun _ n h o _ hg => by
      cases h; have := st.gv _ _ hg; exact Nat.lt_irrefl _ this) ?_
    exact ⟨w.heap.size, v.cells, t, v.cells.toList, [], rfl, hnew, by simp, hx.1.mono (Nat.le_succ _) (fun i hi _ => hμ i hi) (fun _ _ h => h) hcells⟩
  · refine VA.of_single ?_ rfl
    exact .ptr (b := w.heap.size) (by simp) (by simp [upd]) (fun s hs => by cases hs) .nil

end Go.Ab
