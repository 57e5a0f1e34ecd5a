/-
  An own logic over the kit's 'Calls' (AbT): shapes of data, and the comparison of structs and arrays.
-/
import Derived.Test.YtboohfijacjhjaaDoorAb7
import Derived.ChangeKeysEq
namespace Go.Ab
open Go.RowKit

theorem nbeq {a b : Nat} (h : Nat.beq a b = true) : a = b := Nat.eq_of_beq_eq_true h

def kindB : IntKind → IntKind → Bool
  | .i8, .i8 => true | .i16, .i16 => true | .i32, .i32 => true | .i64, .i64 => true
  | .u8, .u8 => true | .u16, .u16 => true | .u32, .u32 => true | .u64, .u64 => true
  | _, _ => false

theorem kindB_spec {a b : IntKind} (h : kindB a b = true) : a = b := by cases a <;> cases b <;> first | rfl | cases h

/-- The shape of data: what a type's values are. -/
inductive Ty where
  | bool
  | int (k : IntKind)
  | str
  | st (l : List Ty)
  | arr (n sz : Nat) (e : Ty)
  | sl (sz : Nat) (e : Ty)
  deriving Inhabited

mutual
def Ty.has : Ty → D → Prop
  | .bool, x => ∃ b, x = .bool b
  | .int k, x => ∃ n, x = .int k n ∧ (Lit.int k n).wf = true
  | .str, x => ∃ s : ByteArray, x = .str s ∧ s.size ≤ maxLen
  | .st l, x => ∃ ys, x = .agg ys ∧ Ty.hass l ys
  | .arr n sz e, x => ∃ ys, x = .arr n sz ys ∧ ys.length = n ∧ ∀ y ∈ ys, e.has y
  | .sl sz e, x => ∃ ys, x = .sl sz ys ∧ ys.length ≤ maxLen ∧ ∀ y ∈ ys, e.has y
def Ty.hass : List Ty → List D → Prop
  | [], ys => ys = []
  | t :: l, ys => ∃ y r, ys = y :: r ∧ t.has y ∧ Ty.hass l r
end

-- The same, without bounds.
mutual
def Ty.is : Ty → D → Prop
  | .bool, x => ∃ b, x = .bool b
  | .int k, x => ∃ n, x = .int k n
  | .str, x => ∃ s : ByteArray, x = .str s
  | .st l, x => ∃ ys, x = .agg ys ∧ Ty.iss l ys
  | .arr n sz e, x => ∃ ys, x = .arr n sz ys ∧ ys.length = n ∧ ∀ y ∈ ys, e.is y
  | .sl sz e, x => ∃ ys, x = .sl sz ys ∧ ∀ y ∈ ys, e.is y
def Ty.iss : List Ty → List D → Prop
  | [], ys => ys = []
  | t :: l, ys => ∃ y r, ys = y :: r ∧ t.is y ∧ Ty.iss l r
end

mutual
theorem Ty.has.toIs : ∀ {T : Ty} {x : D}, T.has x → T.is x
  | .bool, _, h => h
  | .int k, _, ⟨n, h, _⟩ => ⟨n, h⟩
  | .str, _, ⟨n, h, _⟩ => ⟨n, h⟩
  | .st _, _, ⟨ys, h, g⟩ => ⟨ys, h, Ty.hass.toIs g⟩
  | .arr _ _ _, _, ⟨ys, h, g, k⟩ => ⟨ys, h, g, fun y hy => (k y hy).toIs⟩
  | .sl _ _, _, ⟨ys, h, _, k⟩ => ⟨ys, h, fun y hy => (k y hy).toIs⟩
theorem Ty.hass.toIs : ∀ {l : List Ty} {xs : List D}, Ty.hass l xs → Ty.iss l xs
  | [], _, h => h
  | _ :: _, _, ⟨y, r, e, h, g⟩ => ⟨y, r, e, h.toIs, Ty.hass.toIs g⟩
end

mutual
def Ty.size : Ty → Nat
  | .st l => Ty.sizes l
  | .arr n sz _ => n * sz
  | _ => 1
def Ty.sizes : List Ty → Nat
  | [] => 0
  | t :: l => t.size + Ty.sizes l
end

mutual
def Ty.depth : Ty → Nat
  | .st l => Ty.depths l + 1
  | .arr _ _ e => e.depth + 1
  | _ => 0
def Ty.depths : List Ty → Nat
  | [] => 0
  | t :: l => t.depth + Ty.depths l + 1
end

def Ty.agg : Ty → Bool
  | .st _ => true
  | .arr .. => true
  | _ => false

mutual
def Ty.fit (tt : Nat → Option TI) : Ty → Nat → Bool
  | .bool, t => match tt t with
    | some i => Nat.beq i.size 1 && (match i.k with | .bool => true | _ => false)
    | none => false
  | .int k, t => match tt t with
    | some i => Nat.beq i.size 1 && (match i.k with | .int k' => kindB k k' | _ => false)
    | none => false
  | .str, t => match tt t with
    | some i => Nat.beq i.size 1 && (match i.k with | .str => true | _ => false)
    | none => false
  | .st l, t => match tt t with
    | some i => Nat.beq i.size (Ty.sizes l) && (match i.k with | .struct fs => Ty.fits tt l fs 0 | _ => false)
    | none => false
  | .arr n sz e, t => match tt t with
    | some i => Nat.beq i.size (n * sz) && (match i.k with | .arr n' e' => Nat.beq n n' && (Nat.beq sz e.size && e.fit tt e') | _ => false)
    | none => false
  | .sl sz e, t => match tt t with
    | some i => Nat.beq i.size 1 && (match i.k with | .slice e' => Nat.beq sz e.size && (Nat.blt 0 sz && e.fit tt e') | _ => false)
    | none => false
def Ty.fits (tt : Nat → Option TI) : List Ty → List (Nat × Nat × Bool) → Nat → Bool
  | [], [], _ => true
  | T :: l, (o', t, _) :: fs, o => Nat.beq o' o && (T.fit tt t && Ty.fits tt l fs (o + T.size))
  | _, _, _ => false
end

theorem Ty.fit_size {tt : Nat → Option TI} {T : Ty} {t : Nat} (h : T.fit tt t = true) : ∃ i, tt t = some i ∧ i.size = T.size := by
  cases T <;> simp only [Ty.fit] at h <;> split at h <;> first
    | (cases h; done)
    | (rename_i i hi; simp only [Bool.and_eq_true] at h; exact ⟨i, hi, nbeq h.1⟩)

theorem Ty.fit_agg {tt : Nat → Option TI} {T : Ty} {t : Nat} (hf : T.fit tt t = true) : ∃ i, tt t = some i ∧ i.k.agg = T.agg := by
  cases T <;> simp only [Ty.fit] at hf <;> split at hf <;> first
    | (cases hf; done)
    | (rename_i i hi; simp only [Bool.and_eq_true] at hf; refine ⟨i, hi, ?_⟩; have h3 := hf.2; split at h3 <;> first | (cases h3; done) | (rename_i hh; rw [hh]; rfl))

mutual
theorem Ty.is_size : ∀ (T : Ty) (x : D), T.is x → x.size = T.size
  | .bool, x, h => by obtain ⟨b, rfl⟩ := h; rfl
  | .int k, x, h => by obtain ⟨b, rfl⟩ := h; rfl
  | .str, x, h => by obtain ⟨b, rfl⟩ := h; rfl
  | .st l, x, h => by
    obtain ⟨ys, rfl, h⟩ := h
    exact Ty.iss_size l ys h
  | .arr n sz e, x, h => by obtain ⟨ys, rfl, _⟩ := h; rfl
  | .sl sz e, x, h => by obtain ⟨ys, rfl, _⟩ := h; rfl
theorem Ty.iss_size : ∀ (l : List Ty) (xs : List D), Ty.iss l xs → D.sizes xs = Ty.sizes l
  | [], xs, h => by
    have h : xs = [] := h
    subst h; rfl
  | T :: l, xs, h => by
    obtain ⟨y, r, rfl, h1, h2⟩ := h
    simp only [D.sizes, Ty.sizes, Ty.is_size T y h1, Ty.iss_size l r h2]
end

theorem Ty.has_size (T : Ty) (x : D) (h : T.has x) : x.size = T.size := T.is_size x h.toIs

theorem Ty.is_agg (T : Ty) (x : D) (h : T.is x) : x.isAgg = T.agg := by
  cases T
  case bool => obtain ⟨b, rfl⟩ := h; rfl
  case int => obtain ⟨b, rfl⟩ := h; rfl
  case str => obtain ⟨b, rfl⟩ := h; rfl
  all_goals (obtain ⟨ys, rfl, _⟩ := h; rfl)

theorem Ty.has_agg (T : Ty) (x : D) (h : T.has x) : x.isAgg = T.agg := T.is_agg x h.toIs

/-- Data compared. -/
noncomputable def deq (x y : D) : Bool := @decide (x = y) (Classical.propDecidable _)

theorem deq_true {x y : D} : deq x y = true ↔ x = y := by simp [deq]
theorem deq_false {x y : D} : deq x y = false ↔ x ≠ y := by simp [deq]

-- A type whose values are compared part by part.
mutual
def Ty.fitE (tt : Nat → Option TI) : Ty → Nat → Bool
  | .bool, t => Ty.fit tt .bool t
  | .int k, t => Ty.fit tt (.int k) t
  | .str, t => Ty.fit tt .str t
  | .st l, t => match tt t with
    | some i => i.eq && (Nat.beq i.size (Ty.sizes l) && (match i.k with | .struct fs => Ty.fitsE tt l fs 0 | _ => false))
    | none => false
  | .arr n sz e, t => match tt t with
    | some i => i.eq && (Nat.beq i.size (n * sz) && (match i.k with | .arr n' e' => Nat.beq n n' && (Nat.beq sz e.size && e.fitE tt e') | _ => false))
    | none => false
  | .sl _ _, _ => false
def Ty.fitsE (tt : Nat → Option TI) : List Ty → List (Nat × Nat × Bool) → Nat → Bool
  | [], [], _ => true
  | T :: l, (o', t, b) :: fs, o => Nat.beq o' o && (!b && (T.fitE tt t && Ty.fitsE tt l fs (o + T.size)))
  | _, _, _ => false
end

mutual
theorem Ty.fitE_fit {tt : Nat → Option TI} : ∀ {T : Ty} {t : Nat}, T.fitE tt t = true → T.fit tt t = true
  | .bool, _, h => h
  | .int k, _, h => h
  | .str, _, h => h
  | .st l, t, h => by
    simp only [Ty.fitE, Ty.fit] at h ⊢
    split at h
    case h_2 => cases h
    rename_i i hi
    simp only [Bool.and_eq_true] at h ⊢
    refine ⟨h.2.1, ?_⟩
    have h3 := h.2.2
    split at h3
    case h_2 => cases h3
    rename_i fs hk
    exact Ty.fitsE_fits h3
  | .arr n sz e, t, h => by
    simp only [Ty.fitE, Ty.fit] at h ⊢
    split at h
    case h_2 => cases h
    rename_i i hi
    simp only [Bool.and_eq_true] at h ⊢
    refine ⟨h.2.1, ?_⟩
    have h3 := h.2.2
    split at h3
    case h_2 => cases h3
    rename_i fs hk
    simp only [Bool.and_eq_true] at h3 ⊢
    exact ⟨h3.1, h3.2.1, Ty.fitE_fit h3.2.2⟩
  | .sl _ _, _, h => by cases h
theorem Ty.fitsE_fits {tt : Nat → Option TI} : ∀ {l : List Ty} {fs : List (Nat × Nat × Bool)} {o : Nat}, Ty.fitsE tt l fs o = true → Ty.fits tt l fs o = true
  | [], [], _, _ => rfl
  | T :: l, (o', t, b) :: fs, o, h => by
    simp only [Ty.fitsE, Ty.fits, Bool.and_eq_true] at h ⊢
    exact ⟨h.1, Ty.fitE_fit h.2.2.1, Ty.fitsE_fits h.2.2.2⟩
  | [], _ :: _, _, h => by cases h
  | _ :: _, [], _, h => by cases h
end

theorem run_part_ok {c : Ctx} (hc : c.ok) {T : Ty} {t : Nat} {w : World} {G : Nat → Nat → Prop} {y : D} {xs : Array Value} {o : Nat} {cs r : List Value} (hf : T.fit c.tt t = true) (hy : T.is y) (h : CL w G [y] cs) (hx : xs.toList.drop o = cs ++ r) :
    ∃ v, (part t xs o).run c.P w = .ok v w ∧ VD w G y v := by
  obtain ⟨i, hi, hs⟩ := Ty.fit_size hf
  obtain ⟨i', hi', ha⟩ := Ty.fit_agg hf
  rw [hi] at hi'
  cases hi'
  have hfit := hc t i hi
  have hya := Ty.is_agg T y hy
  have hlen := h.length
  simp only [D.sizes, Nat.add_zero, Ty.is_size T y hy] at hlen
  cases hb : T.agg with
  | true =>
    refine ⟨.agg (xs.extract o (o + i.size)), by simp [part, run_isAgg' hfit, ha, hb, run_sizeOf' hfit], ?_⟩
    have e : (xs.extract o (o + i.size)).toList = cs := by
      rw [Array.toList_extract, List.extract_eq_take_drop, hx, hs, ← hlen]
      simp
    refine ⟨by simp only [Value.cells]; rw [e]; exact h, by simp [vAgg, hya, hb]⟩
  | false =>
    obtain ⟨v, rfl, h1, h2⟩ := CL.single h (by rw [hya, hb])
    have e : xs[o]? = some v := by
      have : (xs.toList.drop o)[0]? = some v := by rw [hx]; rfl
      simpa using this
    exact ⟨v, by simp [part, run_isAgg' hfit, ha, hb, e], ⟨by rw [h2]; exact h, by rw [h1, hya, hb]⟩⟩

theorem VD.ty_int {w G k x v} (h : VD w G x v) (hx : Ty.is (.int k) x) : ∃ n, x = .int k n ∧ v = .int k n := by
  obtain ⟨n, rfl⟩ := hx
  obtain ⟨h1, h2⟩ := h
  refine ⟨n, rfl, ?_⟩
  generalize hq : v.cells.toList = q at h1
  cases h1 with
  | int h1 =>
    cases h1
    cases v <;> simp [vAgg, D.isAgg] at h2 <;> simp_all [Value.cells]

theorem VD.ty_bool {w G x v} (h : VD w G x v) (hx : Ty.is .bool x) : ∃ n, x = .bool n ∧ v = .bool n := by
  obtain ⟨n, rfl⟩ := hx
  obtain ⟨h1, h2⟩ := h
  refine ⟨n, rfl, ?_⟩
  generalize hq : v.cells.toList = q at h1
  cases h1 with
  | bool h1 =>
    cases h1
    cases v <;> simp [vAgg, D.isAgg] at h2 <;> simp_all [Value.cells]

theorem VD.ty_str {w G x v} (h : VD w G x v) (hx : Ty.is .str x) : ∃ n, x = .str n ∧ v = .string n := by
  obtain ⟨n, rfl⟩ := hx
  obtain ⟨h1, h2⟩ := h
  refine ⟨n, rfl, ?_⟩
  generalize hq : v.cells.toList = q at h1
  cases h1 with
  | str h1 =>
    cases h1
    cases v <;> simp [vAgg, D.isAgg] at h2 <;> simp_all [Value.cells]

theorem CL.agg_inv {w G l cs} (h : CL w G [.agg l] cs) : CL w G l cs := by
  generalize hq : [D.agg l] = q at h
  cases h with
  | agg h1 h2 =>
    simp only [List.cons.injEq, D.agg.injEq] at hq
    obtain ⟨rfl, rfl⟩ := hq
    cases h2
    simpa using h1
  | _ => simp at hq

theorem CL.arr_inv {w G n sz l cs} (h : CL w G [.arr n sz l] cs) : CL w G l cs := by
  generalize hq : [D.arr n sz l] = q at h
  cases h with
  | arr h1 h2 h3 h4 =>
    simp only [List.cons.injEq, D.arr.injEq] at hq
    obtain ⟨⟨rfl, rfl, rfl⟩, rfl⟩ := hq
    cases h4
    simpa using h1
  | _ => simp at hq

theorem kindB_refl (k : IntKind) : kindB k k = true := by cases k <;> rfl

mutual
theorem Ty.equalIn_ok {c : Ctx} (hc : c.ok) {w : World} {G : Nat → Nat → Prop} : ∀ (T : Ty) (t d : Nat) (x y : D) (vx vy : Value), T.fitE c.tt t = true → T.is x → T.is y → VD w G x vx → VD w G y vy → T.depth < d →
    (Op.equalIn d t vx vy).run c.P w = .ok (deq x y) w
  | .bool, t, d, x, y, vx, vy, hf, hx, hy, h1, h2, hd => by
    obtain ⟨a, rfl, rfl⟩ := h1.ty_bool hx
    obtain ⟨b, rfl, rfl⟩ := h2.ty_bool hy
    simp only [Ty.fitE, Ty.fit] at hf
    split at hf
    case h_2 => cases hf
    rename_i i hi
    obtain ⟨⟨dd, hu, hk⟩, _⟩ := hc t i hi
    simp only [Bool.and_eq_true] at hf
    rw [← hk] at hf
    cases dd <;> simp only [tkOf] at hf <;> first | (simp at hf; done) | skip
    cases d with
    | zero => omega
    | succ d =>
      rw [run_equalIn_bool w d t a b hu]
      congr 1
      by_cases e : a = b
      · subst e; simp [deq]
      · simp [deq, e]
  | .int k, t, d, x, y, vx, vy, hf, hx, hy, h1, h2, hd => by
    obtain ⟨a, rfl, rfl⟩ := h1.ty_int hx
    obtain ⟨b, rfl, rfl⟩ := h2.ty_int hy
    simp only [Ty.fitE, Ty.fit] at hf
    split at hf
    case h_2 => cases hf
    rename_i i hi
    obtain ⟨⟨dd, hu, hk⟩, _⟩ := hc t i hi
    simp only [Bool.and_eq_true] at hf
    rw [← hk] at hf
    cases dd <;> simp only [tkOf] at hf <;> first | (simp at hf; done) | skip
    cases d with
    | zero => omega
    | succ d =>
      rw [run_equalIn_int w d t k _ a b hu]
      congr 1
      by_cases e : a = b
      · subst e; simp [deq]
      · simp [deq, e]
  | .str, t, d, x, y, vx, vy, hf, hx, hy, h1, h2, hd => by
    obtain ⟨a, rfl, rfl⟩ := h1.ty_str hx
    obtain ⟨b, rfl, rfl⟩ := h2.ty_str hy
    simp only [Ty.fitE, Ty.fit] at hf
    split at hf
    case h_2 => cases hf
    rename_i i hi
    obtain ⟨⟨dd, hu, hk⟩, _⟩ := hc t i hi
    simp only [Bool.and_eq_true] at hf
    rw [← hk] at hf
    cases dd <;> simp only [tkOf] at hf <;> first | (simp at hf; done) | skip
    cases d with
    | zero => omega
    | succ d =>
      rw [run_equalIn_string w d t a b hu]
      congr 1
      by_cases e : a = b
      · subst e; simp [deq]
      · have : a.toList ≠ b.toList := by
          intro e'
          apply e
          rw [ByteArray.toList_eq, ByteArray.toList_eq] at e'
          cases a; cases b
          simp at e'
          rw [e']
        simp [deq, e, this]
  | .st l, t, d, x, y, vx, vy, hf, hx, hy, h1, h2, hd => by
    obtain ⟨xs, rfl, hx⟩ := hx
    obtain ⟨ys, rfl, hy⟩ := hy
    rcases h1.inv with ⟨_, cx, rfl, g1⟩ | ⟨e, _⟩
    case inr => simp [D.isAgg] at e
    rcases h2.inv with ⟨_, cy, rfl, g2⟩ | ⟨e, _⟩
    case inr => simp [D.isAgg] at e
    simp only [Ty.fitE] at hf
    split at hf
    case h_2 => cases hf
    rename_i i hi
    obtain ⟨⟨dd, hu, hk⟩, _⟩ := hc t i hi
    simp only [Bool.and_eq_true] at hf
    obtain ⟨f1, f2, f3⟩ := hf
    have hflag := ((hc.flags t i hi).1 f1).1
    rw [← hk] at f3
    cases dd <;> simp only [tkOf] at f3 <;> first | (simp at f3; done) | skip
    rename_i fs
    have hfo : c.P.fieldsOf t = fs := by simp [Program.fieldsOf, hu]
    cases d with
    | zero => omega
    | succ d =>
      rw [run_equalIn_struct w d t cx cy (by rw [hfo]; exact hu) hflag, hfo]
      have := Ty.eqFields_ok hc l fs.toList d xs ys cx cy 0 f3 hx hy (by simpa using g1.agg_inv) (by simpa using g2.agg_inv) (by simp only [Ty.depth] at hd; omega)
      rw [this]
      congr 1
      by_cases e : xs = ys
      · subst e; simp [deq]
      · simp [deq, e]
  | .arr n sz e, t, d, x, y, vx, vy, hf, hx, hy, h1, h2, hd => by
    obtain ⟨xs, rfl, hxl, hx⟩ := hx
    obtain ⟨ys, rfl, hyl, hy⟩ := hy
    rcases h1.inv with ⟨_, cx, rfl, g1⟩ | ⟨e, _⟩
    case inr => simp [D.isAgg] at e
    rcases h2.inv with ⟨_, cy, rfl, g2⟩ | ⟨e, _⟩
    case inr => simp [D.isAgg] at e
    simp only [Ty.fitE] at hf
    split at hf
    case h_2 => cases hf
    rename_i i hi
    obtain ⟨⟨dd, hu, hk⟩, _⟩ := hc t i hi
    simp only [Bool.and_eq_true] at hf
    obtain ⟨_, f2, f3⟩ := hf
    rw [← hk] at f3
    cases dd <;> simp only [tkOf] at f3 <;> first | (simp at f3; done) | skip
    rename_i n' e'
    simp only [Bool.and_eq_true] at f3
    obtain ⟨f3, f4, f5⟩ := f3
    obtain rfl := nbeq f3
    have hse := nbeq f4
    obtain ⟨ie, hie, hies⟩ := Ty.fit_size (Ty.fitE_fit f5)
    obtain ⟨_, infe, hinfe, hsze, _⟩ := hc e' ie hie
    have hce : c.P.cellsOf e' = sz := by rw [hse, ← hies, ← hsze]; simp [Program.cellsOf, hinfe]
    cases d with
    | zero => omega
    | succ d =>
      rw [run_equalIn_array w d cx cy hu hinfe, hce]
      have key : ∀ (m k : Nat) (as bs : List D), as.length = m → bs.length = m → (∀ a ∈ as, e.is a) → (∀ b ∈ bs, e.is b) → CL w G as (cx.toList.drop (k * sz)) → CL w G bs (cy.toList.drop (k * sz)) →
          (Op.eqItems d e' sz cx cy (List.range' k m)).run c.P w = .ok (@decide (as = bs) (Classical.propDecidable _)) w := by
        intro m
        induction m with
        | zero =>
          intro k as bs h1 h2 _ _ _ _
          obtain rfl := List.eq_nil_of_length_eq_zero h1
          obtain rfl := List.eq_nil_of_length_eq_zero h2
          simp [Op.eqItems, List.range']
        | succ m ih =>
          intro k as bs h1 h2 h3 h4 h5 h6
          cases as with
          | nil => simp at h1
          | cons a as =>
            cases bs with
            | nil => simp at h2
            | cons b bs =>
              obtain ⟨ca, da, e1, h7, h8⟩ := h5.cons_inv
              obtain ⟨cb, db, e2, h9, h10⟩ := h6.cons_inv
              obtain ⟨va, p1, p2⟩ := run_part_ok hc (Ty.fitE_fit f5) (h3 a (by simp)) h7 e1
              obtain ⟨vb, q1, q2⟩ := run_part_ok hc (Ty.fitE_fit f5) (h4 b (by simp)) h9 e2
              have la := h7.length
              have lb := h9.length
              simp only [D.sizes, Nat.add_zero, Ty.is_size e a (h3 a (by simp)), Ty.is_size e b (h4 b (by simp)), ← hse] at la lb
              have eq1 := Ty.equalIn_ok hc e e' d a b va vb f5 (h3 a (by simp)) (h4 b (by simp)) p2 q2 (by simp only [Ty.depth] at hd; omega)
              simp only [List.range', Op.eqItems, Sem.run_bind, p1, q1, eq1, Result.andThen_ok]
              have dd1 : cx.toList.drop ((k + 1) * sz) = da := by
                rw [Nat.add_mul, Nat.one_mul, ← List.drop_drop, e1, ← la]; simp
              have dd2 : cy.toList.drop ((k + 1) * sz) = db := by
                rw [Nat.add_mul, Nat.one_mul, ← List.drop_drop, e2, ← lb]; simp
              have hrec := ih (k + 1) as bs (by simpa using h1) (by simpa using h2) (fun z hz => h3 z (by simp [hz])) (fun z hz => h4 z (by simp [hz])) (by rw [dd1]; exact h8) (by rw [dd2]; exact h10)
              by_cases eab : a = b
              · subst eab
                simp only [deq, decide_true, Bool.not_true, Bool.false_eq_true, if_false, hrec]
                congr 1
                by_cases ers : as = bs
                · subst ers; simp
                · simp [ers]
              · simp [deq, eab]
      have := key n 0 xs ys hxl hyl hx hy (by simpa using g1.arr_inv) (by simpa using g2.arr_inv)
      rw [List.range_eq_range', this]
      congr 1
      by_cases e : xs = ys
      · subst e; simp [deq]
      · simp [deq, e]
  | .sl _ _, _, _, _, _, _, _, hf, _, _, _, _, _ => by cases hf
theorem Ty.eqFields_ok {c : Ctx} (hc : c.ok) {w : World} {G : Nat → Nat → Prop} : ∀ (l : List Ty) (fs : List Field) (d : Nat) (xs ys : List D) (cx cy : Array Value) (o : Nat), Ty.fitsE c.tt l (fs.map fun f => (f.offset, f.type, f.name == "_")) o = true →
    Ty.iss l xs → Ty.iss l ys → CL w G xs (cx.toList.drop o) → CL w G ys (cy.toList.drop o) → Ty.depths l < d + 1 → (Op.eqFields d cx cy fs).run c.P w = .ok (@decide (xs = ys) (Classical.propDecidable _)) w
  | [], [], d, xs, ys, cx, cy, o, hf, hx, hy, h1, h2, hd => by
    have hx : xs = [] := hx
    have hy : ys = [] := hy
    subst hx; subst hy
    simp [Op.eqFields]
  | T :: l, f :: fs, d, xs, ys, cx, cy, o, hf, hx, hy, h1, h2, hd => by
    obtain ⟨a, as, rfl, ha, has⟩ := hx
    obtain ⟨b, bs, rfl, hb, hbs⟩ := hy
    simp only [List.map_cons, Ty.fitsE, Bool.and_eq_true, Bool.not_eq_true', beq_eq_false_iff_ne] at hf
    obtain ⟨f1, f2, f3, f4⟩ := hf
    have ho := nbeq f1
    obtain ⟨ca, da, e1, h7, h8⟩ := h1.cons_inv
    obtain ⟨cb, db, e2, h9, h10⟩ := h2.cons_inv
    rw [← ho] at e1 e2
    obtain ⟨va, p1, p2⟩ := run_part_ok hc (Ty.fitE_fit f3) ha h7 e1
    obtain ⟨vb, q1, q2⟩ := run_part_ok hc (Ty.fitE_fit f3) hb h9 e2
    have la := h7.length
    have lb := h9.length
    simp only [D.sizes, Nat.add_zero, Ty.is_size T a ha, Ty.is_size T b hb] at la lb
    have eq1 := Ty.equalIn_ok hc T f.type d a b va vb f3 ha hb p2 q2 (by simp only [Ty.depths] at hd; omega)
    have dd1 : cx.toList.drop (o + T.size) = da := by
      rw [← List.drop_drop, ← ho, e1, ← la]; simp
    have dd2 : cy.toList.drop (o + T.size) = db := by
      rw [← List.drop_drop, ← ho, e2, ← lb]; simp
    have hrec := Ty.eqFields_ok hc l fs d as bs cx cy (o + T.size) f4 has hbs (by rw [dd1]; exact h8) (by rw [dd2]; exact h10) (by simp only [Ty.depths] at hd; omega)
    simp only [Op.eqFields, if_pos f2, Sem.run_bind, p1, q1, eq1, Result.andThen_ok]
    by_cases eab : a = b
    · subst eab
      simp only [deq, decide_true, Bool.not_true, Bool.false_eq_true, if_false, hrec]
      congr 1
      by_cases ers : as = bs
      · subst ers; simp
      · simp [ers]
    · simp [deq, eab]
  | [], _ :: _, _, _, _, _, _, _, h, _, _, _, _, _ => by cases h
  | _ :: _, [], _, _, _, _, _, _, h, _, _, _, _, _ => by cases h
end

end Go.Ab
