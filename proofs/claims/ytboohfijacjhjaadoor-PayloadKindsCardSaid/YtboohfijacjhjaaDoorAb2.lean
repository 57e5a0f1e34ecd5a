/-
  An own logic over the kit's 'Calls' (Ab2): abstract values and stores, what they mean, and what stays.
-/
import Derived.Test.YtboohfijacjhjaaDoorAb1
namespace Go.Ab
open Go.RowKit

inductive Step where
  | fld (k o : Nat)
  | ix (i sz cnt : Nat)

def offp : List Step → Nat
  | [] => 0
  | .fld _ o :: p => o + offp p
  | .ix i sz _ :: p => i * sz + offp p

def Step.ok : Step → Prop
  | .fld .. => True
  | .ix i _ cnt => i < cnt

def pathOk (p : List Step) : Prop := ∀ s ∈ p, s.ok

theorem offp_append (p q : List Step) : offp (p ++ q) = offp p + offp q := by
  induction p with
  | nil => simp [offp]
  | cons s p ih => cases s <;> simp [offp, ih, Nat.add_assoc]

inductive AV where
  | d (x : D)
  | ptr (n : Nat) (p : List Step)
  | row (n : Nat)
  | vw (n : Nat) (p : List Step) (lo len cnt sz : Nat)
  | fn (f : FuncId) (caps : List Nat)
  | agg (l : List AV)
  | tup (l : List AV)
  deriving Inhabited

def AV.isAgg : AV → Bool
  | .d x => x.isAgg
  | .agg _ => true
  | _ => false

mutual
def AV.size : AV → Nat
  | .d x => x.size
  | .agg l => AV.sizes l
  | _ => 1
def AV.sizes : List AV → Nat
  | [] => 0
  | x :: r => x.size + AV.sizes r
end

inductive Blk where
  | var (x : AV)
  | row (e : TypeId) (sz : Nat) (xs : List D)
  | iter (s : ByteArray) (pos : Nat)
  | sealed (x : D)
  | dead
  deriving Inhabited

def Blk.live : Blk → Bool
  | .var _ => true
  | .row .. => true
  | .iter .. => true
  | _ => false

/-- A name's value is a place. -/
def solid : Value → Prop
  | .pointer (some _) => True
  | .slice .. => True
  | _ => False

/-- The cells of abstract values. -/
inductive CA (μ : Nat → Value) (k : Nat) (w : World) (G : Nat → Nat → Prop) : List AV → List Value → Prop
  | nil : CA μ k w G [] []
  | d {x c r cs} : CL w G [x] c → CA μ k w G r cs → CA μ k w G (.d x :: r) (c ++ cs)
  | ptr {n p b r cs} : n < k → μ n = .pointer (some ⟨b, 0, none⟩) → pathOk p → CA μ k w G r cs →
      CA μ k w G (.ptr n p :: r) (.pointer (some ⟨b, offp p, none⟩) :: cs)
  | row {n a len cap r cs} : n < k → μ n = .slice a len cap → CA μ k w G r cs → CA μ k w G (.row n :: r) (.slice a len cap :: cs)
  | vw {n p b lo len cnt sz cap r cs} : n < k → μ n = .pointer (some ⟨b, 0, none⟩) → pathOk p → lo + len ≤ cnt → cap = cnt - lo → cap ≤ maxLen → CA μ k w G r cs →
      CA μ k w G (.vw n p lo len cnt sz :: r) (.slice (some ⟨b, offp p + lo * sz, none⟩) len cap :: cs)
  | fn {f caps r cs} : (∀ n ∈ caps, n < k ∧ solid (μ n)) → CA μ k w G r cs → CA μ k w G (.fn f caps :: r) (.func (.func f) #[] (caps.map μ).toArray :: cs)
  | agg {l c r cs} : CA μ k w G l c → CA μ k w G r cs → CA μ k w G (.agg l :: r) (c ++ cs)

/-- An abstract value (no tuple) and a value. -/
def VA (μ : Nat → Value) (k : Nat) (w : World) (G : Nat → Nat → Prop) (x : AV) (v : Value) : Prop :=
  CA μ k w G [x] v.cells.toList ∧ vAgg v = x.isAgg

/-- One behind the other. -/
inductive VS (μ : Nat → Value) (k : Nat) (w : World) (G : Nat → Nat → Prop) : List AV → List Value → Prop
  | nil : VS μ k w G [] []
  | cons {x v l vs} : VA μ k w G x v → VS μ k w G l vs → VS μ k w G (x :: l) (v :: vs)

/-- What a slot holds. -/
def RA (μ : Nat → Value) (k : Nat) (w : World) (G : Nat → Nat → Prop) (x : AV) (v : Value) : Prop :=
  match x with
  | .tup l => ∃ vs : List Value, v = .tuple vs.toArray ∧ VS μ k w G l vs
  | x => VA μ k w G x v

theorem CA.mono {μ μ' k k' w w' G G' l cs} (h : CA μ k w G l cs) (hk : k ≤ k') (hμ : ∀ i, i < k → solid (μ i) → μ' i = μ i) (hG : ∀ b o, G b o → G' b o)
    (hw : ∀ b o v, G b o → w.cell? ⟨b, o, none⟩ = some v → w'.cell? ⟨b, o, none⟩ = some v) : CA μ' k' w' G' l cs := by
  induction h with
  | nil => exact .nil
  | d h _ ih => exact .d (h.mono hG hw) ih
  | ptr h1 h2 h3 _ ih => exact .ptr (by omega) (by rw [hμ _ h1 (by rw [h2]; trivial), h2]) h3 ih
  | row h1 h2 _ ih => exact .row (by omega) (by rw [hμ _ h1 (by rw [h2]; trivial), h2]) ih
  | vw h1 h2 h3 h4 h5 h6 _ ih => exact .vw (by omega) (by rw [hμ _ h1 (by rw [h2]; trivial), h2]) h3 h4 h5 h6 ih
  | fn h1 _ ih =>
    rename_i caps _ _ _
    have e : caps.map μ = caps.map μ' := List.map_congr_left fun n hn => (hμ n (h1 n hn).1 (h1 n hn).2).symm
    rw [e]
    exact .fn (fun n hn => ⟨by have := (h1 n hn).1; omega, by rw [hμ n (h1 n hn).1 (h1 n hn).2]; exact (h1 n hn).2⟩) ih
  | agg _ _ ih1 ih2 => exact .agg ih1 ih2

theorem VA.mono {μ μ' k k' w w' G G' x v} (h : VA μ k w G x v) (hk : k ≤ k') (hμ : ∀ i, i < k → solid (μ i) → μ' i = μ i) (hG : ∀ b o, G b o → G' b o)
    (hw : ∀ b o v, G b o → w.cell? ⟨b, o, none⟩ = some v → w'.cell? ⟨b, o, none⟩ = some v) : VA μ' k' w' G' x v :=
  ⟨h.1.mono hk hμ hG hw, h.2⟩

theorem VS.mono {μ μ' k k' w w' G G' l vs} (h : VS μ k w G l vs) (hk : k ≤ k') (hμ : ∀ i, i < k → solid (μ i) → μ' i = μ i) (hG : ∀ b o, G b o → G' b o)
    (hw : ∀ b o v, G b o → w.cell? ⟨b, o, none⟩ = some v → w'.cell? ⟨b, o, none⟩ = some v) : VS μ' k' w' G' l vs := by
  induction h with
  | nil => exact .nil
  | cons h _ ih => exact .cons (h.mono hk hμ hG hw) ih

theorem RA.mono {μ μ' k k' w w' G G' x v} (h : RA μ k w G x v) (hk : k ≤ k') (hμ : ∀ i, i < k → solid (μ i) → μ' i = μ i) (hG : ∀ b o, G b o → G' b o)
    (hw : ∀ b o v, G b o → w.cell? ⟨b, o, none⟩ = some v → w'.cell? ⟨b, o, none⟩ = some v) : RA μ' k' w' G' x v := by
  unfold RA at *
  split at h
  · obtain ⟨vs, rfl, h⟩ := h; exact ⟨vs, rfl, h.mono hk hμ hG hw⟩
  · exact VA.mono h hk hμ hG hw

theorem CA.append {μ k w G l cs m ds} (h : CA μ k w G l cs) (g : CA μ k w G m ds) : CA μ k w G (l ++ m) (cs ++ ds) := by
  induction h with
  | nil => exact g
  | d h _ ih => rw [List.cons_append, List.append_assoc]; exact .d h ih
  | ptr h1 h2 h3 _ ih => exact .ptr h1 h2 h3 ih
  | row h1 h2 _ ih => exact .row h1 h2 ih
  | vw h1 h2 h3 h4 h5 h6 _ ih => exact .vw h1 h2 h3 h4 h5 h6 ih
  | fn h1 _ ih => exact .fn h1 ih
  | agg h _ _ ih => rw [List.cons_append, List.append_assoc]; exact .agg h ih

theorem CA.cons_inv {μ k w G x l cs} (h : CA μ k w G (x :: l) cs) : ∃ c d, cs = c ++ d ∧ CA μ k w G [x] c ∧ CA μ k w G l d := by
  cases h with
  | d h g => exact ⟨_, _, rfl, by simpa using CA.d h .nil, g⟩
  | ptr h1 h2 h3 g => exact ⟨[_], _, rfl, .ptr h1 h2 h3 .nil, g⟩
  | row h1 h2 g => exact ⟨[_], _, rfl, .row h1 h2 .nil, g⟩
  | vw h1 h2 h3 h4 h5 h6 g => exact ⟨[_], _, rfl, .vw h1 h2 h3 h4 h5 h6 .nil, g⟩
  | fn h1 g => exact ⟨[_], _, rfl, .fn h1 .nil, g⟩
  | agg h g => exact ⟨_, _, rfl, by simpa using CA.agg h .nil, g⟩

theorem CA.append_inv {μ k w G} : ∀ {l m cs}, CA μ k w G (l ++ m) cs → ∃ c d, cs = c ++ d ∧ CA μ k w G l c ∧ CA μ k w G m d
  | [], _, cs, h => ⟨[], cs, rfl, .nil, h⟩
  | x :: l, m, cs, h => by
    obtain ⟨c, d, rfl, h1, h2⟩ := CA.cons_inv (l := l ++ m) h
    obtain ⟨c2, d2, rfl, h3, h4⟩ := CA.append_inv (l := l) h2
    exact ⟨c ++ c2, d2, by simp, by simpa using CA.append h1 h3, h4⟩

theorem CA.length {μ k w G l cs} (h : CA μ k w G l cs) : cs.length = AV.sizes l := by
  induction h with
  | nil => rfl
  | d h _ ih => have := h.length; simp [AV.sizes, AV.size, D.sizes] at *; omega
  | agg _ _ ih1 ih2 => simp [AV.sizes, AV.size, ih1, ih2]
  | _ => simp_all [AV.sizes, AV.size, Nat.add_comm]

theorem CA.get {μ k w G l cs} (h : CA μ k w G l cs) {i : Nat} {x : AV} (hi : l[i]? = some x) :
    ∃ a c d, cs = a ++ (c ++ d) ∧ a.length = AV.sizes (l.take i) ∧ CA μ k w G [x] c ∧
      ∀ y c', CA μ k w G [y] c' → CA μ k w G (l.set i y) (a ++ (c' ++ d)) := by
  have hlt : i < l.length := by
    rcases Nat.lt_or_ge i l.length with h | h
    · exact h
    · simp [List.getElem?_eq_none h] at hi
  have e : l = l.take i ++ (x :: l.drop (i + 1)) := by
    rw [List.getElem?_eq_getElem hlt] at hi
    simp only [Option.some.injEq] at hi
    rw [← hi, ← List.drop_eq_getElem_cons hlt, List.take_append_drop]
  have h' := h
  rw [e] at h'
  obtain ⟨a, d, rfl, h1, h2⟩ := CA.append_inv h'
  obtain ⟨c, d2, rfl, h3, h4⟩ := CA.cons_inv h2
  refine ⟨a, c, d2, rfl, h1.length, h3, fun y c' hy => ?_⟩
  rw [List.set_eq_take_append_cons_drop, if_pos hlt]
  exact CA.append h1 (by simpa using CA.append hy h4)

theorem CA.oneCell {μ k w G l cs} (h : CA μ k w G l cs) : ∀ v ∈ cs, v.oneCell' = true := by
  induction h with
  | nil => simp
  | d h _ ih => intro v hv; rcases List.mem_append.1 hv with g | g; exact h.oneCell _ g; exact ih _ g
  | agg _ _ ih1 ih2 => intro v hv; rcases List.mem_append.1 hv with g | g; exact ih1 _ g; exact ih2 _ g
  | ptr _ _ _ _ ih => intro v hv; rcases List.mem_cons.1 hv with rfl | g; rfl; exact ih _ g
  | row _ _ _ ih => intro v hv; rcases List.mem_cons.1 hv with rfl | g; rfl; exact ih _ g
  | vw _ _ _ _ _ _ _ ih => intro v hv; rcases List.mem_cons.1 hv with rfl | g; rfl; exact ih _ g
  | fn _ _ ih => intro v hv; rcases List.mem_cons.1 hv with rfl | g; rfl; exact ih _ g

theorem CA.single {μ k w G x cs} (h : CA μ k w G [x] cs) (ha : x.isAgg = false) : ∃ v, cs = [v] ∧ vAgg v = false ∧ v.cells = #[v] := by
  cases h with
  | d h g => cases g; obtain ⟨v, rfl, h1⟩ := h.single (by simpa [AV.isAgg] using ha); exact ⟨v, by simp, h1⟩
  | agg => simp [AV.isAgg] at ha
  | ptr _ _ _ g => cases g; exact ⟨_, rfl, rfl, rfl⟩
  | row _ _ g => cases g; exact ⟨_, rfl, rfl, rfl⟩
  | vw _ _ _ _ _ _ g => cases g; exact ⟨_, rfl, rfl, rfl⟩
  | fn _ g => cases g; exact ⟨_, rfl, rfl, rfl⟩

theorem VA.inv {μ k w G x v} (h : VA μ k w G x v) : (x.isAgg = true ∧ ∃ cs, v = .agg cs ∧ CA μ k w G [x] cs.toList) ∨ (x.isAgg = false ∧ CA μ k w G [x] [v] ∧ v.cells = #[v]) := by
  obtain ⟨h1, h2⟩ := h
  cases hx : x.isAgg with
  | true =>
    left
    rw [hx] at h2
    cases v <;> simp [vAgg] at h2
    exact ⟨rfl, _, rfl, by simpa [Value.cells] using h1⟩
  | false =>
    right
    rw [hx] at h2
    have e : v.cells = #[v] := by cases v <;> simp_all [vAgg, Value.cells]
    exact ⟨rfl, by rw [e] at h1; exact h1, e⟩

theorem VA.of_agg {μ k w G x} {cs : List Value} (h : CA μ k w G [x] cs) (ha : x.isAgg = true) : VA μ k w G x (.agg cs.toArray) :=
  ⟨by simpa [Value.cells] using h, by simp [vAgg, ha]⟩

theorem VA.of_single {μ k w G x v} (h : CA μ k w G [x] [v]) (ha : x.isAgg = false) : VA μ k w G x v := by
  obtain ⟨u, hu, h1, h2⟩ := CA.single h ha
  simp only [List.cons.injEq, and_true] at hu
  subst hu
  exact ⟨by rw [h2]; exact h, by rw [h1, ha]⟩

theorem VA.size {μ k w G x v} (h : VA μ k w G x v) : v.cells.size = x.size := by
  have := h.1.length
  simpa [AV.sizes] using this

theorem CA.d_iff {μ k w G x c} : CA μ k w G [.d x] c ↔ CL w G [x] c := by
  constructor
  · intro h; cases h with | d h g => cases g; simpa using h
  · intro h; simpa using CA.d h .nil

theorem VA.d_iff {μ k w G x v} : VA μ k w G (.d x) v ↔ VD w G x v := by
  unfold VA VD; rw [CA.d_iff]; rfl

/-- The parts of a struct or an array that lie one behind the other. -/
theorem CA.agg_d {μ k w G l cs} (h : CL w G l cs) : CA μ k w G (l.map .d) cs := by
  induction l generalizing cs with
  | nil => cases h; exact .nil
  | cons x l ih =>
    obtain ⟨c, d, rfl, h1, h2⟩ := h.cons_inv
    exact .d h1 (ih h2)

theorem CL.of_map_d {μ k w G} : ∀ {l cs}, CA μ k w G (l.map .d) cs → CL w G l cs
  | [], _, h => by cases h; exact .nil
  | x :: l, _, h => by
    cases h with
    | d h g => simpa using CL.append h (CL.of_map_d g)

end Go.Ab
