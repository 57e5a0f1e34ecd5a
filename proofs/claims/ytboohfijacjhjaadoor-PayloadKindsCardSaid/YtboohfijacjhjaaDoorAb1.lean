/-
  An own logic over the kit's 'Calls': pure data 'D', abstract values 'AV', what they mean in a world. (Ab1: the relation.)
-/
import Derived.Below
import Derived.Orders
import Derived.Laws.AppendOwn
import Derived.Laws.Cells
import Derived.KernelRfl
namespace Go.Ab
open Go.RowKit

inductive D where
  | bool (b : Bool)
  | int (k : IntKind) (n : Int)
  | str (s : ByteArray)
  | nilP
  | nilI
  | nilF
  | iface (t : TypeId) (x : D)
  | agg (l : List D)
  | arr (n sz : Nat) (xs : List D)
  | sl (sz : Nat) (xs : List D)
  | cptr (x : D)
  deriving Inhabited

def D.isAgg : D → Bool
  | .agg _ => true
  | .arr .. => true
  | _ => false

mutual
def D.size : D → Nat
  | .agg l => D.sizes l
  | .arr n sz _ => n * sz
  | _ => 1
def D.sizes : List D → Nat
  | [] => 0
  | x :: r => x.size + D.sizes r
end

def vAgg : Value → Bool
  | .agg _ => true
  | _ => false

/-- Cells of memory, from an address on, that stay as they are. -/
def At (w : World) (G : Nat → Nat → Prop) (b off : Nat) (cs : List Value) : Prop :=
  ∀ j v, cs[j]? = some v → w.cell? ⟨b, off + j, none⟩ = some v ∧ G b (off + j)

inductive CL (w : World) (G : Nat → Nat → Prop) : List D → List Value → Prop
  | nil : CL w G [] []
  | bool {b r cs} : CL w G r cs → CL w G (.bool b :: r) (.bool b :: cs)
  | int {k n r cs} : CL w G r cs → CL w G (.int k n :: r) (.int k n :: cs)
  | str {s r cs} : CL w G r cs → CL w G (.str s :: r) (.string s :: cs)
  | nilP {r cs} : CL w G r cs → CL w G (.nilP :: r) (.pointer none :: cs)
  | nilI {r cs} : CL w G r cs → CL w G (.nilI :: r) (.nilIface :: cs)
  | nilF {r cs} : CL w G r cs → CL w G (.nilF :: r) (.nilFunc :: cs)
  | iface {t x v r cs} : CL w G [x] v.cells.toList → vAgg v = x.isAgg → CL w G r cs → CL w G (.iface t x :: r) (.iface t v :: cs)
  | agg {l c r cs} : CL w G l c → CL w G r cs → CL w G (.agg l :: r) (c ++ cs)
  | arr {n sz xs c r cs} : CL w G xs c → xs.length = n → (∀ x ∈ xs, x.size = sz) → CL w G r cs → CL w G (.arr n sz xs :: r) (c ++ cs)
  | slnil {sz r cs} : CL w G r cs → CL w G (.sl sz [] :: r) (.slice none 0 0 :: cs)
  | sl {sz xs c a n cap r cs} : CL w G xs c → xs.length = n → (∀ x ∈ xs, x.size = sz) → At w G a.block a.off c → (xs = [] ∨ a.spot = none) → n ≤ cap → cap ≤ maxLen → CL w G r cs →
      CL w G (.sl sz xs :: r) (.slice (some a) n cap :: cs)
  | cptr {x c b off r cs} : CL w G [x] c → At w G b off c → CL w G r cs → CL w G (.cptr x :: r) (.pointer (some ⟨b, off, none⟩) :: cs)

def VD (w : World) (G : Nat → Nat → Prop) (x : D) (v : Value) : Prop := CL w G [x] v.cells.toList ∧ vAgg v = x.isAgg

theorem D.sizes_append (a b : List D) : D.sizes (a ++ b) = D.sizes a + D.sizes b := by
  induction a with
  | nil => simp [D.sizes]
  | cons x r ih => simp [D.sizes, ih, Nat.add_assoc]

theorem D.sizes_uniform {xs : List D} {sz : Nat} (h : ∀ x ∈ xs, x.size = sz) : D.sizes xs = xs.length * sz := by
  induction xs with
  | nil => simp [D.sizes]
  | cons x r ih =>
    have h1 := h x (by simp)
    have h2 := ih fun y hy => h y (by simp [hy])
    simp [D.sizes, h1, h2, Nat.add_mul, Nat.add_comm]

theorem CL.length {w G l cs} (h : CL w G l cs) : cs.length = D.sizes l := by
  induction h with
  | nil => rfl
  | agg _ _ ih1 ih2 => simp [D.sizes, D.size, ih1, ih2]
  | arr h0 h1 h2 _ ih1 ih2 =>
    simp [D.sizes, D.size, ih1, ih2, D.sizes_uniform h2, h1]
  | _ => simp_all [D.sizes, D.size, Nat.add_comm]

theorem At.mono {w w' : World} {G G' : Nat → Nat → Prop} {b off cs} (h : At w G b off cs) (hG : ∀ b o, G b o → G' b o)
    (hw : ∀ b o v, G b o → w.cell? ⟨b, o, none⟩ = some v → w'.cell? ⟨b, o, none⟩ = some v) : At w' G' b off cs :=
  fun j v hj => ⟨hw _ _ _ (h j v hj).2 (h j v hj).1, hG _ _ (h j v hj).2⟩

theorem CL.mono {w w' : World} {G G' : Nat → Nat → Prop} {l cs} (h : CL w G l cs) (hG : ∀ b o, G b o → G' b o)
    (hw : ∀ b o v, G b o → w.cell? ⟨b, o, none⟩ = some v → w'.cell? ⟨b, o, none⟩ = some v) : CL w' G' l cs := by
  induction h with
  | nil => exact .nil
  | bool _ ih => exact .bool ih
  | int _ ih => exact .int ih
  | str _ ih => exact .str ih
  | nilP _ ih => exact .nilP ih
  | nilI _ ih => exact .nilI ih
  | nilF _ ih => exact .nilF ih
  | iface _ h2 _ ih1 ih2 => exact .iface ih1 h2 ih2
  | agg _ _ ih1 ih2 => exact .agg ih1 ih2
  | arr _ h1 h2 _ ih1 ih2 => exact .arr ih1 h1 h2 ih2
  | slnil _ ih => exact .slnil ih
  | sl _ h1 h2 h3 h4 h5 h6 _ ih1 ih2 => exact .sl ih1 h1 h2 (h3.mono hG hw) h4 h5 h6 ih2
  | cptr _ h1 _ ih1 ih2 => exact .cptr ih1 (h1.mono hG hw) ih2

theorem CL.append {w G l cs m ds} (h : CL w G l cs) (k : CL w G m ds) : CL w G (l ++ m) (cs ++ ds) := by
  induction h with
  | nil => exact k
  | bool _ ih => exact .bool ih
  | int _ ih => exact .int ih
  | str _ ih => exact .str ih
  | nilP _ ih => exact .nilP ih
  | nilI _ ih => exact .nilI ih
  | nilF _ ih => exact .nilF ih
  | iface h1 h2 _ _ ih2 => exact .iface h1 h2 ih2
  | agg h1 _ _ ih2 => rw [List.cons_append, List.append_assoc]; exact .agg h1 ih2
  | arr h0 h1 h2 _ _ ih2 => rw [List.cons_append, List.append_assoc]; exact .arr h0 h1 h2 ih2
  | slnil _ ih => exact .slnil ih
  | sl h0 h1 h2 h3 h4 h5 h6 _ _ ih2 => exact .sl h0 h1 h2 h3 h4 h5 h6 ih2
  | cptr h0 h1 _ _ ih2 => exact .cptr h0 h1 ih2

/-- A list's head and rest. -/
theorem CL.cons_inv {w G x l cs} (h : CL w G (x :: l) cs) : ∃ c d, cs = c ++ d ∧ CL w G [x] c ∧ CL w G l d := by
  cases h with
  | bool h => exact ⟨[_], _, rfl, .bool .nil, h⟩
  | int h => exact ⟨[_], _, rfl, .int .nil, h⟩
  | str h => exact ⟨[_], _, rfl, .str .nil, h⟩
  | nilP h => exact ⟨[_], _, rfl, .nilP .nil, h⟩
  | nilI h => exact ⟨[_], _, rfl, .nilI .nil, h⟩
  | nilF h => exact ⟨[_], _, rfl, .nilF .nil, h⟩
  | iface h1 h2 h => exact ⟨[_], _, rfl, .iface h1 h2 .nil, h⟩
  | agg h1 h => exact ⟨_, _, rfl, by simpa using CL.agg h1 .nil, h⟩
  | arr h0 h1 h2 h => exact ⟨_, _, rfl, by simpa using CL.arr h0 h1 h2 .nil, h⟩
  | slnil h => exact ⟨[_], _, rfl, .slnil .nil, h⟩
  | sl h0 h1 h2 h3 h4 h5 h6 h => exact ⟨[_], _, rfl, .sl h0 h1 h2 h3 h4 h5 h6 .nil, h⟩
  | cptr h0 h1 h => exact ⟨[_], _, rfl, .cptr h0 h1 .nil, h⟩

theorem CL.append_inv {w G} : ∀ {l m cs}, CL w G (l ++ m) cs → ∃ c d, cs = c ++ d ∧ CL w G l c ∧ CL w G m d
  | [], _, cs, h => ⟨[], cs, rfl, .nil, h⟩
  | x :: l, m, cs, h => by
    obtain ⟨c, d, rfl, h1, h2⟩ := CL.cons_inv (l := l ++ m) h
    obtain ⟨c2, d2, rfl, h3, h4⟩ := CL.append_inv (l := l) h2
    exact ⟨c ++ c2, d2, by simp, by simpa using CL.append h1 h3, h4⟩

/-- Element i of a list of elements, and its cells. -/
theorem CL.get {w G l cs} (h : CL w G l cs) {i : Nat} {x : D} (hi : l[i]? = some x) :
    ∃ a c d, cs = a ++ (c ++ d) ∧ a.length = D.sizes (l.take i) ∧ CL w G [x] c := by
  have hlt : i < l.length := by
    rcases Nat.lt_or_ge i l.length with h | h
    · exact h
    · simp [List.getElem?_eq_none h] at hi
  have e : l = l.take i ++ (x :: l.drop (i + 1)) := by
    rw [List.getElem?_eq_getElem hlt] at hi
    simp only [Option.some.injEq] at hi
    rw [← hi, ← List.drop_eq_getElem_cons hlt, List.take_append_drop]
  rw [e] at h
  obtain ⟨a, d, rfl, h1, h2⟩ := CL.append_inv h
  obtain ⟨c, d2, rfl, h3, h4⟩ := CL.cons_inv h2
  exact ⟨a, c, d2, rfl, h1.length, h3⟩

theorem CL.oneCell {w G l cs} (h : CL w G l cs) : ∀ v ∈ cs, v.oneCell' = true := by
  induction h with
  | nil => simp
  | agg _ _ ih1 ih2 => intro v hv; rcases List.mem_append.1 hv with h | h; exact ih1 _ h; exact ih2 _ h
  | arr _ _ _ _ ih1 ih2 => intro v hv; rcases List.mem_append.1 hv with h | h; exact ih1 _ h; exact ih2 _ h
  | iface _ _ _ _ ih => intro v hv; rcases List.mem_cons.1 hv with rfl | h; rfl; exact ih _ h
  | sl _ _ _ _ _ _ _ _ _ ih => intro v hv; rcases List.mem_cons.1 hv with rfl | h; rfl; exact ih _ h
  | cptr _ _ _ _ ih => intro v hv; rcases List.mem_cons.1 hv with rfl | h; rfl; exact ih _ h
  | bool _ ih => intro v hv; rcases List.mem_cons.1 hv with rfl | h; rfl; exact ih _ h
  | int _ ih => intro v hv; rcases List.mem_cons.1 hv with rfl | h; rfl; exact ih _ h
  | str _ ih => intro v hv; rcases List.mem_cons.1 hv with rfl | h; rfl; exact ih _ h
  | nilP _ ih => intro v hv; rcases List.mem_cons.1 hv with rfl | h; rfl; exact ih _ h
  | nilI _ ih => intro v hv; rcases List.mem_cons.1 hv with rfl | h; rfl; exact ih _ h
  | nilF _ ih => intro v hv; rcases List.mem_cons.1 hv with rfl | h; rfl; exact ih _ h
  | slnil _ ih => intro v hv; rcases List.mem_cons.1 hv with rfl | h; rfl; exact ih _ h

/-- A value with the given shape that holds the cells. -/
theorem VD.of_agg {w G x} {cs : List Value} (h : CL w G [x] cs) (ha : x.isAgg = true) : VD w G x (.agg cs.toArray) :=
  ⟨by simpa [Value.cells] using h, by simp [vAgg, ha]⟩

theorem CL.single {w G x cs} (h : CL w G [x] cs) (ha : x.isAgg = false) : ∃ v, cs = [v] ∧ vAgg v = false ∧ v.cells = #[v] := by
  cases h with
  | agg | arr => simp [D.isAgg] at ha
  | bool h | int h | str h | nilP h | nilI h | nilF h | slnil h => cases h; exact ⟨_, rfl, rfl, rfl⟩
  | iface _ _ h => cases h; exact ⟨_, rfl, rfl, rfl⟩
  | sl _ _ _ _ _ _ _ h => cases h; exact ⟨_, rfl, rfl, rfl⟩
  | cptr _ _ h => cases h; exact ⟨_, rfl, rfl, rfl⟩

/-- A value that is no array or struct stands for itself. -/
theorem VD.of_single {w G x v} (h : CL w G [x] [v]) (ha : x.isAgg = false) : VD w G x v := by
  obtain ⟨u, hu, h1, h2⟩ := CL.single h ha
  simp only [List.cons.injEq, and_true] at hu
  subst hu
  exact ⟨by rw [h2]; exact h, by rw [h1, ha]⟩

theorem VD.inv {w G x v} (h : VD w G x v) : (x.isAgg = true ∧ ∃ cs, v = .agg cs ∧ CL w G [x] cs.toList) ∨ (x.isAgg = false ∧ CL w G [x] [v] ∧ v.cells = #[v]) := by
  obtain ⟨h1, h2⟩ := h
  cases hx : x.isAgg with
  | true =>
    left
    rw [hx] at h2
    cases v <;> simp [vAgg] at h2
    exact ⟨rfl, _, rfl, by simpa [Value.cells] using h1⟩
  | false =>
    right
    rw [hx] at h2
    have e : v.cells = #[v] := by cases v <;> simp_all [vAgg, Value.cells]
    exact ⟨rfl, by rw [e] at h1; exact h1, e⟩

theorem VD.mono {w w' : World} {G G' : Nat → Nat → Prop} {x v} (h : VD w G x v) (hG : ∀ b o, G b o → G' b o)
    (hw : ∀ b o v, G b o → w.cell? ⟨b, o, none⟩ = some v → w'.cell? ⟨b, o, none⟩ = some v) : VD w' G' x v :=
  ⟨h.1.mono hG hw, h.2⟩

theorem VD.cells_size {w G x v} (h : VD w G x v) : v.cells.size = x.size := by
  have := h.1.length
  simpa [D.sizes] using this

end Go.Ab
