/-
  An own logic over the kit's 'Calls' (AbA): values, stores, the code's own steps, calls.
-/
import Derived.Below
import Derived.Orders
import Derived.Laws.AppendOwn
import Derived.Laws.Cells
import Derived.KernelRfl
import Derived.Laws.CopyRow
import Derived.Lib.FrozenHead
namespace Go.Ab
open Go.RowKit

inductive D where
  | bool (b : Bool)
  | int (k : IntKind) (n : Int)
  | str (s : ByteArray)
  | nilP
  | nilI
  | nilF
  | iface (t : TypeId) (x : D)
  | agg (l : List D)
  | arr (n sz : Nat) (xs : List D)
  | sl (sz : Nat) (xs : List D)
  | cptr (x : D)
  deriving Inhabited

def D.isAgg : D → Bool
  | .agg _ => true
  | .arr .. => true
  | _ => false

mutual
def D.size : D → Nat
  | .agg l => D.sizes l
  | .arr n sz _ => n * sz
  | _ => 1
def D.sizes : List D → Nat
  | [] => 0
  | x :: r => x.size + D.sizes r
end

/-- The same by the recursor, counted up (quick to reduce in the presence of variables). -/
noncomputable def D.sizeK (x : D) : Nat → Nat :=
  @D.rec (fun _ => Nat → Nat) (fun _ => Nat → Nat) (fun _ => Nat.succ) (fun _ _ => Nat.succ) (fun _ => Nat.succ) Nat.succ Nat.succ Nat.succ (fun _ _ _ => Nat.succ) (fun _ a => a) (fun n sz _ _ k => Nat.add k (Nat.mul n sz)) (fun _ _ _ => Nat.succ) (fun _ _ => Nat.succ) (fun k => k) (fun _ _ a b k => b (a k)) x
noncomputable def D.sizesK (l : List D) : Nat → Nat :=
  @D.rec_1 (fun _ => Nat → Nat) (fun _ => Nat → Nat) (fun _ => Nat.succ) (fun _ _ => Nat.succ) (fun _ => Nat.succ) Nat.succ Nat.succ Nat.succ (fun _ _ _ => Nat.succ) (fun _ a => a) (fun n sz _ _ k => Nat.add k (Nat.mul n sz)) (fun _ _ _ => Nat.succ) (fun _ _ => Nat.succ) (fun k => k) (fun _ _ a b k => b (a k)) l
noncomputable def D.sizeR (x : D) : Nat := x.sizeK 0
noncomputable def D.sizesR (l : List D) : Nat := D.sizesK l 0
theorem D.sizeK_eq (x : D) : ∀ k, x.sizeK k = k + x.size :=
  @D.rec (fun x => ∀ k, x.sizeK k = k + x.size) (fun l => ∀ k, D.sizesK l k = k + D.sizes l) (fun _ k => by rw [D.size]; rfl; all_goals (intros; contradiction)) (fun _ _ k => by rw [D.size]; rfl; all_goals (intros; contradiction)) (fun _ k => by rw [D.size]; rfl; all_goals (intros; contradiction)) (fun k => by rw [D.size]; rfl; all_goals (intros; contradiction)) (fun k => by rw [D.size]; rfl; all_goals (intros; contradiction)) (fun k => by rw [D.size]; rfl; all_goals (intros; contradiction)) (fun _ _ _ k => by rw [D.size]; rfl; all_goals (intros; contradiction))
    (fun l ih k => by rw [D.size]; exact ih k) (fun _ _ _ _ k => by rw [D.size]; rfl) (fun _ _ _ k => by rw [D.size]; rfl; all_goals (intros; contradiction)) (fun _ _ k => by rw [D.size]; rfl; all_goals (intros; contradiction)) (fun k => by rw [D.sizes]; rfl) (fun x r a b k => by rw [D.sizes, ← Nat.add_assoc, ← a k, ← b]; rfl) x
theorem D.sizesK_eq (l : List D) : ∀ k, D.sizesK l k = k + D.sizes l := by
  induction l with
  | nil => intro k; rw [D.sizes]; rfl
  | cons x r ih => intro k; rw [D.sizes, ← Nat.add_assoc, ← D.sizeK_eq, ← ih]; rfl
theorem D.sizeR_eq (x : D) : x.sizeR = x.size := by unfold D.sizeR; rw [D.sizeK_eq, Nat.zero_add]
theorem D.sizesR_eq (l : List D) : D.sizesR l = D.sizes l := by unfold D.sizesR; rw [D.sizesK_eq, Nat.zero_add]
noncomputable def beqR (a : Nat) : Nat → Bool :=
  @Nat.rec (fun _ => Nat → Bool) (fun b => @Nat.rec (fun _ => Bool) true (fun _ _ => false) b) (fun _ ih b => @Nat.rec (fun _ => Bool) false (fun c _ => ih c) b) a
theorem beqR_eq (a : Nat) : ∀ b, beqR a b = Nat.beq a b := by
  induction a with
  | zero => intro b; cases b <;> rfl
  | succ a ih => intro b; cases b with
    | zero => rfl
    | succ b => exact ih b

def vAgg : Value → Bool
  | .agg _ => true
  | _ => false

/-- Cells of memory, from an address on, that stay as they are. -/
def At (w : World) (G : Nat → Nat → Prop) (b off : Nat) (cs : List Value) : Prop :=
  ∀ j v, cs[j]? = some v → w.cell? ⟨b, off + j, none⟩ = some v ∧ G b (off + j)

inductive CL (w : World) (G : Nat → Nat → Prop) : List D → List Value → Prop
  | nil : CL w G [] []
  | bool {b r cs} : CL w G r cs → CL w G (.bool b :: r) (.bool b :: cs)
  | int {k n r cs} : CL w G r cs → CL w G (.int k n :: r) (.int k n :: cs)
  | str {s r cs} : CL w G r cs → CL w G (.str s :: r) (.string s :: cs)
  | nilP {r cs} : CL w G r cs → CL w G (.nilP :: r) (.pointer none :: cs)
  | nilI {r cs} : CL w G r cs → CL w G (.nilI :: r) (.nilIface :: cs)
  | nilF {r cs} : CL w G r cs → CL w G (.nilF :: r) (.nilFunc :: cs)
  | iface {t x v r cs} : CL w G [x] v.cells.toList → vAgg v = x.isAgg → CL w G r cs → CL w G (.iface t x :: r) (.iface t v :: cs)
  | agg {l c r cs} : CL w G l c → CL w G r cs → CL w G (.agg l :: r) (c ++ cs)
  | arr {n sz xs c r cs} : CL w G xs c → xs.length = n → (∀ x ∈ xs, x.size = sz) → CL w G r cs → CL w G (.arr n sz xs :: r) (c ++ cs)
  | slnil {sz r cs} : CL w G r cs → CL w G (.sl sz [] :: r) (.slice none 0 0 :: cs)
  | sl {sz xs c a n cap r cs} : CL w G xs c → xs.length = n → (∀ x ∈ xs, x.size = sz) → At w G a.block a.off c → (xs = [] ∨ a.spot = none) → n ≤ cap → cap ≤ maxLen → CL w G r cs →
      CL w G (.sl sz xs :: r) (.slice (some a) n cap :: cs)
  | cptr {x c b off r cs} : CL w G [x] c → At w G b off c → CL w G r cs → CL w G (.cptr x :: r) (.pointer (some ⟨b, off, none⟩) :: cs)

def VD (w : World) (G : Nat → Nat → Prop) (x : D) (v : Value) : Prop := CL w G [x] v.cells.toList ∧ vAgg v = x.isAgg

theorem D.sizes_append (a b : List D) : D.sizes (a ++ b) = D.sizes a + D.sizes b := by
  induction a with
  | nil => simp [D.sizes]
  | cons x r ih => simp [D.sizes, ih, Nat.add_assoc]

theorem D.sizes_uniform {xs : List D} {sz : Nat} (h : ∀ x ∈ xs, x.size = sz) : D.sizes xs = xs.length * sz := by
  induction xs with
  | nil => simp [D.sizes]
  | cons x r ih =>
    have h1 := h x (by simp)
    have h2 := ih fun y hy => h y (by simp [hy])
    simp [D.sizes, h1, h2, Nat.add_mul, Nat.add_comm]

theorem CL.length {w G l cs} (h : CL w G l cs) : cs.length = D.sizes l := by
  induction h with
  | nil => rfl
  | agg _ _ ih1 ih2 => simp [D.sizes, D.size, ih1, ih2]
  | arr h0 h1 h2 _ ih1 ih2 =>
    simp [D.sizes, D.size, ih1, ih2, D.sizes_uniform h2, h1]
  | _ => simp_all [D.sizes, D.size, Nat.add_comm]

theorem At.mono {w w' : World} {G G' : Nat → Nat → Prop} {b off cs} (h : At w G b off cs) (hG : ∀ b o, G b o → G' b o)
    (hw : ∀ b o v, G b o → w.cell? ⟨b, o, none⟩ = some v → w'.cell? ⟨b, o, none⟩ = some v) : At w' G' b off cs :=
  fun j v hj => ⟨hw _ _ _ (h j v hj).2 (h j v hj).1, hG _ _ (h j v hj).2⟩

theorem CL.mono {w w' : World} {G G' : Nat → Nat → Prop} {l cs} (h : CL w G l cs) (hG : ∀ b o, G b o → G' b o)
    (hw : ∀ b o v, G b o → w.cell? ⟨b, o, none⟩ = some v → w'.cell? ⟨b, o, none⟩ = some v) : CL w' G' l cs := by
  induction h with
  | nil => exact .nil
  | bool _ ih => exact .bool ih
  | int _ ih => exact .int ih
  | str _ ih => exact .str ih
  | nilP _ ih => exact .nilP ih
  | nilI _ ih => exact .nilI ih
  | nilF _ ih => exact .nilF ih
  | iface _ h2 _ ih1 ih2 => exact .iface ih1 h2 ih2
  | agg _ _ ih1 ih2 => exact .agg ih1 ih2
  | arr _ h1 h2 _ ih1 ih2 => exact .arr ih1 h1 h2 ih2
  | slnil _ ih => exact .slnil ih
  | sl _ h1 h2 h3 h4 h5 h6 _ ih1 ih2 => exact .sl ih1 h1 h2 (h3.mono hG hw) h4 h5 h6 ih2
  | cptr _ h1 _ ih1 ih2 => exact .cptr ih1 (h1.mono hG hw) ih2

theorem CL.append {w G l cs m ds} (h : CL w G l cs) (k : CL w G m ds) : CL w G (l ++ m) (cs ++ ds) := by
  induction h with
  | nil => exact k
  | bool _ ih => exact .bool ih
  | int _ ih => exact .int ih
  | str _ ih => exact .str ih
  | nilP _ ih => exact .nilP ih
  | nilI _ ih => exact .nilI ih
  | nilF _ ih => exact .nilF ih
  | iface h1 h2 _ _ ih2 => exact .iface h1 h2 ih2
  | agg h1 _ _ ih2 => rw [List.cons_append, List.append_assoc]; exact .agg h1 ih2
  | arr h0 h1 h2 _ _ ih2 => rw [List.cons_append, List.append_assoc]; exact .arr h0 h1 h2 ih2
  | slnil _ ih => exact .slnil ih
  | sl h0 h1 h2 h3 h4 h5 h6 _ _ ih2 => exact .sl h0 h1 h2 h3 h4 h5 h6 ih2
  | cptr h0 h1 _ _ ih2 => exact .cptr h0 h1 ih2

/-- A list's head and rest. -/
theorem CL.cons_inv {w G x l cs} (h : CL w G (x :: l) cs) : ∃ c d, cs = c ++ d ∧ CL w G [x] c ∧ CL w G l d := by
  cases h with
  | bool h => exact ⟨[_], _, rfl, .bool .nil, h⟩
  | int h => exact ⟨[_], _, rfl, .int .nil, h⟩
  | str h => exact ⟨[_], _, rfl, .str .nil, h⟩
  | nilP h => exact ⟨[_], _, rfl, .nilP .nil, h⟩
  | nilI h => exact ⟨[_], _, rfl, .nilI .nil, h⟩
  | nilF h => exact ⟨[_], _, rfl, .nilF .nil, h⟩
  | iface h1 h2 h => exact ⟨[_], _, rfl, .iface h1 h2 .nil, h⟩
  | agg h1 h => exact ⟨_, _, rfl, by simpa using CL.agg h1 .nil, h⟩
  | arr h0 h1 h2 h => exact ⟨_, _, rfl, by simpa using CL.arr h0 h1 h2 .nil, h⟩
  | slnil h => exact ⟨[_], _, rfl, .slnil .nil, h⟩
  | sl h0 h1 h2 h3 h4 h5 h6 h => exact ⟨[_], _, rfl, .sl h0 h1 h2 h3 h4 h5 h6 .nil, h⟩
  | cptr h0 h1 h => exact ⟨[_], _, rfl, .cptr h0 h1 .nil, h⟩

theorem CL.append_inv {w G} : ∀ {l m cs}, CL w G (l ++ m) cs → ∃ c d, cs = c ++ d ∧ CL w G l c ∧ CL w G m d
  | [], _, cs, h => ⟨[], cs, rfl, .nil, h⟩
  | x :: l, m, cs, h => by
    obtain ⟨c, d, rfl, h1, h2⟩ := CL.cons_inv (l := l ++ m) h
    obtain ⟨c2, d2, rfl, h3, h4⟩ := CL.append_inv (l := l) h2
    exact ⟨c ++ c2, d2, by simp, by simpa using CL.append h1 h3, h4⟩

/-- Element i of a list of elements, and its cells. -/
theorem CL.get {w G l cs} (h : CL w G l cs) {i : Nat} {x : D} (hi : l[i]? = some x) :
    ∃ a c d, cs = a ++ (c ++ d) ∧ a.length = D.sizes (l.take i) ∧ CL w G [x] c := by
  have hlt : i < l.length := by
    rcases Nat.lt_or_ge i l.length with h | h
    · exact h
    · simp [List.getElem?_eq_none h] at hi
  have e : l = l.take i ++ (x :: l.drop (i + 1)) := by
    rw [List.getElem?_eq_getElem hlt] at hi
    simp only [Option.some.injEq] at hi
    rw [← hi, ← List.drop_eq_getElem_cons hlt, List.take_append_drop]
  rw [e] at h
  obtain ⟨a, d, rfl, h1, h2⟩ := CL.append_inv h
  obtain ⟨c, d2, rfl, h3, h4⟩ := CL.cons_inv h2
  exact ⟨a, c, d2, rfl, h1.length, h3⟩

theorem CL.oneCell {w G l cs} (h : CL w G l cs) : ∀ v ∈ cs, v.oneCell' = true := by
  induction h with
  | nil => simp
  | agg _ _ ih1 ih2 => intro v hv; rcases List.mem_append.1 hv with h | h; exact ih1 _ h; exact ih2 _ h
  | arr _ _ _ _ ih1 ih2 => intro v hv; rcases List.mem_append.1 hv with h | h; exact ih1 _ h; exact ih2 _ h
  | iface _ _ _ _ ih => intro v hv; rcases List.mem_cons.1 hv with rfl | h; rfl; exact ih _ h
  | sl _ _ _ _ _ _ _ _ _ ih => intro v hv; rcases List.mem_cons.1 hv with rfl | h; rfl; exact ih _ h
  | cptr _ _ _ _ ih => intro v hv; rcases List.mem_cons.1 hv with rfl | h; rfl; exact ih _ h
  | bool _ ih => intro v hv; rcases List.mem_cons.1 hv with rfl | h; rfl; exact ih _ h
  | int _ ih => intro v hv; rcases List.mem_cons.1 hv with rfl | h; rfl; exact ih _ h
  | str _ ih => intro v hv; rcases List.mem_cons.1 hv with rfl | h; rfl; exact ih _ h
  | nilP _ ih => intro v hv; rcases List.mem_cons.1 hv with rfl | h; rfl; exact ih _ h
  | nilI _ ih => intro v hv; rcases List.mem_cons.1 hv with rfl | h; rfl; exact ih _ h
  | nilF _ ih => intro v hv; rcases List.mem_cons.1 hv with rfl | h; rfl; exact ih _ h
  | slnil _ ih => intro v hv; rcases List.mem_cons.1 hv with rfl | h; rfl; exact ih _ h

/-- A value with the given shape that holds the cells. -/
theorem VD.of_agg {w G x} {cs : List Value} (h : CL w G [x] cs) (ha : x.isAgg = true) : VD w G x (.agg cs.toArray) :=
  ⟨by simpa [Value.cells] using h, by simp [vAgg, ha]⟩

theorem CL.single {w G x cs} (h : CL w G [x] cs) (ha : x.isAgg = false) : ∃ v, cs = [v] ∧ vAgg v = false ∧ v.cells = #[v] := by
  cases h with
  | agg | arr => simp [D.isAgg] at ha
  | bool h | int h | str h | nilP h | nilI h | nilF h | slnil h => cases h; exact ⟨_, rfl, rfl, rfl⟩
  | iface _ _ h => cases h; exact ⟨_, rfl, rfl, rfl⟩
  | sl _ _ _ _ _ _ _ h => cases h; exact ⟨_, rfl, rfl, rfl⟩
  | cptr _ _ h => cases h; exact ⟨_, rfl, rfl, rfl⟩

/-- A value that is no array or struct stands for itself. -/
theorem VD.of_single {w G x v} (h : CL w G [x] [v]) (ha : x.isAgg = false) : VD w G x v := by
  obtain ⟨u, hu, h1, h2⟩ := CL.single h ha
  simp only [List.cons.injEq, and_true] at hu
  subst hu
  exact ⟨by rw [h2]; exact h, by rw [h1, ha]⟩

theorem VD.inv {w G x v} (h : VD w G x v) : (x.isAgg = true ∧ ∃ cs, v = .agg cs ∧ CL w G [x] cs.toList) ∨ (x.isAgg = false ∧ CL w G [x] [v] ∧ v.cells = #[v]) := by
  obtain ⟨h1, h2⟩ := h
  cases hx : x.isAgg with
  | true =>
    left
    rw [hx] at h2
    cases v <;> simp [vAgg] at h2
    exact ⟨rfl, _, rfl, by simpa [Value.cells] using h1⟩
  | false =>
    right
    rw [hx] at h2
    have e : v.cells = #[v] := by cases v <;> simp_all [vAgg, Value.cells]
    exact ⟨rfl, by rw [e] at h1; exact h1, e⟩

theorem VD.mono {w w' : World} {G G' : Nat → Nat → Prop} {x v} (h : VD w G x v) (hG : ∀ b o, G b o → G' b o)
    (hw : ∀ b o v, G b o → w.cell? ⟨b, o, none⟩ = some v → w'.cell? ⟨b, o, none⟩ = some v) : VD w' G' x v :=
  ⟨h.1.mono hG hw, h.2⟩

theorem VD.cells_size {w G x v} (h : VD w G x v) : v.cells.size = x.size := by
  have := h.1.length
  simpa [D.sizes] using this

end Go.Ab

namespace Go.Ab
open Go.RowKit

inductive Step where
  | fld (k o : Nat)
  | ix (i sz cnt : Nat)

def offp : List Step → Nat
  | [] => 0
  | .fld _ o :: p => o + offp p
  | .ix i sz _ :: p => i * sz + offp p

def Step.ok : Step → Prop
  | .fld .. => True
  | .ix i _ cnt => i < cnt

def pathOk (p : List Step) : Prop := ∀ s ∈ p, s.ok

theorem offp_append (p q : List Step) : offp (p ++ q) = offp p + offp q := by
  induction p with
  | nil => simp [offp]
  | cons s p ih => cases s <;> simp [offp, ih, Nat.add_assoc]

inductive AV where
  | d (x : D)
  | ptr (n : Nat) (p : List Step)
  | row (n : Nat)
  | vw (n : Nat) (p : List Step) (lo len cnt sz : Nat)
  | fn (f : FuncId) (caps : List Nat)
  | agg (l : List AV)
  | tup (l : List AV)
  deriving Inhabited

def AV.isAgg : AV → Bool
  | .d x => x.isAgg
  | .agg _ => true
  | _ => false

mutual
def AV.size : AV → Nat
  | .d x => x.size
  | .agg l => AV.sizes l
  | _ => 1
def AV.sizes : List AV → Nat
  | [] => 0
  | x :: r => x.size + AV.sizes r
end

noncomputable def AV.sizeK (x : AV) : Nat → Nat :=
  @AV.rec (fun _ => Nat → Nat) (fun _ => Nat → Nat) (fun x => x.sizeK) (fun _ _ => Nat.succ) (fun _ => Nat.succ) (fun _ _ _ _ _ _ => Nat.succ) (fun _ _ => Nat.succ) (fun _ a => a) (fun _ _ => Nat.succ) (fun k => k) (fun _ _ a b k => b (a k)) x
noncomputable def AV.sizesK (l : List AV) : Nat → Nat :=
  @AV.rec_1 (fun _ => Nat → Nat) (fun _ => Nat → Nat) (fun x => x.sizeK) (fun _ _ => Nat.succ) (fun _ => Nat.succ) (fun _ _ _ _ _ _ => Nat.succ) (fun _ _ => Nat.succ) (fun _ a => a) (fun _ _ => Nat.succ) (fun k => k) (fun _ _ a b k => b (a k)) l
noncomputable def AV.sizeR (x : AV) : Nat := x.sizeK 0
noncomputable def AV.sizesR (l : List AV) : Nat := AV.sizesK l 0
theorem AV.sizeK_eq (x : AV) : ∀ k, x.sizeK k = k + x.size :=
  @AV.rec (fun x => ∀ k, x.sizeK k = k + x.size) (fun l => ∀ k, AV.sizesK l k = k + AV.sizes l) (fun x k => by rw [AV.size]; exact D.sizeK_eq x k) (fun _ _ k => by rw [AV.size]; rfl; all_goals (intros; contradiction)) (fun _ k => by rw [AV.size]; rfl; all_goals (intros; contradiction)) (fun _ _ _ _ _ _ k => by rw [AV.size]; rfl; all_goals (intros; contradiction)) (fun _ _ k => by rw [AV.size]; rfl; all_goals (intros; contradiction))
    (fun l ih k => by rw [AV.size]; exact ih k) (fun _ _ k => by rw [AV.size]; rfl; all_goals (intros; contradiction)) (fun k => by rw [AV.sizes]; rfl) (fun x r a b k => by rw [AV.sizes, ← Nat.add_assoc, ← a k, ← b]; rfl) x
theorem AV.sizesK_eq (l : List AV) : ∀ k, AV.sizesK l k = k + AV.sizes l := by
  induction l with
  | nil => intro k; rw [AV.sizes]; rfl
  | cons x r ih => intro k; rw [AV.sizes, ← Nat.add_assoc, ← AV.sizeK_eq, ← ih]; rfl
theorem AV.sizeR_eq (x : AV) : x.sizeR = x.size := by unfold AV.sizeR; rw [AV.sizeK_eq, Nat.zero_add]
theorem AV.sizesR_eq (l : List AV) : AV.sizesR l = AV.sizes l := by unfold AV.sizesR; rw [AV.sizesK_eq, Nat.zero_add]

inductive Blk where
  | var (x : AV)
  | tvar (t : TypeId) (x : AV)
  | row (e : TypeId) (sz : Nat) (xs : List D)
  | own (e : TypeId) (sz : Nat) (xs : List D)
  | iter (s : ByteArray) (pos : Nat)
  | mapb (ks : List ByteArray) (x : AV)
  | sealed (x : D)
  | dead
  deriving Inhabited

def Blk.live : Blk → Bool
  | .var _ => true
  | .row .. => true
  | .own .. => true
  | .iter .. => true
  | .mapb .. => true
  | .tvar .. => true
  | _ => false

/-- A name's value is a place. -/
def solid : Value → Prop
  | .pointer (some _) => True
  | .map (some _) => True
  | .slice .. => True
  | _ => False

/-- A name's value and the block that it stands for: a variable's place, or (for places within) a slice's. -/
def ptrAt (v : Value) (b : Nat) (p : List Step) : Prop := v = .pointer (some ⟨b, 0, none⟩) ∨ (p ≠ [] ∧ ∃ len cap, v = .slice (some ⟨b, 0, none⟩) len cap)
theorem ptrAt.eq {v b p b'} (h : ptrAt v b p) (e : v = .pointer (some ⟨b', 0, none⟩)) : b' = b := by
  rcases h with h | ⟨_, len, cap, h⟩
  · rw [e] at h; simp at h; exact h
  · rw [e] at h; cases h
theorem ptrAt.nil {v b} (h : ptrAt v b []) : v = .pointer (some ⟨b, 0, none⟩) := by
  rcases h with h | ⟨h, _⟩
  · exact h
  · exact absurd rfl h
theorem ptrAt.solid {v b p} (h : ptrAt v b p) : solid v := by
  rcases h with rfl | ⟨_, _, _, rfl⟩ <;> trivial
theorem ptrAt.snoc {v b p} (h : ptrAt v b p) (q : List Step) : ptrAt v b (p ++ q) := by
  rcases h with h | ⟨h, g⟩
  · exact .inl h
  · exact .inr ⟨fun e => h (List.append_eq_nil_iff.1 e).1, g⟩

/-- The cells of abstract values. -/
inductive CA (μ : Nat → Value) (k : Nat) (w : World) (G : Nat → Nat → Prop) : List AV → List Value → Prop
  | nil : CA μ k w G [] []
  | d {x c r cs} : CL w G [x] c → CA μ k w G r cs → CA μ k w G (.d x :: r) (c ++ cs)
  | ptr {n p b r cs} : n < k → ptrAt (μ n) b p → pathOk p → CA μ k w G r cs →
      CA μ k w G (.ptr n p :: r) (.pointer (some ⟨b, offp p, none⟩) :: cs)
  | row {n a len cap r cs} : n < k → μ n = .slice a len cap → CA μ k w G r cs → CA μ k w G (.row n :: r) (.slice a len cap :: cs)
  | mp {n b r cs} : n < k → μ n = .map (some b) → CA μ k w G r cs → CA μ k w G (.row n :: r) (.map (some b) :: cs)
  | vw {n p b lo len cnt sz cap r cs} : n < k → ptrAt (μ n) b p → pathOk p → lo + len ≤ cnt → cap = cnt - lo → cap ≤ maxLen → CA μ k w G r cs →
      CA μ k w G (.vw n p lo len cnt sz :: r) (.slice (some ⟨b, offp p + lo * sz, none⟩) len cap :: cs)
  | fn {f caps r cs} : (∀ n ∈ caps, n < k ∧ solid (μ n)) → CA μ k w G r cs → CA μ k w G (.fn f caps :: r) (.func (.func f) #[] (caps.map μ).toArray :: cs)
  | agg {l c r cs} : CA μ k w G l c → CA μ k w G r cs → CA μ k w G (.agg l :: r) (c ++ cs)

/-- An abstract value (no tuple) and a value. -/
def VA (μ : Nat → Value) (k : Nat) (w : World) (G : Nat → Nat → Prop) (x : AV) (v : Value) : Prop :=
  CA μ k w G [x] v.cells.toList ∧ vAgg v = x.isAgg

/-- One behind the other. -/
inductive VS (μ : Nat → Value) (k : Nat) (w : World) (G : Nat → Nat → Prop) : List AV → List Value → Prop
  | nil : VS μ k w G [] []
  | cons {x v l vs} : VA μ k w G x v → VS μ k w G l vs → VS μ k w G (x :: l) (v :: vs)

/-- What a slot holds. -/
def RA (μ : Nat → Value) (k : Nat) (w : World) (G : Nat → Nat → Prop) (x : AV) (v : Value) : Prop :=
  match x with
  | .tup l => ∃ vs : List Value, v = .tuple vs.toArray ∧ VS μ k w G l vs
  | x => VA μ k w G x v

theorem CA.mono {μ μ' k k' w w' G G' l cs} (h : CA μ k w G l cs) (hk : k ≤ k') (hμ : ∀ i, i < k → solid (μ i) → μ' i = μ i) (hG : ∀ b o, G b o → G' b o)
    (hw : ∀ b o v, G b o → w.cell? ⟨b, o, none⟩ = some v → w'.cell? ⟨b, o, none⟩ = some v) : CA μ' k' w' G' l cs := by
  induction h with
  | nil => exact .nil
  | d h _ ih => exact .d (h.mono hG hw) ih
  | ptr h1 h2 h3 _ ih => exact .ptr (by omega) (by rw [hμ _ h1 h2.solid]; exact h2) h3 ih
  | row h1 h2 _ ih => exact .row (by omega) (by rw [hμ _ h1 (by rw [h2]; trivial), h2]) ih
  | mp h1 h2 _ ih => exact .mp (by omega) (by rw [hμ _ h1 (by rw [h2]; trivial), h2]) ih
  | vw h1 h2 h3 h4 h5 h6 _ ih => exact .vw (by omega) (by rw [hμ _ h1 h2.solid]; exact h2) h3 h4 h5 h6 ih
  | fn h1 _ ih =>
    rename_i caps _ _ _
    have e : caps.map μ = caps.map μ' := List.map_congr_left fun n hn => (hμ n (h1 n hn).1 (h1 n hn).2).symm
    rw [e]
    exact .fn (fun n hn => ⟨by have := (h1 n hn).1; omega, by rw [hμ n (h1 n hn).1 (h1 n hn).2]; exact (h1 n hn).2⟩) ih
  | agg _ _ ih1 ih2 => exact .agg ih1 ih2

theorem VA.mono {μ μ' k k' w w' G G' x v} (h : VA μ k w G x v) (hk : k ≤ k') (hμ : ∀ i, i < k → solid (μ i) → μ' i = μ i) (hG : ∀ b o, G b o → G' b o)
    (hw : ∀ b o v, G b o → w.cell? ⟨b, o, none⟩ = some v → w'.cell? ⟨b, o, none⟩ = some v) : VA μ' k' w' G' x v :=
  ⟨h.1.mono hk hμ hG hw, h.2⟩

theorem VS.mono {μ μ' k k' w w' G G' l vs} (h : VS μ k w G l vs) (hk : k ≤ k') (hμ : ∀ i, i < k → solid (μ i) → μ' i = μ i) (hG : ∀ b o, G b o → G' b o)
    (hw : ∀ b o v, G b o → w.cell? ⟨b, o, none⟩ = some v → w'.cell? ⟨b, o, none⟩ = some v) : VS μ' k' w' G' l vs := by
  induction h with
  | nil => exact .nil
  | cons h _ ih => exact .cons (h.mono hk hμ hG hw) ih

theorem RA.mono {μ μ' k k' w w' G G' x v} (h : RA μ k w G x v) (hk : k ≤ k') (hμ : ∀ i, i < k → solid (μ i) → μ' i = μ i) (hG : ∀ b o, G b o → G' b o)
    (hw : ∀ b o v, G b o → w.cell? ⟨b, o, none⟩ = some v → w'.cell? ⟨b, o, none⟩ = some v) : RA μ' k' w' G' x v := by
  unfold RA at *
  split at h
  · obtain ⟨vs, rfl, h⟩ := h; exact ⟨vs, rfl, h.mono hk hμ hG hw⟩
  · exact VA.mono h hk hμ hG hw

theorem CA.append {μ k w G l cs m ds} (h : CA μ k w G l cs) (g : CA μ k w G m ds) : CA μ k w G (l ++ m) (cs ++ ds) := by
  induction h with
  | nil => exact g
  | d h _ ih => rw [List.cons_append, List.append_assoc]; exact .d h ih
  | ptr h1 h2 h3 _ ih => exact .ptr h1 h2 h3 ih
  | row h1 h2 _ ih => exact .row h1 h2 ih
  | mp h1 h2 _ ih => exact .mp h1 h2 ih
  | vw h1 h2 h3 h4 h5 h6 _ ih => exact .vw h1 h2 h3 h4 h5 h6 ih
  | fn h1 _ ih => exact .fn h1 ih
  | agg h _ _ ih => rw [List.cons_append, List.append_assoc]; exact .agg h ih

theorem CA.cons_inv {μ k w G x l cs} (h : CA μ k w G (x :: l) cs) : ∃ c d, cs = c ++ d ∧ CA μ k w G [x] c ∧ CA μ k w G l d := by
  cases h with
  | d h g => exact ⟨_, _, rfl, by simpa using CA.d h .nil, g⟩
  | ptr h1 h2 h3 g => exact ⟨[_], _, rfl, .ptr h1 h2 h3 .nil, g⟩
  | row h1 h2 g => exact ⟨[_], _, rfl, .row h1 h2 .nil, g⟩
  | mp h1 h2 g => exact ⟨[_], _, rfl, .mp h1 h2 .nil, g⟩
  | vw h1 h2 h3 h4 h5 h6 g => exact ⟨[_], _, rfl, .vw h1 h2 h3 h4 h5 h6 .nil, g⟩
  | fn h1 g => exact ⟨[_], _, rfl, .fn h1 .nil, g⟩
  | agg h g => exact ⟨_, _, rfl, by simpa using CA.agg h .nil, g⟩

theorem CA.append_inv {μ k w G} : ∀ {l m cs}, CA μ k w G (l ++ m) cs → ∃ c d, cs = c ++ d ∧ CA μ k w G l c ∧ CA μ k w G m d
  | [], _, cs, h => ⟨[], cs, rfl, .nil, h⟩
  | x :: l, m, cs, h => by
    obtain ⟨c, d, rfl, h1, h2⟩ := CA.cons_inv (l := l ++ m) h
    obtain ⟨c2, d2, rfl, h3, h4⟩ := CA.append_inv (l := l) h2
    exact ⟨c ++ c2, d2, by simp, by simpa using CA.append h1 h3, h4⟩

theorem CA.length {μ k w G l cs} (h : CA μ k w G l cs) : cs.length = AV.sizes l := by
  induction h with
  | nil => rfl
  | d h _ ih => have := h.length; simp [AV.sizes, AV.size, D.sizes] at *; omega
  | agg _ _ ih1 ih2 => simp [AV.sizes, AV.size, ih1, ih2]
  | _ => simp_all [AV.sizes, AV.size, Nat.add_comm]

theorem CA.get {μ k w G l cs} (h : CA μ k w G l cs) {i : Nat} {x : AV} (hi : l[i]? = some x) :
    ∃ a c d, cs = a ++ (c ++ d) ∧ a.length = AV.sizes (l.take i) ∧ CA μ k w G [x] c ∧
      ∀ y c', CA μ k w G [y] c' → CA μ k w G (l.set i y) (a ++ (c' ++ d)) := by
  have hlt : i < l.length := by
    rcases Nat.lt_or_ge i l.length with h | h
    · exact h
    · simp [List.getElem?_eq_none h] at hi
  have e : l = l.take i ++ (x :: l.drop (i + 1)) := by
    rw [List.getElem?_eq_getElem hlt] at hi
    simp only [Option.some.injEq] at hi
    rw [← hi, ← List.drop_eq_getElem_cons hlt, List.take_append_drop]
  have h' := h
  rw [e] at h'
  obtain ⟨a, d, rfl, h1, h2⟩ := CA.append_inv h'
  obtain ⟨c, d2, rfl, h3, h4⟩ := CA.cons_inv h2
  refine ⟨a, c, d2, rfl, h1.length, h3, fun y c' hy => ?_⟩
  rw [List.set_eq_take_append_cons_drop, if_pos hlt]
  exact CA.append h1 (by simpa using CA.append hy h4)

theorem CA.oneCell {μ k w G l cs} (h : CA μ k w G l cs) : ∀ v ∈ cs, v.oneCell' = true := by
  induction h with
  | nil => simp
  | d h _ ih => intro v hv; rcases List.mem_append.1 hv with g | g; exact h.oneCell _ g; exact ih _ g
  | agg _ _ ih1 ih2 => intro v hv; rcases List.mem_append.1 hv with g | g; exact ih1 _ g; exact ih2 _ g
  | ptr _ _ _ _ ih => intro v hv; rcases List.mem_cons.1 hv with rfl | g; rfl; exact ih _ g
  | row _ _ _ ih => intro v hv; rcases List.mem_cons.1 hv with rfl | g; rfl; exact ih _ g
  | mp _ _ _ ih => intro v hv; rcases List.mem_cons.1 hv with rfl | g; rfl; exact ih _ g
  | vw _ _ _ _ _ _ _ ih => intro v hv; rcases List.mem_cons.1 hv with rfl | g; rfl; exact ih _ g
  | fn _ _ ih => intro v hv; rcases List.mem_cons.1 hv with rfl | g; rfl; exact ih _ g

theorem CA.single {μ k w G x cs} (h : CA μ k w G [x] cs) (ha : x.isAgg = false) : ∃ v, cs = [v] ∧ vAgg v = false ∧ v.cells = #[v] := by
  cases h with
  | d h g => cases g; obtain ⟨v, rfl, h1⟩ := h.single (by simpa [AV.isAgg] using ha); exact ⟨v, by simp, h1⟩
  | agg => simp [AV.isAgg] at ha
  | ptr _ _ _ g => cases g; exact ⟨_, rfl, rfl, rfl⟩
  | row _ _ g => cases g; exact ⟨_, rfl, rfl, rfl⟩
  | mp _ _ g => cases g; exact ⟨_, rfl, rfl, rfl⟩
  | vw _ _ _ _ _ _ g => cases g; exact ⟨_, rfl, rfl, rfl⟩
  | fn _ g => cases g; exact ⟨_, rfl, rfl, rfl⟩

theorem VA.inv {μ k w G x v} (h : VA μ k w G x v) : (x.isAgg = true ∧ ∃ cs, v = .agg cs ∧ CA μ k w G [x] cs.toList) ∨ (x.isAgg = false ∧ CA μ k w G [x] [v] ∧ v.cells = #[v]) := by
  obtain ⟨h1, h2⟩ := h
  cases hx : x.isAgg with
  | true =>
    left
    rw [hx] at h2
    cases v <;> simp [vAgg] at h2
    exact ⟨rfl, _, rfl, by simpa [Value.cells] using h1⟩
  | false =>
    right
    rw [hx] at h2
    have e : v.cells = #[v] := by cases v <;> simp_all [vAgg, Value.cells]
    exact ⟨rfl, by rw [e] at h1; exact h1, e⟩

theorem VA.of_agg {μ k w G x} {cs : List Value} (h : CA μ k w G [x] cs) (ha : x.isAgg = true) : VA μ k w G x (.agg cs.toArray) :=
  ⟨by simpa [Value.cells] using h, by simp [vAgg, ha]⟩

theorem VA.of_single {μ k w G x v} (h : CA μ k w G [x] [v]) (ha : x.isAgg = false) : VA μ k w G x v := by
  obtain ⟨u, hu, h1, h2⟩ := CA.single h ha
  simp only [List.cons.injEq, and_true] at hu
  subst hu
  exact ⟨by rw [h2]; exact h, by rw [h1, ha]⟩

theorem VA.size {μ k w G x v} (h : VA μ k w G x v) : v.cells.size = x.size := by
  have := h.1.length
  simpa [AV.sizes] using this

theorem CA.d_iff {μ k w G x c} : CA μ k w G [.d x] c ↔ CL w G [x] c := by
  constructor
  · intro h; cases h with | d h g => cases g; simpa using h
  · intro h; simpa using CA.d h .nil

theorem VA.d_iff {μ k w G x v} : VA μ k w G (.d x) v ↔ VD w G x v := by
  unfold VA VD; rw [CA.d_iff]; rfl

/-- The parts of a struct or an array that lie one behind the other. -/
theorem CA.agg_d {μ k w G l cs} (h : CL w G l cs) : CA μ k w G (l.map .d) cs := by
  induction l generalizing cs with
  | nil => cases h; exact .nil
  | cons x l ih =>
    obtain ⟨c, d, rfl, h1, h2⟩ := h.cons_inv
    exact .d h1 (ih h2)

theorem CL.of_map_d {μ k w G} : ∀ {l cs}, CA μ k w G (l.map .d) cs → CL w G l cs
  | [], _, h => by cases h; exact .nil
  | x :: l, _, h => by
    cases h with
    | d h g => simpa using CL.append h (CL.of_map_d g)

end Go.Ab

namespace Go.Ab
open Go.RowKit

inductive TK where
  | bool
  | int (k : IntKind)
  | str
  | struct (fs : List (Nat × Nat × Bool))
  | arr (n e : Nat)
  | slice (e : Nat)
  | ptr (e : Nat)
  | iface (none : Bool)
  | func
  | other
  deriving Inhabited

def tkOf : TypeDesc → TK
  | .bool => .bool
  | .int k => .int k
  | .string => .str
  | .struct fs => .struct (fs.toList.map fun f => (f.offset, f.type, f.name == "_"))
  | .array n e => .arr n e
  | .slice e => .slice e
  | .pointer e => .ptr e
  | .interface ms => .iface ms.isEmpty
  | .func .. => .func
  | _ => .other

structure TI where
  k : TK
  size : Nat
  bytes : Nat
  zero : Option D
  eq : Bool
  cmp : Bool
  deriving Inhabited

def TK.agg : TK → Bool
  | .struct _ => true
  | .arr .. => true
  | _ => false

def descAgg : TypeDesc → Bool
  | .struct _ => true
  | .array _ _ => true
  | _ => false

theorem tkOf_agg (d : TypeDesc) : (tkOf d).agg = descAgg d := by cases d <;> rfl

structure Ctx where
  P : Program
  tt : Nat → Option TI
  glob : Nat → Option D
  rws : Nat → Option (List (Option TypeId)) := fun _ => none
  rowf : Nat → Bool := fun _ => false
  mks : Nat → Bool := fun _ => false

def TI.fits (P : Program) (t : Nat) (i : TI) : Prop :=
  (∃ d, P.underlying t = some d ∧ tkOf d = i.k) ∧ ∃ info, P.info? t = some info ∧ info.size = i.size ∧ info.bytes = i.bytes ∧
    ∀ z, i.zero = some z → ∃ v, info.zero = some v ∧ ∀ w G, VD w G z v

mutual
def cells0 : D → Option (List Value)
  | .bool b => some [.bool b]
  | .int k n => some [.int k n]
  | .str s => some [.string s]
  | .nilP => some [.pointer none]
  | .nilI => some [.nilIface]
  | .nilF => some [.nilFunc]
  | .agg l => cells0s l
  | .arr n sz xs => match Nat.beq xs.length n && xs.all (fun x => Nat.beq x.size sz) with
    | true => cells0s xs
    | false => none
  | .sl _ [] => some [.slice none 0 0]
  | _ => none
def cells0s : List D → Option (List Value)
  | [] => some []
  | x :: l => match cells0 x with
    | some c => match cells0s l with
      | some d => some (c ++ d)
      | none => none
    | none => none
end

mutual
theorem cells0_ok (w : World) (G : Nat → Nat → Prop) : ∀ (x : D) (c : List Value), cells0 x = some c → CL w G [x] c
  | .bool b, c, h => by simp only [cells0] at h; cases h; exact .bool .nil
  | .int k n, c, h => by simp only [cells0] at h; cases h; exact .int .nil
  | .str s, c, h => by simp only [cells0] at h; cases h; exact .str .nil
  | .nilP, c, h => by simp only [cells0] at h; cases h; exact .nilP .nil
  | .nilI, c, h => by simp only [cells0] at h; cases h; exact .nilI .nil
  | .nilF, c, h => by simp only [cells0] at h; cases h; exact .nilF .nil
  | .agg l, c, h => by
    simp only [cells0] at h
    simpa using CL.agg (cells0s_ok w G l c h) .nil
  | .arr n sz xs, c, h => by
    simp only [cells0] at h
    split at h
    · rename_i hb
      simp only [Bool.and_eq_true, List.all_eq_true] at hb
      simpa using CL.arr (cells0s_ok w G xs c h) (Nat.eq_of_beq_eq_true hb.1) (fun x hx => Nat.eq_of_beq_eq_true (hb.2 x hx)) .nil
    · cases h
  | .sl sz xs, c, h => by
    cases xs with
    | nil => simp only [cells0] at h; cases h; exact .slnil .nil
    | cons => simp only [cells0] at h; cases h
  | .iface .., c, h => by simp only [cells0] at h; cases h
  | .cptr _, c, h => by simp only [cells0] at h; cases h
theorem cells0s_ok (w : World) (G : Nat → Nat → Prop) : ∀ (l : List D) (c : List Value), cells0s l = some c → CL w G l c
  | [], c, h => by simp only [cells0s] at h; cases h; exact .nil
  | x :: l, c, h => by
    simp only [cells0s] at h
    split at h
    case h_2 => cases h
    rename_i c1 h1
    split at h
    case h_2 => cases h
    rename_i c2 h2
    cases h
    exact CL.append (cells0_ok w G x c1 h1) (cells0s_ok w G l c2 h2)
end

/-- What is said of a type beside its shape: its values can be compared. -/
def TI.flags (P : Program) (t : Nat) (i : TI) : Prop :=
  (i.eq = true → P.stoodInHeld t = false ∧ P.eqGuardType P.depth t = false) ∧ (i.cmp = true → ∃ info, P.info? t = some info ∧ info.comparable = true)

structure Ctx.ok (c : Ctx) : Prop where
  fits : ∀ t i, c.tt t = some i → i.fits c.P t
  zero0 : ∀ t i z, c.tt t = some i → i.zero = some z → ∃ info v, c.P.info? t = some info ∧ info.zero = some v ∧ cells0 z = some v.cells.toList ∧ vAgg v = z.isAgg
  flags : ∀ t i, c.tt t = some i → i.flags c.P t

instance {c : Ctx} : CoeFun c.ok (fun _ => ∀ t i, c.tt t = some i → i.fits c.P t) := ⟨Ctx.ok.fits⟩

def bid : Value → Option Nat
  | .pointer (some a) => some a.block
  | .slice (some a) _ _ => some a.block
  | .map (some r) => some r
  | _ => none

def Blk.fixed : Blk → Nat
  | .row _ sz xs => xs.length * sz
  | _ => 0

/-- A key: bytes, an array's. -/
def keyV (b : ByteArray) : Value := .agg (b.data.map fun c => Value.int .u8 (c.toNat : Int))

def BlkOk (μ : Nat → Value) (k : Nat) (w : World) (G : Nat → Nat → Prop) (v : Value) : Blk → Prop
  | .var x => ∃ b cs T l s, v = .pointer (some ⟨b, 0, none⟩) ∧ w.heap[b]? = some (.cells cs T (0, 0)) ∧ cs.toList = l ++ s ∧ CA μ k w G [x] l
  | .row e sz xs => ∃ cs, w.ownsRowF 0 e sz v xs.length cs ∧ CL w G xs cs ∧ (∀ x ∈ xs, x.size = sz) ∧ ∀ n, bid v = some n → ∀ o, o < cs.length → G n o
  | .own e sz xs => ∃ cs, w.ownsRow 0 e sz v xs.length cs ∧ CL w G xs cs ∧ ∀ x ∈ xs, x.size = sz
  | .tvar T x => ∃ b cs, v = .pointer (some ⟨b, 0, none⟩) ∧ w.heap[b]? = some (.cells cs T (0, 0)) ∧ CA μ k w G [x] cs.toList
  | .iter s pos => ∃ b, v = .pointer (some ⟨b, 0, none⟩) ∧ w.heap[b]? = some (.stringIter s pos)
  | .mapb ks x => ∃ r ents, v = .map (some r) ∧ w.heap[r]? = some (.map ents ents.size) ∧ ents.toList.map (·.key) = ks.map keyV ∧ (∀ (i : Nat) e, ents[i]? = some e → e.born = i) ∧ (∀ b ∈ ks, b.size = 32) ∧ CA μ k w G [x] (ents.toList.map (·.val))
  | .sealed x => VD w G x v
  | .dead => True

structure Base where
  c : Ctx
  k0 : Nat
  μ0 : Nat → Value
  G0 : Nat → Nat → Prop
  w0 : World
  L0 : Nat → Prop

def Base.X (B : Base) (n : Nat) : Prop := ∃ i, i < B.k0 ∧ B.L0 i ∧ bid (B.μ0 i) = some n

structure St (B : Base) (S : List Blk) (μ : Nat → Value) (G : Nat → Nat → Prop) (w : World) : Prop where
  blks : ∀ i b, S[i]? = some b → BlkOk μ S.length w G (μ i) b
  apart : ∀ i j b d, S[i]? = some b → S[j]? = some d → b.live = true → d.live = true → i ≠ j → ∀ n, bid (μ i) = some n → bid (μ j) ≠ some n
  free : ∀ i b n, S[i]? = some b → b.live = true → bid (μ i) = some n → ∀ o, b.fixed ≤ o → ¬ G n o
  gv : ∀ b o, G b o → b < w.heap.size
  k0 : B.k0 ≤ S.length
  keep : ∀ i, i < B.k0 → μ i = B.μ0 i
  g0 : ∀ b o, B.G0 b o → G b o
  gn : ∀ b o, G b o → B.G0 b o ∨ B.w0.heap.size ≤ b ∨ B.X b
  new : ∀ i b n, B.k0 ≤ i → S[i]? = some b → b.live = true → bid (μ i) = some n → B.w0.heap.size ≤ n ∨ B.X n
  os : w.os = B.w0.os
  tape : w.tape = B.w0.tape
  output : w.output = B.w0.output
  size : B.w0.heap.size ≤ w.heap.size
  fr : ∀ k, k < B.w0.heap.size → ¬ B.X k → w.heap[k]? = B.w0.heap[k]?
  lv : ∀ i b, i < B.k0 → S[i]? = some b → b.live = true → B.L0 i
  glob : ∀ g x, B.c.glob g = some x → VD w G (.cptr x) (.pointer (some ⟨g, 0, none⟩))
  gw : ∀ b o v, B.G0 b o → B.w0.cell? ⟨b, o, none⟩ = some v → w.cell? ⟨b, o, none⟩ = some v

theorem St.xx {B S μ G w} (st : St B S μ G w) {i : Nat} {b : Blk} {n : Nat} (h1 : i < B.k0) (h2 : S[i]? = some b) (h3 : b.live = true) (h4 : bid (μ i) = some n) : B.X n :=
  ⟨i, h1, st.lv i b h1 h2 h3, by rw [← st.keep i h1]; exact h4⟩

theorem cell?_heap {w w' : World} {b o : Nat} (h : w'.heap[b]? = w.heap[b]?) : w'.cell? ⟨b, o, none⟩ = w.cell? ⟨b, o, none⟩ := by simp [World.cell?, h]

theorem ownsRow_heap {w w' : World} {e sz v n xs} (h : w.ownsRowF 0 e sz v n xs) (hw : ∀ b, bid v = some b → w'.heap[b]? = w.heap[b]?) : w'.ownsRowF 0 e sz v n xs := by
  obtain ⟨h1, h2⟩ := h
  refine ⟨h1, ?_⟩
  rcases h2 with h2 | ⟨g, cap, cur, fz, hv, hg, hh, r⟩
  · exact .inl h2
  · exact .inr ⟨g, cap, cur, fz, hv, hg, by rw [hw g (by rw [hv]; rfl)]; exact hh, r⟩

theorem ownsRow_heap' {w w' : World} {e sz v n xs} (h : w.ownsRow 0 e sz v n xs) (hw : ∀ b, bid v = some b → w'.heap[b]? = w.heap[b]?) : w'.ownsRow 0 e sz v n xs := by
  obtain ⟨h1, h2⟩ := h
  refine ⟨h1, ?_⟩
  rcases h2 with h2 | ⟨g, cap, cur, hv, hg, hh, r⟩
  · exact .inl h2
  · exact .inr ⟨g, cap, cur, hv, hg, by rw [hw g (by rw [hv]; rfl)]; exact hh, r⟩

theorem BlkOk.mono {μ μ' k k' w w' G G' v b} (h : BlkOk μ k w G v b) (hk : k ≤ k') (hμ : ∀ i, i < k → solid (μ i) → μ' i = μ i) (hG : ∀ b o, G b o → G' b o)
    (hw : ∀ b o v, G b o → w.cell? ⟨b, o, none⟩ = some v → w'.cell? ⟨b, o, none⟩ = some v)
    (hb : b.live = true → ∀ n, bid v = some n → w'.heap[n]? = w.heap[n]?) : BlkOk μ' k' w' G' v b := by
  cases b with
  | var x =>
    obtain ⟨b, cs, T, l, s, rfl, h1, h2, h3⟩ := h
    exact ⟨b, cs, T, l, s, rfl, by rw [hb rfl b rfl]; exact h1, h2, h3.mono hk hμ hG hw⟩
  | tvar T x =>
    obtain ⟨b, cs, rfl, h1, h2⟩ := h
    exact ⟨b, cs, rfl, by rw [hb rfl b rfl]; exact h1, h2.mono hk hμ hG hw⟩
  | row e sz xs =>
    obtain ⟨cs, h1, h2, h3, h4⟩ := h
    exact ⟨cs, ownsRow_heap h1 (hb rfl), h2.mono hG hw, h3, fun n hn o ho => hG _ _ (h4 n hn o ho)⟩
  | own e sz xs =>
    obtain ⟨cs, h1, h2, h3⟩ := h
    exact ⟨cs, ownsRow_heap' h1 (hb rfl), h2.mono hG hw, h3⟩
  | iter s pos =>
    obtain ⟨b, rfl, h1⟩ := h
    exact ⟨b, rfl, by rw [hb rfl b rfl]; exact h1⟩
  | mapb ks x =>
    obtain ⟨r, ents, rfl, h1, h2, h3, h4, h5⟩ := h
    exact ⟨r, ents, rfl, by rw [hb rfl r rfl]; exact h1, h2, h3, h4, h5.mono hk hμ hG hw⟩
  | sealed x => exact VD.mono h hG hw
  | dead => trivial

/-- The heap has turned outside of what is known at most. -/
structure Next (w w' : World) (n : Option Nat) : Prop where
  os : w'.os = w.os
  tape : w'.tape = w.tape
  output : w'.output = w.output
  size : w.heap.size ≤ w'.heap.size
  heap : ∀ k, k < w.heap.size → n ≠ some k → w'.heap[k]? = w.heap[k]?

theorem Next.cells {w w' : World} {n : Option Nat} (h : Next w w' n) {G : Nat → Nat → Prop} (gv : ∀ b o, G b o → b < w.heap.size)
    (hn : ∀ k, n = some k → ∀ o v, G k o → w.cell? ⟨k, o, none⟩ = some v → w'.cell? ⟨k, o, none⟩ = some v) :
    ∀ b o v, G b o → w.cell? ⟨b, o, none⟩ = some v → w'.cell? ⟨b, o, none⟩ = some v := by
  intro b o v hg hv
  by_cases e : n = some b
  · exact hn b e o v hg hv
  · rw [cell?_heap (h.heap b (gv _ _ hg) e)]; exact hv

theorem BlkOk.bid_lt {μ k w G v b} (h : BlkOk μ k w G v b) (hl : b.live = true) : ∀ n, bid v = some n → n < w.heap.size := by
  intro n hn
  cases b with
  | var x =>
    obtain ⟨b, cs, T, l, s, rfl, h1, _⟩ := h
    simp only [bid, Option.some.injEq] at hn
    subst hn
    exact (Array.getElem?_eq_some_iff.1 h1).1
  | tvar T x =>
    obtain ⟨b, cs, rfl, h1, _⟩ := h
    simp only [bid, Option.some.injEq] at hn
    subst hn
    exact (Array.getElem?_eq_some_iff.1 h1).1
  | row e sz xs =>
    obtain ⟨cs, ⟨_, h1⟩, _⟩ := h
    rcases h1 with ⟨rfl, _⟩ | ⟨g, cap, cur, fz, rfl, _, h1, _⟩
    · simp [bid] at hn
    · simp only [bid, Option.some.injEq] at hn
      subst hn
      exact (Array.getElem?_eq_some_iff.1 h1).1
  | own e sz xs =>
    obtain ⟨cs, ⟨_, h1⟩, _⟩ := h
    rcases h1 with ⟨rfl, _⟩ | ⟨g, cap, cur, rfl, _, h1, _⟩
    · simp [bid] at hn
    · simp only [bid, Option.some.injEq] at hn
      subst hn
      exact (Array.getElem?_eq_some_iff.1 h1).1
  | iter s pos =>
    obtain ⟨b, rfl, h1⟩ := h
    simp only [bid, Option.some.injEq] at hn
    subst hn
    exact (Array.getElem?_eq_some_iff.1 h1).1
  | mapb ks x =>
    obtain ⟨r, ents, rfl, h1, _⟩ := h
    simp only [bid, Option.some.injEq] at hn
    subst hn
    exact (Array.getElem?_eq_some_iff.1 h1).1
  | sealed | dead => simp [Blk.live] at hl

/-- Nothing but new blocks, and cells that nobody knows. -/
theorem St.quiet {B S μ G w w'} (st : St B S μ G w) (h : Next w w' none) : St B S μ G w' := by
  have hc := h.cells st.gv (fun k hk => by cases hk)
  exact {
    blks := fun i b hb => (st.blks i b hb).mono (Nat.le_refl _) (fun _ _ _ => rfl) (fun _ _ h => h) hc (fun hl n hn => h.heap n ((st.blks i b hb).bid_lt hl n hn) (by simp))
    apart := st.apart
    free := st.free
    gv := fun b o hg => Nat.lt_of_lt_of_le (st.gv b o hg) h.size
    k0 := st.k0
    keep := st.keep
    g0 := st.g0
    gn := st.gn
    new := st.new
    os := h.os.trans st.os
    tape := h.tape.trans st.tape
    output := h.output.trans st.output
    size := Nat.le_trans st.size h.size
    fr := fun k hk hx => (h.heap k (Nat.lt_of_lt_of_le hk st.size) (by simp)).trans (st.fr k hk hx)
    lv := st.lv
    glob := fun g x hg => (st.glob g x hg).mono (fun _ _ h => h) hc
    gw := fun b o v h1 h2 => hc b o v (st.g0 b o h1) (st.gw b o v h1 h2) }

def upd (μ : Nat → Value) (n : Nat) (v : Value) : Nat → Value := fun i => if i = n then v else μ i

/-- A name more, whose block lies in new memory (or nowhere). -/
theorem St.push {B S μ G w} (st : St B S μ G w) {w' : World} {G' : Nat → Nat → Prop} {v : Value} {b : Blk} (h : Next w w' none)
    (hG : ∀ b o, G b o → G' b o) (hN : ∀ b o, G' b o → G b o ∨ (w.heap.size ≤ b ∧ b < w'.heap.size))
    (hv : b.live = true → ∀ n, bid v = some n → w.heap.size ≤ n)
    (hf : b.live = true → ∀ n, bid v = some n → ∀ o, b.fixed ≤ o → ¬ G' n o)
    (hb : BlkOk (upd μ S.length v) (S.length + 1) w' G' v b) : St B (S ++ [b]) (upd μ S.length v) G' w' := by
  have hc := h.cells st.gv (fun k hk => by cases hk)
  have hμ : ∀ i, i < S.length → upd μ S.length v i = μ i := fun i hi => by simp [upd, Nat.ne_of_lt hi]
  have hn : upd μ S.length v S.length = v := by simp [upd]
  have old : ∀ i d, (S ++ [b])[i]? = some d → (i < S.length ∧ S[i]? = some d ∧ upd μ S.length v i = μ i) ∨ (i = S.length ∧ d = b ∧ upd μ S.length v i = v) := by
    intro i d hd
    by_cases hi : i < S.length
    · exact .inl ⟨hi, by rw [List.getElem?_append_left hi] at hd; exact hd, hμ i hi⟩
    · rw [List.getElem?_append_right (by omega)] at hd
      have : i - S.length = 0 := by
        rcases Nat.eq_zero_or_pos (i - S.length) with h | h
        · exact h
        · rw [List.getElem?_eq_none (by simp; omega)] at hd; cases hd
      rw [this] at hd
      have hi' : i = S.length := by omega
      exact .inr ⟨hi', by simpa using hd.symm, by rw [hi']; exact hn⟩
  exact {
    blks := by
      intro i d hd
      rw [List.length_append]
      rcases old i d hd with ⟨hi, hs, e⟩ | ⟨hi, rfl, e⟩
      · rw [e]
        exact (st.blks i d hs).mono (by simp) (fun i hi _ => hμ i hi) hG hc (fun hl n hn => h.heap n ((st.blks i d hs).bid_lt hl n hn) (by simp))
      · rw [e]; exact hb
    apart := by
      intro i j d f hd hf' hl hm hij n hn hn'
      rcases old i d hd with ⟨hi, hs, e⟩ | ⟨hi, rfl, e⟩ <;> rcases old j f hf' with ⟨hj, hs', e'⟩ | ⟨hj, rfl, e'⟩
      · rw [e] at hn; rw [e'] at hn'; exact st.apart i j d f hs hs' hl hm hij n hn hn'
      · rw [e] at hn; rw [e'] at hn'
        have := (st.blks i d hs).bid_lt hl n hn
        have := hv hm n hn'
        omega
      · rw [e] at hn; rw [e'] at hn'
        have := (st.blks j f hs').bid_lt hm n hn'
        have := hv hl n hn
        omega
      · omega
    free := by
      intro i d n hd hl hn o ho hg
      rcases old i d hd with ⟨hi, hs, e⟩ | ⟨hi, rfl, e⟩
      · rw [e] at hn
        rcases hN n o hg with h1 | h1
        · exact st.free i d n hs hl hn o ho h1
        · have := (st.blks i d hs).bid_lt hl n hn; omega
      · rw [e] at hn; exact hf hl n hn o ho hg
    gv := fun b o hg => by
      rcases hN b o hg with h1 | h1
      · exact Nat.lt_of_lt_of_le (st.gv b o h1) h.size
      · exact h1.2
    k0 := by have := st.k0; simp; omega
    keep := fun i hi => by rw [hμ i (by have := st.k0; omega)]; exact st.keep i hi
    g0 := fun b o hg => hG _ _ (st.g0 b o hg)
    gn := fun b o hg => by
      rcases hN b o hg with h1 | h1
      · exact st.gn b o h1
      · right; left; have := st.size; omega
    new := by
      intro i d n hi hd hl hn
      rcases old i d hd with ⟨hi', hs, e⟩ | ⟨hi', rfl, e⟩
      · rw [e] at hn; exact st.new i d n hi hs hl hn
      · rw [e] at hn; have := hv hl n hn; have := st.size; left; omega
    os := h.os.trans st.os
    tape := h.tape.trans st.tape
    output := h.output.trans st.output
    size := Nat.le_trans st.size h.size
    fr := fun k hk hx => (h.heap k (Nat.lt_of_lt_of_le hk st.size) (by simp)).trans (st.fr k hk hx)
    lv := by
      intro i d hi hd hl
      have hi' : i < S.length := by have := st.k0; omega
      rcases old i d hd with ⟨_, hs, _⟩ | ⟨hi'', _⟩
      · exact st.lv i d hi hs hl
      · omega
    glob := fun g x hg => (st.glob g x hg).mono hG hc
    gw := fun b o v h1 h2 => hc b o v (st.g0 b o h1) (st.gw b o v h1 h2) }

/-- A live block that has no fixed part is written. -/
theorem St.write {B S μ G w} (st : St B S μ G w) {w' : World} {n g : Nat} {b b' : Blk} (hn : S[n]? = some b) (hl : b.live = true) (hfx : b.fixed = 0) (hl' : b'.live = true) (hfx' : b'.fixed = 0)
    (hg : bid (μ n) = some g) (h : Next w w' (some g)) (hb : BlkOk μ S.length w' G (μ n) b') : St B (S.set n b') μ G w' := by
  have hlt : n < S.length := by
    rcases Nat.lt_or_ge n S.length with h | h
    · exact h
    · simp [List.getElem?_eq_none h] at hn
  have hfree : ∀ o, ¬ G g o := fun o => st.free n b g hn hl hg o (by omega)
  have hc := h.cells st.gv (fun k hk o v hG _ => by cases hk; exact absurd hG (hfree o))
  have old : ∀ i d, (S.set n b')[i]? = some d → (i ≠ n ∧ S[i]? = some d) ∨ (i = n ∧ d = b') := by
    intro i d hd
    by_cases e : i = n
    · subst e; rw [List.getElem?_set_self hlt] at hd; exact .inr ⟨rfl, by simpa using hd.symm⟩
    · rw [List.getElem?_set_ne (Ne.symm e)] at hd; exact .inl ⟨e, hd⟩
  exact {
    blks := by
      intro i d hd
      rw [List.length_set]
      rcases old i d hd with ⟨hi, hs⟩ | ⟨rfl, rfl⟩
      · refine (st.blks i d hs).mono (Nat.le_refl _) (fun _ _ _ => rfl) (fun _ _ h => h) hc (fun hl1 m hm => h.heap m ((st.blks i d hs).bid_lt hl1 m hm) ?_)
        intro e
        cases e
        exact st.apart n i b d hn hs hl hl1 (Ne.symm hi) g hg hm
      · exact hb
    apart := by
      intro i j d f hd hf hl1 hl2 hij m hm hm'
      rcases old i d hd with ⟨hi, hs⟩ | ⟨rfl, rfl⟩ <;> rcases old j f hf with ⟨hj, hs'⟩ | ⟨rfl, rfl⟩
      · exact st.apart i j d f hs hs' hl1 hl2 hij m hm hm'
      · exact st.apart i j d b hs hn hl1 hl hij m hm hm'
      · exact st.apart i j b f hn hs' hl hl2 hij m hm hm'
      · exact hij rfl
    free := by
      intro i d m hd hl1 hm o ho hG
      rcases old i d hd with ⟨hi, hs⟩ | ⟨rfl, rfl⟩
      · exact st.free i d m hs hl1 hm o ho hG
      · rw [hg] at hm; cases hm; exact hfree o hG
    gv := fun b o hG => Nat.lt_of_lt_of_le (st.gv b o hG) h.size
    k0 := by rw [List.length_set]; exact st.k0
    keep := st.keep
    g0 := st.g0
    gn := st.gn
    new := by
      intro i d m hi hd hl1 hm
      rcases old i d hd with ⟨_, hs⟩ | ⟨rfl, rfl⟩
      · exact st.new i d m hi hs hl1 hm
      · exact st.new i b m hi hn hl hm
    os := h.os.trans st.os
    tape := h.tape.trans st.tape
    output := h.output.trans st.output
    size := Nat.le_trans st.size h.size
    fr := by
      intro k hk hx
      refine (h.heap k (Nat.lt_of_lt_of_le hk st.size) ?_).trans (st.fr k hk hx)
      intro e
      cases e
      by_cases hi : n < B.k0
      · exact hx (st.xx hi hn hl hg)
      · rcases st.new n b g (by omega) hn hl hg with h | h
        · omega
        · exact hx h
    lv := by
      intro i d hi hd hl1
      rcases old i d hd with ⟨_, hs⟩ | ⟨rfl, rfl⟩
      · exact st.lv i d hi hs hl1
      · exact st.lv i b hi hn hl
    glob := fun g x hg => (st.glob g x hg).mono (fun _ _ h => h) hc
    gw := fun b o v h1 h2 => hc b o v (st.g0 b o h1) (st.gw b o v h1 h2) }

/-- A name is given up, or what it named stays as it is from now on. -/
theorem St.drop {B S μ G w} (st : St B S μ G w) {n : Nat} {b : Blk} (hn : n < S.length) {G' : Nat → Nat → Prop} (hl : b.live = false)
    (hG : ∀ b o, G b o → G' b o) (hN : ∀ k o, G' k o → G k o ∨ (∃ d, S[n]? = some d ∧ d.live = true ∧ bid (μ n) = some k ∧ k < w.heap.size))
    (hb : BlkOk μ S.length w G' (μ n) b) : St B (S.set n b) μ G' w := by
  have old : ∀ i d, (S.set n b)[i]? = some d → (i ≠ n ∧ S[i]? = some d) ∨ (i = n ∧ d = b) := by
    intro i d hd
    by_cases e : i = n
    · subst e; rw [List.getElem?_set_self hn] at hd; exact .inr ⟨rfl, by simpa using hd.symm⟩
    · rw [List.getElem?_set_ne (Ne.symm e)] at hd; exact .inl ⟨e, hd⟩
  have livd : ∀ i d, (S.set n b)[i]? = some d → d.live = true → i ≠ n ∧ S[i]? = some d := by
    intro i d hd hl1
    rcases old i d hd with h | ⟨_, rfl⟩
    · exact h
    · rw [hl] at hl1; cases hl1
  exact {
    blks := by
      intro i d hd
      rw [List.length_set]
      rcases old i d hd with ⟨hi, hs⟩ | ⟨rfl, rfl⟩
      · exact (st.blks i d hs).mono (Nat.le_refl _) (fun _ _ _ => rfl) hG (fun _ _ _ _ h => h) (fun _ _ _ => rfl)
      · exact hb
    apart := fun i j d f hd hf hl1 hl2 hij => st.apart i j d f (livd i d hd hl1).2 (livd j f hf hl2).2 hl1 hl2 hij
    free := by
      intro i d m hd hl1 hm o ho hg
      obtain ⟨hi, hs⟩ := livd i d hd hl1
      rcases hN m o hg with h | ⟨d', h1, h2, h3, _⟩
      · exact st.free i d m hs hl1 hm o ho h
      · exact st.apart i n d d' hs h1 hl1 h2 hi m hm h3
    gv := by
      intro k o hg
      rcases hN k o hg with h | ⟨d', h1, h2, h3, h4⟩
      · exact st.gv k o h
      · exact h4
    k0 := by rw [List.length_set]; exact st.k0
    keep := st.keep
    g0 := fun b o h => hG _ _ (st.g0 b o h)
    gn := by
      intro k o hg
      rcases hN k o hg with h | ⟨d', h1, h2, h3, h4⟩
      · exact st.gn k o h
      · rcases Nat.lt_or_ge n B.k0 with h5 | h5
        · exact .inr (.inr (st.xx h5 h1 h2 h3))
        · exact .inr (st.new n d' k h5 h1 h2 h3)
    new := fun i d m hi hd hl1 hm => st.new i d m hi (livd i d hd hl1).2 hl1 hm
    os := st.os
    tape := st.tape
    output := st.output
    size := st.size
    fr := st.fr
    lv := fun i d hi hd hl1 => st.lv i d hi (livd i d hd hl1).2 hl1
    glob := fun g x hg => (st.glob g x hg).mono hG (fun _ _ _ _ h => h)
    gw := st.gw }

/-- What is kept of slots from one state to a later one. -/
structure Later (S : List Blk) (μ : Nat → Value) (G : Nat → Nat → Prop) (w : World) (S' : List Blk) (μ' : Nat → Value) (G' : Nat → Nat → Prop) (w' : World) : Prop where
  k : S.length ≤ S'.length
  μ : ∀ i, i < S.length → μ' i = μ i
  g : ∀ b o, G b o → G' b o
  cells : ∀ b o v, G b o → w.cell? ⟨b, o, none⟩ = some v → w'.cell? ⟨b, o, none⟩ = some v

theorem Later.refl (S μ G w) : Later S μ G w S μ G w := ⟨Nat.le_refl _, fun _ _ => rfl, fun _ _ h => h, fun _ _ _ _ h => h⟩
theorem Later.trans {S μ G w S' μ' G' w' S'' μ'' G'' w''} (h : Later S μ G w S' μ' G' w') (g : Later S' μ' G' w' S'' μ'' G'' w'') : Later S μ G w S'' μ'' G'' w'' :=
  ⟨Nat.le_trans h.k g.k, fun i hi => (g.μ i (Nat.lt_of_lt_of_le hi h.k)).trans (h.μ i hi), fun _ _ x => g.g _ _ (h.g _ _ x), fun _ _ _ x y => g.cells _ _ _ (h.g _ _ x) (h.cells _ _ _ x y)⟩

theorem Later.ra {S μ G w S' μ' G' w' x v} (h : Later S μ G w S' μ' G' w') (g : RA μ S.length w G x v) : RA μ' S'.length w' G' x v := g.mono h.k (fun i hi _ => h.μ i hi) h.g h.cells

theorem VD.later {S μ G w S' μ' G' w' x v} (h : Later S μ G w S' μ' G' w') (g : VD w G x v) : VD w' G' x v := g.mono h.g h.cells

end Go.Ab

namespace Go.Ab
open Go.RowKit

def mapO {α β : Type} (f : α → Option β) : List α → Option (List β)
  | [] => some []
  | x :: l => match f x with
    | some y => match mapO f l with
      | some m => some (y :: m)
      | none => none
    | none => none

mutual
def AV.ren (f : Nat → Option Nat) : AV → Option AV
  | .d x => some (.d x)
  | .ptr n p => match f n with | some m => some (.ptr m p) | none => none
  | .row n => match f n with | some m => some (.row m) | none => none
  | .vw n p lo len cnt sz => match f n with | some m => some (.vw m p lo len cnt sz) | none => none
  | .fn g caps => match mapO f caps with | some ms => some (.fn g ms) | none => none
  | .agg l => match AV.rens f l with | some m => some (.agg m) | none => none
  | .tup l => match AV.rens f l with | some m => some (.tup m) | none => none
def AV.rens (f : Nat → Option Nat) : List AV → Option (List AV)
  | [] => some []
  | x :: l => match x.ren f with
    | some y => match AV.rens f l with
      | some m => some (y :: m)
      | none => none
    | none => none
end

def Fits (f : Nat → Option Nat) (μ : Nat → Value) (k : Nat) (μ' : Nat → Value) (k' : Nat) : Prop := ∀ n m, n < k → f n = some m → m < k' ∧ μ' m = μ n

theorem mapO_fits {f μ k μ' k'} (hf : Fits f μ k μ' k') : ∀ {caps ms}, mapO f caps = some ms → (∀ n ∈ caps, n < k ∧ solid (μ n)) → (∀ m ∈ ms, m < k' ∧ solid (μ' m)) ∧ ms.map μ' = caps.map μ
  | [], ms, h, _ => by cases h; simp
  | n :: l, ms, h, hk => by
    simp only [mapO] at h
    split at h
    · rename_i m hm
      split at h
      · rename_i ms' hms
        cases h
        obtain ⟨h1, h2⟩ := mapO_fits hf hms fun x hx => hk x (by simp [hx])
        obtain ⟨h3, h4⟩ := hf n m (hk n (by simp)).1 hm
        exact ⟨fun x hx => by
          rcases List.mem_cons.1 hx with rfl | hx
          · exact ⟨h3, by rw [h4]; exact (hk n (by simp)).2⟩
          · exact h1 _ hx, by simp [h2, h4]⟩
      · cases h
    · cases h

theorem CA.ren {f μ k μ' k' w G} (hf : Fits f μ k μ' k') {l cs} (h : CA μ k w G l cs) : ∀ {m}, AV.rens f l = some m → CA μ' k' w G m cs := by
  induction h with
  | nil => intro m hm; simp only [AV.rens] at hm; cases hm; exact .nil
  | d h _ ih =>
    intro m hm
    simp only [AV.rens, AV.ren] at hm
    split at hm
    · rename_i l' hl; cases hm; exact .d h (ih hl)
    · cases hm
  | ptr h1 h2 h3 _ ih =>
    intro m hm
    rename_i n p b r cs _
    simp only [AV.rens, AV.ren] at hm
    cases e : f n with
    | none => rw [e] at hm; cases hm
    | some j =>
      rw [e] at hm
      simp only at hm
      obtain ⟨h4, h5⟩ := hf n j h1 e
      split at hm
      · rename_i l' hl; cases hm; exact .ptr h4 (by rw [h5]; exact h2) h3 (ih hl)
      · cases hm
  | row h1 h2 _ ih =>
    intro m hm
    rename_i n a len cap r cs _
    simp only [AV.rens, AV.ren] at hm
    cases e : f n with
    | none => rw [e] at hm; cases hm
    | some j =>
      rw [e] at hm
      simp only at hm
      obtain ⟨h4, h5⟩ := hf n j h1 e
      split at hm
      · rename_i l' hl; cases hm; exact .row h4 (by rw [h5, h2]) (ih hl)
      · cases hm
  | mp h1 h2 _ ih =>
    intro m hm
    rename_i n b r cs _
    simp only [AV.rens, AV.ren] at hm
    cases e : f n with
    | none => rw [e] at hm; cases hm
    | some j =>
      rw [e] at hm
      simp only at hm
      obtain ⟨h4, h5⟩ := hf n j h1 e
      split at hm
      · rename_i l' hl; cases hm; exact .mp h4 (by rw [h5, h2]) (ih hl)
      · cases hm
  | vw h1 h2 h3 h4 h5 h6 _ ih =>
    intro m hm
    rename_i n p b lo len cnt sz cap r cs _
    simp only [AV.rens, AV.ren] at hm
    cases e : f n with
    | none => rw [e] at hm; cases hm
    | some j =>
      rw [e] at hm
      simp only at hm
      obtain ⟨g4, g5⟩ := hf n j h1 e
      split at hm
      · rename_i l' hl; cases hm; exact .vw g4 (by rw [g5]; exact h2) h3 h4 h5 h6 (ih hl)
      · cases hm
  | fn h1 _ ih =>
    intro m hm
    rename_i g caps r cs _
    simp only [AV.rens, AV.ren] at hm
    cases e : mapO f caps with
    | none => rw [e] at hm; cases hm
    | some ms =>
      rw [e] at hm
      simp only at hm
      obtain ⟨g1, g2⟩ := mapO_fits hf e h1
      split at hm
      · rename_i l' hl; cases hm; rw [← g2]; exact .fn g1 (ih hl)
      · cases hm
  | agg _ _ ih1 ih2 =>
    intro m hm
    rename_i l' c r cs _ _
    simp only [AV.rens, AV.ren] at hm
    cases e : AV.rens f l' with
    | none => rw [e] at hm; cases hm
    | some ms =>
      rw [e] at hm
      simp only at hm
      split at hm
      · rename_i l'' hl; cases hm; exact .agg (ih1 e) (ih2 hl)
      · cases hm

theorem rens_single {f x y} (h : AV.ren f x = some y) : AV.rens f [x] = some [y] := by simp [AV.rens, h]

theorem ren_isAgg {f x y} (h : AV.ren f x = some y) : y.isAgg = x.isAgg := by
  cases x <;> simp only [AV.ren] at h
  · cases h; rfl
  all_goals (split at h <;> cases h; rfl)

theorem VA.ren {f μ k μ' k' w G x y v} (hf : Fits f μ k μ' k') (h : VA μ k w G x v) (e : AV.ren f x = some y) : VA μ' k' w G y v :=
  ⟨h.1.ren hf (rens_single e), by rw [ren_isAgg e]; exact h.2⟩

theorem VS.ren {f μ k μ' k' w G} (hf : Fits f μ k μ' k') {l vs} (h : VS μ k w G l vs) : ∀ {m}, AV.rens f l = some m → VS μ' k' w G m vs := by
  induction h with
  | nil => intro m hm; simp only [AV.rens] at hm; cases hm; exact .nil
  | cons h _ ih =>
    intro m hm
    simp only [AV.rens] at hm
    split at hm
    · rename_i y hy
      split at hm
      · rename_i l' hl; cases hm; exact .cons (h.ren hf hy) (ih hl)
      · cases hm
    · cases hm

theorem RA.ren {f μ k μ' k' w G x y v} (hf : Fits f μ k μ' k') (h : RA μ k w G x v) (e : AV.ren f x = some y) : RA μ' k' w G y v := by
  cases x with
  | tup l =>
    obtain ⟨vs, rfl, hv⟩ := h
    simp only [AV.ren] at e
    split at e
    · rename_i m hm; cases e; exact ⟨vs, rfl, hv.ren hf hm⟩
    · cases e
  | _ =>
    have h' : VA μ k w G _ v := h
    have h2 := h'.ren hf e
    cases y with
    | tup l => simp only [AV.ren] at e; first | (cases e; done) | (split at e <;> cases e)
    | _ => exact h2

def Blk.ren (f : Nat → Option Nat) : Blk → Option Blk
  | .var x => match x.ren f with | some y => some (.var y) | none => none
  | .tvar T x => match x.ren f with | some y => some (.tvar T y) | none => none
  | .mapb ks x => match x.ren f with | some y => some (.mapb ks y) | none => none
  | b => some b

theorem Blk.ren_live {f b d} (h : Blk.ren f b = some d) : d.live = b.live ∧ d.fixed = b.fixed := by
  cases b <;> simp only [Blk.ren] at h <;> first | (cases h; exact ⟨rfl, rfl⟩) | (split at h <;> cases h; exact ⟨rfl, rfl⟩)

theorem BlkOk.ren {f μ k μ' k' w G v b d} (hf : Fits f μ k μ' k') (h : BlkOk μ k w G v b) (e : Blk.ren f b = some d) : BlkOk μ' k' w G v d := by
  cases b with
  | var x =>
    simp only [Blk.ren] at e
    split at e
    · rename_i y hy
      cases e
      obtain ⟨b, cs, T, l, s, h1, h2, h3, h4⟩ := h
      exact ⟨b, cs, T, l, s, h1, h2, h3, h4.ren hf (rens_single hy)⟩
    · cases e
  | tvar T x =>
    simp only [Blk.ren] at e
    split at e
    · rename_i y hy
      cases e
      obtain ⟨b, cs, h1, h2, h3⟩ := h
      exact ⟨b, cs, h1, h2, h3.ren hf (rens_single hy)⟩
    · cases e
  | mapb ks x =>
    simp only [Blk.ren] at e
    split at e
    · rename_i y hy
      cases e
      obtain ⟨r, ents, h1, h2, h3, h4, h5, h6⟩ := h
      exact ⟨r, ents, h1, h2, h3, h4, h5, h6.ren hf (rens_single hy)⟩
    · cases e
  | row | own | iter | sealed | dead => simp only [Blk.ren] at e; cases e; exact h

/-- The names that are handed on, in the order in which the callee counts them: the place of a name. -/
def posOf : List Nat → Nat → Option Nat
  | [], _ => none
  | m :: l, n => match Nat.beq n m with
    | true => some 0
    | false => match posOf l n with | some i => some (i + 1) | none => none

theorem posOf_spec : ∀ {ns : List Nat} {n i}, posOf ns n = some i → ns[i]? = some n
  | [], _, _, h => by cases h
  | m :: l, n, i, h => by
    simp only [posOf] at h
    cases e : Nat.beq n m with
    | true => rw [e] at h; cases h; simp [Nat.eq_of_beq_eq_true e]
    | false =>
      rw [e] at h
      simp only at h
      split at h
      · rename_i j hj; cases h; simpa using posOf_spec hj
      · cases h

/-- Back: the caller's name of a callee's. -/
def backOf (ns : List Nat) (k : Nat) (i : Nat) : Option Nat :=
  match Nat.blt i ns.length with
  | true => ns[i]?
  | false => some (k + (i - ns.length))

def subStore (S : List Blk) : List Nat → Option (List Blk)
  | [] => some []
  | n :: l => match S[n]? with
    | some b => match subStore S l with | some r => some (b :: r) | none => none
    | none => none

def renBlks (f : Nat → Option Nat) : List Blk → Option (List Blk)
  | [] => some []
  | b :: l => match b.ren f with
    | some d => match renBlks f l with | some r => some (d :: r) | none => none
    | none => none

theorem renBlks_get {f} : ∀ {l m : List Blk}, renBlks f l = some m → m.length = l.length ∧ (∀ (i : Nat) (d : Blk), m[i]? = some d → ∃ b : Blk, l[i]? = some b ∧ b.ren f = some d) ∧ (∀ (i : Nat) (b : Blk), l[i]? = some b → ∃ d : Blk, m[i]? = some d ∧ b.ren f = some d)
  | [], m, h => by cases h; simp
  | b :: l, m, h => by
    simp only [renBlks] at h
    split at h
    · rename_i d hd
      split at h
      · rename_i r hr
        cases h
        obtain ⟨h1, h2, h3⟩ := renBlks_get hr
        refine ⟨by simp [h1], fun i x hx => ?_, fun i x hx => ?_⟩
        · cases i with
          | zero => simp at hx; exact ⟨b, by simp, by rw [hd, hx]⟩
          | succ i => simpa using h2 i x (by simpa using hx)
        · cases i with
          | zero => simp at hx; exact ⟨d, by simp, by rw [← hx, hd]⟩
          | succ i => simpa using h3 i x (by simpa using hx)
      · cases h
    · cases h

theorem subStore_get {S : List Blk} : ∀ {ns : List Nat} {m : List Blk}, subStore S ns = some m → m.length = ns.length ∧ ∀ (i : Nat) (d : Blk), m[i]? = some d → ∃ n : Nat, ns[i]? = some n ∧ S[n]? = some d
  | [], m, h => by cases h; simp
  | n :: l, m, h => by
    simp only [subStore] at h
    split at h
    · rename_i b hb
      split at h
      · rename_i r hr
        cases h
        obtain ⟨h1, h2⟩ := subStore_get hr
        refine ⟨by simp [h1], fun i x hx => ?_⟩
        cases i with
        | zero => simp at hx; exact ⟨n, by simp, by rw [hb, hx]⟩
        | succ i => simpa using h2 i x (by simpa using hx)
      · cases h
    · cases h

/-- Writes the callee's first blocks back into the caller's store. -/
def putBack (S : List Blk) : List Nat → List Blk → List Blk
  | n :: l, b :: r => putBack (S.set n b) l r
  | _, _ => S

def nodupB : List Nat → Bool
  | [] => true
  | n :: l => !(l.any fun m => Nat.beq n m) && nodupB l

theorem nodupB_spec : ∀ {l : List Nat}, nodupB l = true → ∀ (i j n : Nat), l[i]? = some n → l[j]? = some n → i = j
  | [], _, i, j, n, h, _ => by simp at h
  | m :: l, hd, i, j, n, hi, hj => by
    simp only [nodupB, Bool.and_eq_true, Bool.not_eq_true', List.any_eq_false] at hd
    obtain ⟨h1, h2⟩ := hd
    have no : ∀ q, l[q]? = some m → False := fun q hq => by
      have := h1 m (List.mem_of_getElem? hq)
      exact this (Nat.beq_refl m)
    cases i <;> cases j
    · rfl
    · simp at hi hj; subst hi; exact (no _ hj).elim
    · simp at hi hj; subst hj; exact (no _ hi).elim
    · simp at hi hj; have := nodupB_spec h2 _ _ n hi hj; omega

theorem putBack_length (S : List Blk) : ∀ (ns : List Nat) (l : List Blk), (putBack S ns l).length = S.length
  | [], _ => by simp [putBack]
  | n :: ns, [] => by simp [putBack]
  | n :: ns, b :: l => by simp only [putBack]; rw [putBack_length _ ns l]; simp

theorem putBack_other : ∀ (ns : List Nat) (l : List Blk) (S : List Blk) (i : Nat), (∀ n ∈ ns, n ≠ i) → (putBack S ns l)[i]? = S[i]?
  | [], _, _, _, _ => by simp [putBack]
  | n :: ns, [], _, _, _ => by simp [putBack]
  | n :: ns, b :: l, S, i, h => by
    simp only [putBack]
    rw [putBack_other ns l _ i (fun m hm => h m (by simp [hm])), List.getElem?_set_ne (h n (by simp))]

theorem putBack_at : ∀ (ns : List Nat) (l : List Blk) (S : List Blk) (q n : Nat) (b : Blk), nodupB ns = true → ns[q]? = some n → l[q]? = some b → n < S.length → (putBack S ns l)[n]? = some b
  | [], _, _, q, _, _, _, h, _, _ => by simp at h
  | m :: ns, [], _, q, _, _, _, _, h, _ => by simp at h
  | m :: ns, d :: l, S, q, n, b, hd, hq, hb, hn => by
    simp only [putBack]
    have hd' := hd
    simp only [nodupB, Bool.and_eq_true, Bool.not_eq_true', List.any_eq_false] at hd
    obtain ⟨h1, h2⟩ := hd
    cases q with
    | zero =>
      simp at hq hb
      subst hq; subst hb
      rw [putBack_other ns l _ m (fun x hx e => h1 x hx (by rw [e]; exact Nat.beq_refl m)), List.getElem?_set_self hn]
    | succ q =>
      simp at hq hb
      exact putBack_at ns l _ q n b h2 hq hb (by simpa using hn)

/-- A call's arguments and store as the callee sees them. -/
structure Into (S : List Blk) (ns : List Nat) (args : List AV) (args' : List AV) (S' : List Blk) : Prop where
  nd : nodupB ns = true
  lt : ∀ n ∈ ns, n < S.length
  args : AV.rens (posOf ns) args = some args'
  sub : ∃ m, subStore S ns = some m ∧ renBlks (posOf ns) m = some S'

theorem posOf_fits {ns : List Nat} {μ k} : Fits (posOf ns) μ k (fun i => μ (ns.getD i 0)) ns.length := by
  intro n m _ h
  have := posOf_spec h
  obtain ⟨h1, h2⟩ := List.getElem?_eq_some_iff.1 this
  exact ⟨h1, by simp [List.getD_eq_getElem?_getD, this]⟩

/-- Of a store some blocks are kept, under new names: those that were there at the start at their places. -/
theorem St.pick {B S μ G w ns args args' S'} (hi : Into S ns args args' S') (st : St B S μ G w) (hk : ∀ i, i < B.k0 → ns[i]? = some i) : St B S' (fun i => μ (ns.getD i 0)) G w := by
  obtain ⟨m, hm, hr⟩ := hi.sub
  obtain ⟨hm1, hm2⟩ := subStore_get hm
  obtain ⟨hr1, hr2, _⟩ := renBlks_get hr
  have hlen : S'.length = ns.length := by rw [hr1, hm1]
  have key : ∀ i d, S'[i]? = some d → ∃ n b, ns[i]? = some n ∧ S[n]? = some b ∧ b.ren (posOf ns) = some d ∧ μ (ns.getD i 0) = μ n := by
    intro i d hd
    obtain ⟨b, h1, h2⟩ := hr2 i d hd
    obtain ⟨n, h3, h4⟩ := hm2 i b h1
    exact ⟨n, b, h3, h4, h2, by simp [List.getD_eq_getElem?_getD, h3]⟩
  have hkn : ∀ i, i < B.k0 → μ (ns.getD i 0) = μ i := fun i h => by simp [List.getD_eq_getElem?_getD, hk i h]
  exact {
    blks := by
      intro i d hd
      obtain ⟨n, b, h1, h2, h3, h4⟩ := key i d hd
      rw [h4, hlen]
      exact (st.blks n b h2).ren posOf_fits h3
    apart := by
      intro i j d e hd he hl hl' hij q hq hq'
      obtain ⟨n, b, h1, h2, h3, h4⟩ := key i d hd
      obtain ⟨n', b', h1', h2', h3', h4'⟩ := key j e he
      rw [h4] at hq; rw [h4'] at hq'
      refine st.apart n n' b b' h2 h2' (by rw [← (Blk.ren_live h3).1]; exact hl) (by rw [← (Blk.ren_live h3').1]; exact hl') ?_ q hq hq'
      intro e'
      subst e'
      exact hij (nodupB_spec hi.nd i j n h1 h1')
    free := by
      intro i d q hd hl hq o ho
      obtain ⟨n, b, h1, h2, h3, h4⟩ := key i d hd
      rw [h4] at hq
      rw [(Blk.ren_live h3).2] at ho
      exact st.free n b q h2 (by rw [← (Blk.ren_live h3).1]; exact hl) hq o ho
    gv := st.gv
    k0 := by
      rcases Nat.eq_zero_or_pos B.k0 with h | h
      · omega
      · have := (List.getElem?_eq_some_iff.1 (hk (B.k0 - 1) (by omega))).1
        omega
    keep := fun i h => by rw [hkn i h]; exact st.keep i h
    g0 := st.g0
    gn := st.gn
    new := by
      intro i d q hi' hd hl hq
      obtain ⟨n, b, h1, h2, h3, h4⟩ := key i d hd
      rw [h4] at hq
      refine st.new n b q ?_ h2 (by rw [← (Blk.ren_live h3).1]; exact hl) hq
      rcases Nat.lt_or_ge n B.k0 with g | g
      · have := nodupB_spec hi.nd i n n h1 (hk n g)
        omega
      · exact g
    os := st.os
    tape := st.tape
    output := st.output
    size := st.size
    fr := st.fr
    lv := by
      intro i d h hd hl
      obtain ⟨n, b, h1, h2, h3, h4⟩ := key i d hd
      rw [hk i h] at h1
      cases h1
      exact st.lv i b h h2 (by rw [← (Blk.ren_live h3).1]; exact hl)
    glob := st.glob
    gw := st.gw }

theorem Into.args_ok {S μ G w ns args args' S' vals} (hi : Into S ns args args' S') (h : VS μ S.length w G args vals) :
    VS (fun i => μ (ns.getD i 0)) S'.length w G args' vals := by
  obtain ⟨m, hm, hr⟩ := hi.sub
  have hlen : S'.length = ns.length := by rw [(renBlks_get hr).1, (subStore_get hm).1]
  rw [hlen]
  exact h.ren posOf_fits hi.args

end Go.Ab

namespace Go.Ab
open Go.RowKit

abbrev Env := Nat → Option AV

def EnvOk (μ : Nat → Value) (k : Nat) (w : World) (G : Nat → Nat → Prop) (env : Env) (tmps : Array Value) : Prop :=
  ∀ t x, env t = some x → ∃ v, tmps[t]? = some v ∧ RA μ k w G x v

def Env.put (d : Nat) (x : Option AV) (env : Env) : Env := fun t => match Nat.beq t d with | true => x | false => env t

def ofL : List (Nat × AV) → Env
  | [] => fun _ => none
  | (t, x) :: l => fun i => match Nat.beq i t with | true => some x | false => ofL l i

def Sub : List (Nat × AV) → Env → Prop
  | [], _ => True
  | (t, x) :: l, env => env t = some x ∧ Sub l env

theorem Sub.get {l env} (h : Sub l env) : ∀ t x, ofL l t = some x → env t = some x := by
  induction l with
  | nil => intro t x h; cases h
  | cons p l ih =>
    obtain ⟨t', x'⟩ := p
    intro t x hx
    simp only [ofL] at hx
    cases e : Nat.beq t t' with
    | true =>
      rw [e] at hx
      have := Nat.eq_of_beq_eq_true e
      subst this
      cases hx
      exact h.1
    | false => rw [e] at hx; exact ih h.2 t x hx

theorem EnvOk.sub {μ k w G l env tmps} (h : EnvOk μ k w G env tmps) (hs : Sub l env) : EnvOk μ k w G (ofL l) tmps :=
  fun t x hx => h t x (hs.get t x hx)

theorem Env.put_same (d : Nat) (x : Option AV) (env : Env) : env.put d x d = x := by simp [Env.put, Nat.beq_refl]
theorem Env.put_ne {t d : Nat} (x : Option AV) (env : Env) (h : t ≠ d) : env.put d x t = env t := by
  unfold Env.put
  cases e : Nat.beq t d with
  | true => exact absurd (Nat.eq_of_beq_eq_true e) h
  | false => rfl

theorem EnvOk.put {μ k w G env} {tmps : Array Value} (h : EnvOk μ k w G env tmps) {d : Nat} (hd : d < tmps.size) {x : AV} {v : Value} (hx : RA μ k w G x v) :
    EnvOk μ k w G (env.put d (some x)) (tmps.setIfInBounds d v) := by
  intro t y hy
  by_cases e : t = d
  · subst e
    rw [Env.put_same] at hy
    cases hy
    exact ⟨v, by simp [hd], hx⟩
  · rw [Env.put_ne _ _ e] at hy
    obtain ⟨u, h1, h2⟩ := h t y hy
    exact ⟨u, by rw [Array.getElem?_setIfInBounds_ne (Ne.symm e)]; exact h1, h2⟩

theorem EnvOk.unset {μ k w G env} {tmps : Array Value} (h : EnvOk μ k w G env tmps) (d : Nat) (v : Value) :
    EnvOk μ k w G (env.put d none) (tmps.setIfInBounds d v) := by
  intro t y hy
  by_cases e : t = d
  · subst e; rw [Env.put_same] at hy; cases hy
  · rw [Env.put_ne _ _ e] at hy
    obtain ⟨u, h1, h2⟩ := h t y hy
    exact ⟨u, by rw [Array.getElem?_setIfInBounds_ne (Ne.symm e)]; exact h1, h2⟩

theorem EnvOk.later {S μ G w S' μ' G' w' env tmps} (h : EnvOk μ S.length w G env tmps) (l : Later S μ G w S' μ' G' w') : EnvOk μ' S'.length w' G' env tmps :=
  fun t x hx => let ⟨v, h1, h2⟩ := h t x hx; ⟨v, h1, l.ra h2⟩

-- The names in values.
mutual
def namesV : AV → List Nat
  | .ptr n _ => [n]
  | .row n => [n]
  | .vw n .. => [n]
  | .fn _ caps => caps
  | .agg l => namesVs l
  | .tup l => namesVs l
  | .d _ => []
def namesVs : List AV → List Nat
  | [] => []
  | x :: l => namesV x ++ namesVs l
end

def namesB : Blk → List Nat
  | .var x => namesV x
  | .tvar _ x => namesV x
  | .mapb _ x => namesV x
  | _ => []

def allLt (k : Nat) : List Nat → Bool
  | [] => true
  | n :: l => Nat.blt n k && allLt k l

theorem allLt_spec {k} : ∀ {l : List Nat}, allLt k l = true → ∀ n ∈ l, n < k
  | [], _ => by simp
  | m :: l, h => by
    simp only [allLt, Bool.and_eq_true] at h
    intro n hn
    rcases List.mem_cons.1 hn with rfl | hn
    · exact Nat.le_of_ble_eq_true h.1
    · exact allLt_spec h.2 n hn

def blksBelow (k : Nat) : List Blk → Bool
  | [] => true
  | b :: l => allLt k (namesB b) && blksBelow k l

theorem CA.shrink {μ k k' w G l cs} (h : CA μ k w G l cs) : (∀ n ∈ namesVs l, n < k') → CA μ k' w G l cs := by
  induction h with
  | nil => intro _; exact .nil
  | d h _ ih => intro hn; exact .d h (ih fun n h => hn n (by simp [namesVs, h]))
  | ptr h1 h2 h3 _ ih => intro hn; exact .ptr (hn _ (by simp [namesVs, namesV])) h2 h3 (ih fun n h => hn n (by simp [namesVs, h]))
  | row h1 h2 _ ih => intro hn; exact .row (hn _ (by simp [namesVs, namesV])) h2 (ih fun n h => hn n (by simp [namesVs, h]))
  | mp h1 h2 _ ih => intro hn; exact .mp (hn _ (by simp [namesVs, namesV])) h2 (ih fun n h => hn n (by simp [namesVs, h]))
  | vw h1 h2 h3 h4 h5 h6 _ ih => intro hn; exact .vw (hn _ (by simp [namesVs, namesV])) h2 h3 h4 h5 h6 (ih fun n h => hn n (by simp [namesVs, h]))
  | fn h1 _ ih => intro hn; exact .fn (fun m hm => ⟨hn m (by simp [namesVs, namesV, hm]), (h1 m hm).2⟩) (ih fun n h => hn n (by simp [namesVs, h]))
  | agg _ _ ih1 ih2 => intro hn; exact .agg (ih1 fun n h => hn n (by simp [namesVs, namesV, h])) (ih2 fun n h => hn n (by simp [namesVs, h]))

theorem VS.shrink {μ k k' w G l vs} (h : VS μ k w G l vs) : (∀ n ∈ namesVs l, n < k') → VS μ k' w G l vs := by
  induction h with
  | nil => intro _; exact .nil
  | cons h _ ih =>
    intro hn
    exact .cons ⟨h.1.shrink fun n hm => hn n (by simp [namesVs] at hm ⊢; exact .inl hm), h.2⟩ (ih fun n h => hn n (by simp [namesVs, h]))

theorem RA.shrink {μ k k' w G x v} (h : RA μ k w G x v) (hn : ∀ n ∈ namesV x, n < k') : RA μ k' w G x v := by
  cases x with
  | tup l => obtain ⟨vs, rfl, h⟩ := h; exact ⟨vs, rfl, h.shrink (by simpa [namesV] using hn)⟩
  | _ =>
    have h' : VA μ k w G _ v := h
    exact (⟨h'.1.shrink fun n hm => hn n (by simpa [namesVs] using hm), h'.2⟩ : VA μ k' w G _ v)

theorem blksBelow_spec {k} : ∀ {l : List Blk}, blksBelow k l = true → ∀ (i : Nat) (b : Blk), l[i]? = some b → ∀ n ∈ namesB b, n < k
  | [], _, i, b, h => by simp at h
  | d :: l, hb, i, b, h => by
    simp only [blksBelow, Bool.and_eq_true] at hb
    cases i with
    | zero => simp at h; subst h; exact allLt_spec hb.1
    | succ i => exact blksBelow_spec hb.2 i b (by simpa using h)

theorem St.trim {B S μ G w} (st : St B S μ G w) {k : Nat} (hk : B.k0 ≤ k) (hkS : k ≤ S.length) (hb : blksBelow k (S.take k) = true) : St B (S.take k) μ G w := by
  have hlen : (S.take k).length = k := by simp [Nat.min_eq_left hkS]
  have old : ∀ (i : Nat) (b : Blk), (S.take k)[i]? = some b → S[i]? = some b ∧ i < k := by
    intro i b h
    rw [List.getElem?_take] at h
    split at h
    · exact ⟨h, by assumption⟩
    · cases h
  exact {
    blks := by
      intro i b h
      obtain ⟨h1, h2⟩ := old i b h
      have hok := st.blks i b h1
      have hbl := blksBelow_spec hb i b h
      rw [hlen]
      cases b with
      | var x =>
        obtain ⟨b, cs, T, l, s, e1, e2, e3, e4⟩ := hok
        exact ⟨b, cs, T, l, s, e1, e2, e3, e4.shrink (by simpa [namesVs, namesB] using hbl)⟩
      | tvar T x =>
        obtain ⟨b, cs, e1, e2, e3⟩ := hok
        exact ⟨b, cs, e1, e2, e3.shrink (by simpa [namesVs, namesB] using hbl)⟩
      | mapb ks x =>
        obtain ⟨r, ents, e1, e2, e3, e4, e5, e6⟩ := hok
        exact ⟨r, ents, e1, e2, e3, e4, e5, e6.shrink (by simpa [namesVs, namesB] using hbl)⟩
      | row | own | iter | sealed | dead => exact hok
    apart := fun i j b d h1 h2 => st.apart i j b d (old i b h1).1 (old j d h2).1
    free := fun i b n h1 => st.free i b n (old i b h1).1
    gv := st.gv
    k0 := by rw [hlen]; exact hk
    keep := st.keep
    g0 := st.g0
    gn := st.gn
    new := fun i b n hi h1 => st.new i b n hi (old i b h1).1
    os := st.os
    tape := st.tape
    output := st.output
    size := st.size
    fr := st.fr
    lv := fun i b hi h1 => st.lv i b hi (old i b h1).1
    glob := st.glob
    gw := st.gw }

/-- What a loop's head keeps. -/
def namesE : List (Nat × AV) → List Nat
  | [] => []
  | (_, x) :: l => namesV x ++ namesE l

def trimB (k0 k : Nat) (l : List (Nat × AV)) (S : List Blk) : Bool :=
  Nat.ble k0 k && (Nat.ble k S.length && (allLt k (namesE l) && blksBelow k (S.take k)))

theorem ofL_names {k : Nat} : ∀ {l : List (Nat × AV)}, (∀ n ∈ namesE l, n < k) → ∀ t x, ofL l t = some x → ∀ n ∈ namesV x, n < k
  | [], _, t, x, h => by cases h
  | (t', x') :: l, hn, t, x, h => by
    simp only [ofL] at h
    split at h
    · cases h; exact fun n hm => hn n (by simp [namesE, hm])
    · exact ofL_names (fun n hm => hn n (by simp [namesE, hm])) t x h

/-- A loop, by a number that every round makes less. -/
theorem wp_loopN {P : Program} {c : Code} {Q : Exit → Act → World → Prop} (I : Nat → Act → World → Prop) {n : Nat} {a : Act} {w : World} (h₀ : I n a w)
    (round : ∀ n a w, I n a w → c.wp P (Exit.then (fun a' w' => ∃ m, m < n ∧ I m a' w') Q) a w) : (Code.loop c).wp P Q a w := by
  intro b k cs
  have key : ∀ n a w, I n a w → ∃ e a' w', Q e a' w' ∧ Arrives P (lone (b.at a (.code c :: .inLoop c :: k)) cs w) b k cs e a' w' := by
    intro n
    induction n using Nat.strongRecOn with
    | _ n ih =>
      intro a w hI
      obtain ⟨e, a₁, w₁, hq, harr⟩ := round n a w hI b (.inLoop c :: k) cs
      cases e with
      | normal =>
        obtain ⟨m, hlt, hI₁⟩ := hq
        obtain ⟨e₂, a₂, w₂, hq₂, harr₂⟩ := ih m hlt a₁ w₁ hI₁
        exact ⟨e₂, a₂, w₂, hq₂, .of_steps (Steps.trans harr (.one step_inLoop)) harr₂⟩
      | exit id => exact ⟨_, a₁, w₁, hq, .pass (x := .inLoop c) rfl (fun _ _ => .inl (by simp)) harr⟩
      | goto l => exact ⟨_, a₁, w₁, hq, .pass (x := .inLoop c) rfl (fun _ _ => .inl (by simp)) harr⟩
      | ret => exact ⟨_, a₁, w₁, hq, .pass (x := .inLoop c) rfl (fun _ _ => .inl (by simp)) harr⟩
      | panic ch => exact ⟨_, a₁, w₁, hq, .pass (x := .inLoop c) rfl (fun _ _ => .inl (by simp)) harr⟩
      | outgrown => exact ⟨_, a₁, w₁, hq, .pass (x := .inLoop c) rfl (fun _ _ => .inl (by simp)) harr⟩
  obtain ⟨e, a', w', hq, harr⟩ := key n a w h₀
  exact ⟨e, a', w', hq, .of_steps (.one step_loop) harr⟩

/-- What holds of a frame and a world at a point of a call. -/
structure At1 (B : Base) (N : Nat) (env : Env) (S : List Blk) (μ : Nat → Value) (G : Nat → Nat → Prop) (a : Act) (w : World) : Prop where
  st : St B S μ G w
  env : EnvOk μ S.length w G env a.tmps
  n : a.tmps.size = N
  d : a.defers = []

def Here (B : Base) (N : Nat) (env : Env) (S : List Blk) (a : Act) (w : World) : Prop := ∃ μ G, At1 B N env S μ G a w

/-- What an operation comes to: K of what it hands back and of the store. -/
def OpsTo (B : Base) (N : Nat) (o : Oper) (env : Env) (S : List Blk) (K : Option AV → List Blk → Prop) : Prop :=
  ∀ (μ : Nat → Value) (G : Nat → Nat → Prop) (a : Act) (w : World), At1 B N env S μ G a w → ∀ (next : Act → World → Prop) (Q : Exit → Act → World → Prop),
    (∀ x S' μ' G' v w', K x S' → St B S' μ' G' w' → Later S μ G w S' μ' G' w' → (∀ y, x = some y → RA μ' S'.length w' G' y v) → next (a.put o.dst v) w') →
    o.wp B.c.P a w next Q

/-- The part of 'WP' for single operations; its definition and its proof come later. -/
structure OpRule where
  W : Ctx → Nat → Oper → Env → List Blk → (Option AV → List Blk → Prop) → Prop
  ok : ∀ (B : Base) (N : Nat) (o : Oper) (env : Env) (S : List Blk) (K : Option AV → List Blk → Prop), B.c.ok → W B.c B.k0 o env S K → OpsTo B N o env S K
  D : Ctx → Nat → Nat → Array Oper → Env → List Blk → (Env → List Blk → Prop) → Prop
  okD : ∀ (B : Base) (N id : Nat) (ops : Array Oper) (env : Env) (S : List Blk) (K : Env → List Blk → Prop), B.c.ok → D B.c B.k0 N ops env S K → ∀ μ G a w, At1 B N env S μ G a w →
    (Code.region id ops true).wp B.c.P (fun e a w => e = .normal ∧ ∃ env' S', K env' S' ∧ Here B N env' S' a w) a w

def putD (N : Nat) (d : Option Nat) (x : Option AV) (env : Env) (K : Env → Prop) : Prop :=
  match d with
  | none => K env
  | some d => match Nat.blt d N with | true => K (env.put d x) | false => False

/-- What is asked of operations, one behind the other. -/
abbrev OT := Env → List Blk → (Env → List Blk → Prop) → Prop

def WOpStep (R : OpRule) (c : Ctx) (k0 N : Nat) (ops : List Oper) (o : Oper) (ih : OT) : OT := fun env S K =>
  match o.guard with
  | none => R.W c k0 o env S fun x S' => putD N o.dst x env fun env' => ih env' S' K
  | some (j, want) =>
    match (ops[j]?).bind (·.dst) with
    | none => False
    | some t =>
      match env t with
      | some (.d (.bool b)) =>
        @Bool.rec (fun _ => Prop)
          (match want with
            | false => R.W c k0 o (env.put t (some (.d (.bool false)))) S fun x S' => putD N o.dst x (env.put t (some (.d (.bool false)))) fun env' => ih env' S' K
            | true => putD N o.dst (some (.tup [])) (env.put t (some (.d (.bool false)))) fun env' => ih env' S K)
          (match want with
            | true => R.W c k0 o (env.put t (some (.d (.bool true)))) S fun x S' => putD N o.dst x (env.put t (some (.d (.bool true)))) fun env' => ih env' S' K
            | false => putD N o.dst (some (.tup [])) (env.put t (some (.d (.bool true)))) fun env' => ih env' S K) b
      | some (.tup []) => putD N o.dst (some (.tup [])) env fun env' => ih env' S K
      | _ => False

noncomputable def WOps (R : OpRule) (c : Ctx) (k0 N : Nat) (ops : List Oper) (l : List Oper) : OT :=
  @List.rec Oper (fun _ => OT) (fun env S K => K env S) (fun o _ ih => WOpStep R c k0 N ops o ih) l

theorem WOps_nil {R : OpRule} {c : Ctx} {k0 N : Nat} {ops : List Oper} {env : Env} {S : List Blk} {K : Env → List Blk → Prop} : WOps R c k0 N ops [] env S K = K env S := rfl
theorem WOps_cons {R : OpRule} {c : Ctx} {k0 N : Nat} {ops : List Oper} {o : Oper} {r : List Oper} {env : Env} {S : List Blk} {K : Env → List Blk → Prop} :
    WOps R c k0 N ops (o :: r) env S K = WOpStep R c k0 N ops o (WOps R c k0 N ops r) env S K := rfl

def constAV : Value → Option AV
  | .bool b => some (.d (.bool b))
  | .int k n => some (.d (.int k n))
  | .string s => some (.d (.str s))
  | .pointer none => some (.d .nilP)
  | .slice none 0 0 => some (.d (.sl 0 []))
  | .nilIface => some (.d .nilI)
  | .nilFunc => some (.d .nilF)
  | _ => none

def evalA (c : Ctx) (env : Env) : Operand → Option AV
  | .tmp t => env t
  | .const v => constAV v
  | .global g => match c.glob g with | some x => some (.d (.cptr x)) | none => none
  | .func f => some (.fn f [])

def noTup : AV → Bool
  | .tup _ => false
  | _ => true

/-- The first names stay. -/
def prefB (k0 : Nat) (ns : List Nat) : Bool :=
  (List.range k0).all fun i => match ns[i]? with | some j => Nat.beq i j | none => false

/-- The blocks that are kept, in the order given, and values as they are named then. -/
def pickS (k0 : Nat) (S : List Blk) (ns : List Nat) (args : List AV) : Option (List AV × List Blk) :=
  match (nodupB ns && ns.all fun n => Nat.blt n S.length) && (prefB k0 ns && args.all noTup) with
  | true => match AV.rens (posOf ns) args with
    | some args' => match subStore S ns with
      | some m => match renBlks (posOf ns) m with
        | some S' => some (args', S')
        | none => none
      | none => none
    | none => none
  | false => none

def pickK (k0 : Nat) (S : List Blk) (ns : List Nat) (ls : List (Nat × AV)) (Q : List (Nat × AV) → List Blk → Prop) : Prop :=
  match pickS k0 S ns (ls.map (·.2)) with
  | some (vals, S') => Q ((ls.map (·.1)).zip vals) S'
  | none => False

abbrev CT := Env → List Blk → (Exit → Env → List Blk → Prop) → Prop

def WPregion (R : OpRule) (c : Ctx) (k0 N : Nat) (ops : Array Oper) (draw : Bool) : CT := fun env S K =>
  match draw with
  | false => WOps R c k0 N ops.toList ops.toList env S (K .normal)
  | true => R.D c k0 N ops env S (K .normal)

def WPseq (a b : CT) : CT := fun env S K => a env S fun e env' S' =>
  match e with
  | .normal => b env' S' K
  | e => K e env' S'

def WPcond (x : Operand) (a b : CT) : CT := fun env S K =>
  match x with
  | .tmp t =>
    match env t with
    | some (.d (.bool x)) =>
      @Bool.rec (fun _ => Prop) (b (env.put t (some (.d (.bool false)))) S K) (a (env.put t (some (.d (.bool true)))) S K) x
    | _ => False
  | .const (.bool x) => @Bool.rec (fun _ => Prop) (b env S K) (a env S K) x
  | _ => False

def WPblock (id : Nat) (a : CT) : CT := fun env S K => a env S fun e env' S' =>
  match e with
  | .exit j => match Nat.beq j id with | true => K .normal env' S' | false => K (.exit j) env' S'
  | e => K e env' S'

def WPloop (k0 : Nat) (a : CT) : CT := fun env S K =>
  (∃ I : Nat → List (Nat × AV) → List Blk → Prop, (∃ n l, I n l S ∧ Sub l env) ∧
    ∀ n l S, I n l S → a (ofL l) S fun e env' S' =>
      match e with
      | .normal => ∃ m l' k, m < n ∧ I m l' (S'.take k) ∧ Sub l' env' ∧ trimB k0 k l' S' = true
      | e => K e env' S') ∨
  ∃ I : Nat → List (Nat × AV) → List Blk → Prop, (∃ n l, I n l S ∧ Sub l env) ∧
    ∀ n l S, I n l S → a (ofL l) S fun e env' S' =>
      match e with
      | .normal => ∃ m ls ns, m < n ∧ Sub ls env' ∧ pickK k0 S' ns ls (I m)
      | e => K e env' S'

def WPno : CT := fun _ _ _ => False

noncomputable def WP (R : OpRule) (c : Ctx) (k0 N : Nat) (code : Code) : CT :=
  @Code.rec (fun _ => CT) (fun env S K => K .normal env S) (fun _ ops draw => WPregion R c k0 N ops draw) (fun _ _ a b => WPseq a b) (fun x _ _ a b => WPcond x a b)
    (fun id _ a => WPblock id a) (fun _ a => WPloop k0 a) (fun _ _ _ _ _ _ => WPno) (fun id env S K => K (.exit id) env S) (fun _ _ => WPno) (fun _ => WPno) (fun _ => WPno)
    (fun env S K => K .ret env S) (fun _ => WPno) code

section
variable {R : OpRule} {c : Ctx} {k0 N : Nat} {env : Env} {S : List Blk} {K : Exit → Env → List Blk → Prop}
theorem WP_region {id : Nat} {ops : Array Oper} {draw : Bool} : WP R c k0 N (.region id ops draw) env S K = WPregion R c k0 N ops draw env S K := rfl
theorem WP_seq {a b : Code} : WP R c k0 N (.seq a b) env S K = WPseq (WP R c k0 N a) (WP R c k0 N b) env S K := rfl
theorem WP_cond {x : Operand} {a b : Code} : WP R c k0 N (.cond x a b) env S K = WPcond x (WP R c k0 N a) (WP R c k0 N b) env S K := rfl
theorem WP_block {id : Nat} {a : Code} : WP R c k0 N (.block id a) env S K = WPblock id (WP R c k0 N a) env S K := rfl
theorem WP_loop {a : Code} : WP R c k0 N (.loop a) env S K = WPloop k0 (WP R c k0 N a) env S K := rfl
end

/-- The post that 'WP' proves. -/
def PostOf (B : Base) (N : Nat) (K : Exit → Env → List Blk → Prop) : Exit → Act → World → Prop :=
  fun e a w => ∃ env S, K e env S ∧ Here B N env S a w

theorem Act.put_size (a : Act) (d : Option Nat) (v : Value) : (a.put d v).tmps.size = a.tmps.size := by
  cases d <;> simp [Act.put]
theorem Act.put_defers' (a : Act) (d : Option Nat) (v : Value) : (a.put d v).defers = a.defers := by
  cases d <;> simp [Act.put]

theorem EnvOk.put_known {μ k w G env} {tmps : Array Value} (h : EnvOk μ k w G env tmps) {t : Nat} {b : Bool} (ht : env t = some (.d (.bool b))) :
    EnvOk μ k w G (env.put t (some (.d (.bool b)))) tmps := by
  intro s x hs
  by_cases e : s = t
  · subst e; rw [Env.put_same] at hs; cases hs; exact h s _ ht
  · rw [Env.put_ne _ _ e] at hs; exact h s x hs

theorem ra_bool {μ k w G b v} (h : RA μ k w G (.d (.bool b)) v) : v = .bool b := by
  simp only [RA] at h
  rw [VA.d_iff] at h
  rcases h.inv with ⟨h1, _⟩ | ⟨_, h1, _⟩
  · simp [D.isAgg] at h1
  · cases h1; rfl

theorem At1.put {B N env S μ G a w} (h : At1 B N env S μ G a w) {S' μ' G' w'} (st : St B S' μ' G' w') (l : Later S μ G w S' μ' G' w')
    {dst : Option Nat} {x : Option AV} {v : Value} (hx : ∀ y, x = some y → RA μ' S'.length w' G' y v) {K : Env → Prop} (hk : putD N dst x env K) :
    ∃ env', K env' ∧ At1 B N env' S' μ' G' (a.put dst v) w' := by
  unfold putD at hk
  cases dst with
  | none => exact ⟨env, hk, ⟨st, h.env.later l, h.n, h.d⟩⟩
  | some d =>
    simp only at hk
    cases e : Nat.blt d N with
    | false => rw [e] at hk; exact hk.elim
    | true =>
      rw [e] at hk
      have hd : d < a.tmps.size := by rw [h.n]; exact Nat.le_of_ble_eq_true e
      refine ⟨_, hk, ⟨st, ?_, by rw [Act.put_size]; exact h.n, by rw [Act.put_defers']; exact h.d⟩⟩
      cases x with
      | none => exact (h.env.later l).unset d v
      | some y => exact (h.env.later l).put hd (hx y rfl)

theorem va_ra {μ k w G x v} (h : VA μ k w G x v) : RA μ k w G x v := by
  cases x with
  | tup l =>
    obtain ⟨h1, _⟩ := h
    generalize v.cells.toList = cs at h1
    cases h1
  | _ => exact h

theorem ra_va {μ k w G x v} (h : RA μ k w G x v) (hx : noTup x = true) : VA μ k w G x v := by
  cases x with
  | tup l => cases hx
  | _ => exact h

theorem env_list {μ k w G env} {tmps : Array Value} (he : EnvOk μ k w G env tmps) : ∀ {ls : List (Nat × AV)}, Sub ls env → (ls.map (·.2)).all noTup = true →
    ∃ vs, VS μ k w G (ls.map (·.2)) vs ∧ ∀ (i : Nat) (t : Nat), (ls.map (·.1))[i]? = some t → tmps[t]? = vs[i]?
  | [], _, _ => ⟨[], .nil, fun i t h => by simp at h⟩
  | (t, x) :: ls, hs, hn => by
    obtain ⟨h1, h2⟩ := hs
    simp only [List.map_cons, List.all_cons, Bool.and_eq_true] at hn
    obtain ⟨v, h3, h4⟩ := he t x h1
    obtain ⟨vs, h5, h6⟩ := env_list he h2 hn.2
    refine ⟨v :: vs, .cons (ra_va h4 hn.1) h5, fun i t' hi => ?_⟩
    cases i with
    | zero => simp at hi; subst hi; simpa using h3
    | succ i => simpa using h6 i t' (by simpa using hi)

theorem ofL_zip {μ k w G} {tmps : Array Value} {vals : List AV} {vs : List Value} (h : VS μ k w G vals vs) : ∀ {ts : List Nat}, (∀ (i : Nat) (t : Nat), ts[i]? = some t → tmps[t]? = vs[i]?) → EnvOk μ k w G (ofL (ts.zip vals)) tmps := by
  induction h with
  | nil => intro ts _ t x hx; simp [ofL] at hx
  | @cons x v l vs h1 _ ih =>
    intro ts hts
    cases ts with
    | nil => intro t x hx; simp [ofL] at hx
    | cons t0 ts =>
      intro t x' hx
      simp only [List.zip_cons_cons, ofL] at hx
      split at hx
      · rename_i e
        cases hx
        have := Nat.eq_of_beq_eq_true e
        subst this
        exact ⟨v, by simpa using hts 0 t (by simp), va_ra h1⟩
      · exact ih (fun i t hi => by simpa using hts (i + 1) t (by simpa using hi)) t x' hx

theorem pickK_sound {B : Base} {N : Nat} {env : Env} {S μ G a w} {ns : List Nat} {ls : List (Nat × AV)} {Q : List (Nat × AV) → List Blk → Prop} (st : At1 B N env S μ G a w) (hs : Sub ls env) (h : pickK B.k0 S ns ls Q) :
    ∃ l' S', Q l' S' ∧ At1 B N (ofL l') S' (fun i => μ (ns.getD i 0)) G a w := by
  unfold pickK at h
  split at h
  case h_2 => exact h.elim
  rename_i vals S' hp
  unfold pickS at hp
  split at hp
  case h_2 => cases hp
  rename_i hb
  simp only [Bool.and_eq_true] at hb
  split at hp
  case h_2 => cases hp
  rename_i a1 h1
  split at hp
  case h_2 => cases hp
  rename_i m hm
  split at hp
  case h_2 => cases hp
  rename_i s1 h2
  cases hp
  have hi : Into S ns (ls.map (·.2)) vals S' := ⟨hb.1.1, fun n hn => Nat.le_of_ble_eq_true (List.all_eq_true.1 hb.1.2 n hn), h1, m, hm, h2⟩
  have hk : ∀ i, i < B.k0 → ns[i]? = some i := by
    intro i hi
    have := List.all_eq_true.1 hb.2.1 i (List.mem_range.2 hi)
    split at this
    · rename_i j hj; rw [hj, Nat.eq_of_beq_eq_true this]
    · cases this
  obtain ⟨vs, g1, g2⟩ := env_list st.env hs hb.2.2
  exact ⟨_, _, h, st.st.pick hi hk, ofL_zip (hi.args_ok g1) g2, st.n, st.d⟩

section
variable {B : Base} {N : Nat} {R : OpRule} (hc : B.c.ok)
include hc

theorem wops_sound (ops : List Oper) (K : Exit → Env → List Blk → Prop) : ∀ (l : List Oper) (env : Env) (S : List Blk) (μ : Nat → Value) (G : Nat → Nat → Prop) (a : Act) (w : World),
    WOps R B.c B.k0 N ops l env S (K .normal) → At1 B N env S μ G a w → wpList B.c.P ops.toArray (PostOf B N K) l a w
  | [], env, S, μ, G, a, w, h, st => ⟨env, S, h, μ, G, st⟩
  | o :: r, env, S, μ, G, a, w, h, st => by
    rw [WOps_cons] at h
    unfold WOpStep at h
    unfold wpList
    cases hg : o.guard with
    | none =>
      rw [hg] at h
      simp only at h
      rw [if_pos (by simp [Region.wanted, hg])]
      left
      refine R.ok B N o env S _ hc h μ G a w st _ _ ?_
      intro x S' μ' G' v w' hK st' lt hx
      obtain ⟨env', h1, h2⟩ := st.put st' lt hx hK
      exact wops_sound ops K r env' S' μ' G' _ _ h1 h2
    | some jw =>
      obtain ⟨j, want⟩ := jw
      rw [hg] at h
      simp only at h
      cases hj : (ops[j]?).bind (·.dst) with
      | none => rw [hj] at h; exact h.elim
      | some t =>
        rw [hj] at h
        simp only at h
        split at h
        · rename_i b hb
          obtain ⟨v, hv, hra⟩ := st.env t _ hb
          have hvb := ra_bool hra
          subst hvb
          have hy : yielded ops.toArray a.tmps j = some b := by
            simp only [yielded, List.getElem?_toArray, hj, Option.bind_some, hv]
          have hwt : Region.wanted o (yielded ops.toArray a.tmps) = (b == want) := by
            simp [Region.wanted, hg, hy]
          have st1 : ∀ b', b' = b → At1 B N (env.put t (some (.d (.bool b')))) S μ G a w := fun b' e => by
            subst e; exact ⟨st.st, st.env.put_known hb, st.n, st.d⟩
          rw [hwt]
          cases b <;> cases want <;> simp only at h
          · rw [if_pos (by decide)]
            left
            refine R.ok B N o _ S _ hc h μ G a w (st1 false rfl) _ _ ?_
            intro x S' μ' G' v w' hK st' lt hx
            obtain ⟨env', h1, h2⟩ := (st1 false rfl).put st' lt hx hK
            exact wops_sound ops K r env' S' μ' G' _ _ h1 h2
          · rw [if_neg (by simp)]
            obtain ⟨env', h1, h2⟩ := (st1 false rfl).put st.st (Later.refl _ _ _ _) (v := undef) (x := some (.tup [])) (fun y hy => by cases hy; exact ⟨[], rfl, .nil⟩) h
            exact wops_sound ops K r env' S μ G _ _ h1 h2
          · rw [if_neg (by simp)]
            obtain ⟨env', h1, h2⟩ := (st1 true rfl).put st.st (Later.refl _ _ _ _) (v := undef) (x := some (.tup [])) (fun y hy => by cases hy; exact ⟨[], rfl, .nil⟩) h
            exact wops_sound ops K r env' S μ G _ _ h1 h2
          · rw [if_pos (by decide)]
            left
            refine R.ok B N o _ S _ hc h μ G a w (st1 true rfl) _ _ ?_
            intro x S' μ' G' v w' hK st' lt hx
            obtain ⟨env', h1, h2⟩ := (st1 true rfl).put st' lt hx hK
            exact wops_sound ops K r env' S' μ' G' _ _ h1 h2
        · rename_i hb
          obtain ⟨v, hv, hra⟩ := st.env t _ hb
          obtain ⟨vs, rfl, hvs⟩ := hra
          cases hvs
          have hy : yielded ops.toArray a.tmps j = none := by
            simp only [yielded, List.getElem?_toArray, hj, Option.bind_some, hv]
          rw [if_neg (by simp [Region.wanted, hg, hy])]
          obtain ⟨env', h1, h2⟩ := st.put st.st (Later.refl _ _ _ _) (v := undef) (x := some (.tup [])) (fun y hy => by cases hy; exact ⟨[], rfl, .nil⟩) h
          exact wops_sound ops K r env' S μ G _ _ h1 h2
        · exact h.elim

theorem wp_sound : ∀ (c : Code) (K : Exit → Env → List Blk → Prop) (env : Env) (S : List Blk) (μ : Nat → Value) (G : Nat → Nat → Prop) (a : Act) (w : World),
    WP R B.c B.k0 N c env S K → At1 B N env S μ G a w → c.wp B.c.P (PostOf B N K) a w := by
  intro c
  induction c with
  | skip => intro K env S μ G a w h st; exact wp_skip ⟨env, S, h, μ, G, st⟩
  | region id ops draw =>
    intro K env S μ G a w h st
    cases draw with
    | false =>
      simp only [WP_region, WPregion] at h
      have := wops_sound hc ops.toList K _ env S μ G a w h st
      rw [Array.toArray_toList] at this
      exact wp_region_list this
    | true =>
      simp only [WP_region, WPregion] at h
      refine wp_mono (R.okD B N id ops env S (K .normal) hc h μ G a w st) ?_
      rintro e a' w' ⟨rfl, env', S', hk, hh⟩
      exact ⟨env', S', hk, hh⟩
  | seq x y ihx ihy =>
    intro K env S μ G a w h st
    simp only [WP_seq, WPseq] at h
    refine wp_seq (wp_mono (ihx _ env S μ G a w h st) ?_)
    rintro e a' w' ⟨env', S', hk, μ', G', st'⟩
    cases e with
    | normal => exact ihy K env' S' μ' G' a' w' hk st'
    | _ => exact ⟨env', S', hk, μ', G', st'⟩
  | cond x p q ihp ihq =>
    intro K env S μ G a w h st
    cases x with
    | tmp t =>
      simp only [WP_cond, WPcond] at h
      split at h
      · rename_i b hb
        obtain ⟨v, hv, hra⟩ := st.env t _ hb
        have hvb := ra_bool hra
        subst hvb
        have he : a.eval (.tmp t) = .bool b := by
          obtain ⟨h1, h2⟩ := Array.getElem?_eq_some_iff.1 hv
          simp [Act.eval, Array.getD, h1, h2]
        have st1 : At1 B N (env.put t (some (.d (.bool b)))) S μ G a w := ⟨st.st, st.env.put_known hb, st.n, st.d⟩
        cases b with
        | false => exact wp_cond_false he (ihq K _ S μ G a w h st1)
        | true => exact wp_cond_true he (ihp K _ S μ G a w h st1)
      · exact h.elim
    | const v =>
      cases v with
      | bool b =>
        simp only [WP_cond, WPcond] at h
        cases b with
        | false => exact wp_cond_false rfl (ihq K _ S μ G a w h st)
        | true => exact wp_cond_true rfl (ihp K _ S μ G a w h st)
      | _ => exact h.elim
    | global g => exact h.elim
    | func f => exact h.elim
  | block id body ih =>
    intro K env S μ G a w h st
    simp only [WP_block, WPblock] at h
    refine wp_block (wp_mono (ih _ env S μ G a w h st) ?_)
    rintro e a' w' ⟨env', S', hk, μ', G', st'⟩
    cases e with
    | exit j =>
      simp only at hk
      simp only [Exit.inBlock]
      by_cases e : j = id
      · subst e
        rw [Nat.beq_refl] at hk
        rw [if_pos rfl]
        exact ⟨env', S', hk, μ', G', st'⟩
      · rw [if_neg e]
        have : Nat.beq j id = false := by
          cases hb : Nat.beq j id with
          | true => exact absurd (Nat.eq_of_beq_eq_true hb) e
          | false => rfl
        rw [this] at hk
        exact ⟨env', S', hk, μ', G', st'⟩
    | _ => exact ⟨env', S', hk, μ', G', st'⟩
  | exit id => intro K env S μ G a w h st; exact wp_exit ⟨env, S, h, μ, G, st⟩
  | ret => intro K env S μ G a w h st; exact wp_ret ⟨env, S, h, μ, G, st⟩
  | loop body ih =>
    intro K env S μ G a w h st
    simp only [WP_loop, WPloop] at h
    rcases h with ⟨I, ⟨n, l, h0, hs⟩, round⟩ | ⟨I, ⟨n, l, h0, hs⟩, round⟩
    · refine wp_loopN (fun n a w => ∃ l S μ G, I n l S ∧ At1 B N (ofL l) S μ G a w) (n := n) ⟨l, S, μ, G, h0, st.st, st.env.sub hs, st.n, st.d⟩ ?_
      rintro n a w ⟨l, S, μ, G, hI, st1⟩
      refine wp_mono (ih _ (ofL l) S μ G a w (round n l S hI) st1) ?_
      rintro e a' w' ⟨env', S', hk, μ', G', st'⟩
      cases e with
      | normal =>
        obtain ⟨m, l', k, hm, hI', hs', ht⟩ := hk
        simp only [trimB, Bool.and_eq_true] at ht
        have hk0 := Nat.le_of_ble_eq_true ht.1
        have hkS := Nat.le_of_ble_eq_true ht.2.1
        refine ⟨m, hm, l', S'.take k, μ', G', hI', st'.st.trim hk0 hkS ht.2.2.2, fun t x hx => ?_, st'.n, st'.d⟩
        obtain ⟨v, h1, h2⟩ := st'.env.sub hs' t x hx
        have hlen : (S'.take k).length = k := by simp [Nat.min_eq_left hkS]
        rw [hlen]
        exact ⟨v, h1, h2.shrink (ofL_names (allLt_spec ht.2.2.1) t x hx)⟩
      | _ => exact ⟨env', S', hk, μ', G', st'⟩
    · refine wp_loopN (fun n a w => ∃ l S μ G, I n l S ∧ At1 B N (ofL l) S μ G a w) (n := n) ⟨l, S, μ, G, h0, st.st, st.env.sub hs, st.n, st.d⟩ ?_
      rintro n a w ⟨l, S, μ, G, hI, st1⟩
      refine wp_mono (ih _ (ofL l) S μ G a w (round n l S hI) st1) ?_
      rintro e a' w' ⟨env', S', hk, μ', G', st'⟩
      cases e with
      | normal =>
        obtain ⟨m, ls, ns, hm, hs', hp⟩ := hk
        obtain ⟨l', S'', hI', st''⟩ := pickK_sound st' hs' hp
        exact ⟨m, hm, l', S'', _, G', hI', st''⟩
      | _ => exact ⟨env', S', hk, μ', G', st'⟩
  | _ => intro K env S μ G a w h st; exact (by cases h)

end

end Go.Ab

namespace Go.Ab
open Go.RowKit

/-- A call's own beginning. -/
def base (c : Ctx) (S : List Blk) (μ : Nat → Value) (G : Nat → Nat → Prop) (w : World) : Base :=
  { c, k0 := S.length, μ0 := μ, G0 := G, w0 := w, L0 := fun i => ∃ b, S[i]? = some b ∧ b.live = true }

/-- A function is called: it is entered, or it answers at once. -/
def CallsTo (P : Program) (f : FuncId) (args : Array Value) (w : World) (R : Ending → World → Prop) : Prop :=
  ((callFunc f args).run P w = .ok (.enter f args) w ∧ Calls P f args w R) ∨ ∃ v w', (callFunc f args).run P w = .ok (.value v) w' ∧ R (.returned v) w'

theorem CallsTo.mono {P f args w R R'} (h : CallsTo P f args w R) (hr : ∀ e w', R e w' → R' e w') : CallsTo P f args w R' := by
  rcases h with ⟨h1, h2⟩ | ⟨v, w', h1, h2⟩
  · exact .inl ⟨h1, h2.mono hr⟩
  · exact .inr ⟨v, w', h1, hr _ _ h2⟩

/-- The contract of a call: from abstract arguments and a store to what comes back. -/
def CallR (c : Ctx) (f : FuncId) (args : List AV) (S : List Blk) (Post : AV → List Blk → Prop) : Prop :=
  ∀ (μ : Nat → Value) (G : Nat → Nat → Prop) (w : World) (vals : List Value), St (base c S μ G w) S μ G w → VS μ S.length w G args vals →
    CallsTo c.P f vals.toArray w fun e w' => ∃ v r S' μ' G', e = .returned v ∧ Post r S' ∧ St (base c S μ G w) S' μ' G' w' ∧ RA μ' S'.length w' G' r v

theorem CallR.mono {c f args S Post Post'} (h : CallR c f args S Post) (hp : ∀ r S', Post r S' → Post' r S') : CallR c f args S Post' :=
  fun μ G w vals st hv => (h μ G w vals st hv).mono fun _ _ ⟨v, r, S', μ', G', h1, h2, h3, h4⟩ => ⟨v, r, S', μ', G', h1, hp _ _ h2, h3, h4⟩

theorem Into.st {B S μ G w ns args args' S'} (hi : Into S ns args args' S') (st : St B S μ G w) :
    St (base B.c S' (fun i => μ (ns.getD i 0)) G w) S' (fun i => μ (ns.getD i 0)) G w := by
  obtain ⟨m, hm, hr⟩ := hi.sub
  obtain ⟨hm1, hm2⟩ := subStore_get hm
  obtain ⟨hr1, hr2, _⟩ := renBlks_get hr
  have hlen : S'.length = ns.length := by rw [hr1, hm1]
  have key : ∀ i d, S'[i]? = some d → ∃ n b, ns[i]? = some n ∧ S[n]? = some b ∧ b.ren (posOf ns) = some d ∧ μ (ns.getD i 0) = μ n := by
    intro i d hd
    obtain ⟨b, h1, h2⟩ := hr2 i d hd
    obtain ⟨n, h3, h4⟩ := hm2 i b h1
    exact ⟨n, b, h3, h4, h2, by simp [List.getD_eq_getElem?_getD, h3]⟩
  exact {
    blks := by
      intro i d hd
      obtain ⟨n, b, h1, h2, h3, h4⟩ := key i d hd
      rw [h4, hlen]
      exact (st.blks n b h2).ren posOf_fits h3
    apart := by
      intro i j d e hd he hl hl' hij q hq hq'
      obtain ⟨n, b, h1, h2, h3, h4⟩ := key i d hd
      obtain ⟨n', b', h1', h2', h3', h4'⟩ := key j e he
      rw [h4] at hq; rw [h4'] at hq'
      refine st.apart n n' b b' h2 h2' (by rw [← (Blk.ren_live h3).1]; exact hl) (by rw [← (Blk.ren_live h3').1]; exact hl') ?_ q hq hq'
      intro e'
      subst e'
      exact hij (nodupB_spec hi.nd i j n h1 h1')
    free := by
      intro i d q hd hl hq o ho
      obtain ⟨n, b, h1, h2, h3, h4⟩ := key i d hd
      rw [h4] at hq
      rw [(Blk.ren_live h3).2] at ho
      exact st.free n b q h2 (by rw [← (Blk.ren_live h3).1]; exact hl) hq o ho
    gv := st.gv
    k0 := Nat.le_refl _
    keep := fun _ _ => rfl
    g0 := fun _ _ h => h
    gn := fun _ _ h => .inl h
    new := by
      intro i d q hi' hd
      have : i < S'.length := (List.getElem?_eq_some_iff.1 hd).1
      simp only [base] at hi'
      omega
    os := rfl
    tape := rfl
    output := rfl
    size := Nat.le_refl _
    fr := fun _ _ _ => rfl
    lv := fun i d _ hd hl => ⟨d, hd, hl⟩
    glob := st.glob
    gw := fun _ _ _ _ h => h }

/-- Behind a call: what the caller's store is. -/
structure Back (S : List Blk) (ns : List Nat) (S' : List Blk) (r : AV) (r' : AV) (S'' : List Blk) : Prop where
  res : AV.ren (backOf ns S.length) r = some r'
  sto : ∃ m, renBlks (backOf ns S.length) S' = some m ∧ S'' = putBack S ns (m.take ns.length) ++ m.drop ns.length

theorem Back.st {B S μ G w ns args args' S0 S' r r' S'' μ' G' w'} (st : St B S μ G w) (hi : Into S ns args args' S0)
    (hb : Back S ns S' r r' S'') (st' : St (base B.c S0 (fun i => μ (ns.getD i 0)) G w) S' μ' G' w') :
    ∃ μ'', St B S'' μ'' G' w' ∧ Later S μ G w S'' μ'' G' w' ∧ ∀ v, RA μ' S'.length w' G' r v → RA μ'' S''.length w' G' r' v := by
  obtain ⟨m0, hm0, hr0⟩ := hi.sub
  have hlen0 : S0.length = ns.length := by rw [(renBlks_get hr0).1, (subStore_get hm0).1]
  obtain ⟨hm01, hm02⟩ := subStore_get hm0
  obtain ⟨_, hr02, hr03⟩ := renBlks_get hr0
  obtain ⟨m, hm, rfl⟩ := hb.sto
  obtain ⟨hm1, hm2, hm3⟩ := renBlks_get hm
  have hk : ns.length ≤ S'.length := by have := st'.k0; simp only [base] at this; omega
  have hSl : (putBack S ns (m.take ns.length) ++ m.drop ns.length).length = S.length + (S'.length - ns.length) := by
    simp [putBack_length, hm1]
  -- the names
  let μ'' : Nat → Value := fun i => if i < S.length then μ i else μ' (i - S.length + ns.length)
  have hold : ∀ i, i < S.length → μ'' i = μ i := fun i hi => by simp [μ'', hi]
  have hkeep : ∀ q n, ns[q]? = some n → μ' q = μ n := by
    intro q n hq
    have hq' : q < ns.length := (List.getElem?_eq_some_iff.1 hq).1
    have := st'.keep q (by simp only [base]; omega)
    rw [this]
    simp [base, List.getD_eq_getElem?_getD, hq]
  have hfit : Fits (backOf ns S.length) μ' S'.length μ'' (S.length + (S'.length - ns.length)) := by
    intro n j hn hj
    unfold backOf at hj
    cases e : Nat.blt n ns.length with
    | true =>
      rw [e] at hj
      have h1 := hi.lt j (List.mem_of_getElem? hj)
      exact ⟨by omega, by rw [hold j h1]; exact (hkeep n j hj).symm⟩
    | false =>
      rw [e] at hj
      have h1 : ¬ n < ns.length := fun h => by have : Nat.blt n ns.length = true := Nat.ble_eq_true_of_le h; rw [this] at e; cases e
      cases hj
      refine ⟨by omega, ?_⟩
      simp only [μ'']
      rw [if_neg (by omega)]
      congr 1
      omega
  have hG : ∀ b o, G b o → G' b o := st'.g0
  have hN : ∀ b o, G' b o → G b o ∨ w.heap.size ≤ b ∨ (base B.c S0 (fun i => μ (ns.getD i 0)) G w).X b := st'.gn
  have hcell : ∀ b o v, G b o → w.cell? ⟨b, o, none⟩ = some v → w'.cell? ⟨b, o, none⟩ = some v := st'.gw
  have hXn : ∀ q, (base B.c S0 (fun i => μ (ns.getD i 0)) G w).X q → ∃ n b, n ∈ ns ∧ S[n]? = some b ∧ b.live = true ∧ bid (μ n) = some q := by
    rintro q ⟨i, _, ⟨d, hd, hl⟩, hq⟩
    simp only [base] at hq
    obtain ⟨b0, hb0, hb1⟩ := hr02 i d hd
    obtain ⟨n, hn1, hn2⟩ := hm02 i b0 hb0
    exact ⟨n, b0, List.mem_of_getElem? hn1, hn2, by rw [← (Blk.ren_live hb1).1]; exact hl, by simpa [List.getD_eq_getElem?_getD, hn1] using hq⟩
  -- where a block of the new store comes from
  have from_ : ∀ i d, (putBack S ns (m.take ns.length) ++ m.drop ns.length)[i]? = some d →
      (i < S.length ∧ i ∉ ns ∧ S[i]? = some d ∧ μ'' i = μ i) ∨
      (∃ q b, S'[q]? = some b ∧ b.ren (backOf ns S.length) = some d ∧ μ'' i = μ' q ∧ ((q < ns.length ∧ ns[q]? = some i ∧ i < S.length) ∨ (ns.length ≤ q ∧ i = S.length + (q - ns.length)))) := by
    intro i d hd
    by_cases h1 : i < S.length
    · rw [List.getElem?_append_left (by rw [putBack_length]; exact h1)] at hd
      by_cases h2 : i ∈ ns
      · right
        obtain ⟨q, hq1, hq2⟩ := List.getElem_of_mem h2
        have hq3 : ns[q]? = some i := by rw [List.getElem?_eq_getElem hq1, hq2]
        have hq4 : q < m.length := by omega
        have hmq : (m.take ns.length)[q]? = some m[q] := by rw [List.getElem?_take, if_pos hq1, List.getElem?_eq_getElem hq4]
        have := putBack_at ns (m.take ns.length) S q i _ hi.nd hq3 hmq h1
        rw [this] at hd
        cases hd
        obtain ⟨b, hb1, hb2⟩ := hm2 q m[q] (List.getElem?_eq_getElem hq4)
        exact ⟨q, b, hb1, hb2, by rw [hold i h1, hkeep q i hq3], .inl ⟨hq1, hq3, h1⟩⟩
      · left
        rw [putBack_other ns _ S i (fun n hn e => h2 (by rw [← e]; exact hn))] at hd
        exact ⟨h1, h2, hd, hold i h1⟩
    · right
      rw [List.getElem?_append_right (by rw [putBack_length]; omega), putBack_length, List.getElem?_drop] at hd
      obtain ⟨b, hb1, hb2⟩ := hm2 _ d hd
      refine ⟨ns.length + (i - S.length), b, hb1, hb2, ?_, .inr ⟨by omega, by omega⟩⟩
      simp only [μ'']
      rw [if_neg h1]
      congr 1
      omega
  have wasLive : ∀ q i b, q < ns.length → ns[q]? = some i → S'[q]? = some b → b.live = true → ∃ bi, S[i]? = some bi ∧ bi.live = true := by
    intro q i b hq hqi hb hl
    obtain ⟨d, hd, hdl⟩ := st'.lv q b (by simp only [base]; omega) hb hl
    obtain ⟨b0, hb0, hb1⟩ := hr02 q d hd
    obtain ⟨n, hn1, hn2⟩ := hm02 q b0 hb0
    rw [hqi] at hn1
    cases hn1
    exact ⟨b0, hn2, by rw [← (Blk.ren_live hb1).1]; exact hdl⟩
  have newq : ∀ q b n, ns.length ≤ q → S'[q]? = some b → b.live = true → bid (μ' q) = some n → w.heap.size ≤ n ∨ (base B.c S0 (fun i => μ (ns.getD i 0)) G w).X n :=
    fun q b n hq hb hl hn => st'.new q b n (by simp only [base]; omega) hb hl hn
  have xOld : ∀ k, (base B.c S0 (fun i => μ (ns.getD i 0)) G w).X k → B.w0.heap.size ≤ k ∨ B.X k := by
    intro k hx
    obtain ⟨n', b', e1, e2, e3, e4⟩ := hXn k hx
    rcases Nat.lt_or_ge n' B.k0 with h | h
    · exact .inr (st.xx h e2 e3 e4)
    · exact st.new n' b' k h e2 e3 e4
  refine ⟨μ'', ?_, ⟨by rw [hSl]; omega, hold, hG, hcell⟩, fun v hv => by rw [hSl]; exact hv.ren hfit hb.res⟩
  have hheap : ∀ k, k < w.heap.size → ¬ (base B.c S0 (fun i => μ (ns.getD i 0)) G w).X k → w'.heap[k]? = w.heap[k]? := st'.fr
  have hsize : w.heap.size ≤ w'.heap.size := st'.size
  exact {
    blks := by
      intro i d hd
      rw [hSl]
      rcases from_ i d hd with ⟨h1, h2, h3, h4⟩ | ⟨q, b, h1, h2, h3, _⟩
      · rw [h4]
        refine (st.blks i d h3).mono (by omega) (fun i hi _ => hold i hi) hG hcell (fun hl n hn => hheap n ((st.blks i d h3).bid_lt hl n hn) ?_)
        intro hx
        obtain ⟨n', b', e1, e2, e3, e4⟩ := hXn n hx
        exact st.apart i n' d b' h3 e2 hl e3 (fun e => h2 (by rw [e]; exact e1)) n hn e4
      · rw [h3]; exact (st'.blks q b h1).ren hfit h2
    apart := by
      intro i j d e hd he hl hl' hij n hn hn'
      rcases from_ i d hd with ⟨h1, h2, h3, h4⟩ | ⟨q, b, h1, h2, h3, h4⟩ <;> rcases from_ j e he with ⟨g1, g2, g3, g4⟩ | ⟨q', b', g1, g2, g3, g4⟩
      · rw [h4] at hn; rw [g4] at hn'; exact st.apart i j d e h3 g3 hl hl' hij n hn hn'
      · rw [h4] at hn; rw [g3] at hn'
        have hlt := (st.blks i d h3).bid_lt hl n hn
        rcases g4 with ⟨g5, g6, g7⟩ | ⟨g5, _⟩
        · rw [hkeep q' j g6] at hn'
          have hx : (base B.c S0 (fun i => μ (ns.getD i 0)) G w).X n := st'.xx (i := q') (b := b') (by simp only [base]; omega) g1 (by rw [← (Blk.ren_live g2).1]; exact hl') (by rw [hkeep q' j g6]; exact hn')
          obtain ⟨n', b'', e1, e2, e3, e4⟩ := hXn n hx
          exact st.apart i n' d b'' h3 e2 hl e3 (fun e => h2 (by rw [e]; exact e1)) n hn e4
        · rcases newq q' b' n g5 g1 (by rw [← (Blk.ren_live g2).1]; exact hl') hn' with h | hx
          · omega
          · obtain ⟨n', b'', e1, e2, e3, e4⟩ := hXn n hx
            exact st.apart i n' d b'' h3 e2 hl e3 (fun e => h2 (by rw [e]; exact e1)) n hn e4
      · rw [h3] at hn; rw [g4] at hn'
        have hlt := (st.blks j e g3).bid_lt hl' n hn'
        rcases h4 with ⟨g5, g6, g7⟩ | ⟨g5, _⟩
        · have hx : (base B.c S0 (fun i => μ (ns.getD i 0)) G w).X n := st'.xx (i := q) (b := b) (by simp only [base]; omega) h1 (by rw [← (Blk.ren_live h2).1]; exact hl) hn
          obtain ⟨n', b'', e1, e2, e3, e4⟩ := hXn n hx
          exact st.apart j n' e b'' g3 e2 hl' e3 (fun e => g2 (by rw [e]; exact e1)) n hn' e4
        · rcases newq q b n g5 h1 (by rw [← (Blk.ren_live h2).1]; exact hl) hn with h | hx
          · omega
          · obtain ⟨n', b'', e1, e2, e3, e4⟩ := hXn n hx
            exact st.apart j n' e b'' g3 e2 hl' e3 (fun e => g2 (by rw [e]; exact e1)) n hn' e4
      · rw [h3] at hn; rw [g3] at hn'
        refine st'.apart q q' b b' h1 g1 (by rw [← (Blk.ren_live h2).1]; exact hl) (by rw [← (Blk.ren_live g2).1]; exact hl') ?_ n hn hn'
        intro e'
        subst e'
        rcases h4 with ⟨a1, a2, _⟩ | ⟨a1, a2⟩ <;> rcases g4 with ⟨c1, c2, _⟩ | ⟨c1, c2⟩
        · rw [a2] at c2; cases c2; exact hij rfl
        · omega
        · omega
        · exact hij (by omega)
    free := by
      intro i d n hd hl hn o ho hg
      rcases from_ i d hd with ⟨h1, h2, h3, h4⟩ | ⟨q, b, h1, h2, h3, _⟩
      · rw [h4] at hn
        rcases hN n o hg with h | h | hx
        · exact st.free i d n h3 hl hn o ho h
        · have := (st.blks i d h3).bid_lt hl n hn; omega
        · obtain ⟨n', b'', e1, e2, e3, e4⟩ := hXn n hx
          exact st.apart i n' d b'' h3 e2 hl e3 (fun e => h2 (by rw [e]; exact e1)) n hn e4
      · rw [h3] at hn
        rw [(Blk.ren_live h2).2] at ho
        exact st'.free q b n h1 (by rw [← (Blk.ren_live h2).1]; exact hl) hn o ho hg
    gv := st'.gv
    k0 := by rw [hSl]; have := st.k0; omega
    keep := fun i hi' => by rw [hold i (by have := st.k0; omega)]; exact st.keep i hi'
    g0 := fun b o h => hG b o (st.g0 b o h)
    gn := fun b o h => by
      rcases hN b o h with h | h | hx
      · exact st.gn b o h
      · right; left; have := st.size; omega
      · exact .inr (xOld b hx)
    new := by
      intro i d n hi' hd hl hn
      rcases from_ i d hd with ⟨h1, h2, h3, h4⟩ | ⟨q, b, h1, h2, h3, h4⟩
      · rw [h4] at hn; exact st.new i d n hi' h3 hl hn
      · rw [h3] at hn
        rcases h4 with ⟨a1, a2, a3⟩ | ⟨a1, a2⟩
        · rw [hkeep q i a2] at hn
          obtain ⟨bi, h5, h6⟩ := wasLive q i b a1 a2 h1 (by rw [← (Blk.ren_live h2).1]; exact hl)
          exact st.new i bi n hi' h5 h6 hn
        · rcases newq q b n a1 h1 (by rw [← (Blk.ren_live h2).1]; exact hl) hn with h | hx
          · left; have := st.size; omega
          · exact xOld n hx
    os := st'.os.trans st.os
    tape := st'.tape.trans st.tape
    output := st'.output.trans st.output
    size := Nat.le_trans st.size hsize
    fr := by
      intro k hk hx
      refine (hheap k (Nat.lt_of_lt_of_le hk st.size) ?_).trans (st.fr k hk hx)
      intro hx'
      obtain ⟨n', b', e1, e2, e3, e4⟩ := hXn k hx'
      rcases xOld k hx' with h | h
      · omega
      · exact hx h
    lv := by
      intro i d hi' hd hl
      rcases from_ i d hd with ⟨h1, h2, h3, h4⟩ | ⟨q, b, h1, h2, h3, h4⟩
      · exact st.lv i d hi' h3 hl
      · rcases h4 with ⟨a1, a2, a3⟩ | ⟨a1, a2⟩
        · obtain ⟨bi, h5, h6⟩ := wasLive q i b a1 a2 h1 (by rw [← (Blk.ren_live h2).1]; exact hl)
          exact st.lv i bi hi' h5 h6
        · have := st.k0; omega
    glob := st'.glob
    gw := fun b o v h1 h2 => hcell b o v (st.g0 b o h1) (st.gw b o v h1 h2) }

end Go.Ab
