/-
  An own logic over the kit's 'Calls' (Ab14): a table of types, checked by reckoning.
-/
import Derived.Test.YtboohfijacjhjaaDoorAb13
namespace Go.Ab
open Go.RowKit

mutual
def cells0 : D → Option (List Value)
  | .bool b => some [.bool b]
  | .int k n => some [.int k n]
  | .str s => some [.string s]
  | .nilP => some [.pointer none]
  | .nilI => some [.nilIface]
  | .nilF => some [.nilFunc]
  | .agg l => cells0s l
  | .arr n sz xs => match Nat.beq xs.length n && xs.all (fun x => Nat.beq x.size sz) with
    | true => cells0s xs
    | false => none
  | .sl _ [] => some [.slice none 0 0]
  | _ => none
def cells0s : List D → Option (List Value)
  | [] => some []
  | x :: l => match cells0 x with
    | some c => match cells0s l with
      | some d => some (c ++ d)
      | none => none
    | none => none
end

mutual
theorem cells0_ok (w : World) (G : Nat → Nat → Prop) : ∀ (x : D) (c : List Value), cells0 x = some c → CL w G [x] c
  | .bool b, c, h => by simp only [cells0] at h; cases h; exact .bool .nil
  | .int k n, c, h => by simp only [cells0] at h; cases h; exact .int .nil
  | .str s, c, h => by simp only [cells0] at h; cases h; exact .str .nil
  | .nilP, c, h => by simp only [cells0] at h; cases h; exact .nilP .nil
  | .nilI, c, h => by simp only [cells0] at h; cases h; exact .nilI .nil
  | .nilF, c, h => by simp only [cells0] at h; cases h; exact .nilF .nil
  | .agg l, c, h => by
    simp only [cells0] at h
    simpa using CL.agg (cells0s_ok w G l c h) .nil
  | .arr n sz xs, c, h => by
    simp only [cells0] at h
    split at h
    · rename_i hb
      simp only [Bool.and_eq_true, List.all_eq_true] at hb
      simpa using CL.arr (cells0s_ok w G xs c h) (beq_true hb.1) (fun x hx => beq_true (hb.2 x hx)) .nil
    · cases h
  | .sl sz xs, c, h => by
    cases xs with
    | nil => simp only [cells0] at h; cases h; exact .slnil .nil
    | cons => simp only [cells0] at h; cases h
  | .iface .., c, h => by simp only [cells0] at h; cases h
  | .cptr _, c, h => by simp only [cells0] at h; cases h
theorem cells0s_ok (w : World) (G : Nat → Nat → Prop) : ∀ (l : List D) (c : List Value), cells0s l = some c → CL w G l c
  | [], c, h => by simp only [cells0s] at h; cases h; exact .nil
  | x :: l, c, h => by
    simp only [cells0s] at h
    split at h
    case h_2 => cases h
    rename_i c1 h1
    split at h
    case h_2 => cases h
    rename_i c2 h2
    cases h
    exact CL.append (cells0_ok w G x c1 h1) (cells0s_ok w G l c2 h2)
end

def fsB : List (Nat × Nat × Bool) → List (Nat × Nat × Bool) → Bool
  | [], [] => true
  | (a, b, c) :: l, (a', b', c') :: l' => Nat.beq a a' && Nat.beq b b' && (c == c') && fsB l l'
  | _, _ => false

theorem fsB_eq : ∀ {l m}, fsB l m = true → l = m
  | [], [], _ => rfl
  | (a, b, c) :: l, (a', b', c') :: l', h => by
    simp only [fsB, Bool.and_eq_true, beq_iff_eq] at h
    rw [beq_true h.1.1.1, beq_true h.1.1.2, h.1.2, fsB_eq h.2]
  | [], _ :: _, h => by cases h
  | _ :: _, [], h => by cases h

def tkB : TK → TK → Bool
  | .bool, .bool => true
  | .int k, .int k' => kindB k k'
  | .str, .str => true
  | .struct a, .struct b => fsB a b
  | .arr n e, .arr n' e' => Nat.beq n n' && Nat.beq e e'
  | .slice e, .slice e' => Nat.beq e e'
  | .ptr e, .ptr e' => Nat.beq e e'
  | .iface b, .iface b' => b == b'
  | .func, .func => true
  | .other, .other => true
  | _, _ => false

theorem tkB_eq {a b : TK} (h : tkB a b = true) : a = b := by
  cases a <;> cases b <;> simp only [tkB, Bool.false_eq_true] at h
  case bool.bool => rfl
  case int.int => rw [kindB_spec h]
  case str.str => rfl
  case struct.struct => rw [fsB_eq h]
  case arr.arr => simp only [Bool.and_eq_true] at h; rw [beq_true h.1, beq_true h.2]
  case slice.slice => rw [beq_true h]
  case ptr.ptr => rw [beq_true h]
  case iface.iface => rw [beq_iff_eq.1 h]
  case func.func => rfl
  case other.other => rfl

def valB : Value → Value → Bool
  | .bool a, .bool b => a == b
  | .int k a, .int k' b => kindB k k' && (a == b)
  | .string a, .string b => Nat.beq a.size 0 && Nat.beq b.size 0
  | .pointer none, .pointer none => true
  | .slice none 0 0, .slice none 0 0 => true
  | .nilIface, .nilIface => true
  | .nilFunc, .nilFunc => true
  | _, _ => false

theorem size0 {a : ByteArray} (h : a.size = 0) : a = .empty := by
  cases a with
  | mk d => 
    have : d = #[] := Array.eq_empty_of_size_eq_zero h
    rw [this]; rfl

theorem valB_eq {a b : Value} (h : valB a b = true) : a = b := by
  unfold valB at h
  split at h <;> first
    | rfl
    | (cases h; done)
    | (rw [beq_iff_eq.1 h]; done)
    | (simp only [Bool.and_eq_true, beq_iff_eq] at h; rw [kindB_spec h.1, h.2]; done)
    | (simp only [Bool.and_eq_true] at h; rw [size0 (beq_true h.1), size0 (beq_true h.2)]; done)

def valsB : List Value → List Value → Bool
  | [], [] => true
  | a :: l, b :: m => valB a b && valsB l m
  | _, _ => false

theorem valsB_eq : ∀ {l m : List Value}, valsB l m = true → l = m
  | [], [], _ => rfl
  | a :: l, b :: m, h => by
    simp only [valsB, Bool.and_eq_true] at h
    rw [valB_eq h.1, valsB_eq h.2]
  | [], _ :: _, h => by cases h
  | _ :: _, [], h => by cases h

def zeroB (z : Option D) (v : Option Value) : Bool :=
  match z with
  | none => true
  | some z => match v with
    | some v => match cells0 z with
      | some cs => valsB v.cells.toList cs && (vAgg v == z.isAgg)
      | none => false
    | none => false

def fitB (P : Program) (t : Nat) (i : TI) : Bool :=
  (match P.underlying t with | some d => tkB (tkOf d) i.k | none => false) &&
  ((match P.info? t with | some info => Nat.beq info.size i.size && Nat.beq info.bytes i.bytes && zeroB i.zero info.zero | none => false) &&
  ((match i.eq with | true => (!P.stoodInHeld t) && !P.eqGuardType P.depth t | false => true) &&
  (match i.cmp with | true => (match P.info? t with | some info => info.comparable | none => false) | false => true)))

theorem fitB_flags {P t i} (h : fitB P t i = true) : i.flags P t := by
  simp only [fitB, Bool.and_eq_true] at h
  obtain ⟨_, _, h1, h2⟩ := h
  refine ⟨fun e => ?_, fun e => ?_⟩
  · rw [e] at h1
    simp only [Bool.and_eq_true, Bool.not_eq_true'] at h1
    exact h1
  · rw [e] at h2
    simp only at h2
    split at h2
    case h_2 => cases h2
    rename_i info hi
    exact ⟨info, hi, h2⟩

theorem fitB_ok {P t i} (h : fitB P t i = true) : i.fits P t := by
  simp only [fitB, Bool.and_eq_true] at h
  obtain ⟨h1, h2, _⟩ := h
  split at h1
  case h_2 => cases h1
  rename_i d hd
  split at h2
  case h_2 => cases h2
  rename_i info hi
  simp only [Bool.and_eq_true] at h2
  refine ⟨⟨d, hd, tkB_eq h1⟩, info, hi, beq_true h2.1.1, beq_true h2.1.2, fun z hz => ?_⟩
  have h3 := h2.2
  rw [hz] at h3
  simp only [zeroB] at h3
  split at h3
  case h_2 => cases h3
  rename_i v hv
  split at h3
  case h_2 => cases h3
  rename_i cs hcs
  simp only [Bool.and_eq_true, beq_iff_eq] at h3
  refine ⟨v, hv, fun w G => ⟨?_, h3.2⟩⟩
  rw [valsB_eq h3.1]
  exact cells0_ok w G z cs hcs

/-- A table by halves. -/
inductive Tree where
  | leaf
  | node (k : Nat) (v : TI) (l r : Tree)

def Tree.look : Tree → Nat → Option TI
  | .leaf, _ => none
  | .node k v l r, t => match Nat.beq t k with
    | true => some v
    | false => match Nat.ble t k with
      | true => l.look t
      | false => r.look t

def Tree.fits (P : Program) : Tree → Bool
  | .leaf => true
  | .node k v l r => fitB P k v && (l.fits P && r.fits P)

theorem Tree.look_ok {P : Program} : ∀ {T : Tree}, T.fits P = true → ∀ (t : Nat) (i : TI), T.look t = some i → i.fits P t ∧ i.flags P t
  | .leaf, _, t, i, h => by cases h
  | .node k v l r, hb, t, i, h => by
    simp only [Tree.fits, Bool.and_eq_true] at hb
    simp only [Tree.look] at h
    split at h
    · rename_i e; cases h; rw [beq_true e]; exact ⟨fitB_ok hb.1, fitB_flags hb.1⟩
    · split at h
      · exact look_ok hb.2.1 t i h
      · exact look_ok hb.2.2 t i h

theorem tab_ok {P : Program} {T : Tree} {g : Nat → Option D} (h : T.fits P = true) : Ctx.ok { P, tt := T.look, glob := g } :=
  ⟨fun t i hi => (Tree.look_ok h t i hi).1, fun t i hi => (Tree.look_ok h t i hi).2⟩

end Go.Ab
