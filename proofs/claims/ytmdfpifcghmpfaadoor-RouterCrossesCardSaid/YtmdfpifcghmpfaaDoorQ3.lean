/- Purses: lists of tokens and of holdings that are one's own; where a token is, where a holding is. -/
import Derived.Test.YtmdfpifcghmpfaaDoorQL
import Derived.Test.YtmdfpifcghmpfaaDoorDl
namespace Go.Proofs.YtmdfpifcghmpfaaDoor
open Go.Shelf Go.Ab Go.RowKit

/-- The first that is so; with another one for it; without it; another one ahead of it. -/
def lookP {α : Type} (p : α → Bool) : List α → Option α
  | [] => none
  | a :: l => if p a then some a else lookP p l
def putP {α : Type} (p : α → Bool) : List α → α → List α
  | [], _ => []
  | a :: l, b => if p a then b :: l else a :: putP p l b
def delP {α : Type} (p : α → Bool) : List α → List α
  | [] => []
  | a :: l => if p a then l else a :: delP p l
def insP {α : Type} (p : α → Bool) : List α → α → List α
  | [], b => [b]
  | a :: l, b => if p a then b :: a :: l else a :: insP p l b

theorem ix_look {α : Type} (p : α → Bool) : ∀ (l : List α) (k : Nat), (ixOf p l k = -1 ∧ lookP p l = none) ∨
    ∃ (j : Nat) (h : j < l.length), ixOf p l k = ((k + j : Nat) : Int) ∧ lookP p l = some (l[j]'h) ∧ p (l[j]'h) = true ∧ (∀ b, l.set j b = putP p l b) ∧ l.take j ++ l.drop (j + 1) = delP p l
  | [], k => .inl ⟨rfl, rfl⟩
  | a :: l, k => by
    cases e : p a with
    | true => exact .inr ⟨0, by simp, by rw [ixOf, if_pos e]; rfl, by rw [lookP, if_pos e]; rfl, e, fun b => by rw [putP, if_pos e]; rfl, by rw [delP, if_pos e]; rfl⟩
    | false =>
      have e1 : ixOf p (a :: l) k = ixOf p l (k + 1) := by rw [ixOf, if_neg (by rw [e]; decide)]
      have e2 : lookP p (a :: l) = lookP p l := by rw [lookP, if_neg (by rw [e]; decide)]
      rcases ix_look p l (k + 1) with ⟨h1, h2⟩ | ⟨j, h, h1, h2, h3, h4, h5⟩
      · exact .inl ⟨by rw [e1, h1], by rw [e2, h2]⟩
      · refine .inr ⟨j + 1, by simpa using h, by rw [e1, h1]; congr 1; omega, by rw [e2, h2]; rfl, h3, fun b => ?_, ?_⟩
        · rw [putP, if_neg (by rw [e]; decide), ← h4 b]; rfl
        · rw [delP, if_neg (by rw [e]; decide), ← h5]; rfl
theorem ix_ins {α : Type} (p : α → Bool) (b : α) : ∀ (l : List α) (k : Nat), (ixOf p l k = -1 ∧ insP p l b = l ++ [b]) ∨
    ∃ j, j < l.length ∧ ixOf p l k = ((k + j : Nat) : Int) ∧ insP p l b = l.take j ++ b :: l.drop j
  | [], k => .inl ⟨rfl, rfl⟩
  | a :: l, k => by
    cases e : p a with
    | true => exact .inr ⟨0, by simp, by rw [ixOf, if_pos e]; rfl, by rw [insP, if_pos e]; rfl⟩
    | false =>
      have e1 : ixOf p (a :: l) k = ixOf p l (k + 1) := by rw [ixOf, if_neg (by rw [e]; decide)]
      have e2 : insP p (a :: l) b = a :: insP p l b := by rw [insP, if_neg (by rw [e]; decide)]
      rcases ix_ins p b l (k + 1) with ⟨h1, h2⟩ | ⟨j, h, h1, h2⟩
      · exact .inl ⟨by rw [e1, h1], by rw [e2, h2]; rfl⟩
      · exact .inr ⟨j + 1, by simpa using h, by rw [e1, h1]; congr 1; omega, by rw [e2, h2]; rfl⟩
theorem lookP_mem {α : Type} {p : α → Bool} : ∀ {l : List α} {a : α}, lookP p l = some a → a ∈ l ∧ p a = true
  | [], _, h => by cases h
  | b :: l, a, h => by
    rw [lookP] at h
    split at h
    · cases h; exact ⟨by simp, by assumption⟩
    · have := lookP_mem h; exact ⟨by simp [this.1], this.2⟩

def renT : Go.Shelf.Ren := ⟨fun | 41 => 95 | n => n, fun | 4 => 4 | 22 => 60 | 23 => 78 | n => n, fun n => n⟩
theorem laysT : SlLaysE0.n41 Tryd.prog renT := {
  mixed := by kernel_rfl
  f41 := ⟨Tryd.f95.name, by kernel_rfl, Tryd.func95.trans (congrArg some (by kernel_rfl))⟩
  t4 := Tryd.underlying4
  a4 := Tryd.isAgg4
  z4 := Tryd.sizeOf4
  v4 := Tryd.zeroValue4
  t22 := Tryd.underlying60
  a22 := Tryd.isAgg60
  z22 := Tryd.sizeOf60
  v22 := Tryd.zeroValue60 }
theorem cloneT_c {l : List Tk} (h : l.length ≤ 100000) : CallR cx 95 [.d (.sl 7 (tks l))] [] fun r S => r = .row 0 ∧ S = [.own 78 7 (tks l)] := by
  have hl : (tks l).length = l.length := List.length_map _
  exact clone_c (ρ := renT) laysT (e := 78) (sz := 7) rfl Tryd.func95 (by kernel_rfl) (by kernel_rfl) rfl rfl rfl rfl (by decide) Tryd.sizeOf78 (by rw [hl]; unfold maxLen; omega) (by rw [hl]; show l.length * 64 ≤ _; omega)

def renH : Go.Shelf.Ren := ⟨fun | 41 => 130 | n => n, fun | 4 => 4 | 22 => 61 | 23 => 129 | n => n, fun n => n⟩
theorem laysH : SlLaysE0.n41 Tryd.prog renH := {
  mixed := by kernel_rfl
  f41 := ⟨Tryd.f130.name, by kernel_rfl, Tryd.func130.trans (congrArg some (by kernel_rfl))⟩
  t4 := Tryd.underlying4
  a4 := Tryd.isAgg4
  z4 := Tryd.sizeOf4
  v4 := Tryd.zeroValue4
  t22 := Tryd.underlying61
  a22 := Tryd.isAgg61
  z22 := Tryd.sizeOf61
  v22 := Tryd.zeroValue61 }
theorem cloneH_c {l : List Hd} (h : l.length ≤ 100000) : CallR cx 130 [.d (.sl 4 (hds l))] [] fun r S => r = .row 0 ∧ S = [.own 129 4 (hds l)] := by
  have hl : (hds l).length = l.length := List.length_map _
  exact clone_c (ρ := renH) laysH (e := 129) (sz := 4) rfl Tryd.func130 (by kernel_rfl) (by kernel_rfl) rfl rfl rfl rfl (by decide) Tryd.sizeOf129 (by rw [hl]; unfold maxLen; omega) (by rw [hl]; show l.length * 48 ≤ _; omega)

def renIT : Go.Shelf.Ren := ⟨fun | 22 => 94 | 29 => 128 | 30 => 129 | n => n, fun | 3 => 3 | 4 => 4 | 9 => 78 | 24 => 60 | n => n, fun n => n⟩
theorem laysIT : ∃ z, InsL Tryd.prog renIT 7 64 z := by
  obtain ⟨_, info, f1, f2, f3, f4⟩ := cx_ok 78 _ rfl
  obtain ⟨zv, f5, f6⟩ := f4 _ rfl
  exact ⟨zv, {
    mixed := by kernel_rfl
    f22 := ⟨Tryd.f94.name, Tryd.func94.trans (congrArg some (by kernel_rfl))⟩
    ov := fun args w v w' h => by
      rw [run_callFunc_extern (P := Tryd.prog) (f := renIT.f 29) Tryd.func128 (by kernel_rfl) (by kernel_rfl) (by kernel_rfl) (e := Extern.SlicesOverlaps.overlaps #[renIT.t 24, renIT.t 24] #[renIT.t 4]) (by kernel_rfl), h]
      rfl
    t3 := Tryd.underlying3
    a3 := Tryd.isAgg3
    z3 := Tryd.sizeOf3
    v3 := Tryd.zeroValue3
    t4 := Tryd.underlying4
    a4 := Tryd.isAgg4
    z4 := Tryd.sizeOf4
    v4 := Tryd.zeroValue4
    t24 := Tryd.underlying60
    a24 := Tryd.isAgg60
    z24 := Tryd.sizeOf60
    v24 := Tryd.zeroValue60
    z9 := Tryd.sizeOf78
    i9 := ⟨info, f1, f5, f2, f3⟩
    zs := (f6 default (fun _ _ => False)).cells_size
    s0 := by decide }⟩
theorem insertT_c {l : List Tk} {b : Tk} {i : Nat} (hi : i ≤ l.length) (h : l.length ≤ 100000) : CallR cx 94 [.row 0, i64 (i : Int), .d (.sl 7 [b.d])] [.own 78 7 (tks l)] fun r S =>
    r = .row 1 ∧ S = [.dead, .own 78 7 (tks (l.take i ++ b :: l.drop i))] := by
  obtain ⟨z, L⟩ := laysIT
  have hl : (tks l).length = l.length := List.length_map _
  have := insert_c L (xs := tks l) (x := b.d) (e := 78) (i := i) rfl Tryd.func94 (by kernel_rfl) rfl (by omega) (by rw [hl]; unfold maxLen; omega) (by rw [hl]; omega)
  have e : tks (l.take i ++ b :: l.drop i) = (tks l).take i ++ b.d :: (tks l).drop i := by simp [tks, List.map_take, List.map_drop]
  rw [e]
  exact this

def renIH : Go.Shelf.Ren := ⟨fun | 22 => 134 | 29 => 153 | 30 => 154 | n => n, fun | 3 => 3 | 4 => 4 | 9 => 129 | 24 => 61 | n => n, fun n => n⟩
theorem laysIH : ∃ z, InsL Tryd.prog renIH 4 48 z := by
  obtain ⟨_, info, f1, f2, f3, f4⟩ := cx_ok 129 _ rfl
  obtain ⟨zv, f5, f6⟩ := f4 _ rfl
  exact ⟨zv, {
    mixed := by kernel_rfl
    f22 := ⟨Tryd.f134.name, Tryd.func134.trans (congrArg some (by kernel_rfl))⟩
    ov := fun args w v w' h => by
      rw [run_callFunc_extern (P := Tryd.prog) (f := renIH.f 29) Tryd.func153 (by kernel_rfl) (by kernel_rfl) (by kernel_rfl) (e := Extern.SlicesOverlaps.overlaps #[renIH.t 24, renIH.t 24] #[renIH.t 4]) (by kernel_rfl), h]
      rfl
    t3 := Tryd.underlying3
    a3 := Tryd.isAgg3
    z3 := Tryd.sizeOf3
    v3 := Tryd.zeroValue3
    t4 := Tryd.underlying4
    a4 := Tryd.isAgg4
    z4 := Tryd.sizeOf4
    v4 := Tryd.zeroValue4
    t24 := Tryd.underlying61
    a24 := Tryd.isAgg61
    z24 := Tryd.sizeOf61
    v24 := Tryd.zeroValue61
    z9 := Tryd.sizeOf129
    i9 := ⟨info, f1, f5, f2, f3⟩
    zs := (f6 default (fun _ _ => False)).cells_size
    s0 := by decide }⟩
theorem insertH_c {l : List Hd} {b : Hd} {i : Nat} (hi : i ≤ l.length) (h : l.length ≤ 100000) : CallR cx 134 [.row 0, i64 (i : Int), .d (.sl 4 [b.d])] [.own 129 4 (hds l)] fun r S =>
    r = .row 1 ∧ S = [.dead, .own 129 4 (hds (l.take i ++ b :: l.drop i))] := by
  obtain ⟨z, L⟩ := laysIH
  have hl : (hds l).length = l.length := List.length_map _
  have := insert_c L (xs := hds l) (x := b.d) (e := 129) (i := i) rfl Tryd.func134 (by kernel_rfl) rfl (by omega) (by rw [hl]; unfold maxLen; omega) (by rw [hl]; omega)
  have e : hds (l.take i ++ b :: l.drop i) = (hds l).take i ++ b.d :: (hds l).drop i := by simp [hds, List.map_take, List.map_drop]
  rw [e]
  exact this

def renDH : Go.Shelf.Ren := ⟨fun | 45 => 131 | n => n, fun | 3 => 3 | 4 => 4 | 23 => 129 | 22 => 61 | n => n, fun n => n⟩
theorem laysDH : ∃ z, DelL Tryd.prog renDH 4 48 z := by
  obtain ⟨_, info, f1, f2, f3, f4⟩ := cx_ok 129 _ rfl
  obtain ⟨zv, f5, f6⟩ := f4 _ rfl
  exact ⟨zv, {
    mixed := by kernel_rfl
    f45 := ⟨Tryd.f131.name, by kernel_rfl, Tryd.func131.trans (congrArg some (by kernel_rfl))⟩
    t3 := Tryd.underlying3
    a3 := Tryd.isAgg3
    z3 := Tryd.sizeOf3
    v3 := Tryd.zeroValue3
    t4 := Tryd.underlying4
    a4 := Tryd.isAgg4
    z4 := Tryd.sizeOf4
    v4 := Tryd.zeroValue4
    t22 := Tryd.underlying61
    a22 := Tryd.isAgg61
    z22 := Tryd.sizeOf61
    v22 := Tryd.zeroValue61
    z23 := Tryd.sizeOf129
    v23 := fun w => by
      have hf : Tryd.prog.info? (renDH.t 23) = some info := f1
      simp only [zeroValue, typeInfo, Sem.run_bind, run_program, Result.andThen_ok, hf, f5, Sem.run_pure]
    i23 := ⟨info, f1, f5, f2, f3⟩
    zs := (f6 default (fun _ _ => False)).cells_size
    zo := (f6 default (fun _ _ => False)).1.oneCell
    s0 := by decide }⟩
theorem deleteH_c {l : List Hd} {i : Nat} (hi : i < l.length) : CallR cx 131 [.row 0, i64 (i : Int), i64 ((i + 1 : Nat) : Int)] [.own 129 4 (hds l)] fun r S =>
    r = .row 1 ∧ S = [.dead, .own 129 4 (hds (l.take i ++ l.drop (i + 1)))] := by
  obtain ⟨z, L⟩ := laysDH
  have hl : (hds l).length = l.length := List.length_map _
  have := delete_c L (xs := hds l) (e := 129) (i := i) rfl Tryd.func131 (by kernel_rfl) rfl (by omega)
  have e : hds (l.take i ++ l.drop (i + 1)) = (hds l).take i ++ (hds l).drop (i + 1) := by simp [hds, List.map_take, List.map_drop]
  rw [e]
  exact this

end Go.Proofs.YtmdfpifcghmpfaaDoor
