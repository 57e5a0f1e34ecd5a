/- Ledgers: what comes of small ones and of right ones. No program in sight. -/
import Derived.Test.YtmdfpifcghmpfaaDoorM6
namespace Go.Proofs.YtmdfpifcghmpfaaDoor
open Go.Ab Go.RowKit

def good (a : Ac) : Prop := a.ok ∧ keyOk a.key ∧ a.name.size ≤ 200

structure Lg.fine (l : Lg) (N M : Nat) : Prop where
  u : U l.height ∧ U l.time ∧ U l.gas
  a : ∀ a ∈ l.accs, good a
  e : ∀ e ∈ l.evs, evOk e
  n : l.accs.length ≤ N
  m : l.evs.length ≤ M

theorem Lg.fine.ok {l : Lg} {N M : Nat} (h : l.fine N M) (hN : N ≤ 100000) : l.ok := ⟨h.u, fun a ha => (h.a a ha).1, Nat.le_trans h.n hN⟩
theorem Lg.fine.mono {l : Lg} {N M N' M' : Nat} (h : l.fine N M) (h1 : N ≤ N') (h2 : M ≤ M') : l.fine N' M' := ⟨h.u, h.a, h.e, Nat.le_trans h.n h1, Nat.le_trans h.m h2⟩

theorem putA_all {P : Ac → Prop} : ∀ {l : List Ac} {b : Ac}, (∀ a ∈ l, P a) → P b → ∀ a ∈ putA l b, P a
  | [], _, _, _, _, ha => by cases ha
  | c :: l, b, h, hb, a, ha => by
    rw [putA] at ha
    split at ha
    · rcases List.mem_cons.1 ha with rfl | ha
      · exact hb
      · exact h a (by simp [ha])
    · rcases List.mem_cons.1 ha with rfl | ha
      · exact h _ (by simp)
      · exact putA_all (fun x hx => h x (by simp [hx])) hb a ha
theorem insA_all {P : Ac → Prop} : ∀ {l : List Ac} {b : Ac}, (∀ a ∈ l, P a) → P b → ∀ a ∈ insA l b, P a
  | [], b, _, hb, a, ha => by
    rw [insA] at ha
    obtain rfl := List.mem_singleton.1 ha
    exact hb
  | c :: l, b, h, hb, a, ha => by
    rw [insA] at ha
    split at ha
    · rcases List.mem_cons.1 ha with rfl | ha
      · exact hb
      · exact h a ha
    · rcases List.mem_cons.1 ha with rfl | ha
      · exact h _ (by simp)
      · exact insA_all (fun x hx => h x (by simp [hx])) hb a ha
theorem insA_len : ∀ (l : List Ac) (b : Ac), (insA l b).length = l.length + 1
  | [], _ => rfl
  | a :: l, b => by
    rw [insA]
    split
    · rfl
    · rw [List.length_cons, insA_len l b]; rfl

theorem fine_put {l : Lg} {N M : Nat} {b : Ac} (h : l.fine N M) (hb : good b) : Lg.fine { l with accs := putA l.accs b } N M :=
  ⟨h.u, putA_all h.a hb, h.e, by show (putA l.accs b).length ≤ N; rw [putA_len]; exact h.n, h.m⟩

section
variable {l : Lg} {N M : Nat}

theorem giveL_fine (h : l.fine N M) {w : ByteArray} {n : Int} (hn : U n) : (giveL l w n).1.fine N M := by
  unfold giveL
  cases hx : look l.accs w with
  | none => exact h
  | some a =>
    obtain ⟨h1, h2, h3⟩ := h.a a (look_mem hx).1
    simp only
    split
    · refine fine_put h ⟨⟨h1.1, ?_⟩, h2, h3⟩
      have := h1.2
      unfold U at *
      simp only
      omega
    · exact h
theorem takeL_fine (h : l.fine N M) {w : ByteArray} {n : Int} (hn : U n) : (takeL l w n).1.fine N M := by
  unfold takeL
  cases hx : look l.accs w with
  | none => exact h
  | some a =>
    obtain ⟨h1, h2, h3⟩ := h.a a (look_mem hx).1
    simp only
    split
    · exact h
    · refine fine_put h ⟨⟨h1.1, ?_⟩, h2, h3⟩
      have := h1.2
      unfold U at *
      simp only
      omega
theorem moveL_fine (h : l.fine N M) {a b : ByteArray} {n : Int} (hn : U n) : (moveL l a b n).1.fine N M := by
  unfold moveL
  split
  · exact h
  split
  · exact h
  · exact giveL_fine (takeL_fine h hn) hn
theorem bumpL_fine (h : l.fine N M) {w : ByteArray} {n : Int} (hn : U n) : (bumpL l w n).1.fine N M := by
  unfold bumpL
  cases hx : look l.accs w with
  | none => exact h
  | some a =>
    obtain ⟨h1, h2, h3⟩ := h.a a (look_mem hx).1
    simp only
    split
    · exact h
    split
    · exact h
    · refine fine_put h ⟨⟨?_, h1.2⟩, h2, h3⟩
      unfold U at *
      simp only
      omega
theorem spendL_fine (h : l.fine N M) {n : Int} (hn : U n) : (spendL l n).1.fine N M := by
  unfold spendL
  split
  · refine ⟨⟨h.u.1, h.u.2.1, ?_⟩, h.a, h.e, h.n, h.m⟩
    have := h.u.2.2
    unfold U at *
    simp only
    omega
  · exact h
theorem tickL_fine (h : l.fine N M) {n : Int} (hn : U n) : (tickL l n).1.fine N M := by
  unfold tickL
  split
  · exact h
  split
  · exact h
  split
  · exact h
  · refine ⟨⟨?_, ?_, ?_⟩, h.a, h.e, h.n, h.m⟩
    · have := h.u.1
      unfold U at *
      simp only
      omega
    · have := h.u.2.1
      unfold U at *
      simp only
      omega
    · unfold U; simp only; omega
theorem noteL_fine (h : l.fine N M) {e : D} (he : evOk e) : (noteL l e).fine N (M + 1) := by
  unfold noteL
  generalize l.evs.length - 4095 = W
  refine ⟨h.u, h.a, ?_, h.n, ?_⟩
  · intro x hx
    rcases List.mem_append.1 hx with hx | hx
    · exact h.e x (List.mem_of_mem_drop hx)
    · obtain rfl := List.mem_singleton.1 hx
      exact he
  · have := h.m
    show (l.evs.drop W ++ [e]).length ≤ M + 1
    simp
    omega
theorem openL_fine (h : l.fine N M) {w : ByteArray} {key : List D} {n : Int} (hw : w.size ≤ 200) (hk : keyOk key) (hn : U n) : (openL l w key n).1.fine (N + 1) M := by
  unfold openL
  split
  · exact h.mono (by omega) (Nat.le_refl _)
  split
  · exact h.mono (by omega) (Nat.le_refl _)
  split
  · exact h.mono (by omega) (Nat.le_refl _)
  · refine ⟨h.u, insA_all h.a ⟨⟨by unfold U; simp only; omega, hn⟩, hk, hw⟩, h.e, ?_, h.m⟩
    have := h.n
    show (insA l.accs _).length ≤ N + 1
    rw [insA_len]
    omega

theorem doL_fine (h : l.fine N M) {q : Int} {a b : ByteArray} {n : Int} {key : List D} {ev : D} (ha : a.size ≤ 200) (hn : U n) (hk : keyOk key) (hev : evOk ev) : (doL l q a b n key ev).fine (N + 1) (M + 1) := by
  unfold doL
  split
  · exact (openL_fine h ha hk hn).mono (Nat.le_refl _) (by omega)
  split
  · exact (giveL_fine h hn).mono (by omega) (by omega)
  split
  · exact (takeL_fine h hn).mono (by omega) (by omega)
  split
  · exact (moveL_fine h hn).mono (by omega) (by omega)
  split
  · exact (bumpL_fine h hn).mono (by omega) (by omega)
  split
  · exact (spendL_fine h hn).mono (by omega) (by omega)
  split
  · exact (tickL_fine h hn).mono (by omega) (by omega)
  split
  · exact (noteL_fine h hev).mono (by omega) (Nat.le_refl _)
  · exact h.mono (by omega) (by omega)
end

/-- The coins of all. -/
def total (l : Lg) : Int := (coinsL l.accs).sum

theorem giveL_total {l : Lg} {w : ByteArray} {n : Int} (h : (giveL l w n).2 = 0) : total (giveL l w n).1 = total l + n := by
  unfold giveL at *
  cases hx : look l.accs w with
  | none => rw [hx] at h; cases h
  | some a =>
    rw [hx] at h
    simp only at h ⊢
    split
    · unfold total
      rw [sum_put (b := { a with coins := a.coins + n }) hx (look_mem hx).2]
      simp only
      omega
    · rename_i c; rw [if_neg c] at h; cases h
theorem takeL_total {l : Lg} {w : ByteArray} {n : Int} (h : (takeL l w n).2 = 0) : total (takeL l w n).1 = total l - n := by
  unfold takeL at *
  cases hx : look l.accs w with
  | none => rw [hx] at h; cases h
  | some a =>
    rw [hx] at h
    simp only at h ⊢
    split
    · rename_i c; rw [if_pos c] at h; cases h
    · unfold total
      rw [sum_put (b := { a with coins := a.coins - n }) hx (look_mem hx).2]
      simp only
      omega
theorem moveL_total (l : Lg) (a b : ByteArray) (n : Int) : total (moveL l a b n).1 = total l := by
  unfold moveL
  split
  · rfl
  split
  · rfl
  · rename_i h1 h2
    rw [giveL_total (by simpa using h2), takeL_total (by simpa using h1)]
    omega
theorem moveL_err {l : Lg} {a b : ByteArray} {n : Int} (h : (moveL l a b n).2 ≠ 0) : (moveL l a b n).1 = l := by
  unfold moveL at *
  split
  · rfl
  split
  · rfl
  · rename_i h1 h2
    rw [if_neg h1, if_neg h2] at h
    exact absurd rfl h
theorem bumpL_total (l : Lg) (w : ByteArray) (n : Int) : total (bumpL l w n).1 = total l := by
  unfold bumpL
  cases hx : look l.accs w with
  | none => rfl
  | some a =>
    simp only
    split
    · rfl
    split
    · rfl
    · unfold total
      rw [sum_put (b := { a with nonce := n + 1 }) hx (look_mem hx).2]
      simp only
      omega
theorem spendL_accs (l : Lg) (n : Int) : (spendL l n).1.accs = l.accs := by unfold spendL; split <;> rfl
theorem tickL_accs (l : Lg) (n : Int) : (tickL l n).1.accs = l.accs := by
  unfold tickL
  split
  · rfl
  split
  · rfl
  split <;> rfl
theorem noteL_accs (l : Lg) (e : D) : (noteL l e).accs = l.accs := by
  unfold noteL
  generalize l.evs.length - 4095 = W
  rfl
theorem doL_total {l : Lg} {q : Int} {a b : ByteArray} {n : Int} {key : List D} {ev : D} (h : q ≥ 3 ∨ q ≤ -3) : total (doL l q a b n key ev) = total l := by
  unfold doL
  split
  · omega
  split
  · omega
  split
  · omega
  split
  · exact moveL_total l a b n
  split
  · exact bumpL_total l a n
  split
  · unfold total; rw [spendL_accs]
  split
  · unfold total; rw [tickL_accs]
  split
  · unfold total; rw [noteL_accs]
  · rfl

-- Right ones.

/-- One behind the other. -/
def srtN : Option ByteArray → List ByteArray → Prop
  | _, [] => True
  | none, a :: l => srtN (some a) l
  | some p, a :: l => ordN p a < 0 ∧ srtN (some a) l

theorem chain_iff (al : List Ac) : ∀ (l : List Ac) (j : Nat), al.drop j = l →
    (chainB al j l = true ↔ (∀ a ∈ l.map Ac.name, rightT a = true) ∧ srtN (if j = 0 then none else (al[j - 1]?).map Ac.name) (l.map Ac.name))
  | [], _, _ => by simp [chainB, srtN]
  | a :: l, j, h => by
    have hlt : j < al.length := by
      rcases Nat.lt_or_ge j al.length with q | q
      · exact q
      · rw [List.drop_eq_nil_of_le q] at h; cases h
    rw [List.drop_eq_getElem_cons hlt] at h
    injection h with h1 h2
    have ih := chain_iff al l (j + 1) h2
    rw [if_neg (by omega), Nat.add_sub_cancel, List.getElem?_eq_getElem hlt, h1] at ih
    simp only [Option.map_some] at ih
    rw [chainB]
    simp only [Bool.and_eq_true, Bool.or_eq_true, beq_iff_eq, decide_eq_true_eq, ih, List.map_cons, List.mem_cons, forall_eq_or_imp]
    by_cases hj : j = 0
    · subst hj
      simp only [true_or, and_true, if_true, srtN]
      exact ⟨fun ⟨x, y, z⟩ => ⟨⟨x, y⟩, z⟩, fun ⟨⟨x, y⟩, z⟩ => ⟨x, y, z⟩⟩
    · have hj1 : j - 1 < al.length := by omega
      have hg : al.getD (j - 1) ⟨.empty, [], 0, 0⟩ = al[j - 1]'hj1 := by rw [List.getD_eq_getElem?_getD, List.getElem?_eq_getElem hj1]; rfl
      rw [if_neg hj, List.getElem?_eq_getElem hj1, hg]
      simp only [Option.map_some, hj, false_or, srtN]
      exact ⟨fun ⟨⟨x, w⟩, y, z⟩ => ⟨⟨x, y⟩, w, z⟩, fun ⟨⟨x, y⟩, w, z⟩ => ⟨⟨x, w⟩, y, z⟩⟩

theorem chain0 (l : List Ac) : chainB l 0 l = true ↔ (∀ a ∈ l.map Ac.name, rightT a = true) ∧ srtN none (l.map Ac.name) := by
  have := chain_iff l l 0 rfl
  simpa using this

theorem putA_names : ∀ (l : List Ac) (b : Ac), (putA l b).map Ac.name = l.map Ac.name
  | [], _ => rfl
  | a :: l, b => by
    rw [putA]
    split
    · rename_i h; simp only [List.map_cons, h]
    · rw [List.map_cons, putA_names l b]; rfl

theorem putA_chain (l : List Ac) (b : Ac) : chainB (putA l b) 0 (putA l b) = chainB l 0 l := by
  have h1 := chain0 (putA l b)
  have h2 := chain0 l
  rw [putA_names] at h1
  cases e1 : chainB (putA l b) 0 (putA l b) <;> cases e2 : chainB l 0 l <;> simp_all

theorem ins_srt : ∀ {l : List Ac} {b : Ac} {p : Option ByteArray}, srtN p (l.map Ac.name) → (∀ q, p = some q → ordN q b.name < 0) → look l b.name = none → srtN p ((insA l b).map Ac.name)
  | [], b, p, _, hp, _ => by
    cases p with
    | none => exact trivial
    | some q => exact ⟨hp q rfl, trivial⟩
  | a :: l, b, p, h, hp, hk => by
    rw [look] at hk
    split at hk
    · cases hk
    rename_i hne
    have ht : ordN b.name a.name = - ordN a.name b.name := ordL_turn _ _
    have hz : ordN a.name b.name = 0 ↔ a.name = b.name := (ordL_zero _ _).trans keysAt_inj
    have h' : srtN (some a.name) (l.map Ac.name) := by
      cases p with
      | none => exact h
      | some q => exact h.2
    rw [insA]
    split
    · rename_i hlt
      cases p with
      | none => exact ⟨hlt, h'⟩
      | some q => exact ⟨hp q rfl, hlt, h'⟩
    · rename_i hge
      have hab : ordN a.name b.name < 0 := by
        have : ordN a.name b.name ≠ 0 := fun e => hne (hz.1 e)
        omega
      have ih := ins_srt (b := b) (p := some a.name) h' (fun q hq => by cases hq; exact hab) hk
      cases p with
      | none => exact ih
      | some q => exact ⟨h.1, ih⟩

theorem openL_right {l : Lg} {w : ByteArray} {key : List D} {n : Int} (h : (chainB l.accs 0 l.accs && limB l) = true) : (chainB (openL l w key n).1.accs 0 (openL l w key n).1.accs && limB (openL l w key n).1) = true := by
  unfold openL
  split
  · exact h
  rename_i hr
  split
  · exact h
  rename_i hk
  split
  · exact h
  rename_i hl
  unfold limB at *
  simp only [Bool.and_eq_true, decide_eq_true_eq] at h ⊢
  obtain ⟨h1, ⟨⟨⟨h2, h3⟩, h4⟩, h5⟩⟩ := h
  refine ⟨?_, ⟨⟨⟨?_, h3⟩, h4⟩, h5⟩⟩
  · rw [chain0] at h1 ⊢
    refine ⟨?_, ins_srt h1.2 (fun q hq => by cases hq) hk⟩
    intro x hx
    obtain ⟨y, hy, rfl⟩ := List.mem_map.1 hx
    refine insA_all (P := fun a => rightT a.name = true) (fun a ha => h1.1 _ (List.mem_map.2 ⟨a, ha, rfl⟩)) ?_ y hy
    show rightT w = true
    simpa using hr
  · rw [insA_len]
    omega

theorem put_right {l : Lg} {b : Ac} (h : (chainB l.accs 0 l.accs && limB l) = true) : (chainB (putA l.accs b) 0 (putA l.accs b) && limB { l with accs := putA l.accs b }) = true := by
  rw [putA_chain]
  unfold limB at *
  simp only [putA_len]
  exact h
def rightL (l : Lg) : Bool := chainB l.accs 0 l.accs && limB l
theorem giveL_right {l : Lg} {w : ByteArray} {n : Int} (h : rightL l = true) : rightL (giveL l w n).1 = true := by
  unfold giveL
  cases hx : look l.accs w with
  | none => exact h
  | some a =>
    simp only
    split
    · exact put_right h
    · exact h
theorem takeL_right {l : Lg} {w : ByteArray} {n : Int} (h : rightL l = true) : rightL (takeL l w n).1 = true := by
  unfold takeL
  cases hx : look l.accs w with
  | none => exact h
  | some a =>
    simp only
    split
    · exact h
    · exact put_right h
theorem moveL_right {l : Lg} {a b : ByteArray} {n : Int} (h : rightL l = true) : rightL (moveL l a b n).1 = true := by
  unfold moveL
  split
  · exact h
  split
  · exact h
  · exact giveL_right (takeL_right h)
theorem bumpL_right {l : Lg} {w : ByteArray} {n : Int} (h : rightL l = true) : rightL (bumpL l w n).1 = true := by
  unfold bumpL
  cases hx : look l.accs w with
  | none => exact h
  | some a =>
    simp only
    split
    · exact h
    split
    · exact h
    · exact put_right h
theorem spendL_right {l : Lg} {n : Int} (h : rightL l = true) : rightL (spendL l n).1 = true := by
  unfold spendL
  split
  · rename_i hc
    unfold rightL limB at *
    simp only [Bool.and_eq_true, decide_eq_true_eq] at h ⊢
    exact ⟨h.1, ⟨h.2.1.1, hc⟩, h.2.2⟩
  · exact h
theorem tickL_right {l : Lg} {n : Int} (h : rightL l = true) : rightL (tickL l n).1 = true := by
  unfold tickL
  split
  · exact h
  split
  · exact h
  rename_i hc
  split
  · exact h
  · unfold rightL limB at *
    simp only [Bool.and_eq_true, decide_eq_true_eq] at h ⊢
    exact ⟨h.1, ⟨h.2.1.1, by omega⟩, by omega⟩
theorem noteL_right {l : Lg} {e : D} (h : rightL l = true) : rightL (noteL l e) = true := by
  unfold rightL limB noteL at *
  simp only [Bool.and_eq_true, decide_eq_true_eq] at h ⊢
  refine ⟨h.1, ⟨⟨h.2.1.1.1, ?_⟩, h.2.1.2⟩, h.2.2⟩
  simp
  omega
theorem doL_right {l : Lg} {q : Int} {a b : ByteArray} {n : Int} {key : List D} {ev : D} (h : rightL l = true) : rightL (doL l q a b n key ev) = true := by
  unfold doL
  split
  · exact openL_right h
  split
  · exact giveL_right h
  split
  · exact takeL_right h
  split
  · exact moveL_right h
  split
  · exact bumpL_right h
  split
  · exact spendL_right h
  split
  · exact tickL_right h
  split
  · exact noteL_right h
  · exact h
end Go.Proofs.YtmdfpifcghmpfaaDoor
