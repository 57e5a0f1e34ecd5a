/-
  An own logic over the kit's 'Calls' (Ab7): what values are as data; the operations.
-/
import Derived.Test.YtboohfijacjhjaaDoorAb6
import Derived.Laws.Strings
namespace Go.Ab
open Go.RowKit

theorem opsTo_value {B : Base} {N : Nat} {o : Oper} {env : Env} {S : List Blk} {K : Option AV → List Blk → Prop}
    (h : ∀ (μ : Nat → Value) (G : Nat → Nat → Prop) (a : Act) (w : World), At1 B N env S μ G a w → ∃ v w' μ' G' x S', (execOp a.eval o).run B.c.P w = .ok (.value v) w' ∧ K (some x) S' ∧
      St B S' μ' G' w' ∧ Later S μ G w S' μ' G' w' ∧ RA μ' S'.length w' G' x v) : OpsTo B N o env S K := by
  intro μ G a w st next Q hn
  obtain ⟨v, w', μ', G', x, S', h1, h2, h3, h4, h5⟩ := h μ G a w st
  unfold Oper.wp
  rw [h1, Oper.upon_value]
  exact hn (some x) S' μ' G' v w' h2 h3 h4 (fun y hy => by cases hy; exact h5)

/-- An operation that leaves the world alone. -/
theorem opsTo_pure {B : Base} {N : Nat} {o : Oper} {env : Env} {S : List Blk} {K : Option AV → List Blk → Prop} {x : AV} (hk : K (some x) S)
    (h : ∀ (μ : Nat → Value) (G : Nat → Nat → Prop) (a : Act) (w : World), At1 B N env S μ G a w → ∃ v, (execOp a.eval o).run B.c.P w = .ok (.value v) w ∧ RA μ S.length w G x v) : OpsTo B N o env S K :=
  opsTo_value fun μ G a w st => let ⟨v, h1, h2⟩ := h μ G a w st; ⟨v, w, μ, G, x, S, h1, hk, st.st, Later.refl _ _ _ _, h2⟩

theorem opsTo_skip {B : Base} {N : Nat} {o : Oper} {env : Env} {S : List Blk} {K : Option AV → List Blk → Prop}
    (h : ∀ (μ : Nat → Value) (G : Nat → Nat → Prop) (a : Act) (w : World), At1 B N env S μ G a w → ∃ w' μ' G' S', (execOp a.eval o).run B.c.P w = .ok .skip w' ∧ K none S' ∧
      St B S' μ' G' w' ∧ Later S μ G w S' μ' G' w') : OpsTo B N o env S K := by
  intro μ G a w st next Q hn
  obtain ⟨w', μ', G', S', h1, h2, h3, h4⟩ := h μ G a w st
  unfold Oper.wp
  rw [h1, Oper.upon_skip]
  exact hn none S' μ' G' _ w' h2 h3 h4 (fun y hy => by cases hy)

theorem OpsTo.mono {B N o env S K K'} (h : OpsTo B N o env S K) (hk : ∀ x S', K x S' → K' x S') : OpsTo B N o env S K' :=
  fun μ G a w st next Q hn => h μ G a w st next Q fun x S' μ' G' v w' h1 => hn x S' μ' G' v w' (hk x S' h1)

theorem RA.va {μ k w G x v} (h : RA μ k w G x v) (hx : ∀ l, x ≠ .tup l) : VA μ k w G x v := by
  cases x with
  | tup l => exact absurd rfl (hx l)
  | _ => exact h

theorem VA.ra {μ k w G x v} (h : VA μ k w G x v) (hx : ∀ l, x ≠ .tup l) : RA μ k w G x v := by
  cases x with
  | tup l => exact absurd rfl (hx l)
  | _ => exact h

theorem RA.vd {μ k w G x v} (h : RA μ k w G (.d x) v) : VD w G x v := VA.d_iff.1 h
theorem VD.ra {μ k w G x v} (h : VD w G x v) : RA μ k w G (.d x) v := VA.d_iff.2 h

theorem evalA_sound {B : Base} {N : Nat} {env : Env} {S μ G a w} (h : At1 B N env S μ G a w) {x : Operand} {v : AV} (hv : evalA B.c env x = some v) : RA μ S.length w G v (a.eval x) := by
  cases x with
  | tmp t =>
    obtain ⟨u, h1, h2⟩ := h.env t v hv
    have : a.eval (.tmp t) = u := by
      obtain ⟨e1, e2⟩ := Array.getElem?_eq_some_iff.1 h1
      simp [Act.eval, Array.getD, e1, e2]
    rw [this]; exact h2
  | const c =>
    simp only [evalA] at hv
    show RA μ S.length w G v c
    unfold constAV at hv
    split at hv <;> cases hv <;> refine VD.ra (VD.of_single ?_ rfl)
    · exact .bool .nil
    · exact .int .nil
    · exact .str .nil
    · exact .nilP .nil
    · exact .slnil .nil
    · exact .nilI .nil
    · exact .nilF .nil
  | global g =>
    simp only [evalA] at hv
    split at hv
    · rename_i y hy; cases hv; exact VD.ra (h.st.glob g y hy)
    · cases hv
  | func f =>
    simp only [evalA] at hv
    cases hv
    show RA μ S.length w G (.fn f []) (.func (.func f) #[] #[])
    exact (VA.of_single (by simpa using CA.fn (caps := []) (by simp) .nil) rfl).ra (fun l h => by cases h)

/-- The inversions: what a known shape is as a value. -/
theorem VD.int_inv {w G k n v} (h : VD w G (.int k n) v) : v = .int k n := by
  rcases h.inv with ⟨h1, _⟩ | ⟨_, h1, _⟩
  · simp [D.isAgg] at h1
  · cases h1; rfl
theorem VD.bool_inv {w G b v} (h : VD w G (.bool b) v) : v = .bool b := by
  rcases h.inv with ⟨h1, _⟩ | ⟨_, h1, _⟩
  · simp [D.isAgg] at h1
  · cases h1; rfl
theorem VD.str_inv {w G s v} (h : VD w G (.str s) v) : v = .string s := by
  rcases h.inv with ⟨h1, _⟩ | ⟨_, h1, _⟩
  · simp [D.isAgg] at h1
  · cases h1; rfl
theorem VD.nilP_inv {w G v} (h : VD w G .nilP v) : v = .pointer none := by
  rcases h.inv with ⟨h1, _⟩ | ⟨_, h1, _⟩
  · simp [D.isAgg] at h1
  · cases h1; rfl
theorem VD.nilI_inv {w G v} (h : VD w G .nilI v) : v = .nilIface := by
  rcases h.inv with ⟨h1, _⟩ | ⟨_, h1, _⟩
  · simp [D.isAgg] at h1
  · cases h1; rfl
theorem VD.iface_inv {w G t x v} (h : VD w G (.iface t x) v) : ∃ u, v = .iface t u ∧ VD w G x u := by
  rcases h.inv with ⟨h1, _⟩ | ⟨_, h1, _⟩
  · simp [D.isAgg] at h1
  · cases h1 with | iface h2 h3 _ => exact ⟨_, rfl, h2, h3⟩
theorem VD.cptr_inv {w G x v} (h : VD w G (.cptr x) v) : ∃ b off c, v = .pointer (some ⟨b, off, none⟩) ∧ CL w G [x] c ∧ At w G b off c := by
  rcases h.inv with ⟨h1, _⟩ | ⟨_, h1, _⟩
  · simp [D.isAgg] at h1
  · cases h1 with | cptr h2 h3 _ => exact ⟨_, _, _, rfl, h2, h3⟩
theorem VD.sl_inv {w G sz xs v} (h : VD w G (.sl sz xs) v) : (v = .slice none 0 0 ∧ xs = []) ∨
    ∃ a cap c, v = .slice (some a) xs.length cap ∧ CL w G xs c ∧ (∀ x ∈ xs, x.size = sz) ∧ At w G a.block a.off c ∧ (xs = [] ∨ a.spot = none) ∧ xs.length ≤ cap ∧ cap ≤ maxLen := by
  rcases h.inv with ⟨h1, _⟩ | ⟨_, h1, _⟩
  · simp [D.isAgg] at h1
  · cases h1 with
    | slnil => exact .inl ⟨rfl, rfl⟩
    | sl h2 h3 h4 h5 h6 h7 h8 _ => subst h3; exact .inr ⟨_, _, _, rfl, h2, h4, h5, h6, h7, h8⟩

theorem VD.int {w G k n} : VD w G (.int k n) (.int k n) := VD.of_single (.int .nil) rfl
theorem VD.bool {w G b} : VD w G (.bool b) (.bool b) := VD.of_single (.bool .nil) rfl
theorem VD.str {w G s} : VD w G (.str s) (.string s) := VD.of_single (.str .nil) rfl

/-- Part of a list of cells. -/
theorem CL.sub {w G xs c sz} (h : CL w G xs c) (hs : ∀ x ∈ xs, x.size = sz) (lo len : Nat) (hl : lo + len ≤ xs.length) :
    ∃ a m z, c = a ++ (m ++ z) ∧ a.length = lo * sz ∧ CL w G ((xs.drop lo).take len) m := by
  have e : xs = xs.take lo ++ ((xs.drop lo).take len ++ (xs.drop lo).drop len) := by rw [List.take_append_drop, List.take_append_drop]
  rw [e] at h
  obtain ⟨a, d, rfl, h1, h2⟩ := CL.append_inv h
  obtain ⟨m, z, rfl, h3, h4⟩ := CL.append_inv h2
  refine ⟨a, m, z, rfl, ?_, h3⟩
  rw [h1.length, D.sizes_uniform (sz := sz) fun x hx => hs x (List.mem_of_mem_take hx)]
  simp [Nat.min_eq_left (by omega : lo ≤ xs.length)]

theorem At.part {w G b off} {a m z : List Value} (h : At w G b off (a ++ (m ++ z))) : At w G b (off + a.length) m := by
  intro j v hj
  have := h (a.length + j) v (by simpa using pieces_get (s := []) hj)
  rw [← Nat.add_assoc] at this
  exact this

theorem sl_of_part {w G xs c sz b off cap} (h : CL w G xs c) (hs : ∀ x ∈ xs, x.size = sz) (hat : At w G b off c) (lo len : Nat) (hl : lo + len ≤ xs.length) (hc : len ≤ cap) (hm : cap ≤ maxLen) :
    VD w G (.sl sz ((xs.drop lo).take len)) (.slice (some ⟨b, off + lo * sz, none⟩) len cap) := by
  obtain ⟨a, m, z, rfl, h1, h2⟩ := h.sub hs lo len hl
  refine VD.of_single ?_ rfl
  refine .sl (a := ⟨b, off + lo * sz, none⟩) h2 (by simp; omega) (fun x hx => hs x (List.mem_of_mem_drop (List.mem_of_mem_take hx))) ?_ (.inr rfl) hc hm .nil
  show At w G b (off + lo * sz) m
  rw [← h1]
  exact hat.part

/-- A row as a slice. -/
theorem BlkOk.row_view {μ k w G v e sz xs} (h : BlkOk μ k w G v (.row e sz xs)) : VD w G (.sl sz xs) v := by
  obtain ⟨cs, ⟨h1, h2⟩, h3, h4, h5⟩ := h
  rcases h2 with ⟨rfl, h0⟩ | ⟨g, cap, cur, rfl, _, hh, hn, hm, _, ht⟩
  · have : xs = [] := List.eq_nil_of_length_eq_zero h0
    subst this
    exact VD.of_single (.slnil .nil) rfl
  · refine VD.of_single (.sl h3 rfl h4 ?_ (.inr rfl) hn hm .nil) rfl
    intro j v hj
    show w.cell? ⟨g, 0 + j, none⟩ = some v ∧ G g (0 + j)
    refine ⟨?_, h5 g rfl _ (by have := (List.getElem?_eq_some_iff.1 hj).1; omega)⟩
    rw [cell_of_block hh, Nat.zero_add, ← Array.getElem?_toList]
    rw [← ht] at hj
    rw [List.getElem?_take] at hj
    split at hj
    · exact hj
    · cases hj

mutual
def AV.toD (k0 : Nat) (S : List Blk) : AV → Option (D × List Blk)
  | .d x => some (x, S)
  | .row n => match S[n]? with
    | some (.row _ sz xs) => some (.sl sz xs, S)
    | some (.sealed (.sl sz xs)) => some (.sl sz xs, S)
    | _ => none
  | .vw n [] lo len cnt sz => match S[n]? with
    | some (.var (.d (.arr cnt' sz' xs))) => match Nat.beq cnt cnt' && Nat.beq sz sz' && Nat.ble k0 n with
      | true => some (.sl sz ((xs.drop lo).take len), S.set n (.sealed (.cptr (.arr cnt sz xs))))
      | false => none
    | some (.sealed (.cptr (.arr cnt' sz' xs))) => match Nat.beq cnt cnt' && Nat.beq sz sz' with
      | true => some (.sl sz ((xs.drop lo).take len), S)
      | false => none
    | _ => none
  | .agg l => match AV.toDs k0 S l with | some (ds, S') => some (.agg ds, S') | none => none
  | _ => none
def AV.toDs (k0 : Nat) (S : List Blk) : List AV → Option (List D × List Blk)
  | [] => some ([], S)
  | x :: l => match x.toD k0 S with
    | some (y, S') => match AV.toDs k0 S' l with
      | some (ys, S'') => some (y :: ys, S'')
      | none => none
    | none => none
end

theorem toD_isAgg {k0 S x y S'} (h : AV.toD k0 S x = some (y, S')) : y.isAgg = x.isAgg := by
  cases x with
  | d x => simp only [AV.toD] at h; cases h; rfl
  | row n => simp only [AV.toD] at h; split at h <;> cases h <;> rfl
  | vw n p lo len cnt sz =>
    cases p with
    | nil => simp only [AV.toD] at h; split at h <;> (try (split at h)) <;> cases h <;> rfl
    | cons => simp only [AV.toD] at h; cases h
  | agg l => simp only [AV.toD] at h; split at h <;> cases h; rfl
  | _ => simp only [AV.toD] at h; cases h

theorem toD_sound {B : Base} {w : World} : ∀ (x : AV) {S S' : List Blk} {μ : Nat → Value} {G : Nat → Nat → Prop} {y : D} {c : List Value}, AV.toD B.k0 S x = some (y, S') → St B S μ G w → CA μ S.length w G [x] c →
    ∃ G', St B S' μ G' w ∧ Later S μ G w S' μ G' w ∧ CL w G' [y] c
  | .d x, S, S', μ, G, y, c, h, st, hc => by
    simp only [AV.toD] at h; cases h; exact ⟨G, st, Later.refl _ _ _ _, CA.d_iff.1 hc⟩
  | .row n, S, S', μ, G, y, c, h, st, hc => by
    simp only [AV.toD] at h
    have hv : c = [μ n] := by
      cases hc with
      | row h1 h2 h3 => cases h3; rw [h2]
    have hcells : (μ n).cells = #[μ n] := by
      cases hc with
      | row h1 h2 h3 => rw [h2]; rfl
    split at h
    · rename_i sz xs hs
      cases h
      have := (st.blks n _ hs).row_view
      refine ⟨G, st, Later.refl _ _ _ _, ?_⟩
      have h1 := this.1
      rw [hcells] at h1
      rw [hv]; exact h1
    · rename_i sz xs hs
      cases h
      have : VD w G (.sl sz xs) (μ n) := st.blks n _ hs
      refine ⟨G, st, Later.refl _ _ _ _, ?_⟩
      have h1 := this.1
      rw [hcells] at h1
      rw [hv]; exact h1
    · cases h
  | .vw n p lo len cnt sz, S, S', μ, G, y, c, h, st, hc => by
    cases p with
    | cons => simp only [AV.toD] at h; cases h
    | nil =>
    simp only [AV.toD] at h
    cases hc with
    | @vw _ _ b _ _ _ _ cap _ cs h1 h2 h3 h4 h5 h6 h7 =>
    cases h7
    simp only [offp, Nat.zero_add]
    split at h
    · rename_i cnt' sz' xs hs
      split at h
      case h_2 => cases h
      rename_i hb
      simp only [Bool.and_eq_true] at hb
      obtain ⟨⟨hb1, hb2⟩, hb3⟩ := hb
      have hb1 := beq_true hb1
      have hb2 := beq_true hb2
      have hb3 := Nat.le_of_ble_eq_true hb3
      subst hb1; subst hb2
      cases h
      obtain ⟨b', cells, T, l, s, e1, e2, e3, e4⟩ := st.blks n _ hs
      have hbb : b' = b := by rw [h2] at e1; simp at e1; exact e1.symm
      subst hbb
      have e5 := CA.d_iff.1 e4
      have hlt : b' < w.heap.size := (Array.getElem?_eq_some_iff.1 e2).1
      let G' : Nat → Nat → Prop := fun k o => G k o ∨ k = b'
      have hG : ∀ k o, G k o → G' k o := fun _ _ h => .inl h
      have hmono : CL w G' [.arr cnt sz xs] l := e5.mono hG (fun _ _ _ _ h => h)
      have hat : At w G' b' 0 l := fun j v hj => ⟨by
        rw [cell_of_block e2, Nat.zero_add, ← Array.getElem?_toList, e3, List.getElem?_append_left (List.getElem?_eq_some_iff.1 hj).1]; exact hj, .inr rfl⟩
      have hseal : BlkOk μ S.length w G' (μ n) (.sealed (.cptr (.arr cnt sz xs))) := by
        rw [h2]
        exact VD.of_single (.cptr hmono hat .nil) rfl
      refine ⟨G', st.drop h1 rfl hG (fun k o hk => ?_) hseal, ⟨by simp, fun _ _ => rfl, hG, fun _ _ _ _ h => h⟩, ?_⟩
      · rcases hk with hk | rfl
        · exact .inl hk
        · exact .inr ⟨_, hs, rfl, by rw [h2]; rfl, hb3, hlt⟩
      · cases hmono with
        | arr g1 g2 g3 g4 =>
        cases g4
        rw [List.append_nil] at hat
        have := sl_of_part g1 g3 hat lo len (by omega) (by omega) h6
        simpa [VD, Value.cells] using this.1
    · rename_i cnt' sz' xs hs
      split at h
      case h_2 => cases h
      rename_i hb
      simp only [Bool.and_eq_true] at hb
      have hb1 := beq_true hb.1
      have hb2 := beq_true hb.2
      subst hb1; subst hb2
      cases h
      have hsd : VD w G (.cptr (.arr cnt sz xs)) (μ n) := st.blks n _ hs
      rw [h2] at hsd
      obtain ⟨b', off, c', e1, e2, e3⟩ := hsd.cptr_inv
      simp at e1
      obtain ⟨rfl, rfl⟩ := e1
      refine ⟨G, st, Later.refl _ _ _ _, ?_⟩
      cases e2 with
      | arr g1 g2 g3 g4 =>
      cases g4
      rw [List.append_nil] at e3
      have := sl_of_part g1 g3 e3 lo len (by omega) (by omega) h6
      simpa [VD, Value.cells] using this.1
    · cases h
  | .agg l, S, S', μ, G, y, c, h, st, hc => by
    simp only [AV.toD] at h
    split at h
    case h_2 => cases h
    rename_i ds S1 hs
    cases h
    cases hc with
    | agg h1 h2 =>
    cases h2
    obtain ⟨G', g1, g2, g3⟩ := toDs_sound l hs st h1
    exact ⟨G', g1, g2, by simpa using CL.agg g3 .nil⟩
  | .ptr .., _, _, _, _, _, _, h, _, _ => by simp only [AV.toD] at h; cases h
  | .fn .., _, _, _, _, _, _, h, _, _ => by simp only [AV.toD] at h; cases h
  | .tup _, _, _, _, _, _, _, h, _, _ => by simp only [AV.toD] at h; cases h
where
  toDs_sound {B : Base} {w : World} : ∀ (l : List AV) {S S' : List Blk} {μ : Nat → Value} {G : Nat → Nat → Prop} {ys : List D} {c : List Value}, AV.toDs B.k0 S l = some (ys, S') → St B S μ G w → CA μ S.length w G l c →
    ∃ G', St B S' μ G' w ∧ Later S μ G w S' μ G' w ∧ CL w G' ys c
  | [], S, S', μ, G, ys, c, h, st, hc => by
    simp only [AV.toDs] at h; cases h; cases hc; exact ⟨G, st, Later.refl _ _ _ _, .nil⟩
  | x :: l, S, S', μ, G, ys, c, h, st, hc => by
    simp only [AV.toDs] at h
    split at h
    case h_2 => cases h
    rename_i y S1 h1
    split at h
    case h_2 => cases h
    rename_i ys1 S2 h2
    cases h
    obtain ⟨c1, c2, rfl, g1, g2⟩ := hc.cons_inv
    obtain ⟨G1, a1, a2, a3⟩ := toD_sound x h1 st g1
    obtain ⟨G2, b1, b2, b3⟩ := toDs_sound l h2 a1 (g2.mono a2.k (fun i hi _ => a2.μ i hi) a2.g a2.cells)
    exact ⟨G2, b1, a2.trans b2, CL.append (a3.mono b2.g b2.cells) b3⟩

end Go.Ab
