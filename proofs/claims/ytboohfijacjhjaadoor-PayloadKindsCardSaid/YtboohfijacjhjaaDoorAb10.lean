/-
  An own logic over the kit's 'Calls' (Ab10): elements' places, struct and array literals.
-/
import Derived.Test.YtboohfijacjhjaaDoorAb9
namespace Go.Ab
open Go.RowKit

theorem run_asIntOf (P : Program) (k : IntKind) (i : Int) (w : World) : (asIntOf (.int k i)).run P w = .ok (k, i) w := rfl

theorem run_indexAt_arr {P : Program} {t : TypeId} {i : TI} {cnt e : Nat} (hi : i.fits P t) (hk : i.k = .arr cnt e) {fi : TI} (hfi : fi.fits P e) (b o : Nat) (k : IntKind) (n : Int) (h0 : 0 ≤ n) (h1 : n < cnt) (w : World) :
    (Instr.indexAt t (.pointer (some ⟨b, o, none⟩)) (.int k n)).run P w = .ok (.pointer (some ⟨b, o + n.toNat * fi.size, none⟩)) w := by
  obtain ⟨⟨d, h2, h3⟩, _⟩ := hi
  rw [hk] at h3
  cases d with
  | array len el =>
    simp only [tkOf, TK.arr.injEq] at h3
    obtain ⟨rfl, rfl⟩ := h3
    simp only [Instr.indexAt, Sem.run_bind, run_asIntOf, run_underlying h2, Result.andThen_ok, Instr.sureAddr, Sem.run_pure, Sem.run_ite, if_pos (And.intro h0 h1), run_sizeOf' hfi, addr_add]
  | _ => simp [tkOf] at h3

theorem run_indexAt_sl {P : Program} {t : TypeId} {i : TI} {e : Nat} (hi : i.fits P t) (hk : i.k = .slice e) {fi : TI} (hfi : fi.fits P e) (b o len cap : Nat) (k : IntKind) (n : Int) (h0 : 0 ≤ n) (h1 : n < len) (w : World) :
    (Instr.indexAt t (.slice (some ⟨b, o, none⟩) len cap) (.int k n)).run P w = .ok (.pointer (some ⟨b, o + n.toNat * fi.size, none⟩)) w := by
  obtain ⟨⟨d, h2, h3⟩, _⟩ := hi
  rw [hk] at h3
  cases d with
  | slice el =>
    simp only [tkOf, TK.slice.injEq] at h3
    subst h3
    simp only [Instr.indexAt, Sem.run_bind, run_asIntOf, run_underlying h2, Result.andThen_ok, Sem.run_pure, Sem.run_ite, if_pos (And.intro h0 h1), run_sizeOf' hfi, addr_add]
  | _ => simp [tkOf] at h3

section
variable {B : Base} {N : Nat} {o : Oper} {env : Env} {S : List Blk} {K : Option AV → List Blk → Prop}

theorem rule_indexAddr_arr {t : TypeId} {x ix : Operand} {n : Nat} {p : List Step} {i fi : TI} {cnt e : Nat} {k : IntKind} {j : Int} (hc : B.c.ok) (ho : o.op = .indexAddr t x ix) (hi : B.c.tt t = some i) (hk : i.k = .arr cnt e) (hfi : B.c.tt e = some fi)
    (hx : evalA B.c env x = some (.ptr n p)) (hj : evalA B.c env ix = some (.d (.int k j))) (h0 : 0 ≤ j) (h1 : j < cnt) (h : K (some (.ptr n (p ++ [.ix j.toNat fi.size cnt]))) S) : OpsTo B N o env S K :=
  opsTo_pure h fun μ G a w st => by
    obtain ⟨b, e1, e2, e3, e4⟩ := ((evalA_sound st hx).va (fun l e => by cases e)).ptr_inv
    have e5 := (evalA_sound st hj).vd.int_inv
    refine ⟨.pointer (some ⟨b, offp p + j.toNat * fi.size, none⟩), ?_, ?_⟩
    · simp only [execOp, ho, e4, e5, Sem.run_bind, run_indexAt_arr (hc t i hi) hk (hc e fi hfi) b _ k j h0 h1, Result.andThen_ok, Sem.run_pure]
    · have e : offp p + j.toNat * fi.size = offp (p ++ [.ix j.toNat fi.size cnt]) := by simp [offp_append, offp]
      rw [e]
      exact (VA.of_single (.ptr e1 e2 (fun s hs => by
        rcases List.mem_append.1 hs with hs | hs
        · exact e3 s hs
        · simp at hs; subst hs; show j.toNat < cnt; omega) .nil) rfl).ra (fun l e => by cases e)

theorem cptr_elem {w G sz xs v} (h : VD w G (.sl sz xs) v) {j : Int} (h0 : 0 ≤ j) (h1 : j < xs.length) :
    ∃ b off cap, v = .slice (some ⟨b, off, none⟩) xs.length cap ∧ VD w G (.cptr (xs.getD j.toNat .nilP)) (.pointer (some ⟨b, off + j.toNat * sz, none⟩)) := by
  rcases h.sl_inv with ⟨_, rfl⟩ | ⟨⟨b, off, sp⟩, cap, c, rfl, h2, h3, h4, h5', _, _⟩
  · simp at h1; omega
  · have hsp : sp = none := by
      rcases h5' with h5' | h5'
      · subst h5'; simp at h1; omega
      · exact h5'
    subst hsp
    refine ⟨b, off, cap, rfl, ?_⟩
    have hlt : j.toNat < xs.length := by omega
    obtain ⟨a, m, z, rfl, h5, h6⟩ := h2.sub h3 j.toNat 1 (by omega)
    have e : (xs.drop j.toNat).take 1 = [xs.getD j.toNat .nilP] := by
      rw [List.drop_eq_getElem_cons hlt, List.getD_eq_getElem?_getD, List.getElem?_eq_getElem hlt]
      rfl
    rw [e] at h6
    have := h4.part
    rw [h5] at this
    exact VD.of_single (.cptr h6 this .nil) rfl

theorem rule_indexAddr_sl {t : TypeId} {x ix : Operand} {sz : Nat} {xs : List D} {i fi : TI} {e : Nat} {k : IntKind} {j : Int} {v : AV} (hc : B.c.ok) (ho : o.op = .indexAddr t x ix) (hi : B.c.tt t = some i) (hk : i.k = .slice e) (hfi : B.c.tt e = some fi) (hsz : Nat.beq fi.size sz = true)
    (hx : evalA B.c env x = some v) (hv : AV.toD B.k0 S v = some (.sl sz xs, S)) (hj : evalA B.c env ix = some (.d (.int k j))) (h0 : 0 ≤ j) (h1 : j < xs.length) (h : K (some (.d (.cptr (xs.getD j.toNat .nilP)))) S) : OpsTo B N o env S K :=
  opsTo_value fun μ G a w st => by
    have hnt : ∀ l, v ≠ .tup l := fun l e => by subst e; simp [AV.toD] at hv
    have hva := (evalA_sound st hx).va hnt
    obtain ⟨G', g1, g2, g3⟩ := toD_sound v hv st.st hva.1
    have e5 := (evalA_sound st hj).vd.int_inv
    have hvd : VD w G' (.sl sz xs) (a.eval x) := ⟨g3, by rw [hva.2]; exact (toD_isAgg hv).symm⟩
    obtain ⟨b, off, cap, e1, e2⟩ := cptr_elem hvd h0 h1
    refine ⟨_, w, μ, G', _, S, ?_, h, g1, g2, e2.ra⟩
    have e3 := run_indexAt_sl (hc t i hi) hk (hc e fi hfi) b off xs.length cap k j h0 h1 w
    rw [beq_true hsz] at e3
    simp only [execOp, ho, e1, e5, Sem.run_bind, e3, Result.andThen_ok, Sem.run_pure]

end

/-- A row of values written over an array's cells. -/
theorem foldl_set (off : Nat) : ∀ (vs : List Value) (k : Nat) (cells : Array Value), off + k + vs.length ≤ cells.size →
    ((vs.zipIdx k).foldl (fun (cs : Array Value) (p : Value × Nat) => cs.setIfInBounds (off + p.2) p.1) cells).toList = cells.toList.take (off + k) ++ (vs ++ cells.toList.drop (off + k + vs.length))
  | [], k, cells, _ => by simp
  | v :: vs, k, cells, h => by
    simp only [List.zipIdx_cons, List.foldl_cons]
    rw [foldl_set off vs (k + 1) _ (by simp at h ⊢; omega)]
    simp only [Array.toList_setIfInBounds, List.length_cons]
    have hlt : off + k < cells.toList.length := by simp at h ⊢; omega
    rw [List.take_set, List.drop_set, if_pos (by omega)]
    have e1 : (cells.toList.take (off + (k + 1))).set (off + k) v = cells.toList.take (off + k) ++ [v] := by
      rw [← Nat.add_assoc, List.take_add_one, List.getElem?_eq_getElem hlt]
      simp only [Option.toList_some]
      rw [List.set_append_right _ _ (by simp; omega)]
      have e3 : off + k - (cells.toList.take (off + k)).length = 0 := by simp at hlt ⊢; omega
      rw [e3]
      rfl
    rw [e1]
    have e2 : off + (k + 1) + vs.length = off + k + (vs.length + 1) := by omega
    rw [e2]
    simp

def fillA (ρ : Operand → Option AV) (st : Nat → Option (Step × Nat)) : List (Nat × Operand) → AV → Option AV
  | [], x => some x
  | (i, o) :: r, x => match st i with
    | some (s, sz) => match ρ o with
      | some v => match notTup v && Nat.beq v.size sz with
        | true => match x.setP [s] v with
          | some x' => fillA ρ st r x'
          | none => none
        | false => none
      | none => none
    | none => none

theorem fill_sound {B : Base} {N : Nat} {env : Env} {S μ G a w} (h : At1 B N env S μ G a w) {st : Nat → Option (Step × Nat)} {place : Nat → Option (Nat × Nat)}
    (hp : ∀ i s sz, st i = some (s, sz) → s.ok ∧ place i = some (offs s, sz)) : ∀ (parts : List (Nat × Operand)) (x x' : AV) (cells : Array Value), fillA (evalA B.c env) st parts x = some x' → CA μ S.length w G [x] cells.toList →
    ∃ cells', Instr.fill place cells (parts.map fun p => (p.1, a.eval p.2)) = some cells' ∧ CA μ S.length w G [x'] cells'.toList ∧ x'.size = x.size ∧ x'.isAgg = x.isAgg
  | [], x, x', cells, hf, hx => by simp only [fillA] at hf; cases hf; exact ⟨cells, rfl, hx, rfl, rfl⟩
  | (i, o) :: r, x, x', cells, hf, hx => by
    simp only [fillA] at hf
    split at hf
    case h_2 => cases hf
    rename_i s sz hs
    split at hf
    case h_2 => cases hf
    rename_i v hv
    split at hf
    case h_2 => cases hf
    rename_i hb
    simp only [Bool.and_eq_true] at hb
    split at hf
    case h_2 => cases hf
    rename_i x1 hx1
    obtain ⟨hok, hpl⟩ := hp i s sz hs
    have hva := (evalA_sound h hv).va (notTup_spec hb.1)
    have hvsz : (a.eval o).cells.size = sz := by rw [hva.size]; exact beq_true hb.2
    cases hg : x.getS s with
    | none => simp [AV.setP, hg] at hx1
    | some y =>
    have hgp : x.getP [s] = some y := by simp [AV.getP, hg]
    obtain ⟨c1, c2, c3, e1, e2, e3, e4⟩ := hx.getP hgp (fun t ht => by simp at ht; subst ht; exact hok)
    obtain ⟨f1, f2, f3, f4⟩ := e4 v _ x1 hva.1 hx1
    have hl2 : c2.length = (a.eval o).cells.toList.length := by
      have q1 := e3.length; have q2 := hva.1.length; simp [AV.sizes] at q1 q2; simp; omega
    have hoff : c1.length = offs s := by rw [e2, offp_cons]; rfl
    have hsize : offs s + (a.eval o).cells.toList.length ≤ cells.size := by
      have := congrArg List.length e1
      simp at this hl2
      simp
      omega
    have hfold := foldl_set (offs s) (a.eval o).cells.toList 0 cells (by simpa using hsize)
    simp only [Nat.add_zero] at hfold
    have hcells1 : ((a.eval o).cells.zipIdx.foldl (fun cs (c, j) => cs.setIfInBounds (offs s + j) c) cells).toList = c1 ++ ((a.eval o).cells.toList ++ c3) := by
      rw [← Array.foldl_toList, Array.toList_zipIdx]
      refine Eq.trans ?_ (hfold.trans ?_)
      · rfl
      · rw [e1, ← hoff, ← hl2, List.take_left, ← List.append_assoc c1 c2, ← List.length_append, List.drop_left]
    have hx1' : CA μ S.length w G [x1] ((a.eval o).cells.zipIdx.foldl (fun cs (c, j) => cs.setIfInBounds (offs s + j) c) cells).toList := by rw [hcells1]; exact f1
    obtain ⟨cells', g1, g2, g3, g4⟩ := fill_sound h hp r x1 x' _ hf hx1'
    refine ⟨cells', ?_, g2, g3.trans f2, g4.trans f3⟩
    simp only [List.map_cons, Instr.fill, hpl]
    rw [if_neg]
    · exact g1
    · simp only [ne_eq, Bool.or_eq_true, decide_eq_true_eq, not_or, Nat.not_lt]
      simp at hsize
      exact ⟨by simp [hvsz], hsize⟩

/-- The places of a struct's fields. -/
def stepOf (c : Ctx) (fs : List (Nat × Nat × Bool)) (i : Nat) : Option (Step × Nat) :=
  match fs[i]? with
  | some (off, ft, _) => match c.tt ft with
    | some fi => some (.fld i off, fi.size)
    | none => none
  | none => none

def allKnown (c : Ctx) : List (Nat × Nat × Bool) → Bool
  | [] => true
  | (_, ft, _) :: r => (c.tt ft).isSome && allKnown c r

theorem run_places {c : Ctx} (hc : c.ok) : ∀ (fs : List Field) (w : World), allKnown c (fs.map fun f => (f.offset, f.type, f.name == "_")) = true →
    ∃ ps : List (Nat × Nat), (fs.mapM (fun f => do pure (f.offset, ← sizeOf f.type) : Field → Sem (Nat × Nat))).run c.P w = .ok ps w ∧
      ∀ (i off ft : Nat) (nm : Bool) (fi : TI), (fs.map fun f => (f.offset, f.type, f.name == "_"))[i]? = some (off, ft, nm) → c.tt ft = some fi → ps[i]? = some (off, fi.size)
  | [], w, _ => ⟨[], by simp, by simp⟩
  | f :: fs, w, h => by
    simp only [List.map_cons, allKnown, Bool.and_eq_true] at h
    obtain ⟨h1, h2⟩ := h
    obtain ⟨fi, hfi⟩ := Option.isSome_iff_exists.1 h1
    obtain ⟨ps, g1, g2⟩ := run_places hc fs w h2
    refine ⟨(f.offset, fi.size) :: ps, ?_, ?_⟩
    · simp only [List.mapM_cons, Sem.run_bind, run_sizeOf' (hc _ _ hfi), Result.andThen_ok, Sem.run_pure]
      rw [g1]
      rfl
    · intro i off ft nm fi' hi hf
      cases i with
      | zero =>
        simp at hi
        obtain ⟨rfl, rfl, _⟩ := hi
        rw [hfi] at hf
        cases hf
        simp
      | succ i => simpa using g2 i off ft nm fi' (by simpa using hi) hf

section
variable {B : Base} {N : Nat} {o : Oper} {env : Env} {S : List Blk} {K : Option AV → List Blk → Prop}

theorem rule_build {t : TypeId} {parts : Array (Nat × Operand)} {i : TI} {fs : List (Nat × Nat × Bool)} {z : D} {x : AV} (hc : B.c.ok) (ho : o.op = .build t parts) (hi : B.c.tt t = some i) (hk : i.k = .struct fs) (hz : i.zero = some z) (ha : z.isAgg = true)
    (hall : allKnown B.c fs = true) (hf : fillA (evalA B.c env) (stepOf B.c fs) parts.toList (.d z) = some x) (h : K (some x) S) : OpsTo B N o env S K :=
  opsTo_pure h fun μ G a w st => by
    obtain ⟨⟨d, h1, h2⟩, info, h3, h4, h5, h6⟩ := hc t i hi
    obtain ⟨zv, h7, h8⟩ := h6 z hz
    rw [hk] at h2
    cases d with
    | struct fields =>
      simp only [tkOf, TK.struct.injEq] at h2
      obtain ⟨ps, g1, g2⟩ := run_places hc fields.toList w (by rw [h2]; exact hall)
      have hzc : CA μ S.length w G [.d z] zv.cells.toList := CA.d_iff.2 (h8 w G).1
      obtain ⟨cells', e1, e2, e3, e4⟩ := fill_sound st (st := stepOf B.c fs) (place := fun i => ps[i]?) (fun i s sz hs => by
        unfold stepOf at hs
        split at hs
        · rename_i off ft nm hfs
          split at hs
          · rename_i fi hfi
            cases hs
            exact ⟨trivial, g2 i off ft nm fi (by rw [h2]; exact hfs) hfi⟩
          · cases hs
        · cases hs) parts.toList (.d z) x zv.cells hf hzc
      refine ⟨.agg cells', ?_, ?_⟩
      · simp only [execOp, ho, Sem.run_bind, Instr.build, zeroValue, typeInfo, run_program, Result.andThen_ok, h3, h7, Sem.run_pure, run_underlying h1, Array.mapM_eq_mapM_toList, Sem.run_map]
        rw [g1]
        simp only [Result.andThen_ok, List.getElem?_toArray, Array.toList_map]
        rw [e1]
        rfl
      · have hxa : x.isAgg = true := by rw [e4]; exact ha
        have hnt : ∀ l, x ≠ .tup l := fun l e => by subst e; cases hxa
        have := VA.of_agg e2 hxa
        rw [Array.toArray_toList] at this
        exact this.ra hnt
    | _ => simp [tkOf] at h2

/-- The places of an array's elements. -/
def stepArr (n sz : Nat) (i : Nat) : Option (Step × Nat) :=
  match Nat.blt i n with
  | true => some (.ix i sz n, sz)
  | false => none

theorem rule_buildA {t : TypeId} {parts : Array (Nat × Operand)} {i fi : TI} {n e : Nat} {z : D} {x : AV} (hc : B.c.ok) (ho : o.op = .build t parts) (hi : B.c.tt t = some i) (hk : i.k = .arr n e) (hfi : B.c.tt e = some fi) (hz : i.zero = some z) (ha : z.isAgg = true)
    (hf : fillA (evalA B.c env) (stepArr n fi.size) parts.toList (.d z) = some x) (h : K (some x) S) : OpsTo B N o env S K :=
  opsTo_pure h fun μ G a w st => by
    obtain ⟨⟨d, h1, h2⟩, info, h3, h4, h5, h6⟩ := hc t i hi
    obtain ⟨zv, h7, h8⟩ := h6 z hz
    rw [hk] at h2
    cases d with
    | array len el =>
      simp only [tkOf, TK.arr.injEq] at h2
      obtain ⟨rfl, rfl⟩ := h2
      have hzc : CA μ S.length w G [.d z] zv.cells.toList := CA.d_iff.2 (h8 w G).1
      obtain ⟨cells', e1, e2, e3, e4⟩ := fill_sound st (st := stepArr len fi.size) (place := fun i => some (i * fi.size, fi.size)) (fun i s sz hs => by
        unfold stepArr at hs
        split at hs
        · rename_i hb
          cases hs
          exact ⟨Nat.le_of_ble_eq_true hb, rfl⟩
        · cases hs) parts.toList (.d z) x zv.cells hf hzc
      refine ⟨.agg cells', ?_, ?_⟩
      · simp only [execOp, ho, Sem.run_bind, Instr.build, zeroValue, typeInfo, run_program, Result.andThen_ok, h3, h7, Sem.run_pure, run_underlying h1, run_sizeOf' (hc el fi hfi), Array.toList_map]
        rw [e1]
        rfl
      · have hxa : x.isAgg = true := by rw [e4]; exact ha
        have hnt : ∀ l, x ≠ .tup l := fun l e => by subst e; cases hxa
        have := VA.of_agg e2 hxa
        rw [Array.toArray_toList] at this
        exact this.ra hnt
    | _ => simp [tkOf] at h2

end

end Go.Ab
