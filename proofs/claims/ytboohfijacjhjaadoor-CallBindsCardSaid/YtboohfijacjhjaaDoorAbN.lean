/- An own logic, part of maps of one's own whose keys are digests (arrays of 32 bytes). -/
import Derived.Test.YtboohfijacjhjaaDoorAbC
import Derived.Maps.Keyed
import Derived.DeepKeys3
set_option linter.unusedVariables false
namespace Go.Ab
open Go.RowKit

/-- A type of keys: digests. -/
def KeyOk (P : Program) (kt : TypeId) : Prop := Maps.Keyed P kt ∧ ∀ b : ByteArray, b.size = 32 → ∃ l, keyOf P kt (keyV b) = some l

theorem mapM_some {α β : Type} {f : α → Option β} : ∀ (l : List α), (∀ i ∈ l, ∃ y, f i = some y) → ∃ L, l.mapM f = some L
  | [], _ => ⟨[], rfl⟩
  | x :: l, h => by
    obtain ⟨y, hy⟩ := h x (by simp)
    obtain ⟨L, hL⟩ := mapM_some l fun i hi => h i (by simp [hi])
    exact ⟨y :: L, by rw [List.mapM_cons, hy, hL]; rfl⟩

/-- A digest is a key. -/
theorem keyOf_dig {P : Program} {k e : TypeId} {n : Nat} (h1 : P.underlying k = some (.array 32 e)) (h2 : P.underlying e = some (.int .u8)) (h3 : P.cellsOf e = 1) (h4 : P.cellsOf k = 32) (h5 : P.keyType k = true) (h6 : P.types.size = n + 1) {b : ByteArray} (hb : b.size = 32) :
    ∃ l, keyOf P k (keyV b) = some l := by
  have hd : b.data.size = 32 := hb
  have hf : (keyV b).formed P k = true := by
    unfold keyV Value.formed
    simp [h1, h4, hd]
  have hlen : (keyV b).cells.toList.length = 32 := by
    simp [keyV, Value.cells, hd]
  have hL : ∃ L, P.keyLits (P.types.size + 1) k (keyV b).cells.toList = some L := by
    rw [h6]
    unfold Program.keyLits
    simp only [h1]
    rw [if_pos (by rw [hlen, h4])]
    obtain ⟨L, hL⟩ := mapM_some (f := fun i => P.keyLits (n + 1) e (((keyV b).cells.toList.drop (i * P.cellsOf e)).take (P.cellsOf e))) (List.range 32) (fun i hi => by
      have hi := List.mem_range.1 hi
      rw [h3, Nat.mul_one]
      have hx : ((keyV b).cells.toList.drop i).take 1 = [.int .u8 ((b.data[i]'(by omega)).toNat : Int)] := by
        rw [List.drop_eq_getElem_cons (by omega)]
        simp [keyV, Value.cells]
      rw [hx]
      unfold Program.keyLits
      simp only [h2]
      refine ⟨_, if_pos ⟨trivial, ?_⟩⟩
      have := (b.data[i]'(by omega)).toNat_lt
      simp [Lit.wf, IntKind.min, IntKind.max, IntKind.signed, IntKind.bits]
      omega)
    exact ⟨L.flatten, by rw [hL]; rfl⟩
  obtain ⟨L, hL⟩ := hL
  unfold keyOf
  simp only [h1, h5, hf, Bool.and_self, if_true, hL, Option.map_some]
  exact ⟨_, rfl⟩

theorem keyV_inj {a b : ByteArray} (h : keyV a = keyV b) : a = b := by
  unfold keyV at h
  simp only [Value.agg.injEq] at h
  have h2 := congrArg Array.toList h
  rw [Array.toList_map, Array.toList_map] at h2
  have h3 := (List.map_inj_right (fun x y e => by
    simp only [Value.int.injEq, true_and] at e
    exact UInt8.toNat_inj.1 (Int.ofNat.inj e))).1 h2
  have h4 : a.data = b.data := Array.ext' h3
  cases a; cases b; simp_all

theorem cl_bytes {w G} : ∀ (l : List UInt8) (cs : List Value), CL w G (l.map fun b => D.int .u8 (b.toNat : Int)) cs → cs = l.map fun b => Value.int .u8 (b.toNat : Int)
  | [], cs, h => by cases h; rfl
  | b :: l, cs, h => by
    rw [List.map_cons] at h
    cases h with
    | int h => rw [cl_bytes l _ h, List.map_cons]

theorem vd_key {w G} {b : ByteArray} {v : Value} (h : VD w G (.arr 32 1 (D.bytes b)) v) : v = keyV b := by
  obtain ⟨h1, h2⟩ := h
  cases v <;> simp [vAgg, D.isAgg] at h2
  rename_i cs
  simp only [Value.cells] at h1
  generalize hc : cs.toList = c at h1
  cases h1 with
  | arr hx hl hs hr =>
    cases hr
    rw [List.append_nil] at hc
    have := cl_bytes _ _ hx
    unfold keyV
    congr 1
    apply Array.ext'
    rw [hc, this, Array.toList_map]

section
variable {B : Base} {N : Nat} {o : Oper} {env : Env} {S : List Blk} {K : Option AV → List Blk → Prop}

theorem rule_makeMap {t : TypeId} (ho : o.op = .makeMap t none) (h : K (some (.row S.length)) (S ++ [.mapb [] (.agg [])])) : OpsTo B N o env S K := by
  refine opsTo_value fun μ G a w st => ?_
  have hn : Next w (w.alloc (.map #[] 0)) none := ⟨rfl, rfl, rfl, by show w.heap.size ≤ (w.heap.push _).size; simp, fun k hk _ => (MapKept.heap_alloc w _).2 k hk⟩
  have hcells := hn.cells st.st.gv (G := G) (fun k hk => by cases hk)
  have hμ : ∀ i, i < S.length → upd μ S.length (.map (some w.heap.size)) i = μ i := fun i hi => by simp [upd, Nat.ne_of_lt hi]
  refine ⟨.map (some w.heap.size), w.alloc (.map #[] 0), upd μ S.length (.map (some w.heap.size)), G, _, _, ?_, h, ?_, ⟨by simp, hμ, fun _ _ h => h, hcells⟩, ?_⟩
  · simp only [execOp, ho, Sem.run_bind, Option.map_none]
    rfl
  · refine st.st.push hn (fun _ _ h => h) (fun _ _ h => .inl h) (fun _ n h => by cases h; exact Nat.le_refl _) (fun _ n h o _ hg => by
      cases h; have := st.st.gv _ _ hg; exact Nat.lt_irrefl _ this) ?_
    exact ⟨w.heap.size, #[], rfl, (MapKept.heap_alloc w _).1, rfl, by simp, by simp, by simpa using CA.agg (μ := upd μ S.length (.map (some w.heap.size))) (k := S.length + 1) (w := w.alloc (.map #[] 0)) (G := G) .nil .nil⟩
  · refine VA.ra (VA.of_single ?_ rfl) (fun l e => by cases e)
    exact .mp (by simp) (by simp [upd]) .nil

theorem sizes_one : ∀ {vs : List AV}, (vs.all fun y => !y.isAgg) = true → AV.sizes vs = vs.length
  | [], _ => rfl
  | y :: vs, h => by
    simp only [List.all_cons, Bool.and_eq_true] at h
    have h1 : y.size = 1 := by
      cases y with
      | d x => cases x <;> simp [AV.isAgg, D.isAgg] at h <;> rfl
      | agg l => simp [AV.isAgg] at h
      | _ => rfl
    rw [AV.sizes, h1, sizes_one h.2, List.length_cons, Nat.add_comm]

/-- One value of many. -/
theorem ca_at {μ k w G} {vs : List AV} {cs : List Value} {j : Nat} {y : AV} (h : CA μ k w G vs cs) (hall : (vs.all fun y => !y.isAgg) = true) (hy : vs[j]? = some y) :
    ∃ v, cs[j]? = some v ∧ VA μ k w G y v ∧ ∀ y' v', VA μ k w G y' v' → y'.isAgg = false → CA μ k w G (vs.set j y') (cs.set j v') := by
  obtain ⟨a, c, d, rfl, h1, h2, h3⟩ := h.get hy
  have hlt : j < vs.length := (List.getElem?_eq_some_iff.1 hy).1
  have hya : y.isAgg = false := by
    have := List.all_eq_true.1 hall y (List.mem_of_getElem? hy)
    simpa using this
  obtain ⟨v, rfl, g1, g2⟩ := CA.single h2 hya
  have ha : a.length = j := by
    rw [h1, sizes_one (by rw [List.all_eq_true] at hall ⊢; exact fun z hz => hall z (List.mem_of_mem_take hz)), List.length_take]
    omega
  refine ⟨v, by rw [List.getElem?_append_right (by omega), ha, Nat.sub_self]; rfl, VA.of_single h2 hya, fun y' v' hv hagg => ?_⟩
  obtain ⟨u, q1, q2, q3⟩ : ∃ u, v' = u ∧ CA μ k w G [y'] [u] ∧ True := by
    rcases hv.inv with ⟨e, _⟩ | ⟨_, e, _⟩
    · rw [hagg] at e; cases e
    · exact ⟨v', rfl, e, trivial⟩
  subst q1
  have := h3 y' [v'] q2
  rw [List.set_append_right _ _ (by omega), ha, Nat.sub_self]
  simpa using this

/-- What is known of a map of one's own. -/
theorem map_at {μ G a w} (st : At1 B N env S μ G a w) {m x : Operand} {n : Nat} {ks : List ByteArray} {vs : List AV} {b : ByteArray} {kt : TypeId} (hK : KeyOk B.c.P kt) (hm : evalA B.c env m = some (.row n)) (hn : S[n]? = some (.mapb ks (.agg vs)))
    (hx : evalA B.c env x = some (.d (.arr 32 1 (D.bytes b)))) (hb : b.size = 32) :
    ∃ (r : Nat) (ents : Array MapEntry) (l : Lit), a.eval m = .map (some r) ∧ μ n = .map (some r) ∧ a.eval x = keyV b ∧ keyOf B.c.P kt (keyV b) = some l ∧ w.heap[r]? = some (.map ents ents.size) ∧ ents.toList.map (·.key) = ks.map keyV ∧ (∀ (i : Nat) e, ents[i]? = some e → e.born = i) ∧ (∀ b ∈ ks, b.size = 32) ∧
      CA μ S.length w G vs (ents.toList.map (·.val)) ∧ ents.size = ks.length ∧
      (((Instr.findKey kt (keyV b) ents.toList).run B.c.P w = .ok none w ∧ b ∉ ks) ∨ ∃ j e, (Instr.findKey kt (keyV b) ents.toList).run B.c.P w = .ok (some (j, e.val)) w ∧ ents[j]? = some e ∧ e.key = keyV b ∧ ks[j]? = some b) := by
  obtain ⟨hnS, hsv⟩ := ca_row_inv ((evalA_sound st hm).va (fun l e => by cases e))
  obtain ⟨r, ents, e1, e2, e3, e4, e5, e6⟩ := st.st.blks n _ hn
  have hkv : a.eval x = keyV b := vd_key (evalA_sound st hx).vd
  obtain ⟨l, hl⟩ := hK.2 b hb
  have e6' : CA μ S.length w G vs (ents.toList.map (·.val)) := by
    generalize ents.toList.map (·.val) = cs at e6
    cases e6 with
    | agg h1 h2 => cases h2; simpa using h1
  have hlen : ents.size = ks.length := by
    have := congrArg List.length e3
    simpa using this
  have hkey : ∀ e ∈ ents.toList, ∃ l, keyOf B.c.P kt e.key = some l := fun e he => by
    have : e.key ∈ ks.map keyV := by rw [← e3]; exact List.mem_map.2 ⟨e, he, rfl⟩
    obtain ⟨b', hb', hb2⟩ := List.mem_map.1 this
    rw [← hb2]
    exact hK.2 b' (e5 b' hb')
  refine ⟨r, ents, l, by rw [hsv, e1], e1, hkv, hl, e2, e3, e4, e5, e6', hlen, ?_⟩
  rcases hK.1.find w hl ents.toList hkey with ⟨h1, h2⟩ | ⟨j, e, h1, h2, h3⟩
  · refine .inl ⟨h1, fun hmem => ?_⟩
    have : keyV b ∈ ents.toList.map (·.key) := by rw [e3]; exact List.mem_map.2 ⟨b, hmem, rfl⟩
    obtain ⟨e, he, hek⟩ := List.mem_map.1 this
    exact h2 e he hek
  · refine .inr ⟨j, e, h1, by simpa using h2, h3, ?_⟩
    have h4 : (ents.toList.map (·.key))[j]? = some (keyV b) := by rw [List.getElem?_map, h2]; exact congrArg some h3
    rw [e3, List.getElem?_map] at h4
    cases hk : ks[j]? with
    | none => rw [hk] at h4; cases h4
    | some b' =>
      rw [hk] at h4
      exact congrArg some (keyV_inj (Option.some.inj h4))

theorem rule_lookup {t kt et : TypeId} {m x : Operand} {ei : TI} {z : D} {n : Nat} {ks : List ByteArray} {vs : List AV} {b : ByteArray} (hc : B.c.ok) (ho : o.op = .lookup t m x false) (ht : B.c.P.underlying t = some (.map kt et)) (hK : KeyOk B.c.P kt)
    (hfi : B.c.tt et = some ei) (hz : ei.zero = some z) (hm : evalA B.c env m = some (.row n)) (hn : S[n]? = some (.mapb ks (.agg vs))) (hx : evalA B.c env x = some (.d (.arr 32 1 (D.bytes b)))) (hb : b.size = 32) (hall : (vs.all fun y => !y.isAgg) = true)
    (h : (∃ (j m : Nat) (e : TypeId) (sz : Nat) (xs : List D), (∀ i, ks[i]? = some b → i = j) ∧ ks[j]? = some b ∧ vs[j]? = some (.row m) ∧ S[m]? = some (.row e sz xs) ∧ K (some (.d (.sl sz xs))) S) ∨ (b ∉ ks ∧ K (some (.d z)) S)) : OpsTo B N o env S K := by
  refine opsTo_value fun μ G a w st => ?_
  obtain ⟨r, ents, l, f1, _, f2, f3, f4, f5, _, _, f6, f7, f8⟩ := map_at st hK hm hn hx hb
  obtain ⟨_, info, g1, _, _, g4⟩ := hc et ei hfi
  obtain ⟨zv, g5, g6⟩ := g4 z hz
  have hzr : (zeroValue et).run B.c.P w = .ok zv w := by
    simp only [zeroValue, typeInfo, Sem.run_bind, run_program, Result.andThen_ok, g1, g5, Sem.run_pure]
  rcases h with ⟨j, m', et', sz, xs, h1, h2, h3, h4, h5⟩ | ⟨h1, h5⟩
  · rcases f8 with ⟨q1, q2⟩ | ⟨i, e, q1, q2, q3, q4⟩
    · exact absurd (List.mem_of_getElem? h2) q2
    · obtain rfl := h1 i q4
      obtain ⟨v, p1, p2, _⟩ := ca_at f6 hall h3
      have hv : v = e.val := by
        rw [List.getElem?_map] at p1
        have q2' : ents.toList[i]? = some e := by simpa using q2
        rw [q2'] at p1
        exact (Option.some.inj p1).symm
      subst hv
      have hview : VD w G (.sl sz xs) e.val := by rw [(ca_row_inv p2).2]; exact (st.st.blks m' _ h4).row_view
      refine ⟨e.val, w, μ, G, _, _, ?_, h5, st.st, Later.refl _ _ _ _, (VA.d_iff.2 hview).ra (fun l e => by cases e)⟩
      simp [execOp, ho, f1, f2, Instr.lookup, run_underlying ht, MapKept.run_getObj_map f4, hK.1.check w _ f3, q1, Result.andThen]
  · rcases f8 with ⟨q1, q2⟩ | ⟨i, e, q1, q2, q3, q4⟩
    · refine ⟨zv, w, μ, G, _, _, ?_, h5, st.st, Later.refl _ _ _ _, (VA.d_iff.2 (g6 w G)).ra (fun l e => by cases e)⟩
      simp [execOp, ho, f1, f2, Instr.lookup, run_underlying ht, MapKept.run_getObj_map f4, hK.1.check w _ f3, q1, hzr, Result.andThen]
    · exact absurd (List.mem_of_getElem? q4) h1

theorem next_set {w : World} {r : Nat} {ob : Obj} : Next w { w with heap := w.heap.setIfInBounds r ob } (some r) :=
  ⟨rfl, rfl, rfl, by show w.heap.size ≤ (w.heap.setIfInBounds _ _).size; simp, fun k hk hne => by
    show (w.heap.setIfInBounds _ _)[k]? = _
    rw [Array.getElem?_setIfInBounds, if_neg (fun e => hne (by rw [e]))]⟩

theorem rule_mapEntry {t kt et : TypeId} {m x : Operand} {ei : TI} {z : D} {n : Nat} {ks : List ByteArray} {vs : List AV} {b : ByteArray} (hc : B.c.ok) (ho : o.op = .mapEntry t m x) (ht : B.c.P.underlying t = some (.map kt et)) (hK : KeyOk B.c.P kt)
    (hfi : B.c.tt et = some ei) (hz : ei.zero = some z) (hza : z.isAgg = false) (hm : evalA B.c env m = some (.row n)) (hn : S[n]? = some (.mapb ks (.agg vs))) (hx : evalA B.c env x = some (.d (.arr 32 1 (D.bytes b)))) (hb : b.size = 32) (hall : (vs.all fun y => !y.isAgg) = true)
    (h : (∃ (j : Nat) (y : AV), (∀ i, ks[i]? = some b → i = j) ∧ ks[j]? = some b ∧ vs[j]? = some y ∧ notTup y = true ∧ K (some (.tup [y, .d (.int .i64 (j : Int))])) S) ∨
      (b ∉ ks ∧ ∃ e sz, z = .sl sz [] ∧ K (some (.tup [.row S.length, .d (.int .i64 (ks.length : Int))])) (S.set n (.mapb (ks ++ [b]) (.agg (vs ++ [.d z]))) ++ [.row e sz []]))) : OpsTo B N o env S K := by
  refine opsTo_value fun μ G a w st => ?_
  obtain ⟨r, ents, l, f1, f1', f2, f3, f4, f5, f9, f10, f6, f7, f8⟩ := map_at st hK hm hn hx hb
  obtain ⟨info, zv, g1, g5, g7, g8⟩ := hc.zero0 et ei _ hfi hz
  have hzr : (zeroValue et).run B.c.P w = .ok zv w := by
    simp only [zeroValue, typeInfo, Sem.run_bind, run_program, Result.andThen_ok, g1, g5, Sem.run_pure]
  have hlt : r < w.heap.size := (Array.getElem?_eq_some_iff.1 f4).1
  have hG : ∀ o, ¬ G r o := fun o => st.st.free n _ r hn rfl (by rw [f1']; rfl) o (Nat.zero_le _)
  have hcells : ∀ ob, ∀ b o v, G b o → w.cell? ⟨b, o, none⟩ = some v → (({ w with heap := w.heap.setIfInBounds r ob } : World)).cell? ⟨b, o, none⟩ = some v := fun ob =>
    (next_set (w := w) (r := r) (ob := ob)).cells st.st.gv (fun k hk o v hgk _ => by cases hk; exact absurd hgk (hG o))
  rcases h with ⟨j, y, h1, h2, h3, h4, h5⟩ | ⟨h1, h5⟩
  · rcases f8 with ⟨q1, q2⟩ | ⟨i, e, q1, q2, q3, q4⟩
    · exact absurd (List.mem_of_getElem? h2) q2
    · obtain rfl := h1 i q4
      obtain ⟨v, p1, p2, _⟩ := ca_at f6 hall h3
      have q2' : ents.toList[i]? = some e := by simpa using q2
      have hv : v = e.val := by
        rw [List.getElem?_map, q2'] at p1
        exact (Option.some.inj p1).symm
      subst hv
      have hmod : ents.modify i (fun e' => { e' with key := keyV b }) = ents := by
        apply Array.ext'
        rw [Array.toList_modify, ChangeMaps.modify_eq_set _ _ _ _ q2', ← q3]
        apply List.ext_getElem? 
        intro p
        rw [List.getElem?_set]
        split
        · rename_i ep
          subst ep
          rw [q2', if_pos (List.getElem?_eq_some_iff.1 q2').1]
        · rfl
      have hborn := f9 i e q2
      refine ⟨.tuple #[e.val, .int .i64 (i : Int)], { w with heap := w.heap.setIfInBounds r (.map ents ents.size) }, μ, G, _, _, ?_, h5, ?_, ⟨by simp, fun _ _ => rfl, fun _ _ h => h, hcells _⟩, ?_⟩
      · simp [execOp, ho, f1, f2, Instr.mapEntry, run_underlying ht, MapKept.run_getObj_map f4, hK.1.check w _ f3, q1, q2, q3, hK.1.stays w f3, MapKept.run_setObj_map _ f4, hmod, Result.andThen, goInt, hborn]
      · have hw' : ({ w with heap := w.heap.setIfInBounds r (.map ents ents.size) } : World).heap[r]? = some (.map ents ents.size) := by
          show (w.heap.setIfInBounds _ _)[r]? = _
          simp [hlt]
        have := st.st.write hn rfl rfl rfl rfl (g := r) (b' := .mapb ks (.agg vs)) (by rw [f1']; rfl) next_set ⟨r, ents, f1', hw', f5, f9, f10, by simpa using CA.agg (f6.mono (Nat.le_refl _) (fun _ _ _ => rfl) (fun _ _ h => h) (hcells _)) .nil⟩
        have hset : S.set n (.mapb ks (.agg vs)) = S := by
          apply List.ext_getElem?
          intro p
          rw [List.getElem?_set]
          split
          · rename_i ep
            subst ep
            rw [hn, if_pos (List.getElem?_eq_some_iff.1 hn).1]
          · rfl
        rw [hset] at this
        exact this
      · exact ⟨_, rfl, .cons (p2.mono (Nat.le_refl _) (fun _ _ _ => rfl) (fun _ _ h => h) (hcells _)) (.cons (VA.d_iff.2 VD.int) .nil)⟩
  · obtain ⟨e, sz, rfl, h5⟩ := h5
    rcases f8 with ⟨q1, q2⟩ | ⟨i, e', q1, q2, q3, q4⟩
    · have hzv : zv = .slice none 0 0 := by
        have hcs : [Value.slice none 0 0] = zv.cells.toList := Option.some.inj g7
        have hz1 : zv.cells = #[zv] := by cases zv <;> simp_all [vAgg, Value.cells, D.isAgg]
        rw [hz1] at hcs
        simpa using hcs.symm
      subst hzv
      have hzc : ∀ w', CA μ S.length w' G [.d (.sl sz [])] [.slice none 0 0] := fun w' => by simpa using CA.d (μ := μ) (k := S.length) (w := w') (G := G) (CL.slnil (sz := sz) .nil) .nil
      have hw' : ({ w with heap := w.heap.setIfInBounds r (.map (ents.push ⟨keyV b, .slice none 0 0, ents.size⟩) (ents.size + 1)) } : World).heap[r]? = some (.map (ents.push ⟨keyV b, .slice none 0 0, ents.size⟩) (ents.push ⟨keyV b, .slice none 0 0, ents.size⟩).size) := by
        show (w.heap.setIfInBounds _ _)[r]? = _
        simp [hlt]
      have st2 : St B (S.set n (.mapb (ks ++ [b]) (.agg (vs ++ [.d (.sl sz [])])))) μ G { w with heap := w.heap.setIfInBounds r (.map (ents.push ⟨keyV b, .slice none 0 0, ents.size⟩) (ents.size + 1)) } := by
        refine st.st.write hn rfl rfl rfl rfl (g := r) (by rw [f1']; rfl) next_set ⟨r, _, f1', hw', ?_, ?_, ?_, ?_⟩
        · rw [Array.toList_push, List.map_append, List.map_append, f5]; rfl
        · intro i e hi
          rw [Array.getElem?_push] at hi
          split at hi
          · rename_i ei
            cases hi
            exact ei.symm
          · exact f9 i e hi
        · intro b' hb'
          rcases List.mem_append.1 hb' with g | g
          · exact f10 b' g
          · rw [List.mem_singleton.1 g]; exact hb
        · rw [Array.toList_push, List.map_append]
          have h7 := CA.append (f6.mono (Nat.le_refl _) (fun _ _ _ => rfl) (fun _ _ h => h) (hcells (.map (ents.push ⟨keyV b, .slice none 0 0, ents.size⟩) (ents.size + 1)))) (hzc _)
          simpa using CA.agg h7 .nil
      have hμ : ∀ i, i < S.length → upd μ S.length (.slice none 0 0) i = μ i := fun i hi => by simp [upd, Nat.ne_of_lt hi]
      have st3 := st2.push (w' := { w with heap := w.heap.setIfInBounds r (.map (ents.push ⟨keyV b, .slice none 0 0, ents.size⟩) (ents.size + 1)) }) (v := .slice none 0 0) (b := .row e sz []) (G' := G) ⟨rfl, rfl, rfl, Nat.le_refl _, fun _ _ _ => rfl⟩ (fun _ _ h => h) (fun _ _ h => .inl h) (fun _ n h => by cases h) (fun _ n h => by cases h)
        ⟨[], World.ownsRowF_nil _ 0 e sz, .nil, by simp, fun n h => by cases h⟩
      rw [List.length_set] at st3
      refine ⟨.tuple #[.slice none 0 0, .int .i64 (ks.length : Int)], _, _, G, _, _, ?_, h5, st3, ⟨by simp, hμ, fun _ _ h => h, hcells _⟩, ?_⟩
      · simp [execOp, ho, f1, f2, Instr.mapEntry, run_underlying ht, MapKept.run_getObj_map f4, hK.1.check w _ f3, q1, hzr, MapKept.run_setObj_map _ f4, Result.andThen, goInt, f7]
      · exact ⟨[.slice none 0 0, .int .i64 (ks.length : Int)], rfl, .cons (VA.of_single (.row (by simp) (by simp [upd]) .nil) rfl) (.cons (VA.d_iff.2 VD.int) .nil)⟩
    · exact absurd (List.mem_of_getElem? q4) h1

theorem rule_entryStore {t : TypeId} {m s x : Operand} {n : Nat} {ks : List ByteArray} {vs : List AV} {k : IntKind} {j : Nat} {y : AV} (ho : o.op = .entryStore t m s x) (hm : evalA B.c env m = some (.row n)) (hn : S[n]? = some (.mapb ks (.agg vs)))
    (hs : evalA B.c env s = some (.d (.int k (j : Int)))) (hx : evalA B.c env x = some y) (hyt : notTup y = true) (hya : y.isAgg = false) (hall : (vs.all fun y => !y.isAgg) = true) (hj : j < vs.length)
    (h : K none (S.set n (.mapb ks (.agg (vs.set j y))))) : OpsTo B N o env S K := by
  refine opsTo_skip fun μ G a w st => ?_
  obtain ⟨hnS, hsv⟩ := ca_row_inv ((evalA_sound st hm).va (fun l e => by cases e))
  obtain ⟨r, ents, e1, e2, e3, e4, e5, e6⟩ := st.st.blks n _ hn
  have e6' : CA μ S.length w G vs (ents.toList.map (·.val)) := by
    generalize ents.toList.map (·.val) = cs at e6
    cases e6 with
    | agg h1 h2 => cases h2; simpa using h1
  have hst : a.eval s = .int k (j : Int) := (evalA_sound st hs).vd.int_inv
  have hva := (evalA_sound st hx).va (notTup_spec hyt)
  have hlt : r < w.heap.size := (Array.getElem?_eq_some_iff.1 e2).1
  have hG : ∀ o, ¬ G r o := fun o => st.st.free n _ r hn rfl (by rw [e1]; rfl) o (Nat.zero_le _)
  have hcells : ∀ ob, ∀ b o v, G b o → w.cell? ⟨b, o, none⟩ = some v → (({ w with heap := w.heap.setIfInBounds r ob } : World)).cell? ⟨b, o, none⟩ = some v := fun ob =>
    (next_set (w := w) (r := r) (ob := ob)).cells st.st.gv (fun k hk o v hgk _ => by cases hk; exact absurd hgk (hG o))
  obtain ⟨v, p1, p2, p3⟩ := ca_at e6' hall (List.getElem?_eq_getElem hj)
  have hje : j < ents.toList.length := by
    have := (List.getElem?_eq_some_iff.1 p1).1
    simpa using this
  have hjs : j < ents.size := by simpa using hje
  have hent : ents[j]? = some ents[j] := Array.getElem?_eq_getElem hjs
  have hentl : ents.toList[j]? = some ents[j] := by rw [Array.getElem?_toList]; exact hent
  have hfind : ents.findIdx? (fun e => (e.born : Int) == (j : Int)) = some j := by
    rw [Array.findIdx?_eq_some_iff_getElem]
    refine ⟨hjs, by rw [e4 j _ hent]; simp, fun i hi => ?_⟩
    have := e4 i (ents[i]'(by omega)) (Array.getElem?_eq_getElem (by omega))
    rw [this]
    simp
    omega
  have hlist : (ents.modify j (fun e => { e with val := a.eval x })).toList = ents.toList.set j { ents[j] with val := a.eval x } := by
    rw [Array.toList_modify, ChangeMaps.modify_eq_set _ _ _ _ hentl]
  refine ⟨{ w with heap := w.heap.setIfInBounds r (.map (ents.modify j (fun e => { e with val := a.eval x })) ents.size) }, μ, G, _, ?_, h, ?_, ⟨by simp, fun _ _ => rfl, fun _ _ h => h, hcells _⟩⟩
  · simp [execOp, ho, hsv, e1, hst, Instr.entryStore, asInt, asIntOf, MapKept.run_getObj_map e2, hfind, MapKept.run_setObj_map _ e2, Result.andThen]
  · have hw' : ({ w with heap := w.heap.setIfInBounds r (.map (ents.modify j (fun e => { e with val := a.eval x })) ents.size) } : World).heap[r]? = some (.map (ents.modify j (fun e => { e with val := a.eval x })) (ents.modify j (fun e => { e with val := a.eval x })).size) := by
      show (w.heap.setIfInBounds _ _)[r]? = _
      simp [hlt]
    refine st.st.write hn rfl rfl rfl rfl (g := r) (by rw [e1]; rfl) next_set ⟨r, _, e1, hw', ?_, ?_, e5, ?_⟩
    · rw [hlist, List.map_set, ← e3]
      apply List.ext_getElem?
      intro p
      rw [List.getElem?_set]
      split
      · rename_i ep
        subst ep
        rw [List.getElem?_map, hentl]
        simp [hjs]
      · rfl
    · intro i e hi
      have hi' : (ents.toList.set j { ents[j] with val := a.eval x })[i]? = some e := by rw [← hlist, Array.getElem?_toList]; exact hi
      by_cases ep : j = i
      · subst ep
        rw [List.getElem?_set_self hje] at hi'
        cases hi'
        exact (e4 j ents[j] hent : ents[j].born = j)
      · rw [List.getElem?_set_ne ep, Array.getElem?_toList] at hi'
        exact e4 i e hi'
    · rw [hlist, List.map_set]
      have h7 := (p3 y (a.eval x) hva hya).mono (Nat.le_refl _) (fun _ _ _ => rfl) (fun _ _ h => h) (hcells (.map (ents.modify j (fun e => { e with val := a.eval x })) ents.size))
      simpa using CA.agg h7 .nil

theorem rule_lenMap {t kt et : TypeId} {x : Operand} {n : Nat} {ks : List ByteArray} {X : AV} (ho : o.op = .call { callee := .builtin .len, args := #[x], argTypes := #[t] }) (ht : B.c.P.underlying t = some (.map kt et)) (hx : evalA B.c env x = some (.row n)) (hn : S[n]? = some (.mapb ks X))
    (h : K (some (.d (.int .i64 (ks.length : Int)))) S) : OpsTo B N o env S K := by
  refine opsTo_pure h fun μ G a w st => ?_
  obtain ⟨hnS, hsv⟩ := ca_row_inv ((evalA_sound st hx).va (fun l e => by cases e))
  obtain ⟨r, ents, e1, e2, e3, e4, e5, e6⟩ := st.st.blks n _ hn
  have hlen : ents.size = ks.length := by
    have := congrArg List.length e3
    simpa using this
  refine ⟨.int .i64 (ks.length : Int), ?_, VD.int.ra⟩
  simp only [execOp, ho, resolve, Sem.run_bind, Sem.run_pure, Result.andThen_ok, invoke, builtin]
  have : (Array.map a.eval #[x]) = #[.map (some r)] := by simp [hsv, e1]
  rw [this]
  simp [Builtin.len_, run_underlying ht, MapKept.run_getObj_map e2, goInt, hlen, Result.andThen]
theorem rule_lenRow {t el e : TypeId} {i : TI} {x : Operand} {n sz : Nat} {xs : List D} (hc : B.c.ok) (ho : o.op = .call { callee := .builtin .len, args := #[x], argTypes := #[t] }) (hi : B.c.tt t = some i) (hk : i.k = .slice el) (hx : evalA B.c env x = some (.row n)) (hn : S[n]? = some (.row e sz xs))
    (h : K (some (.d (.int .i64 (xs.length : Int)))) S) : OpsTo B N o env S K := by
  obtain ⟨⟨d, h1, h2⟩, _⟩ := hc t i hi
  rw [hk] at h2
  obtain rfl : d = .slice el := by cases d <;> simp [tkOf] at h2; subst h2; rfl
  refine opsTo_pure h fun μ G a w st => ?_
  obtain ⟨hnS, hsv⟩ := ca_row_inv ((evalA_sound st hx).va (fun l e => by cases e))
  have hv := (st.st.blks n _ hn).row_view
  refine ⟨.int .i64 (xs.length : Int), ?_, VD.int.ra⟩
  simp only [execOp, ho, resolve, Sem.run_bind, Sem.run_pure, Result.andThen_ok, invoke, builtin]
  have : (Array.map a.eval #[x]) = #[μ n] := by simp [hsv]
  rw [this]
  rcases hv.sl_inv with ⟨e1, e2⟩ | ⟨ad, cap, c, e1, _⟩
  · rw [e1]
    simp [Builtin.len_, run_underlying h1, goInt, e2]
  · rw [e1]
    simp [Builtin.len_, run_underlying h1, goInt]
end
end Go.Ab
