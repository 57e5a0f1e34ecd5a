/-
  An own logic over the kit's 'Calls' (AbZ): how a law meets its row; library contracts.
-/
import Derived.Test.YtboohfijacjhjaaDoorAbY
import Derived.ChangeArms
import Derived.ChangeShapes
import Derived.Carry
import Derived.DataReads
import Derived.ChangeOld
import Derived.OpenShut
import Derived.Laws.Externs
import Derived.Lib.DecodeN
import Derived.Shelf.Unicode.DecodeAny
namespace Go.Ab
open Go.RowKit Go.ChangeShapes

section
variable {H : Type} {enc : TypeId × Value → H} {W : World} {sp : Nat → Bool}

abbrev Old (W : World) : Nat → Nat → Prop := fun b _ => b < W.heap.size

theorem cell_old {W : World} {b o : Nat} {v : Value} (h : W.cell? ⟨b, o, none⟩ = some v) : b < W.heap.size := by
  rcases Nat.lt_or_ge b W.heap.size with g | g
  · exact g
  · have e : W.heap[b]? = none := by simp [Array.getElem?_eq_none g]
    simp [World.cell?, e] at h

theorem cell_add {W : World} {a : Addr} {m : Nat} {v : Value} (hs : a.spot = none) (h : W.cell? (a.add m) = some v) : W.cell? ⟨a.block, a.off + m, none⟩ = some v := by
  obtain ⟨b, o, s⟩ := a
  simp only at hs
  subst hs
  by_cases hm : m = 0
  · subst hm; simpa [Addr.add] using h
  · simpa [Addr.add, hm] using h

theorem add_add (a : Addr) (hs : a.spot = none) (m n : Nat) : (a.add m).add n = a.add (m + n) := by
  obtain ⟨b, o, s⟩ := a
  simp only at hs
  subst hs
  by_cases hm : m = 0 <;> by_cases hn : n = 0 <;> simp [Addr.add, hm, hn, Nat.add_assoc]

/-- Elements one behind the other. -/
theorem elems_of {G : Nat → Nat → Prop} {p : D → Prop} (n : Nat) (f : Nat → List Value) (h : ∀ i, i < n → ∃ y, p y ∧ CL W G [y] (f i)) :
    ∃ ys, ys.length = n ∧ (∀ y ∈ ys, p y) ∧ CL W G ys ((List.range n).flatMap f) := by
  induction n with
  | zero => exact ⟨[], rfl, by simp, .nil⟩
  | succ n ih =>
    obtain ⟨ys, h1, h2, h3⟩ := ih fun i hi => h i (by omega)
    obtain ⟨y, h4, h5⟩ := h n (by omega)
    refine ⟨ys ++ [y], by simp [h1], ?_, ?_⟩
    · intro z hz
      rcases List.mem_append.1 hz with hz | hz
      · exact h2 z hz
      · simp at hz; subst hz; exact h4
    · rw [List.range_succ, List.flatMap_append]
      simpa using CL.append h3 h5

theorem chunks {α : Type} (cs : List α) (sz : Nat) : ∀ n, n * sz ≤ cs.length → (List.range n).flatMap (fun i => (cs.drop (i * sz)).take sz) = cs.take (n * sz)
  | 0, _ => by simp
  | n + 1, h => by
    have h' : n * sz ≤ cs.length := by rw [Nat.add_mul] at h; omega
    rw [List.range_succ, List.flatMap_append, chunks cs sz n h']
    simp only [List.flatMap_cons, List.flatMap_nil, List.append_nil]
    rw [Nat.add_mul, Nat.one_mul, List.take_add]

mutual
theorem Ty.opened {c : Ctx} (hc : c.ok) : ∀ (T : Ty) (t fuel : Nat) (cs : List Value) (x : DataW H × List MemPlace), T.fit c.tt t = true → DataW.trod enc c.P W 0 sp true fuel t cs = some x →
    ∃ y, T.has y ∧ CL W (Old W) [y] cs
  | .bool, t, fuel, cs, x, h, hd => by
    simp only [Ty.fit] at h
    split at h
    case h_2 => cases h
    rename_i i hi
    obtain ⟨⟨d, hu, hk⟩, _⟩ := hc t i hi
    simp only [Bool.and_eq_true] at h
    rw [← hk] at h
    cases d <;> simp only [tkOf] at h <;> first | (simp at h; done) | skip
    obtain ⟨b, rfl, _⟩ := DataW.trod_bool hu hd
    exact ⟨.bool b, ⟨b, rfl⟩, .bool .nil⟩
  | .int k, t, fuel, cs, x, h, hd => by
    simp only [Ty.fit] at h
    split at h
    case h_2 => cases h
    rename_i i hi
    obtain ⟨⟨d, hu, hk⟩, _⟩ := hc t i hi
    simp only [Bool.and_eq_true] at h
    rw [← hk] at h
    cases d <;> simp only [tkOf] at h <;> first | (simp at h; done) | skip
    obtain rfl := kindB_spec h.2
    obtain ⟨n, rfl, _, hw⟩ := DataW.trod_int hu hd
    exact ⟨.int _ n, ⟨n, rfl, hw⟩, .int .nil⟩
  | .str, t, fuel, cs, x, h, hd => by
    simp only [Ty.fit] at h
    split at h
    case h_2 => cases h
    rename_i i hi
    obtain ⟨⟨d, hu, hk⟩, _⟩ := hc t i hi
    simp only [Bool.and_eq_true] at h
    rw [← hk] at h
    cases d <;> simp only [tkOf] at h <;> first | (simp at h; done) | skip
    obtain ⟨s, rfl, _, hs⟩ := DataW.trod_string hu hd
    exact ⟨.str s, ⟨s, rfl, hs⟩, .str .nil⟩
  | .st l, t, fuel, cs, x, h, hd => by
    simp only [Ty.fit] at h
    split at h
    case h_2 => cases h
    rename_i i hi
    obtain ⟨⟨d, hu, hk⟩, info, hinfo, hsz, _⟩ := hc t i hi
    simp only [Bool.and_eq_true] at h
    rw [← hk] at h
    cases d <;> simp only [tkOf] at h <;> first | (simp at h; done) | skip
    rename_i fs
    obtain ⟨xs, n, rfl, rfl, hl, hlen, hf⟩ := DataW.trod_struct hu hd
    have hlT : cs.length = Ty.sizes l := by
      rw [hl, ← beq_true h.1, ← hsz]
      simp [Program.cellsOf, hinfo]
    obtain ⟨ys, h1, h2⟩ := Ty.openeds hc l fs.toList n cs xs 0 h.2 (fun i f hf' => ⟨_, hf i f (by simpa using hf'), rfl⟩) (by simpa using hlen)
    refine ⟨.agg ys, ⟨ys, rfl, h1⟩, ?_⟩
    rw [List.drop_zero, ← hlT, List.take_length] at h2
    simpa using CL.agg h2 .nil
  | .arr n sz e, t, fuel, cs, x, h, hd => by
    simp only [Ty.fit] at h
    split at h
    case h_2 => cases h
    rename_i i hi
    obtain ⟨⟨d, hu, hk⟩, info, hinfo, hsz, _⟩ := hc t i hi
    simp only [Bool.and_eq_true] at h
    rw [← hk] at h
    cases d <;> simp only [tkOf] at h <;> first | (simp at h; done) | skip
    rename_i n' e'
    simp only [Bool.and_eq_true] at h
    obtain ⟨h0, h1, h2, h3⟩ := h
    obtain rfl := beq_true h1
    have hse := beq_true h2
    obtain ⟨ie, hie, hies⟩ := Ty.fit_size h3
    obtain ⟨_, infe, hinfe, hsze, _⟩ := hc e' ie hie
    have hce : c.P.cellsOf e' = sz := by rw [hse, ← hies, ← hsze]; simp [Program.cellsOf, hinfe]
    cases fuel with
    | zero => simp [DataW.trod] at hd
    | succ m =>
      unfold DataW.trod at hd
      rw [hu] at hd
      simp only at hd
      split at hd
      case isFalse => cases hd
      rename_i hl
      simp only [Option.map_eq_some_iff] at hd
      obtain ⟨xs, hxs, _⟩ := hd
      have hlT : cs.length = n * sz := by
        rw [hl, ← beq_true h0, ← hsz]
        simp [Program.cellsOf, hinfo]
      rw [hce] at hxs
      obtain ⟨ys, g1, g2, g3⟩ := elems_of (G := Old W) (p := e.has) n (fun i => (cs.drop (i * sz)).take sz) (fun i hi => by
        have := mapM_some_get hxs i i (by simp [hi])
        have hlx := mapM_some_length hxs
        simp at hlx
        rw [List.getElem?_eq_getElem (by omega)] at this
        exact Ty.opened hc e e' m _ _ h3 this)
      rw [chunks cs sz n (by omega), ← hlT, List.take_length] at g3
      refine ⟨.arr n sz ys, ⟨ys, rfl, g1, g2⟩, ?_⟩
      simpa using CL.arr g3 g1 (fun y hy => by rw [Ty.has_size e y (g2 y hy)]; exact hse.symm) .nil
  | .sl sz e, t, fuel, cs, x, h, hd => by
    simp only [Ty.fit] at h
    split at h
    case h_2 => cases h
    rename_i i hi
    obtain ⟨⟨d, hu, hk⟩, info, hinfo, hsz, _⟩ := hc t i hi
    simp only [Bool.and_eq_true] at h
    rw [← hk] at h
    cases d <;> simp only [tkOf] at h <;> first | (simp at h; done) | skip
    rename_i e'
    simp only [Bool.and_eq_true] at h
    obtain ⟨h0, h2, hpos, h3⟩ := h
    have hse := beq_true h2
    have hpos := Nat.le_of_ble_eq_true hpos
    obtain ⟨ie, hie, hies⟩ := Ty.fit_size h3
    obtain ⟨_, infe, hinfe, hsze, _⟩ := hc e' ie hie
    have hce : c.P.cellsOf e' = sz := by rw [hse, ← hies, ← hsze]; simp [Program.cellsOf, hinfe]
    rcases DataW.trod_slice hu hd with ⟨rfl, _⟩ | ⟨a, len, cap, elems, rest, n, rfl, rfl, _, _, hlc, hcm, hlen, hel, _⟩
    · exact ⟨.sl sz [], ⟨[], rfl, by simp, by simp⟩, .slnil .nil⟩
    · rw [hce] at hel
      have each : ∀ i, i < len → ∃ c', W.cells? 0 (a.add (i * sz)) sz = some c' ∧ ∃ y, e.has y ∧ CL W (Old W) [y] c' := by
        intro i hi
        have := hel i hi
        rw [List.getElem?_eq_getElem (by omega), Option.bind_eq_some_iff] at this
        obtain ⟨c', g1, g2⟩ := this
        exact ⟨c', g1, Ty.opened hc e e' n _ _ h3 g2⟩
      obtain ⟨ys, g1, g2, g3⟩ := elems_of (G := Old W) (p := e.has) len (fun i => (W.cells? 0 (a.add (i * sz)) sz).getD []) (fun i hi => by
        obtain ⟨c', e1, e2⟩ := each i hi
        rw [e1]; exact e2)
      have hspot : len = 0 ∨ a.spot = none := by
        rcases Nat.eq_zero_or_pos len with h | h
        · exact .inl h
        · right
          obtain ⟨c', e1, _⟩ := each 0 h
          obtain ⟨_, e2, e3⟩ := World.cells?_some e1
          have e4 := e3 0 hpos
          rw [List.getElem?_eq_getElem (by omega)] at e4
          have := World.cell?_spot e4
          simpa [Addr.add] using this
      refine ⟨.sl sz ys, ⟨ys, rfl, by omega, g2⟩, .sl g3 g1 (fun y hy => by rw [Ty.has_size e y (g2 y hy)]; exact hse.symm) ?_ ?_ hlc hcm .nil⟩
      · have key : ∀ m, m ≤ len → ((List.range m).flatMap (fun i => (W.cells? 0 (a.add (i * sz)) sz).getD [])).length = m * sz ∧
            At W (Old W) a.block a.off ((List.range m).flatMap (fun i => (W.cells? 0 (a.add (i * sz)) sz).getD [])) := by
          intro m
          induction m with
          | zero => intro _; exact ⟨by simp, fun j v hj => by simp at hj⟩
          | succ m ih =>
            intro hm
            obtain ⟨i1, i2⟩ := ih (by omega)
            obtain ⟨c', e1, _⟩ := each m (by omega)
            obtain ⟨_, e2, e3⟩ := World.cells?_some e1
            have hs : a.spot = none := by rcases hspot with h | h; omega; exact h
            rw [List.range_succ, List.flatMap_append]
            simp only [List.flatMap_cons, List.flatMap_nil, List.append_nil, e1, Option.getD_some]
            refine ⟨by rw [List.length_append, i1, e2, Nat.add_mul, Nat.one_mul], fun j v hj => ?_⟩
            rw [List.getElem?_append] at hj
            split at hj
            · exact i2 j v hj
            · rename_i hjm
              rw [i1] at hj hjm
              have hlt := (List.getElem?_eq_some_iff.1 hj).1
              have e4 := e3 (j - m * sz) (by omega)
              rw [hj, add_add a hs] at e4
              have e5 : m * sz + (j - m * sz) = j := by omega
              rw [e5] at e4
              have e6 := cell_add hs e4
              exact ⟨e6, cell_old e6⟩
        exact (key len (Nat.le_refl _)).2
      · rcases hspot with h | h
        · left; exact List.eq_nil_of_length_eq_zero (by omega)
        · exact .inr h
theorem Ty.openeds {c : Ctx} (hc : c.ok) : ∀ (l : List Ty) (fs : List Field) (fuel : Nat) (cs : List Value) (xs : List (DataW H × List MemPlace)) (o : Nat),
    Ty.fits c.tt l (fs.map fun f => (f.offset, f.type, f.name == "_")) o = true →
    (∀ (i : Nat) (f : Field), fs[i]? = some f → ∃ z : Option (DataW H × List MemPlace), DataW.trod enc c.P W 0 sp true fuel f.type ((cs.drop f.offset).take (c.P.cellsOf f.type)) = z ∧ z = xs[i]?) → xs.length = fs.length →
    ∃ ys, Ty.hass l ys ∧ CL W (Old W) ys ((cs.drop o).take (Ty.sizes l))
  | [], [], fuel, cs, xs, o, h, hf, hl => ⟨[], rfl, by simpa [Ty.sizes] using CL.nil⟩
  | T :: l, f :: fs, fuel, cs, xs, o, h, hf, hl => by
    simp only [List.map_cons, Ty.fits, Bool.and_eq_true] at h
    obtain ⟨h1, h2, h3⟩ := h
    have ho := beq_true h1
    cases xs with
    | nil => simp at hl
    | cons x xs =>
      obtain ⟨z, e1, e2⟩ := hf 0 f rfl
      simp at e2
      subst e2
      obtain ⟨y, g1, g2⟩ := Ty.opened hc T f.type fuel _ _ h2 e1
      obtain ⟨ie, hie, hies⟩ := Ty.fit_size h2
      obtain ⟨_, infe, hinfe, hsze, _⟩ := hc f.type ie hie
      have hce : c.P.cellsOf f.type = T.size := by rw [← hies, ← hsze]; simp [Program.cellsOf, hinfe]
      obtain ⟨ys, g3, g4⟩ := Ty.openeds hc l fs fuel cs xs (o + T.size) h3 (fun i f hf' => by
        obtain ⟨z, e1, e2⟩ := hf (i + 1) f (by simpa using hf')
        exact ⟨z, e1, by simpa using e2⟩) (by simpa using hl)
      refine ⟨y :: ys, ⟨y, ys, rfl, g1, g3⟩, ?_⟩
      rw [ho, hce] at g2
      have e : (cs.drop o).take (Ty.sizes (T :: l)) = (cs.drop o).take T.size ++ (cs.drop (o + T.size)).take (Ty.sizes l) := by
        simp only [Ty.sizes]
        rw [List.take_add, List.drop_drop]
      rw [e]
      exact CL.append g2 g4
  | [], _ :: _, _, _, _, _, h, _, _ => by cases h
  | _ :: _, [], _, _, _, _, h, _, _ => by cases h
end

/-- An argument is data of its type's shape. -/
theorem Ty.arg {c : Ctx} (hc : c.ok) {T : Ty} {t b0 : Nat} {r : Reach} {v : Value} {d : DataW H} {ps : List MemPlace} (hf : T.fit c.tt t = true) (hok : Value.okWide c.P W r b0 t v)
    (h : DataW.Trod enc c.P W 0 sp true t v d ps) : ∃ y, T.has y ∧ VD W (Old W) y v := by
  obtain ⟨fuel, h⟩ := h
  obtain ⟨y, h1, h2⟩ := Ty.opened hc T t fuel _ _ hf h
  refine ⟨y, h1, h2, ?_⟩
  rw [Ty.has_agg T y h1]
  obtain ⟨i, hi, hk⟩ : ∃ i, c.tt t = some i ∧ i.k.agg = T.agg := by
    cases T <;> simp only [Ty.fit] at hf <;> split at hf <;> first
      | (cases hf; done)
      | (rename_i i hi; simp only [Bool.and_eq_true] at hf; refine ⟨i, hi, ?_⟩; have h3 := hf.2; split at h3 <;> first | (cases h3; done) | (rename_i hh; rw [hh]; rfl))
  obtain ⟨⟨dd, hu, hkk⟩, _⟩ := hc t i hi
  rw [← hk, ← hkk, tkOf_agg]
  unfold Value.okWide at hok
  rw [hu] at hok
  cases dd <;> simp only [descAgg] <;> simp only at hok
  case struct => obtain ⟨cs, rfl, _⟩ := hok; rfl
  case array => obtain ⟨cs, rfl, _⟩ := hok; rfl
  all_goals
    cases v <;> simp [vAgg, Cell.okWide, Cell.ok, hu] at hok ⊢

/-- The arguments of a law, one behind the other. -/
def Ty.fitAll (tt : Nat → Option TI) : List Ty → List Nat → Bool
  | [], [] => true
  | T :: l, t :: ts => T.fit tt t && Ty.fitAll tt l ts
  | _, _ => false

theorem Ty.args {c : Ctx} (hc : c.ok) {r : Reach} {b0 : Nat} : ∀ {l : List Ty} {ts : List Nat} {vs : List Value} {ds : List (DataW H)} {ps : List MemPlace}, Ty.fitAll c.tt l ts = true →
    (∀ (j : Nat) t v, ts[j]? = some t → vs[j]? = some v → Value.okWide c.P W r b0 t v) → DataW.TrodAll enc c.P W 0 sp true ts vs ds ps →
    ∃ ys, Ty.hass l ys ∧ ∀ μ k, VS μ k W (Old W) (ys.map AV.d) vs
  | [], [], vs, ds, ps, _, _, h => by
    obtain ⟨rfl, _, _⟩ := trodAll_nil h
    exact ⟨[], rfl, fun _ _ => .nil⟩
  | T :: l, t :: ts, vs, ds, ps, hf, hok, h => by
    simp only [Ty.fitAll, Bool.and_eq_true] at hf
    obtain ⟨v, vs', d, ds', p, q, rfl, rfl, rfl, h1, h2⟩ := trodAll_cons h
    obtain ⟨y, g1, g2⟩ := Ty.arg hc hf.1 (hok 0 t v rfl rfl) h1
    obtain ⟨ys, g3, g4⟩ := Ty.args hc hf.2 (fun j t v h1 h2 => hok (j + 1) t v (by simpa using h1) (by simpa using h2)) h2
    refine ⟨y :: ys, ⟨y, ys, rfl, g1, g3⟩, fun μ k => .cons ⟨?_, g2.2⟩ (g4 μ k)⟩
    have := CA.d (μ := μ) (k := k) g2.1 .nil
    simpa using this
  | [], _ :: _, _, _, _, h, _, _ => by cases h
  | _ :: _, [], _, _, _, h, _, _ => by cases h

/-- What a law's contract gives: it returns true, and memory below is as it was. -/
theorem law_calls {c : Ctx} {f : FuncId} {fn : Func} {ys : List D} {vs : List Value} (hf : c.P.funcs[f]? = some fn) (hname : (fn.name == "runtime.NumGoroutine") = false) (hb : fn.body.isSome = true)
    (hglob : ∀ g x, c.glob g = some x → VD W (Old W) (.cptr x) (.pointer (some ⟨g, 0, none⟩)))
    (hlaw : CallR c f (ys.map AV.d) [] fun r S => r = .d (.bool true) ∧ S = []) (hv : ∀ μ k, VS μ k W (Old W) (ys.map AV.d) vs) :
    Calls c.P f vs.toArray W fun e W' => e = .returned (.bool true) ∧ Below W.heap.size W W' := by
  have st : St (base c [] (fun _ => undef) (Old W) W) [] (fun _ => undef) (Old W) W := {
    blks := fun i b h => by simp at h
    apart := fun i j b d h => by simp at h
    free := fun i b n h => by simp at h
    gv := fun _ _ h => h
    k0 := Nat.le_refl _
    keep := fun _ _ => rfl
    g0 := fun _ _ h => h
    gn := fun _ _ h => .inl h
    new := fun i b n _ h => by simp at h
    os := rfl
    tape := rfl
    output := rfl
    size := Nat.le_refl _
    fr := fun _ _ _ => rfl
    lv := fun i b hi h => by simp at h
    glob := hglob
    gw := fun _ _ _ _ h => h }
  have hent : (callFunc f vs.toArray).run c.P W = .ok (.enter f vs.toArray) W := by
    cases hbb : fn.body with
    | none => rw [hbb] at hb; cases hb
    | some code =>
      simp only [callFunc, Sem.run_bind, run_program, Result.andThen_ok, hf, hname, hbb]
      rfl
  have fin : ∀ e W', (∃ v r S' μ' G', e = Ending.returned v ∧ (r = AV.d (.bool true) ∧ S' = []) ∧ St (base c [] (fun _ => undef) (Old W) W) S' μ' G' W' ∧ RA μ' S'.length W' G' r v) →
      e = .returned (.bool true) ∧ Below W.heap.size W W' := by
    rintro e W' ⟨v, r, S', μ', G', rfl, ⟨rfl, rfl⟩, st', hr⟩
    constructor
    · obtain ⟨h1, h2⟩ := (show VA _ _ _ _ _ _ from hr)
      cases h1' : v.cells.toList with
      | nil =>
        rw [h1'] at h1
        generalize hq : ([] : List Value) = q at h1
        cases h1 with
        | d hh ht =>
          have := hh.length
          simp [D.sizes, D.size] at this
          have e := congrArg List.length hq
          simp only [List.length_nil, List.length_append, this] at e
          omega
      | cons u us =>
        rw [h1'] at h1
        obtain ⟨b, rfl, rfl⟩ : ∃ b : Unit, u = .bool true ∧ us = [] := by
          generalize hq : u :: us = q at h1
          cases h1 with
          | d hh ht =>
            cases ht
            cases hh with
            | bool h => cases h; simp at hq; exact ⟨(), hq.1, hq.2⟩
        cases v <;> simp [vAgg, AV.isAgg, D.isAgg] at h2 <;> simp_all [Value.cells]
    · exact ⟨st'.os, st'.tape, st'.output, st'.size, fun k hk => st'.fr k hk (fun ⟨i, hi, _⟩ => by simp [base] at hi)⟩
  rcases hlaw _ (Old W) W vs st (hv _ _) with ⟨_, h⟩ | ⟨v, w', h, _⟩
  · exact h.mono fin
  · rw [hent] at h; cases h

end

end Go.Ab

namespace Go.Ab
open Go.RowKit Go.ChangeShapes

section
variable {H : Type} {enc : TypeId × Value → H} {P : Program} {W W' : World}

def paramsRowed (P : Program) (ts : List TypeId) : Bool := ts.all fun t => P.readableRec t && decide (t < P.types.size)

theorem trodAll_stay (hl : laidOutB P = true) (hb : Below W.heap.size W W') : ∀ {ts : List TypeId} {vs : List Value} {ds : List (DataW H)} {ps : List MemPlace}, paramsRowed P ts = true → (∀ x ∈ ps, x.block < W.heap.size) →
    DataW.TrodAll enc P W 0 (fun _ => true) true ts vs ds ps → DataW.TrodAll enc P W' 0 (fun b => decide (b < W.heap.size)) true ts vs ds ps
  | [], [], [], _, _, _, h => h
  | t :: ts, vs, ds, ps, hp, hlt, h => by
    obtain ⟨v, vs', d, ds', p, q, rfl, rfl, rfl, h1, h2⟩ := trodAll_cons h
    simp only [paramsRowed, List.all_cons, Bool.and_eq_true, decide_eq_true_eq] at hp
    exact ⟨p, q, Below.trod hl hp.1.1 hp.1.2 h1 hb (fun x hx => hlt x (by simp [hx])), trodAll_stay hl hb (by simpa [paramsRowed] using hp.2) (fun x hx => hlt x (by simp [hx])) h2, rfl⟩
  | [], [], _ :: _, _, _, _, h => h.elim
  | [], _ :: _, _, _, _, _, h => by cases h

/-- A law ends: it has returned true, and memory below is as it was. -/
theorem law_post {fn : Func} {s : ChangeSpec} {apart : Bool} {args : Array Value} {ds gs : List (DataW H)} {before : List MemPlace} {tb : TypeId}
    (hW : DataW.Whole enc P fn.params.toList s.vars apart W args.toList ds gs before) (hb : Below W.heap.size W W') (hl : laidOutB P = true) (hp : paramsRowed P fn.params.toList = true) (hvs : s.vars = [])
    (hr : fn.resultTypes = #[tb]) (hu : P.underlying tb = some .bool) (hs : s.fn H (ds ++ gs) = { results := [.lit (.bool true)], args := ds, vars := gs }) :
    s.post enc P fn apart true false false W args (.bool true) W' := by
  have hlt := hW.lt
  have hW' := hW
  obtain ⟨p, q, hA, hV, rfl, hfz, hnd⟩ := hW
  refine ⟨ds, gs, p ++ q, [], p, q, hW', ?_, ?_, ?_, hb.frame _, fun h => by cases h⟩
  · rw [hs, hr]
    exact trodAll_cons_mk (p := []) (p' := []) (shut_bool hu _) trodAll_mk0
  · rw [hs]
    exact trodAll_stay hl hb hp (fun x hx => hlt x (by simp [hx])) hA
  · rw [hs]
    rw [hvs] at hV ⊢
    obtain ⟨rfl, rfl⟩ := trodVars_none hV
    rfl

/-- As many data as types. -/
theorem trodAll_length : ∀ {ts : List TypeId} {vs : List Value} {ds : List (DataW H)} {ps : List MemPlace} {base : Nat} {sp : Nat → Bool} {held : Bool}, DataW.TrodAll enc P W base sp held ts vs ds ps → ds.length = ts.length
  | [], [], [], _, _, _, _, _ => rfl
  | t :: ts, vs, ds, ps, _, _, _, h => by
    obtain ⟨v, vs', d, ds', p, q, rfl, rfl, rfl, h1, h2⟩ := trodAll_cons h
    simp [trodAll_length h2]
  | [], [], _ :: _, _, _, _, _, h => h.elim
  | [], _ :: _, _, _, _, _, _, h => by cases h

end
end Go.Ab

namespace Go.Ab
open Go.RowKit

/-- A number of 64 bits. -/
def U (n : Int) : Prop := 0 ≤ n ∧ n < 18446744073709551616
theorem U.of_wf {n : Int} (h : (Lit.int .u64 n).wf = true) : U n := by
  simp [Lit.wf, IntKind.min, IntKind.max, IntKind.signed, IntKind.bits] at h
  unfold U; omega

theorem wrap64 (n : Int) : IntKind.u64.wrap n = n % 18446744073709551616 := by simp [IntKind.wrap, IntKind.bits, IntKind.signed]

theorem wrapU {n : Int} (h : U n) : IntKind.u64.wrap n = n := by
  rw [wrap64]; exact Int.emod_eq_of_lt h.1 h.2
theorem U_wrap (n : Int) : U (IntKind.u64.wrap n) := by
  rw [wrap64]; unfold U; omega

/-- A function that the model answers at once, of numbers alone. -/
theorem callR_three {c : Ctx} {f : FuncId} {fn : Func} {e : Array Value → Sem Value} {S : List Blk} {x y z p q : Int} (hf : c.P.funcs[f]? = some fn) (hname : (fn.name == "runtime.NumGoroutine") = false)
    (hb : fn.body.isNone = true) (hn : Extern.findNext fn = none) (he : Extern.find fn = some e)
    (hr : ∀ w, (e #[.int .u64 x, .int .u64 y, .int .u64 z]).run c.P w = .ok (.tuple #[.int .u64 p, .int .u64 q]) w) :
    CallR c f [.d (.int .u64 x), .d (.int .u64 y), .d (.int .u64 z)] S fun r S' => r = .tup [.d (.int .u64 p), .d (.int .u64 q)] ∧ S' = S := by
  intro μ G w vals st hv
  right
  cases hv with
  | cons h1 hv =>
    cases hv with
    | cons h2 hv =>
      cases hv with
      | cons h3 hv =>
        cases hv
        have e1 := (VA.d_iff.1 h1).int_inv
        have e2 := (VA.d_iff.1 h2).int_inv
        have e3 := (VA.d_iff.1 h3).int_inv
        subst e1; subst e2; subst e3
        refine ⟨.tuple #[.int .u64 p, .int .u64 q], w, ?_, ⟨_, _, S, μ, G, rfl, ⟨rfl, rfl⟩, st, ?_⟩⟩
        · rw [run_callFunc_extern hf hname hb hn he]
          show ((e #[.int .u64 x, .int .u64 y, .int .u64 z]).run c.P w).andThen _ = _
          rw [hr]
          rfl
        · exact ⟨[.int .u64 p, .int .u64 q], rfl, .cons (VA.d_iff.2 VD.int) (.cons (VA.d_iff.2 VD.int) .nil)⟩

theorem add64_c {c : Ctx} {f : FuncId} {fn : Func} {S : List Blk} {x y z : Int} (hf : c.P.funcs[f]? = some fn) (hname : (fn.name == "runtime.NumGoroutine") = false)
    (hb : fn.body.isNone = true) (hn : Extern.findNext fn = none) (he : Extern.find fn = some add64Entry) (hx : 0 ≤ x) (hy : 0 ≤ y) (hz : 0 ≤ z ∧ z ≤ 1) :
    CallR c f [.d (.int .u64 x), .d (.int .u64 y), .d (.int .u64 z)] S fun r S' => r = .tup [.d (.int .u64 ((x + y + z) % 18446744073709551616)), .d (.int .u64 ((x + y + z) / 18446744073709551616))] ∧ S' = S :=
  callR_three hf hname hb hn he fun w => run_add64 x y z hx hy hz.1 hz.2 w

def sub64Entry : Array Value → Sem Value := fun args => do
  let (x, y, b) ← Extern.MathBitsCarry.three "Sub64" args
  pure (Extern.MathBitsCarry.pair ((x + Extern.MathBitsCarry.m64 - y - b) % Extern.MathBitsCarry.m64) (if x < y + b then 1 else 0))

theorem run_sub64 {P : Program} (x y b : Nat) (hb : b ≤ 1) (w : World) :
    (sub64Entry #[.int .u64 x, .int .u64 y, .int .u64 b]).run P w =
      .ok (.tuple #[.int .u64 (((x + 18446744073709551616 - y - b) % 18446744073709551616 : Nat) : Int), .int .u64 ((if x < y + b then 1 else 0 : Nat) : Int)]) w := by
  have : b = 0 ∨ b = 1 := by omega
  rcases this with rfl | rfl <;> rfl

theorem sub64_c {c : Ctx} {f : FuncId} {fn : Func} {S : List Blk} {x y z : Int} (hf : c.P.funcs[f]? = some fn) (hname : (fn.name == "runtime.NumGoroutine") = false)
    (hb : fn.body.isNone = true) (hn : Extern.findNext fn = none) (he : Extern.find fn = some sub64Entry) (hx : U x) (hy : U y) (hz : 0 ≤ z ∧ z ≤ 1) :
    CallR c f [.d (.int .u64 x), .d (.int .u64 y), .d (.int .u64 z)] S fun r S' => r = .tup [.d (.int .u64 ((x - y - z) % 18446744073709551616)), .d (.int .u64 (if x < y + z then 1 else 0))] ∧ S' = S := by
  refine callR_three hf hname hb hn he fun w => ?_
  obtain ⟨hx1, hx2⟩ := hx
  obtain ⟨hy1, hy2⟩ := hy
  obtain ⟨X, rfl⟩ := Int.eq_ofNat_of_zero_le hx1
  obtain ⟨Y, rfl⟩ := Int.eq_ofNat_of_zero_le hy1
  obtain ⟨Z, rfl⟩ := Int.eq_ofNat_of_zero_le hz.1
  rw [run_sub64 X Y Z (by omega)]
  congr 4
  · congr 1
    omega
  · congr 3
    split <;> split <;> first | rfl | omega

end Go.Ab

namespace Go.Ab
open Go.RowKit

/-- A table of bytes. -/
def tabD (n : Nat) (f : Nat → Int) : D := .arr n 1 ((List.range n).map fun j => .int .u8 (f j))

theorem CL.ints {w G} {f : Nat → Int} : ∀ l : List Nat, CL w G (l.map fun j => D.int .u8 (f j)) (l.map fun j => Value.int .u8 (f j))
  | [] => .nil
  | _ :: l => .int (CL.ints l)

theorem CL.ints_inv {w G} {f : Nat → Int} : ∀ {l : List Nat} {cs}, CL w G (l.map fun j => D.int .u8 (f j)) cs → cs = l.map fun j => Value.int .u8 (f j)
  | [], _, h => by cases h; rfl
  | x :: l, _, h => by cases h with | int h => rw [CL.ints_inv h]; rfl

theorem tab_glob {w : World} {G : Nat → Nat → Prop} {g n : Nat} {f : Nat → Int} (h : ∀ j, j < n → w.cell? ⟨g, j, none⟩ = some (.int .u8 (f j))) (hG : ∀ j, j < n → G g j) : VD w G (.cptr (tabD n f)) (.pointer (some ⟨g, 0, none⟩)) := by
  refine VD.of_single (.cptr (c := (List.range n).map fun j => Value.int .u8 (f j)) ?_ ?_ .nil) rfl
  · have := CL.arr (n := n) (sz := 1) (CL.ints (w := w) (G := G) (f := f) (List.range n)) (by simp) (fun x hx => by obtain ⟨j, _, rfl⟩ := List.mem_map.1 hx; rfl) (r := []) (cs := []) .nil
    rw [List.append_nil] at this
    exact this
  · intro j v hj
    have hlt : j < n := by have := (List.getElem?_eq_some_iff.1 hj).1; simpa using this
    rw [List.getElem?_map, List.getElem?_eq_getElem (by simpa using hlt)] at hj
    simp only [List.getElem_range, Option.map_some, Option.some.injEq] at hj
    subst hj
    rw [Nat.zero_add]
    exact ⟨h j hlt, hG j hlt⟩

theorem glob_tab {w : World} {G : Nat → Nat → Prop} {g n : Nat} {f : Nat → Int} (h : VD w G (.cptr (tabD n f)) (.pointer (some ⟨g, 0, none⟩))) : ∀ j, j < n → w.cell? ⟨g, j, none⟩ = some (.int .u8 (f j)) := by
  rcases h.inv with ⟨h1, _⟩ | ⟨_, h1, _⟩
  · simp [D.isAgg] at h1
  · cases h1 with
    | cptr h2 h3 h4 =>
      obtain ⟨h5, _, _⟩ := h2.arr_inv3
      have := CL.ints_inv h5
      subst this
      intro j hj
      have := (h3 j (.int .u8 (f j)) (by rw [List.getElem?_map, List.getElem?_eq_getElem (by simpa using hj)]; simp)).1
      rwa [Nat.zero_add] at this

def accF (j : Nat) : Int := if j % 2 = 0 then Lib.accLo (j / 2) else Lib.accHi (j / 2)
def firstF (j : Nat) : Int := Lib.firstT j

/-- A contract of the library's over data, whose world turns at most in new blocks. -/
theorem callR_below {c : Ctx} {f : FuncId} {fn : Func} {args : List AV} {S : List Blk} {r : AV} (hf : c.P.funcs[f]? = some fn) (hname : (fn.name == "runtime.NumGoroutine") = false) (hb : fn.body.isSome = true)
    (h : ∀ (μ : Nat → Value) (G : Nat → Nat → Prop) (w : World) (vals : List Value), St (base c S μ G w) S μ G w → VS μ S.length w G args vals →
      Calls c.P f vals.toArray w fun e w' => ∃ v, e = .returned v ∧ RA μ S.length w' G r v ∧ Below w.heap.size w w') : CallR c f args S fun r' S' => r' = r ∧ S' = S := by
  intro μ G w vals st hv
  left
  constructor
  · cases hbb : fn.body with
    | none => rw [hbb] at hb; cases hb
    | some code =>
      simp only [callFunc, Sem.run_bind, run_program, Result.andThen_ok, hf, hname, hbb]
      rfl
  · refine (h μ G w vals st hv).mono ?_
    rintro e w' ⟨v, rfl, hr, hb⟩
    exact ⟨v, r, S, μ, G, rfl, ⟨rfl, rfl⟩, st.quiet ⟨hb.os, hb.tape, hb.output, hb.size, fun k hk _ => hb.block k hk⟩, hr⟩

theorem VS.one {μ k w G x vals} (h : VS μ k w G [x] vals) : ∃ v, vals = [v] ∧ VA μ k w G x v := by
  cases h with
  | cons h1 h2 => cases h2; exact ⟨_, rfl, h1⟩

end Go.Ab

namespace Go.Ab
open Go.RowKit

theorem tabs_glob {w : World} {g3 g4 : Nat} (h : Lib.Utf8Tabs g3 g4 w) : VD w (Old w) (.cptr (tabD 256 firstF)) (.pointer (some ⟨g3, 0, none⟩)) ∧ VD w (Old w) (.cptr (tabD 32 accF)) (.pointer (some ⟨g4, 0, none⟩)) := by
  obtain ⟨h1, h2⟩ := h
  have q2 : ∀ j, j < 32 → w.cell? ⟨g4, j, none⟩ = some (.int .u8 (accF j)) := by
    intro j hj
    have := h2 (j / 2) (by omega)
    unfold accF
    by_cases e : j % 2 = 0
    · rw [if_pos e]
      have e2 : 2 * (j / 2) = j := by omega
      rw [e2] at this
      exact this.1
    · rw [if_neg e]
      have e2 : 2 * (j / 2) + 1 = j := by omega
      have := this.2
      rw [e2] at this
      exact this
  exact ⟨tab_glob h1 (fun j hj => World.block_lt_of_cell? w _ (h1 j hj)), tab_glob q2 (fun j hj => World.block_lt_of_cell? w _ (q2 j hj))⟩

theorem glob_tabs {w : World} {G : Nat → Nat → Prop} {g3 g4 : Nat} (h1 : VD w G (.cptr (tabD 256 firstF)) (.pointer (some ⟨g3, 0, none⟩))) (h2 : VD w G (.cptr (tabD 32 accF)) (.pointer (some ⟨g4, 0, none⟩))) : Lib.Utf8Tabs g3 g4 w := by
  have q1 := glob_tab h1
  have q2 := glob_tab h2
  refine ⟨q1, fun i hi => ⟨?_, ?_⟩⟩
  · have := q2 (2 * i) (by omega)
    unfold accF at this
    rw [if_pos (by omega)] at this
    have e : 2 * i / 2 = i := by omega
    rw [e] at this
    exact this
  · have := q2 (2 * i + 1) (by omega)
    unfold accF at this
    rw [if_neg (by omega)] at this
    have e : (2 * i + 1) / 2 = i := by omega
    rw [e] at this
    exact this

end Go.Ab
