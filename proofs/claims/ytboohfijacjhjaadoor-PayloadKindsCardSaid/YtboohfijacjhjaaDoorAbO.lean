/-
  An own logic over the kit's 'Calls' (AbO): conversions, indices and fields of data, interfaces, functions, slices.
-/
import Derived.Test.YtboohfijacjhjaaDoorAb11
import Derived.Laws.BytesString
import Derived.Laws.IdiomStrings
import Derived.Laws.Slices
namespace Go.Ab
open Go.RowKit

theorem St.more {B S μ G w w'} (st : St B S μ G w) (h : Next w w' none) {b : Nat} (hb : w.heap.size ≤ b) (hb' : b < w'.heap.size) : St B S μ (fun n o => G n o ∨ n = b) w' := by
  have q := st.quiet h
  exact {
    blks := fun i bl hi => (q.blks i bl hi).mono (Nat.le_refl _) (fun _ _ _ => rfl) (fun _ _ h => .inl h) (fun _ _ _ _ h => h) (fun _ _ _ => rfl)
    apart := q.apart
    free := fun i bl n hi hl hn o ho hg => hg.elim (q.free i bl n hi hl hn o ho) (fun e => by have := (st.blks i bl hi).bid_lt hl n hn; omega)
    gv := fun b' o hg => hg.elim (q.gv b' o) (fun e => by rw [e]; exact hb')
    k0 := q.k0
    keep := q.keep
    g0 := fun b o h => .inl (q.g0 b o h)
    gn := fun b' o hg => hg.elim (q.gn b' o) (fun e => .inr (by rw [e]; exact Nat.le_trans st.size hb))
    new := q.new
    os := q.os
    tape := q.tape
    output := q.output
    size := q.size
    fr := q.fr
    lv := q.lv
    glob := fun g x hx => (q.glob g x hx).mono (fun _ _ h => .inl h) (fun _ _ _ _ h => h)
    gw := q.gw }

def D.bytes (s : ByteArray) : List D := s.data.toList.map fun b => .int .u8 b.toNat

def byteAt (s : ByteArray) (i : Nat) : Int := ((s.data.toList.getD i 0).toNat : Int)

theorem run_part' {c : Ctx} (hc : c.ok) {t : Nat} {i : TI} (hi : c.tt t = some i) {μ k w G y} (hs : shapeB i y = true) {a cs d : List Value} {xs : Array Value} {o : Nat} (h : CA μ k w G [y] cs) (hx : xs.toList = a ++ (cs ++ d)) (ha : a.length = o) :
    ∃ v, (part t xs o).run c.P w = .ok v w ∧ VA μ k w G y v := by
  have hfit := hc t i hi
  obtain ⟨h1, h2⟩ := shapeB_spec hs
  have hlen := h.length
  simp only [AV.sizes, Nat.add_zero, h1] at hlen
  have hdrop : xs.toList.drop o = cs ++ d := by rw [hx, ← ha]; simp
  cases hb : i.k.agg with
  | true =>
    refine ⟨.agg (xs.extract o (o + i.size)), by simp [part, run_isAgg' hfit, hb, run_sizeOf' hfit], ?_⟩
    have e : (xs.extract o (o + i.size)).toList = cs := by
      rw [Array.toList_extract, List.extract_eq_take_drop, hdrop, ← hlen]
      simp
    refine ⟨by simp only [Value.cells]; rw [e]; exact h, by simp [vAgg, h2, hb]⟩
  | false =>
    obtain ⟨v, rfl, h3, h4⟩ := CA.single h (by rw [h2, hb])
    have e : xs[o]? = some v := by
      have : (xs.toList.drop o)[0]? = some v := by rw [hdrop]; rfl
      simpa using this
    exact ⟨v, by simp [part, run_isAgg' hfit, hb, e], ⟨by rw [h4]; exact h, by rw [h3, h2, hb]⟩⟩

section
variable {B : Base} {N : Nat} {o : Oper} {env : Env} {S : List Blk} {K : Option AV → List Blk → Prop}

theorem rule_conv_int {src dst : TypeId} {x : Operand} {i j : TI} {k k' : IntKind} {n : Int} (hc : B.c.ok) (ho : o.op = .convert src dst x) (hi : B.c.tt src = some i) (hj : B.c.tt dst = some j) (hk : j.k = .int k)
    (hx : evalA B.c env x = some (.d (.int k' n))) (h : K (some (.d (.int k (k.wrap n)))) S) : OpsTo B N o env S K := by
  obtain ⟨⟨d, h1, h2⟩, _⟩ := hc src i hi
  obtain ⟨⟨e, h3, h4⟩, _⟩ := hc dst j hj
  refine opsTo_pure h fun μ G a w st => ⟨_, ?_, VD.int.ra⟩
  have := (evalA_sound st hx).vd.int_inv
  rw [hk] at h4
  cases e <;> simp [tkOf] at h4
  subst h4
  simp [execOp, ho, this, convert, run_underlying h1, run_underlying h3, Conv.intToInt]

theorem rule_conv_rune {src dst : TypeId} {x : Operand} {i j : TI} {k' : IntKind} {n : Int} (hc : B.c.ok) (ho : o.op = .convert src dst x) (hi : B.c.tt src = some i) (hj : B.c.tt dst = some j) (hk : j.k = .str)
    (hx : evalA B.c env x = some (.d (.int k' n))) (h : K (some (.d (.str (Utf8.encode n)))) S) : OpsTo B N o env S K := by
  obtain ⟨⟨d, h1, h2⟩, _⟩ := hc src i hi
  obtain ⟨⟨e, h3, h4⟩, _⟩ := hc dst j hj
  refine opsTo_pure h fun μ G a w st => ⟨_, ?_, VD.str.ra⟩
  have := (evalA_sound st hx).vd.int_inv
  rw [hk] at h4
  cases e <;> simp [tkOf] at h4
  simp [execOp, ho, this, convert, run_underlying h1, run_underlying h3, Conv.intToString]

theorem rule_conv_str {src dst : TypeId} {x : Operand} {i j : TI} {s : ByteArray} (hc : B.c.ok) (ho : o.op = .convert src dst x) (hi : B.c.tt src = some i) (hj : B.c.tt dst = some j) (hk : j.k = .str)
    (hx : evalA B.c env x = some (.d (.str s))) (h : K (some (.d (.str s))) S) : OpsTo B N o env S K := by
  obtain ⟨⟨d, h1, h2⟩, _⟩ := hc src i hi
  obtain ⟨⟨e, h3, h4⟩, _⟩ := hc dst j hj
  refine opsTo_pure h fun μ G a w st => ⟨_, ?_, VD.str.ra⟩
  have := (evalA_sound st hx).vd.str_inv
  rw [hk] at h4
  cases e <;> simp [tkOf] at h4
  simp [execOp, ho, this, convert, run_underlying h1, run_underlying h3]

theorem CL.bytes {w G} {l : List UInt8} {cs} (h : CL w G (l.map fun b => D.int .u8 b.toNat) cs) : cs = l.map fun b => Value.int .u8 b.toNat := by
  induction l generalizing cs with
  | nil => cases h; rfl
  | cons b l ih => cases h with | int h => rw [ih h]; rfl

theorem bytes_length (s : ByteArray) : (D.bytes s).length = s.size := by
  show (s.data.toList.map _).length = s.data.size
  rw [List.length_map, Array.length_toList]

/-- Bytes as a string: the cells at the slice's address. -/
theorem run_conv_cells {P : Program} {src dst e : TypeId} {w : World} {a : Addr} {cap : Nat} {s : ByteArray} (hs : P.underlying src = some (.slice e)) (he : P.underlying e = some (.int .u8)) (hd : P.underlying dst = some .string)
    (hc : ∀ j v, (s.data.toList.map fun b => Value.int .u8 b.toNat)[j]? = some v → w.cell? (a.add j) = some v) :
    (convert src dst (.slice (some a) s.data.toList.length cap)).run P w = .ok (.string s) w := by
  rw [run_convert_bytes_back w src dst e a cap s.data.toList hs he hd fun j hj => hc j _ (by rw [List.getElem?_map, List.getElem?_eq_getElem hj]; rfl)]

theorem run_conv_bytes {P : Program} {src dst e : TypeId} {w : World} {G} {v : Value} {sz : Nat} {s : ByteArray} (hs : P.underlying src = some (.slice e)) (he : P.underlying e = some (.int .u8)) (hd : P.underlying dst = some .string)
    (hv : VD w G (.sl sz (D.bytes s)) v) : (convert src dst v).run P w = .ok (.string s) w := by
  rcases hv.sl_inv with ⟨rfl, h1⟩ | ⟨b, cap, c, rfl, h2, h3, h4, h5, _⟩
  · rw [run_convert_bytes_string w src dst e none 0 0 hs he hd]
    have : s = ByteArray.empty := by
      cases s with | mk d => simp [D.bytes] at h1; subst h1; rfl
    subst this
    simp [Conv.bytesToString]
  · have hcs := CL.bytes h2
    subst hcs
    have hl : (D.bytes s).length = s.data.toList.length := by simp [D.bytes]
    rw [hl]
    refine run_conv_cells hs he hd fun j v hj => ?_
    rcases h5 with h5 | h5
    · have : s.data.toList = [] := by simpa [D.bytes] using h5
      rw [this] at hj
      simp at hj
    · obtain ⟨b1, b2, b3⟩ := b
      simp only at h5
      subst h5
      rw [addr_add]
      exact (h4 j v hj).1

theorem rule_conv_bytes {src dst e : TypeId} {x : Operand} {i j ei : TI} {sz : Nat} {s : ByteArray} (hc : B.c.ok) (ho : o.op = .convert src dst x) (hi : B.c.tt src = some i) (hj : B.c.tt dst = some j) (hk : i.k = .slice e) (hkj : j.k = .str)
    (he : B.c.tt e = some ei) (hke : ei.k = .int .u8) (hx : evalA B.c env x = some (.d (.sl sz (D.bytes s)))) (h : K (some (.d (.str s))) S) : OpsTo B N o env S K := by
  obtain ⟨⟨d, h1, h2⟩, _⟩ := hc src i hi
  obtain ⟨⟨d', h3, h4⟩, _⟩ := hc dst j hj
  obtain ⟨⟨d'', h5, h6⟩, _⟩ := hc e ei he
  refine opsTo_pure h fun μ G a w st => ⟨_, ?_, VD.str.ra⟩
  have hv := (evalA_sound st hx).vd
  rw [hk] at h2
  rw [hkj] at h4
  rw [hke] at h6
  cases d <;> simp [tkOf] at h2
  cases d' <;> simp [tkOf] at h4
  cases d'' <;> simp [tkOf] at h6
  subst h2; subst h6
  simp only [execOp, ho, Sem.run_bind, run_conv_bytes h1 h5 h3 hv, Result.andThen_ok, Sem.run_pure]

theorem CL.arr_inv3 {w G n sz l cs} (h : CL w G [.arr n sz l] cs) : CL w G l cs ∧ l.length = n ∧ ∀ x ∈ l, x.size = sz := by
  generalize hq : [D.arr n sz l] = q at h
  cases h with
  | arr h1 h2 h3 h4 =>
    cases hq
    cases h4
    exact ⟨by simpa using h1, h2, h3⟩
  | _ => cases hq

theorem byteAt_get {s : ByteArray} {j : Nat} (h : j < s.size) : s[j]? = some (s.data.toList.getD j 0) := by
  rw [ByteArray.getElem?_lt' s j h]
  have h' : j < s.data.toList.length := by rw [Array.length_toList]; exact h
  rw [List.getD_eq_getElem?_getD, List.getElem?_eq_getElem h']
  rfl

theorem rule_index_str {t : TypeId} {x ix : Operand} {i : TI} {k : IntKind} {j : Int} {s : ByteArray} (hc : B.c.ok) (ho : o.op = .index t x ix) (hi : B.c.tt t = some i) (hk : i.k = .str)
    (hx : evalA B.c env x = some (.d (.str s))) (hj : evalA B.c env ix = some (.d (.int k j))) (h0 : 0 ≤ j) (h1 : j < s.size) (h : K (some (.d (.int .u8 (byteAt s j.toNat)))) S) : OpsTo B N o env S K := by
  obtain ⟨⟨d, h3, h4⟩, _⟩ := hc t i hi
  refine opsTo_pure h fun μ G a w st => ⟨_, ?_, VD.int.ra⟩
  have e1 := (evalA_sound st hx).vd.str_inv
  have e2 := (evalA_sound st hj).vd.int_inv
  rw [hk] at h4
  cases d <;> simp [tkOf] at h4
  have hlt : j.toNat < s.size := by omega
  simp only [execOp, ho, e1, e2, Instr.index, Sem.run_bind, run_asIntOf, run_underlying h3, Result.andThen_ok, if_pos h0, byteAt_get hlt, Sem.run_pure]
  rfl

theorem rule_index_arr {t e : TypeId} {x ix : Operand} {i fi : TI} {k : IntKind} {j : Int} {n sz : Nat} {xs : List D} (hc : B.c.ok) (ho : o.op = .index t x ix) (hi : B.c.tt t = some i) (hk : i.k = .arr n e) (hfi : B.c.tt e = some fi) (hsz : Nat.beq fi.size sz = true)
    (hx : evalA B.c env x = some (.d (.arr n sz xs))) (hj : evalA B.c env ix = some (.d (.int k j))) (h0 : 0 ≤ j) (h1 : j < n) (hs : shapeB fi (.d (xs.getD j.toNat .nilP)) = true) (h : K (some (.d (xs.getD j.toNat .nilP))) S) : OpsTo B N o env S K := by
  obtain ⟨⟨d, h3, h4⟩, _⟩ := hc t i hi
  have hfi' := hc e fi hfi
  have hsz := beq_true hsz
  refine opsTo_value fun μ G a w st => ?_
  have hv := (evalA_sound st hx).vd
  have e2 := (evalA_sound st hj).vd.int_inv
  rw [hk] at h4
  cases d <;> simp [tkOf] at h4
  obtain ⟨rfl, rfl⟩ := h4
  obtain ⟨cs, e1, h5⟩ : ∃ cs, a.eval x = .agg cs ∧ CL w G [.arr _ sz xs] cs.toList := by
    rcases hv.inv with ⟨_, cs, e1, h5⟩ | ⟨h5, _⟩
    · exact ⟨cs, e1, h5⟩
    · simp [D.isAgg] at h5
  obtain ⟨h6, h7, h8⟩ := h5.arr_inv3
  have hlt : j.toNat < xs.length := by omega
  obtain ⟨a1, c1, d1, e3, e4, e5⟩ := h6.get (i := j.toNat) (x := xs.getD j.toNat .nilP) (by rw [List.getD_eq_getElem?_getD, List.getElem?_eq_getElem hlt]; rfl)
  have hal : a1.length = j.toNat * fi.size := by
    rw [e4, D.sizes_uniform (sz := sz) fun x hx => h8 x (List.mem_of_mem_take hx), hsz]
    simp [Nat.min_eq_left (Nat.le_of_lt hlt)]
  obtain ⟨v, g1, g2⟩ := run_part' hc hfi hs (w := w) (CA.d_iff (μ := μ) (k := S.length).2 e5) e3 hal
  refine ⟨v, w, μ, G, _, S, ?_, h, st.st, Later.refl _ _ _ _, g2.ra (fun l e => by cases e)⟩
  simp only [execOp, ho, e1, e2, Instr.index, Sem.run_bind, run_asIntOf, run_underlying h3, Result.andThen_ok, if_pos (And.intro h0 h1), run_sizeOf' hfi', g1, Sem.run_pure]

theorem rule_field {t ft : TypeId} {x : Operand} {i fi : TI} {f off : Nat} {nm : Bool} {fs : List (Nat × Nat × Bool)} {v y : AV} (hc : B.c.ok) (ho : o.op = .field t x f) (hi : B.c.tt t = some i) (hk : i.k = .struct fs) (hf : fs[f]? = some (off, ft, nm)) (hfi : B.c.tt ft = some fi)
    (hx : evalA B.c env x = some v) (hv : notTup v = true) (hg : AV.getS v (.fld f off) = some y) (hs : shapeB fi y = true) (hy : notTup y = true) (h : K (some y) S) : OpsTo B N o env S K := by
  obtain ⟨⟨d, h3, h4⟩, _⟩ := hc t i hi
  refine opsTo_value fun μ G a w st => ?_
  have hva := (evalA_sound st hx).va (notTup_spec hv)
  rw [hk] at h4
  cases d <;> simp [tkOf] at h4
  rename_i ff
  subst h4
  obtain ⟨f1, e1, e2⟩ := List.getElem?_map.symm.trans hf |> fun (q : (ff.toList[f]?).map (fun g => (g.offset, g.type, g.name == "_")) = some (off, ft, nm)) => Option.map_eq_some_iff.1 q
  obtain ⟨rfl, rfl, _⟩ : f1.offset = off ∧ f1.type = ft ∧ (f1.name == "_") = nm := by simpa using e2
  have hagg : v.isAgg = true := by
    cases v with
    | d z => cases z <;> simp [AV.getS, D.getS] at hg <;> rfl
    | agg l => rfl
    | _ => simp [AV.getS] at hg
  obtain ⟨cs, e3, h5⟩ : ∃ cs, a.eval x = .agg cs ∧ CA μ S.length w G [v] cs.toList := by
    rcases hva.inv with ⟨_, cs, e3, h5⟩ | ⟨h5, _⟩
    · exact ⟨cs, e3, h5⟩
    · rw [hagg] at h5; cases h5
  obtain ⟨a1, c1, d1, e4, e5, e6, _⟩ := h5.getS hg trivial
  obtain ⟨u, g1, g2⟩ := run_part' hc hfi hs (w := w) e6 e4 (by simpa [offs] using e5)
  refine ⟨u, w, μ, G, y, S, ?_, h, st.st, Later.refl _ _ _ _, g2.ra (notTup_spec hy)⟩
  have e7 : ff[f]? = some f1 := by simpa using e1
  simp only [execOp, ho, e3, Instr.field, Sem.run_bind, run_underlying h3, Result.andThen_ok, e7, asAgg, Sem.run_pure, g1]

theorem rule_iface {t : TypeId} {x : Operand} {i : TI} {y : D} (hc : B.c.ok) (ho : o.op = .makeInterface t x) (hi : B.c.tt t = some i) (hk : ∀ b, i.k ≠ .iface b) (hx : evalA B.c env x = some (.d y)) (h : K (some (.d (.iface t y))) S) : OpsTo B N o env S K := by
  obtain ⟨⟨d, h3, h4⟩, _⟩ := hc t i hi
  refine opsTo_pure h fun μ G a w st => ⟨.iface t (a.eval x), ?_, ?_⟩
  · have : ∀ ms, d ≠ .interface ms := fun ms e => hk ms.isEmpty (by rw [← h4, e]; rfl)
    simp only [execOp, ho, Instr.makeInterface, Sem.run_bind, run_underlying h3, Result.andThen_ok]
    cases d <;> first | rfl | exact absurd rfl (this _)
  · have hv := (evalA_sound st hx).vd
    exact (VD.of_single (.iface hv.1 hv.2 .nil) rfl).ra

theorem rule_assert {x : Operand} {xt t : TypeId} {ok : Bool} {i : TI} {y : D} (hc : B.c.ok) (ho : o.op = .typeAssert x xt t ok) (hi : B.c.tt t = some i) (hk : ∀ b, i.k ≠ .iface b) (hx : evalA B.c env x = some (.d (.iface t y)))
    (h : K (some (match ok with | true => .tup [.d y, .d (.bool true)] | false => .d y)) S) : OpsTo B N o env S K := by
  obtain ⟨⟨d, h3, h4⟩, _⟩ := hc t i hi
  refine opsTo_value fun μ G a w st => ?_
  obtain ⟨u, e1, e2⟩ := (evalA_sound st hx).vd.iface_inv
  have hd : ∀ ms, d ≠ .interface ms := fun ms e => hk ms.isEmpty (by rw [← h4, e]; rfl)
  refine ⟨if ok then .tuple #[u, .bool true] else u, w, μ, G, _, S, ?_, h, st.st, Later.refl _ _ _ _, ?_⟩
  · simp only [execOp, ho, e1, Instr.typeAssert, Sem.run_bind, run_underlying h3, Result.andThen_ok]
    cases d <;> first | (simp; done) | exact absurd rfl (hd _)
  · cases ok with
    | true => exact ⟨[u, .bool true], rfl, .cons (VA.d_iff.2 e2) (.cons (VA.d_iff.2 VD.bool) .nil)⟩
    | false => exact e2.ra

theorem rule_assert_no {x : Operand} {xt t : TypeId} {i : TI} {y z : D} (hc : B.c.ok) (ho : o.op = .typeAssert x xt t true) (hi : B.c.tt t = some i) (hk : ∀ b, i.k ≠ .iface b) (hz : i.zero = some z) (hx : evalA B.c env x = some (.d y))
    (hy : y = .nilI ∨ ∃ t' y', y = .iface t' y' ∧ t' ≠ t) (h : K (some (.tup [.d z, .d (.bool false)])) S) : OpsTo B N o env S K := by
  obtain ⟨⟨d, h3, h4⟩, info, f1, f2, f3, f4⟩ := hc t i hi
  obtain ⟨v, f5, f6⟩ := f4 z hz
  refine opsTo_value fun μ G a w st => ?_
  have hd : ∀ ms, d ≠ .interface ms := fun ms e => hk ms.isEmpty (by rw [← h4, e]; rfl)
  have hzr : (zeroValue t).run B.c.P w = .ok v w := by simp [zeroValue, typeInfo, f1, f5]
  refine ⟨.tuple #[v, .bool false], w, μ, G, _, S, ?_, h, st.st, Later.refl _ _ _ _, ⟨[v, .bool false], rfl, .cons (VA.d_iff.2 (f6 w G)) (.cons (VA.d_iff.2 VD.bool) .nil)⟩⟩
  rcases hy with rfl | ⟨t', y', rfl, hne⟩
  · have e1 := (evalA_sound st hx).vd.nilI_inv
    simp only [execOp, ho, e1, Instr.typeAssert, Sem.run_bind, run_underlying h3, Result.andThen_ok]
    cases d <;> first | (simp [hzr]; done) | exact absurd rfl (hd _)
  · obtain ⟨u, e1, e2⟩ := (evalA_sound st hx).vd.iface_inv
    simp only [execOp, ho, e1, Instr.typeAssert, Sem.run_bind, run_underlying h3, Result.andThen_ok]
    cases d <;> first | (simp [hzr, hne]; done) | exact absurd rfl (hd _)

theorem rule_nilCheck {x : Operand} {v : AV} (ho : o.op = .nilCheck x) (hx : evalA B.c env x = some v) (hv : (∃ n p, v = .ptr n p) ∨ (∃ y, v = .d (.cptr y)) ∨ ∃ f cs, v = .fn f cs) (h : K (some v) S) : OpsTo B N o env S K := by
  refine opsTo_pure h fun μ G a w st => ⟨a.eval x, ?_, evalA_sound st hx⟩
  have hva := evalA_sound st hx
  rcases hv with ⟨n, p, rfl⟩ | ⟨y, rfl⟩ | ⟨f, cs, rfl⟩
  · obtain ⟨q, e⟩ := VA.ptr_some hva
    simp [execOp, ho, e]
  · obtain ⟨q, e⟩ := VD.cptr_inv' hva.vd
    simp [execOp, ho, e]
  · have e := VA.fn_inv hva
    simp [execOp, ho, e]

def capNames (ρ : Operand → Option AV) : List Operand → Option (List Nat)
  | [] => some []
  | x :: l => match ρ x with
    | some (.ptr n []) => match capNames ρ l with
      | some ns => some (n :: ns)
      | none => none
    | _ => none

theorem capNames_sound {μ G a w} (st : At1 B N env S μ G a w) : ∀ {l : List Operand} {ns : List Nat}, capNames (evalA B.c env) l = some ns → l.map a.eval = ns.map μ ∧ ∀ n ∈ ns, n < S.length ∧ solid (μ n)
  | [], ns, h => by simp only [capNames] at h; cases h; exact ⟨rfl, by simp⟩
  | x :: l, ns, h => by
    simp only [capNames] at h
    split at h
    case h_2 => cases h
    rename_i n hn
    split at h
    case h_2 => cases h
    rename_i ns' hns
    cases h
    obtain ⟨h1, h2⟩ := capNames_sound st hns
    obtain ⟨b, g1, g2, g3, g4⟩ := VA.ptr_inv (evalA_sound st hn)
    have g4 : a.eval x = μ n := by rw [g4, g2]; rfl
    refine ⟨by simp [h1, g4], fun m hm => ?_⟩
    rcases List.mem_cons.1 hm with rfl | hm
    · exact ⟨g1, by rw [g2]; trivial⟩
    · exact h2 m hm

theorem rule_makeFunc {f : FuncId} {cs : Array Operand} {ns : List Nat} (ho : o.op = .makeFunc (.func f) #[] cs) (hn : capNames (evalA B.c env) cs.toList = some ns) (h : K (some (.fn f ns)) S) : OpsTo B N o env S K := by
  refine opsTo_pure h fun μ G a w st => ?_
  obtain ⟨h1, h2⟩ := capNames_sound st hn
  refine ⟨.func (.func f) #[] (ns.map μ).toArray, ?_, VA.ra (VA.of_single (.fn h2 .nil) rfl) (fun l e => by cases e)⟩
  have : Array.map a.eval cs = (ns.map μ).toArray := by
    rw [← h1]; apply Array.ext'; simp
  simp [execOp, ho, Instr.makeFunc, this]

/-- A bound of a slice. -/
def wBnd (ρ : Operand → Option AV) (x : Option Operand) (dflt : Int) : Option Int :=
  match x with
  | none => some dflt
  | some x => match ρ x with
    | some (.d (.int _ n)) => some n
    | _ => none

theorem wBnd_sound {μ G a w} (st : At1 B N env S μ G a w) {x : Option Operand} {dflt n : Int} (h : wBnd (evalA B.c env) x dflt = some n) : (x = none ∧ n = dflt) ∨ ∃ y k, x = some y ∧ a.eval y = .int k n := by
  cases x with
  | none => simp only [wBnd] at h; cases h; exact .inl ⟨rfl, rfl⟩
  | some x =>
    simp only [wBnd] at h
    split at h
    case h_2 => cases h
    rename_i k m hm
    cases h
    exact .inr ⟨x, k, rfl, (evalA_sound st hm).vd.int_inv⟩

theorem run_bounds {P : Program} {isSlice : Bool} {len cap : Nat} {lo hi : Option Value} {l h : Int} (hl : (lo = none ∧ l = 0) ∨ ∃ k, lo = some (.int k l)) (hh : (hi = none ∧ h = len) ∨ ∃ k, hi = some (.int k h)) (h0 : 0 ≤ l) (h1 : l ≤ h) (h2 : h ≤ cap) (w : World) :
    (Instr.sliceBounds isSlice len cap lo hi none).run P w = .ok (l.toNat, h.toNat, cap) w := by
  have hh0 : 0 ≤ h := by omega
  have eh : (h.toNat : Int) = h := Int.toNat_of_nonneg hh0
  rcases hh with ⟨e3, e4⟩ | ⟨k', e3⟩
  · subst e4
    rcases hl with ⟨e1, e2⟩ | ⟨k, e1⟩ <;> simp [Instr.sliceBounds, run_sliceBound, *]
  · rcases hl with ⟨e1, e2⟩ | ⟨k, e1⟩ <;> simp [Instr.sliceBounds, run_sliceBound, *]

theorem rule_slice_str {t : TypeId} {x : Operand} {lo hi : Option Operand} {i : TI} {s : ByteArray} {l h : Int} (hc : B.c.ok) (ho : o.op = .slice t x lo hi none) (hi' : B.c.tt t = some i) (hk : i.k = .str) (hx : evalA B.c env x = some (.d (.str s)))
    (hl : wBnd (evalA B.c env) lo 0 = some l) (hh : wBnd (evalA B.c env) hi s.size = some h) (h0 : 0 ≤ l) (h1 : l ≤ h) (h2 : h ≤ s.size) (hK : K (some (.d (.str (s.extract l.toNat h.toNat)))) S) : OpsTo B N o env S K := by
  obtain ⟨⟨d, h3, h4⟩, _⟩ := hc t i hi'
  refine opsTo_pure hK fun μ G a w st => ⟨_, ?_, VD.str.ra⟩
  have e1 := (evalA_sound st hx).vd.str_inv
  rw [hk] at h4
  cases d <;> simp [tkOf] at h4
  have hb := run_bounds (P := B.c.P) (isSlice := false) (len := s.size) (cap := s.size) (lo := lo.map a.eval) (hi := hi.map a.eval) (l := l) (h := h)
    (by rcases wBnd_sound st hl with ⟨e1, e2⟩ | ⟨y, k, e1, e⟩; exact .inl ⟨by rw [e1]; rfl, e2⟩; exact .inr ⟨k, by rw [e1]; simp [e]⟩)
    (by rcases wBnd_sound st hh with ⟨e1, e2⟩ | ⟨y, k, e1, e⟩; exact .inl ⟨by rw [e1]; rfl, e2⟩; exact .inr ⟨k, by rw [e1]; simp [e]⟩) h0 h1 h2 w
  simp only [execOp, ho, e1, Instr.sliceAt, Instr.slice, Option.map_none, Sem.run_bind, run_underlying h3, Result.andThen_ok, hb, Option.isSome_none, Bool.false_eq_true, if_false, Sem.run_pure]

theorem rule_slice_sl {t e : TypeId} {x : Operand} {lo hi : Option Operand} {i fi : TI} {sz : Nat} {xs : List D} {l h : Int} (hc : B.c.ok) (ho : o.op = .slice t x lo hi none) (hi' : B.c.tt t = some i) (hk : i.k = .slice e) (hfi : B.c.tt e = some fi) (hsz : Nat.beq fi.size sz = true)
    (hx : evalA B.c env x = some (.d (.sl sz xs))) (hl : wBnd (evalA B.c env) lo 0 = some l) (hh : wBnd (evalA B.c env) hi xs.length = some h) (h0 : 0 ≤ l) (h1 : l ≤ h) (h2 : h ≤ xs.length)
    (hK : K (some (.d (.sl sz ((xs.drop l.toNat).take (h - l).toNat)))) S) : OpsTo B N o env S K := by
  obtain ⟨⟨d, h3, h4⟩, _⟩ := hc t i hi'
  have hfi' := hc e fi hfi
  have hsz := beq_true hsz
  rw [hk] at h4
  cases d <;> simp [tkOf] at h4
  subst h4
  have hl' : ∀ {μ G a w}, At1 B N env S μ G a w → ((lo.map a.eval = none ∧ l = 0) ∨ ∃ k, lo.map a.eval = some (.int k l)) := fun st => by
    rcases wBnd_sound st hl with ⟨e1, e2⟩ | ⟨y, k, e1, e⟩; exact .inl ⟨by rw [e1]; rfl, e2⟩; exact .inr ⟨k, by rw [e1]; simp [e]⟩
  have hh' : ∀ {μ G a w}, At1 B N env S μ G a w → ((hi.map a.eval = none ∧ h = xs.length) ∨ ∃ k, hi.map a.eval = some (.int k h)) := fun st => by
    rcases wBnd_sound st hh with ⟨e1, e2⟩ | ⟨y, k, e1, e⟩; exact .inl ⟨by rw [e1]; rfl, e2⟩; exact .inr ⟨k, by rw [e1]; simp [e]⟩
  refine opsTo_value fun μ G a w st => ?_
  have hv := (evalA_sound st hx).vd
  rcases hv.sl_inv with ⟨e1, rfl⟩ | ⟨b, cap, c, e1, g1, g2, g3, g4, g5, g6⟩
  · simp at h2
    obtain rfl : l = 0 := by omega
    obtain rfl : h = 0 := by omega
    have hb := run_bounds (P := B.c.P) (isSlice := true) (len := 0) (cap := 0) (lo := lo.map a.eval) (hi := hi.map a.eval) (hl' st) (hh' st) h0 h1 (by omega) w
    refine ⟨.slice none 0 0, w, μ, G, _, S, ?_, hK, st.st, Later.refl _ _ _ _, ?_⟩
    · simp only [execOp, ho, e1, Instr.sliceAt, Instr.slice, Option.map_none, Sem.run_bind, run_underlying h3, Result.andThen_ok, hb, run_sizeOf' hfi', Sem.run_pure]
      rfl
    · exact (VD.of_single (x := .sl sz []) (.slnil .nil) rfl).ra
  · have hb := run_bounds (P := B.c.P) (isSlice := true) (len := xs.length) (cap := cap) (hl' st) (hh' st) h0 h1 (by omega) w
    refine ⟨.slice (if cap = l.toNat then some b else (some b).map (·.add (l.toNat * fi.size))) (h.toNat - l.toNat) (cap - l.toNat), w, μ, G, _, S, ?_, hK, st.st, Later.refl _ _ _ _, ?_⟩
    · simp only [execOp, ho, e1, Instr.sliceAt, Instr.slice, Option.map_none, Sem.run_bind, run_underlying h3, Result.andThen_ok, hb, run_sizeOf' hfi', Sem.run_pure]
    · have en : h.toNat - l.toNat = (h - l).toNat := by omega
      rw [en]
      have hlen : ((xs.drop l.toNat).take (h - l).toNat).length = (h - l).toNat := by simp; omega
      by_cases hcap : cap = l.toNat
      · rw [if_pos hcap]
        have e0 : (h - l).toNat = 0 := by omega
        rw [e0] at hlen ⊢
        have : (xs.drop l.toNat).take 0 = [] := by simp
        rw [this]
        exact (VD.of_single (x := .sl sz []) (.sl (a := b) .nil rfl (by simp) (fun j v hj => by simp at hj) (.inl rfl) (by simp) (by omega) .nil) rfl).ra
      · rw [if_neg hcap]
        by_cases he : xs = []
        · subst he
          have : (h - l).toNat = 0 := by simp at h2; omega
          rw [this]
          simp only [List.drop_nil, List.take_nil, Option.map_some]
          exact (VD.of_single (x := .sl sz []) (.sl .nil rfl (by simp) (fun j v hj => by simp at hj) (.inl rfl) (by simp) (by omega) .nil) rfl).ra
        · have hsp : b.spot = none := g4.resolve_left he
          obtain ⟨b1, b2, b3⟩ := b
          simp only at hsp
          subst hsp
          simp only [Option.map_some, addr_add]
          have := sl_of_part g1 g2 g3 l.toNat (h - l).toNat (by omega) (cap := cap - l.toNat) (by omega) (by omega)
          rw [hsz]
          exact this.ra

/-- A string's bytes, in new memory that stays. -/
theorem rule_conv_sb {src dst e : TypeId} {x : Operand} {i j ei : TI} {s : ByteArray} (hc : B.c.ok) (ho : o.op = .convert src dst x) (hi : B.c.tt src = some i) (hj : B.c.tt dst = some j) (hk : i.k = .str) (hkj : j.k = .slice e)
    (he : B.c.tt e = some ei) (hke : ei.k = .int .u8) (hx : evalA B.c env x = some (.d (.str s))) (hs : s.size ≤ maxLen) (h : K (some (.d (.sl 1 (D.bytes s)))) S) : OpsTo B N o env S K := by
  obtain ⟨⟨d, h1, h2⟩, _⟩ := hc src i hi
  obtain ⟨⟨d', h3, h4⟩, _⟩ := hc dst j hj
  obtain ⟨⟨d'', h5, h6⟩, _⟩ := hc e ei he
  refine opsTo_value fun μ G a w st => ?_
  have hv := (evalA_sound st hx).vd.str_inv
  rw [hk] at h2
  rw [hkj] at h4
  rw [hke] at h6
  cases d <;> simp [tkOf] at h2
  cases d' <;> simp [tkOf] at h4
  cases d'' <;> simp [tkOf] at h6
  subst h4; subst h6
  have hr := run_bytes_of_string (P := B.c.P) w src dst _ s h1 h3 h5
  generalize hcap : grownCap w s.size 0 _ = cap at hr
  have hge : s.size ≤ cap := by rw [← hcap]; exact grownCap_ge w s.size 0 _
  have hle : cap ≤ maxLen := by rw [← hcap]; exact grownCap_le_maxLen w s.size 0 _ hs
  generalize hw : w.drew.alloc _ = w' at hr
  have hn : Next w w' none := by
    subst hw
    exact ⟨rfl, rfl, rfl, by show w.heap.size ≤ (w.heap.push _).size; simp, fun k hk _ => by
      show (w.heap.push _)[k]? = _
      rw [Array.getElem?_push, if_neg (by omega)]⟩
  have hsz : w.heap.size < w'.heap.size := by subst hw; show w.heap.size < (w.heap.push _).size; simp
  have st' := st.st.more hn (Nat.le_refl _) hsz
  have hcells := hn.cells st.st.gv (G := G) (fun k hk => by cases hk)
  refine ⟨.slice (some ⟨w.heap.size, 0, none⟩) s.size cap, w', μ, (fun n o => G n o ∨ n = w.heap.size), .d (.sl 1 (D.bytes s)), S, by simp only [execOp, ho, hv, Sem.run_bind, hr, Result.andThen_ok, Sem.run_pure], h, st', ⟨Nat.le_refl _, fun _ _ => rfl, fun _ _ h => .inl h, hcells⟩, ?_⟩
  have hcl : ∀ (l : List UInt8), CL w' (fun n o => G n o ∨ n = w.heap.size) (l.map fun b => D.int .u8 b.toNat) (l.map fun b => Value.int .u8 b.toNat) := by
    intro l
    induction l with
    | nil => exact .nil
    | cons b l ih => exact .int ih
  have hat : At w' (fun n o => G n o ∨ n = w.heap.size) w.heap.size 0 (s.data.toList.map fun b => Value.int .u8 b.toNat) := by
    intro k v hk
    refine ⟨?_, .inr rfl⟩
    have hkl : k < s.data.size := by
      have := (List.getElem?_eq_some_iff.1 hk).1
      simpa using this
    rw [← hw, Nat.zero_add]
    refine (World.cell?_alloc_mark w.drew (bytesRow s cap) _ ((bytesRow s cap).size, (bytesRow s cap).size + 1) k).trans ?_
    rw [bytesRow_at s cap k hkl, ← hk, List.getElem?_map, List.getElem?_eq_getElem (by simpa using hkl)]
    simp
  refine (VD.of_single (.sl (a := ⟨w.heap.size, 0, none⟩) (hcl s.data.toList) ?_ ?_ hat (.inr rfl) hge hle .nil) rfl).ra
  · exact bytes_length s
  · intro x hx
    obtain ⟨b, _, rfl⟩ := List.mem_map.1 hx
    rfl

end
end Go.Ab
