/-
  An own logic over the kit's 'Calls' (AbC): conversions, strings gone through, rows that grow; all operations in one predicate.
-/
import Derived.Test.YtboohfijacjhjaaDoorAbB
import Derived.Laws.BytesString
import Derived.Laws.IdiomStrings
import Derived.Laws.Slices
import Derived.Laws.RangeString
import Derived.Laws.Small
namespace Go.Ab
open Go.RowKit

theorem St.more {B S μ G w w'} (st : St B S μ G w) (h : Next w w' none) {b : Nat} (hb : w.heap.size ≤ b) (hb' : b < w'.heap.size) : St B S μ (fun n o => G n o ∨ n = b) w' := by
  have q := st.quiet h
  exact {
    blks := fun i bl hi => (q.blks i bl hi).mono (Nat.le_refl _) (fun _ _ _ => rfl) (fun _ _ h => .inl h) (fun _ _ _ _ h => h) (fun _ _ _ => rfl)
    apart := q.apart
    free := fun i bl n hi hl hn o ho hg => hg.elim (q.free i bl n hi hl hn o ho) (fun e => by have := (st.blks i bl hi).bid_lt hl n hn; omega)
    gv := fun b' o hg => hg.elim (q.gv b' o) (fun e => by rw [e]; exact hb')
    k0 := q.k0
    keep := q.keep
    g0 := fun b o h => .inl (q.g0 b o h)
    gn := fun b' o hg => hg.elim (q.gn b' o) (fun e => .inr (.inl (by rw [e]; exact Nat.le_trans st.size hb)))
    new := q.new
    os := q.os
    tape := q.tape
    output := q.output
    size := q.size
    fr := q.fr
    lv := q.lv
    glob := fun g x hx => (q.glob g x hx).mono (fun _ _ h => .inl h) (fun _ _ _ _ h => h)
    gw := q.gw }

def D.bytes (s : ByteArray) : List D := s.data.toList.map fun b => .int .u8 b.toNat

def byteAt (s : ByteArray) (i : Nat) : Int := ((s.data.toList.getD i 0).toNat : Int)

theorem run_part' {c : Ctx} (hc : c.ok) {t : Nat} {i : TI} (hi : c.tt t = some i) {μ k w G y} (hs : shapeB i y = true) {a cs d : List Value} {xs : Array Value} {o : Nat} (h : CA μ k w G [y] cs) (hx : xs.toList = a ++ (cs ++ d)) (ha : a.length = o) :
    ∃ v, (part t xs o).run c.P w = .ok v w ∧ VA μ k w G y v := by
  have hfit := hc t i hi
  obtain ⟨h1, h2⟩ := shapeB_spec hs
  have hlen := h.length
  simp only [AV.sizes, Nat.add_zero, h1] at hlen
  have hdrop : xs.toList.drop o = cs ++ d := by rw [hx, ← ha]; simp
  cases hb : i.k.agg with
  | true =>
    refine ⟨.agg (xs.extract o (o + i.size)), by simp [part, run_isAgg' hfit, hb, run_sizeOf' hfit], ?_⟩
    have e : (xs.extract o (o + i.size)).toList = cs := by
      rw [Array.toList_extract, List.extract_eq_take_drop, hdrop, ← hlen]
      simp
    refine ⟨by simp only [Value.cells]; rw [e]; exact h, by simp [vAgg, h2, hb]⟩
  | false =>
    obtain ⟨v, rfl, h3, h4⟩ := CA.single h (by rw [h2, hb])
    have e : xs[o]? = some v := by
      have : (xs.toList.drop o)[0]? = some v := by rw [hdrop]; rfl
      simpa using this
    exact ⟨v, by simp [part, run_isAgg' hfit, hb, e], ⟨by rw [h4]; exact h, by rw [h3, h2, hb]⟩⟩

section
variable {B : Base} {N : Nat} {o : Oper} {env : Env} {S : List Blk} {K : Option AV → List Blk → Prop}

theorem rule_conv_int {src dst : TypeId} {x : Operand} {i j : TI} {k k' : IntKind} {n : Int} (hc : B.c.ok) (ho : o.op = .convert src dst x) (hi : B.c.tt src = some i) (hj : B.c.tt dst = some j) (hk : j.k = .int k)
    (hx : evalA B.c env x = some (.d (.int k' n))) (h : K (some (.d (.int k (k.wrap n)))) S) : OpsTo B N o env S K := by
  obtain ⟨⟨d, h1, h2⟩, _⟩ := hc src i hi
  obtain ⟨⟨e, h3, h4⟩, _⟩ := hc dst j hj
  refine opsTo_pure h fun μ G a w st => ⟨_, ?_, VD.int.ra⟩
  have := (evalA_sound st hx).vd.int_inv
  rw [hk] at h4
  cases e <;> simp [tkOf] at h4
  subst h4
  simp [execOp, ho, this, convert, run_underlying h1, run_underlying h3, Conv.intToInt]

theorem rule_conv_rune {src dst : TypeId} {x : Operand} {i j : TI} {k' : IntKind} {n : Int} (hc : B.c.ok) (ho : o.op = .convert src dst x) (hi : B.c.tt src = some i) (hj : B.c.tt dst = some j) (hk : j.k = .str)
    (hx : evalA B.c env x = some (.d (.int k' n))) (h : K (some (.d (.str (Utf8.encode n)))) S) : OpsTo B N o env S K := by
  obtain ⟨⟨d, h1, h2⟩, _⟩ := hc src i hi
  obtain ⟨⟨e, h3, h4⟩, _⟩ := hc dst j hj
  refine opsTo_pure h fun μ G a w st => ⟨_, ?_, VD.str.ra⟩
  have := (evalA_sound st hx).vd.int_inv
  rw [hk] at h4
  cases e <;> simp [tkOf] at h4
  simp [execOp, ho, this, convert, run_underlying h1, run_underlying h3, Conv.intToString]

theorem rule_conv_str {src dst : TypeId} {x : Operand} {i j : TI} {s : ByteArray} (hc : B.c.ok) (ho : o.op = .convert src dst x) (hi : B.c.tt src = some i) (hj : B.c.tt dst = some j) (hk : j.k = .str)
    (hx : evalA B.c env x = some (.d (.str s))) (h : K (some (.d (.str s))) S) : OpsTo B N o env S K := by
  obtain ⟨⟨d, h1, h2⟩, _⟩ := hc src i hi
  obtain ⟨⟨e, h3, h4⟩, _⟩ := hc dst j hj
  refine opsTo_pure h fun μ G a w st => ⟨_, ?_, VD.str.ra⟩
  have := (evalA_sound st hx).vd.str_inv
  rw [hk] at h4
  cases e <;> simp [tkOf] at h4
  simp [execOp, ho, this, convert, run_underlying h1, run_underlying h3]

theorem CL.bytes {w G} {l : List UInt8} {cs} (h : CL w G (l.map fun b => D.int .u8 b.toNat) cs) : cs = l.map fun b => Value.int .u8 b.toNat := by
  induction l generalizing cs with
  | nil => cases h; rfl
  | cons b l ih => cases h with | int h => rw [ih h]; rfl

theorem bytes_length (s : ByteArray) : (D.bytes s).length = s.size := by
  show (s.data.toList.map _).length = s.data.size
  rw [List.length_map, Array.length_toList]

/-- Bytes as a string: the cells at the slice's address. -/
theorem run_conv_cells {P : Program} {src dst e : TypeId} {w : World} {a : Addr} {cap : Nat} {s : ByteArray} (hs : P.underlying src = some (.slice e)) (he : P.underlying e = some (.int .u8)) (hd : P.underlying dst = some .string)
    (hc : ∀ j v, (s.data.toList.map fun b => Value.int .u8 b.toNat)[j]? = some v → w.cell? (a.add j) = some v) :
    (convert src dst (.slice (some a) s.data.toList.length cap)).run P w = .ok (.string s) w := by
  rw [run_convert_bytes_back w src dst e a cap s.data.toList hs he hd fun j hj => hc j _ (by rw [List.getElem?_map, List.getElem?_eq_getElem hj]; rfl)]

theorem run_conv_bytes {P : Program} {src dst e : TypeId} {w : World} {G} {v : Value} {sz : Nat} {s : ByteArray} (hs : P.underlying src = some (.slice e)) (he : P.underlying e = some (.int .u8)) (hd : P.underlying dst = some .string)
    (hv : VD w G (.sl sz (D.bytes s)) v) : (convert src dst v).run P w = .ok (.string s) w := by
  rcases hv.sl_inv with ⟨rfl, h1⟩ | ⟨b, cap, c, rfl, h2, h3, h4, h5, _⟩
  · rw [run_convert_bytes_string w src dst e none 0 0 hs he hd]
    have : s = ByteArray.empty := by
      cases s with | mk d => simp [D.bytes] at h1; subst h1; rfl
    subst this
    simp [Conv.bytesToString]
  · have hcs := CL.bytes h2
    subst hcs
    have hl : (D.bytes s).length = s.data.toList.length := by simp [D.bytes]
    rw [hl]
    refine run_conv_cells hs he hd fun j v hj => ?_
    rcases h5 with h5 | h5
    · have : s.data.toList = [] := by simpa [D.bytes] using h5
      rw [this] at hj
      simp at hj
    · obtain ⟨b1, b2, b3⟩ := b
      simp only at h5
      subst h5
      rw [addr_add]
      exact (h4 j v hj).1

theorem rule_conv_bytes {src dst e : TypeId} {x : Operand} {i j ei : TI} {sz : Nat} {s : ByteArray} (hc : B.c.ok) (ho : o.op = .convert src dst x) (hi : B.c.tt src = some i) (hj : B.c.tt dst = some j) (hk : i.k = .slice e) (hkj : j.k = .str)
    (he : B.c.tt e = some ei) (hke : ei.k = .int .u8) (hx : evalA B.c env x = some (.d (.sl sz (D.bytes s)))) (h : K (some (.d (.str s))) S) : OpsTo B N o env S K := by
  obtain ⟨⟨d, h1, h2⟩, _⟩ := hc src i hi
  obtain ⟨⟨d', h3, h4⟩, _⟩ := hc dst j hj
  obtain ⟨⟨d'', h5, h6⟩, _⟩ := hc e ei he
  refine opsTo_pure h fun μ G a w st => ⟨_, ?_, VD.str.ra⟩
  have hv := (evalA_sound st hx).vd
  rw [hk] at h2
  rw [hkj] at h4
  rw [hke] at h6
  cases d <;> simp [tkOf] at h2
  cases d' <;> simp [tkOf] at h4
  cases d'' <;> simp [tkOf] at h6
  subst h2; subst h6
  simp only [execOp, ho, Sem.run_bind, run_conv_bytes h1 h5 h3 hv, Result.andThen_ok, Sem.run_pure]

theorem CL.arr_inv3 {w G n sz l cs} (h : CL w G [.arr n sz l] cs) : CL w G l cs ∧ l.length = n ∧ ∀ x ∈ l, x.size = sz := by
  generalize hq : [D.arr n sz l] = q at h
  cases h with
  | arr h1 h2 h3 h4 =>
    cases hq
    cases h4
    exact ⟨by simpa using h1, h2, h3⟩
  | _ => cases hq

theorem byteAt_get {s : ByteArray} {j : Nat} (h : j < s.size) : s[j]? = some (s.data.toList.getD j 0) := by
  rw [ByteArray.getElem?_lt' s j h]
  have h' : j < s.data.toList.length := by rw [Array.length_toList]; exact h
  rw [List.getD_eq_getElem?_getD, List.getElem?_eq_getElem h']
  rfl

theorem rule_index_str {t : TypeId} {x ix : Operand} {i : TI} {k : IntKind} {j : Int} {s : ByteArray} (hc : B.c.ok) (ho : o.op = .index t x ix) (hi : B.c.tt t = some i) (hk : i.k = .str)
    (hx : evalA B.c env x = some (.d (.str s))) (hj : evalA B.c env ix = some (.d (.int k j))) (h0 : 0 ≤ j) (h1 : j < s.size) (h : K (some (.d (.int .u8 (byteAt s j.toNat)))) S) : OpsTo B N o env S K := by
  obtain ⟨⟨d, h3, h4⟩, _⟩ := hc t i hi
  refine opsTo_pure h fun μ G a w st => ⟨_, ?_, VD.int.ra⟩
  have e1 := (evalA_sound st hx).vd.str_inv
  have e2 := (evalA_sound st hj).vd.int_inv
  rw [hk] at h4
  cases d <;> simp [tkOf] at h4
  have hlt : j.toNat < s.size := by omega
  simp only [execOp, ho, e1, e2, Instr.index, Sem.run_bind, run_asIntOf, run_underlying h3, Result.andThen_ok, if_pos h0, byteAt_get hlt, Sem.run_pure]
  rfl

theorem rule_index_arr {t e : TypeId} {x ix : Operand} {i fi : TI} {k : IntKind} {j : Int} {n sz : Nat} {xs : List D} (hc : B.c.ok) (ho : o.op = .index t x ix) (hi : B.c.tt t = some i) (hk : i.k = .arr n e) (hfi : B.c.tt e = some fi) (hsz : Nat.beq fi.size sz = true)
    (hx : evalA B.c env x = some (.d (.arr n sz xs))) (hj : evalA B.c env ix = some (.d (.int k j))) (h0 : 0 ≤ j) (h1 : j < n) (hs : shapeB fi (.d (xs.getD j.toNat .nilP)) = true) (h : K (some (.d (xs.getD j.toNat .nilP))) S) : OpsTo B N o env S K := by
  obtain ⟨⟨d, h3, h4⟩, _⟩ := hc t i hi
  have hfi' := hc e fi hfi
  have hsz := beq_true hsz
  refine opsTo_value fun μ G a w st => ?_
  have hv := (evalA_sound st hx).vd
  have e2 := (evalA_sound st hj).vd.int_inv
  rw [hk] at h4
  cases d <;> simp [tkOf] at h4
  obtain ⟨rfl, rfl⟩ := h4
  obtain ⟨cs, e1, h5⟩ : ∃ cs, a.eval x = .agg cs ∧ CL w G [.arr _ sz xs] cs.toList := by
    rcases hv.inv with ⟨_, cs, e1, h5⟩ | ⟨h5, _⟩
    · exact ⟨cs, e1, h5⟩
    · simp [D.isAgg] at h5
  obtain ⟨h6, h7, h8⟩ := h5.arr_inv3
  have hlt : j.toNat < xs.length := by omega
  obtain ⟨a1, c1, d1, e3, e4, e5⟩ := h6.get (i := j.toNat) (x := xs.getD j.toNat .nilP) (by rw [List.getD_eq_getElem?_getD, List.getElem?_eq_getElem hlt]; rfl)
  have hal : a1.length = j.toNat * fi.size := by
    rw [e4, D.sizes_uniform (sz := sz) fun x hx => h8 x (List.mem_of_mem_take hx), hsz]
    simp [Nat.min_eq_left (Nat.le_of_lt hlt)]
  obtain ⟨v, g1, g2⟩ := run_part' hc hfi hs (w := w) (CA.d_iff (μ := μ) (k := S.length).2 e5) e3 hal
  refine ⟨v, w, μ, G, _, S, ?_, h, st.st, Later.refl _ _ _ _, g2.ra (fun l e => by cases e)⟩
  simp only [execOp, ho, e1, e2, Instr.index, Sem.run_bind, run_asIntOf, run_underlying h3, Result.andThen_ok, if_pos (And.intro h0 h1), run_sizeOf' hfi', g1, Sem.run_pure]

theorem rule_field {t ft : TypeId} {x : Operand} {i fi : TI} {f off : Nat} {nm : Bool} {fs : List (Nat × Nat × Bool)} {v y : AV} (hc : B.c.ok) (ho : o.op = .field t x f) (hi : B.c.tt t = some i) (hk : i.k = .struct fs) (hf : fs[f]? = some (off, ft, nm)) (hfi : B.c.tt ft = some fi)
    (hx : evalA B.c env x = some v) (hv : notTup v = true) (hg : AV.getS v (.fld f off) = some y) (hs : shapeB fi y = true) (hy : notTup y = true) (h : K (some y) S) : OpsTo B N o env S K := by
  obtain ⟨⟨d, h3, h4⟩, _⟩ := hc t i hi
  refine opsTo_value fun μ G a w st => ?_
  have hva := (evalA_sound st hx).va (notTup_spec hv)
  rw [hk] at h4
  cases d <;> simp [tkOf] at h4
  rename_i ff
  subst h4
  obtain ⟨f1, e1, e2⟩ := List.getElem?_map.symm.trans hf |> fun (q : (ff.toList[f]?).map (fun g => (g.offset, g.type, g.name == "_")) = some (off, ft, nm)) => Option.map_eq_some_iff.1 q
  obtain ⟨rfl, rfl, _⟩ : f1.offset = off ∧ f1.type = ft ∧ (f1.name == "_") = nm := by simpa using e2
  have hagg : v.isAgg = true := by
    cases v with
    | d z => cases z <;> simp [AV.getS, D.getS] at hg <;> rfl
    | agg l => rfl
    | _ => simp [AV.getS] at hg
  obtain ⟨cs, e3, h5⟩ : ∃ cs, a.eval x = .agg cs ∧ CA μ S.length w G [v] cs.toList := by
    rcases hva.inv with ⟨_, cs, e3, h5⟩ | ⟨h5, _⟩
    · exact ⟨cs, e3, h5⟩
    · rw [hagg] at h5; cases h5
  obtain ⟨a1, c1, d1, e4, e5, e6, _⟩ := h5.getS hg trivial
  obtain ⟨u, g1, g2⟩ := run_part' hc hfi hs (w := w) e6 e4 (by simpa [offs] using e5)
  refine ⟨u, w, μ, G, y, S, ?_, h, st.st, Later.refl _ _ _ _, g2.ra (notTup_spec hy)⟩
  have e7 : ff[f]? = some f1 := by simpa using e1
  simp only [execOp, ho, e3, Instr.field, Sem.run_bind, run_underlying h3, Result.andThen_ok, e7, asAgg, Sem.run_pure, g1]

theorem rule_iface {t : TypeId} {x : Operand} {i : TI} {y : D} (hc : B.c.ok) (ho : o.op = .makeInterface t x) (hi : B.c.tt t = some i) (hk : ∀ b, i.k ≠ .iface b) (hx : evalA B.c env x = some (.d y)) (h : K (some (.d (.iface t y))) S) : OpsTo B N o env S K := by
  obtain ⟨⟨d, h3, h4⟩, _⟩ := hc t i hi
  refine opsTo_pure h fun μ G a w st => ⟨.iface t (a.eval x), ?_, ?_⟩
  · have : ∀ ms, d ≠ .interface ms := fun ms e => hk ms.isEmpty (by rw [← h4, e]; rfl)
    simp only [execOp, ho, Instr.makeInterface, Sem.run_bind, run_underlying h3, Result.andThen_ok]
    cases d <;> first | rfl | exact absurd rfl (this _)
  · have hv := (evalA_sound st hx).vd
    exact (VD.of_single (.iface hv.1 hv.2 .nil) rfl).ra

theorem rule_assert {x : Operand} {xt t : TypeId} {ok : Bool} {i : TI} {y : D} (hc : B.c.ok) (ho : o.op = .typeAssert x xt t ok) (hi : B.c.tt t = some i) (hk : ∀ b, i.k ≠ .iface b) (hx : evalA B.c env x = some (.d (.iface t y)))
    (h : K (some (match ok with | true => .tup [.d y, .d (.bool true)] | false => .d y)) S) : OpsTo B N o env S K := by
  obtain ⟨⟨d, h3, h4⟩, _⟩ := hc t i hi
  refine opsTo_value fun μ G a w st => ?_
  obtain ⟨u, e1, e2⟩ := (evalA_sound st hx).vd.iface_inv
  have hd : ∀ ms, d ≠ .interface ms := fun ms e => hk ms.isEmpty (by rw [← h4, e]; rfl)
  refine ⟨if ok then .tuple #[u, .bool true] else u, w, μ, G, _, S, ?_, h, st.st, Later.refl _ _ _ _, ?_⟩
  · simp only [execOp, ho, e1, Instr.typeAssert, Sem.run_bind, run_underlying h3, Result.andThen_ok]
    cases d <;> first | (simp; done) | exact absurd rfl (hd _)
  · cases ok with
    | true => exact ⟨[u, .bool true], rfl, .cons (VA.d_iff.2 e2) (.cons (VA.d_iff.2 VD.bool) .nil)⟩
    | false => exact e2.ra

theorem rule_assert_no {x : Operand} {xt t : TypeId} {i : TI} {y z : D} (hc : B.c.ok) (ho : o.op = .typeAssert x xt t true) (hi : B.c.tt t = some i) (hk : ∀ b, i.k ≠ .iface b) (hz : i.zero = some z) (hx : evalA B.c env x = some (.d y))
    (hy : y = .nilI ∨ ∃ t' y', y = .iface t' y' ∧ t' ≠ t) (h : K (some (.tup [.d z, .d (.bool false)])) S) : OpsTo B N o env S K := by
  obtain ⟨⟨d, h3, h4⟩, info, f1, f2, f3, f4⟩ := hc t i hi
  obtain ⟨v, f5, f6⟩ := f4 z hz
  refine opsTo_value fun μ G a w st => ?_
  have hd : ∀ ms, d ≠ .interface ms := fun ms e => hk ms.isEmpty (by rw [← h4, e]; rfl)
  have hzr : (zeroValue t).run B.c.P w = .ok v w := by simp [zeroValue, typeInfo, f1, f5]
  refine ⟨.tuple #[v, .bool false], w, μ, G, _, S, ?_, h, st.st, Later.refl _ _ _ _, ⟨[v, .bool false], rfl, .cons (VA.d_iff.2 (f6 w G)) (.cons (VA.d_iff.2 VD.bool) .nil)⟩⟩
  rcases hy with rfl | ⟨t', y', rfl, hne⟩
  · have e1 := (evalA_sound st hx).vd.nilI_inv
    simp only [execOp, ho, e1, Instr.typeAssert, Sem.run_bind, run_underlying h3, Result.andThen_ok]
    cases d <;> first | (simp [hzr]; done) | exact absurd rfl (hd _)
  · obtain ⟨u, e1, e2⟩ := (evalA_sound st hx).vd.iface_inv
    simp only [execOp, ho, e1, Instr.typeAssert, Sem.run_bind, run_underlying h3, Result.andThen_ok]
    cases d <;> first | (simp [hzr, hne]; done) | exact absurd rfl (hd _)

theorem rule_nilCheck {x : Operand} {v : AV} (ho : o.op = .nilCheck x) (hx : evalA B.c env x = some v) (hv : (∃ n p, v = .ptr n p) ∨ (∃ y, v = .d (.cptr y)) ∨ ∃ f cs, v = .fn f cs) (h : K (some v) S) : OpsTo B N o env S K := by
  refine opsTo_pure h fun μ G a w st => ⟨a.eval x, ?_, evalA_sound st hx⟩
  have hva := evalA_sound st hx
  rcases hv with ⟨n, p, rfl⟩ | ⟨y, rfl⟩ | ⟨f, cs, rfl⟩
  · obtain ⟨q, e⟩ := VA.ptr_some hva
    simp [execOp, ho, e]
  · obtain ⟨q, e⟩ := VD.cptr_inv' hva.vd
    simp [execOp, ho, e]
  · have e := VA.fn_inv hva
    simp [execOp, ho, e]

def capNames (ρ : Operand → Option AV) : List Operand → Option (List Nat)
  | [] => some []
  | x :: l => match ρ x with
    | some (.ptr n []) => match capNames ρ l with
      | some ns => some (n :: ns)
      | none => none
    | _ => none

theorem capNames_sound {μ G a w} (st : At1 B N env S μ G a w) : ∀ {l : List Operand} {ns : List Nat}, capNames (evalA B.c env) l = some ns → l.map a.eval = ns.map μ ∧ ∀ n ∈ ns, n < S.length ∧ solid (μ n)
  | [], ns, h => by simp only [capNames] at h; cases h; exact ⟨rfl, by simp⟩
  | x :: l, ns, h => by
    simp only [capNames] at h
    split at h
    case h_2 => cases h
    rename_i n hn
    split at h
    case h_2 => cases h
    rename_i ns' hns
    cases h
    obtain ⟨h1, h2⟩ := capNames_sound st hns
    obtain ⟨b, g1, g2, g3, g4⟩ := VA.ptr_inv (evalA_sound st hn)
    have g2 := g2.nil
    have g4 : a.eval x = μ n := by rw [g4, g2]; rfl
    refine ⟨by simp [h1, g4], fun m hm => ?_⟩
    rcases List.mem_cons.1 hm with rfl | hm
    · exact ⟨g1, by rw [g2]; trivial⟩
    · exact h2 m hm

theorem rule_makeFunc {f : FuncId} {cs : Array Operand} {ns : List Nat} (ho : o.op = .makeFunc (.func f) #[] cs) (hn : capNames (evalA B.c env) cs.toList = some ns) (h : K (some (.fn f ns)) S) : OpsTo B N o env S K := by
  refine opsTo_pure h fun μ G a w st => ?_
  obtain ⟨h1, h2⟩ := capNames_sound st hn
  refine ⟨.func (.func f) #[] (ns.map μ).toArray, ?_, VA.ra (VA.of_single (.fn h2 .nil) rfl) (fun l e => by cases e)⟩
  have : Array.map a.eval cs = (ns.map μ).toArray := by
    rw [← h1]; apply Array.ext'; simp
  simp [execOp, ho, Instr.makeFunc, this]

/-- A bound of a slice. -/
def wBnd (ρ : Operand → Option AV) (x : Option Operand) (dflt : Int) : Option Int :=
  match x with
  | none => some dflt
  | some x => match ρ x with
    | some (.d (.int _ n)) => some n
    | _ => none

theorem wBnd_sound {μ G a w} (st : At1 B N env S μ G a w) {x : Option Operand} {dflt n : Int} (h : wBnd (evalA B.c env) x dflt = some n) : (x = none ∧ n = dflt) ∨ ∃ y k, x = some y ∧ a.eval y = .int k n := by
  cases x with
  | none => simp only [wBnd] at h; cases h; exact .inl ⟨rfl, rfl⟩
  | some x =>
    simp only [wBnd] at h
    split at h
    case h_2 => cases h
    rename_i k m hm
    cases h
    exact .inr ⟨x, k, rfl, (evalA_sound st hm).vd.int_inv⟩

theorem run_bounds {P : Program} {isSlice : Bool} {len cap : Nat} {lo hi : Option Value} {l h : Int} (hl : (lo = none ∧ l = 0) ∨ ∃ k, lo = some (.int k l)) (hh : (hi = none ∧ h = len) ∨ ∃ k, hi = some (.int k h)) (h0 : 0 ≤ l) (h1 : l ≤ h) (h2 : h ≤ cap) (w : World) :
    (Instr.sliceBounds isSlice len cap lo hi none).run P w = .ok (l.toNat, h.toNat, cap) w := by
  have hh0 : 0 ≤ h := by omega
  have eh : (h.toNat : Int) = h := Int.toNat_of_nonneg hh0
  rcases hh with ⟨e3, e4⟩ | ⟨k', e3⟩
  · subst e4
    rcases hl with ⟨e1, e2⟩ | ⟨k, e1⟩ <;> simp [Instr.sliceBounds, run_sliceBound, *]
  · rcases hl with ⟨e1, e2⟩ | ⟨k, e1⟩ <;> simp [Instr.sliceBounds, run_sliceBound, *]

theorem rule_slice_str {t : TypeId} {x : Operand} {lo hi : Option Operand} {i : TI} {s : ByteArray} {l h : Int} (hc : B.c.ok) (ho : o.op = .slice t x lo hi none) (hi' : B.c.tt t = some i) (hk : i.k = .str) (hx : evalA B.c env x = some (.d (.str s)))
    (hl : wBnd (evalA B.c env) lo 0 = some l) (hh : wBnd (evalA B.c env) hi s.size = some h) (h0 : 0 ≤ l) (h1 : l ≤ h) (h2 : h ≤ s.size) (hK : K (some (.d (.str (s.extract l.toNat h.toNat)))) S) : OpsTo B N o env S K := by
  obtain ⟨⟨d, h3, h4⟩, _⟩ := hc t i hi'
  refine opsTo_pure hK fun μ G a w st => ⟨_, ?_, VD.str.ra⟩
  have e1 := (evalA_sound st hx).vd.str_inv
  rw [hk] at h4
  cases d <;> simp [tkOf] at h4
  have hb := run_bounds (P := B.c.P) (isSlice := false) (len := s.size) (cap := s.size) (lo := lo.map a.eval) (hi := hi.map a.eval) (l := l) (h := h)
    (by rcases wBnd_sound st hl with ⟨e1, e2⟩ | ⟨y, k, e1, e⟩; exact .inl ⟨by rw [e1]; rfl, e2⟩; exact .inr ⟨k, by rw [e1]; simp [e]⟩)
    (by rcases wBnd_sound st hh with ⟨e1, e2⟩ | ⟨y, k, e1, e⟩; exact .inl ⟨by rw [e1]; rfl, e2⟩; exact .inr ⟨k, by rw [e1]; simp [e]⟩) h0 h1 h2 w
  simp only [execOp, ho, e1, Instr.sliceAt, Instr.slice, Option.map_none, Sem.run_bind, run_underlying h3, Result.andThen_ok, hb, Option.isSome_none, Bool.false_eq_true, if_false, Sem.run_pure]

theorem rule_slice_v {t e : TypeId} {x : Operand} {lo hi : Option Operand} {i fi : TI} {sz : Nat} {xs : List D} {l h : Int} (hc : B.c.ok) (ho : o.op = .slice t x lo hi none) (hi' : B.c.tt t = some i) (hk : i.k = .slice e) (hfi : B.c.tt e = some fi) (hsz : Nat.beq fi.size sz = true)
    (hx : ∀ {μ G a w}, At1 B N env S μ G a w → VD w G (.sl sz xs) (a.eval x)) (hl : wBnd (evalA B.c env) lo 0 = some l) (hh : wBnd (evalA B.c env) hi xs.length = some h) (h0 : 0 ≤ l) (h1 : l ≤ h) (h2 : h ≤ xs.length)
    (hK : K (some (.d (.sl sz ((xs.drop l.toNat).take (h - l).toNat)))) S) : OpsTo B N o env S K := by
  obtain ⟨⟨d, h3, h4⟩, _⟩ := hc t i hi'
  have hfi' := hc e fi hfi
  have hsz := beq_true hsz
  rw [hk] at h4
  cases d <;> simp [tkOf] at h4
  subst h4
  have hl' : ∀ {μ G a w}, At1 B N env S μ G a w → ((lo.map a.eval = none ∧ l = 0) ∨ ∃ k, lo.map a.eval = some (.int k l)) := fun st => by
    rcases wBnd_sound st hl with ⟨e1, e2⟩ | ⟨y, k, e1, e⟩; exact .inl ⟨by rw [e1]; rfl, e2⟩; exact .inr ⟨k, by rw [e1]; simp [e]⟩
  have hh' : ∀ {μ G a w}, At1 B N env S μ G a w → ((hi.map a.eval = none ∧ h = xs.length) ∨ ∃ k, hi.map a.eval = some (.int k h)) := fun st => by
    rcases wBnd_sound st hh with ⟨e1, e2⟩ | ⟨y, k, e1, e⟩; exact .inl ⟨by rw [e1]; rfl, e2⟩; exact .inr ⟨k, by rw [e1]; simp [e]⟩
  refine opsTo_value fun μ G a w st => ?_
  have hv := hx st
  rcases hv.sl_inv with ⟨e1, rfl⟩ | ⟨b, cap, c, e1, g1, g2, g3, g4, g5, g6⟩
  · simp at h2
    obtain rfl : l = 0 := by omega
    obtain rfl : h = 0 := by omega
    have hb := run_bounds (P := B.c.P) (isSlice := true) (len := 0) (cap := 0) (lo := lo.map a.eval) (hi := hi.map a.eval) (hl' st) (hh' st) h0 h1 (by omega) w
    refine ⟨.slice none 0 0, w, μ, G, _, S, ?_, hK, st.st, Later.refl _ _ _ _, ?_⟩
    · simp only [execOp, ho, e1, Instr.sliceAt, Instr.slice, Option.map_none, Sem.run_bind, run_underlying h3, Result.andThen_ok, hb, run_sizeOf' hfi', Sem.run_pure]
      rfl
    · exact (VD.of_single (x := .sl sz []) (.slnil .nil) rfl).ra
  · have hb := run_bounds (P := B.c.P) (isSlice := true) (len := xs.length) (cap := cap) (hl' st) (hh' st) h0 h1 (by omega) w
    refine ⟨.slice (if cap = l.toNat then some b else (some b).map (·.add (l.toNat * fi.size))) (h.toNat - l.toNat) (cap - l.toNat), w, μ, G, _, S, ?_, hK, st.st, Later.refl _ _ _ _, ?_⟩
    · simp only [execOp, ho, e1, Instr.sliceAt, Instr.slice, Option.map_none, Sem.run_bind, run_underlying h3, Result.andThen_ok, hb, run_sizeOf' hfi', Sem.run_pure]
    · have en : h.toNat - l.toNat = (h - l).toNat := by omega
      rw [en]
      have hlen : ((xs.drop l.toNat).take (h - l).toNat).length = (h - l).toNat := by simp; omega
      by_cases hcap : cap = l.toNat
      · rw [if_pos hcap]
        have e0 : (h - l).toNat = 0 := by omega
        rw [e0] at hlen ⊢
        have : (xs.drop l.toNat).take 0 = [] := by simp
        rw [this]
        exact (VD.of_single (x := .sl sz []) (.sl (a := b) .nil rfl (by simp) (fun j v hj => by simp at hj) (.inl rfl) (by simp) (by omega) .nil) rfl).ra
      · rw [if_neg hcap]
        by_cases he : xs = []
        · subst he
          have : (h - l).toNat = 0 := by simp at h2; omega
          rw [this]
          simp only [List.drop_nil, List.take_nil, Option.map_some]
          exact (VD.of_single (x := .sl sz []) (.sl .nil rfl (by simp) (fun j v hj => by simp at hj) (.inl rfl) (by simp) (by omega) .nil) rfl).ra
        · have hsp : b.spot = none := g4.resolve_left he
          obtain ⟨b1, b2, b3⟩ := b
          simp only at hsp
          subst hsp
          simp only [Option.map_some, addr_add]
          have := sl_of_part g1 g2 g3 l.toNat (h - l).toNat (by omega) (cap := cap - l.toNat) (by omega) (by omega)
          rw [hsz]
          exact this.ra

theorem rule_slice_sl {t e : TypeId} {x : Operand} {lo hi : Option Operand} {i fi : TI} {sz : Nat} {xs : List D} {l h : Int} (hc : B.c.ok) (ho : o.op = .slice t x lo hi none) (hi' : B.c.tt t = some i) (hk : i.k = .slice e) (hfi : B.c.tt e = some fi) (hsz : Nat.beq fi.size sz = true)
    (hx : evalA B.c env x = some (.d (.sl sz xs))) (hl : wBnd (evalA B.c env) lo 0 = some l) (hh : wBnd (evalA B.c env) hi xs.length = some h) (h0 : 0 ≤ l) (h1 : l ≤ h) (h2 : h ≤ xs.length)
    (hK : K (some (.d (.sl sz ((xs.drop l.toNat).take (h - l).toNat)))) S) : OpsTo B N o env S K :=
  rule_slice_v hc ho hi' hk hfi hsz (fun st => (evalA_sound st hx).vd) hl hh h0 h1 h2 hK

/-- A string's bytes, in new memory that stays. -/
theorem rule_conv_sb {src dst e : TypeId} {x : Operand} {i j ei : TI} {s : ByteArray} (hc : B.c.ok) (ho : o.op = .convert src dst x) (hi : B.c.tt src = some i) (hj : B.c.tt dst = some j) (hk : i.k = .str) (hkj : j.k = .slice e)
    (he : B.c.tt e = some ei) (hke : ei.k = .int .u8) (hx : evalA B.c env x = some (.d (.str s))) (hs : s.size ≤ maxLen) (h : K (some (.d (.sl 1 (D.bytes s)))) S) : OpsTo B N o env S K := by
  obtain ⟨⟨d, h1, h2⟩, _⟩ := hc src i hi
  obtain ⟨⟨d', h3, h4⟩, _⟩ := hc dst j hj
  obtain ⟨⟨d'', h5, h6⟩, _⟩ := hc e ei he
  refine opsTo_value fun μ G a w st => ?_
  have hv := (evalA_sound st hx).vd.str_inv
  rw [hk] at h2
  rw [hkj] at h4
  rw [hke] at h6
  cases d <;> simp [tkOf] at h2
  cases d' <;> simp [tkOf] at h4
  cases d'' <;> simp [tkOf] at h6
  subst h4; subst h6
  have hr := run_bytes_of_string (P := B.c.P) w src dst _ s h1 h3 h5
  generalize hcap : grownCap w s.size 0 _ = cap at hr
  have hge : s.size ≤ cap := by rw [← hcap]; exact grownCap_ge w s.size 0 _
  have hle : cap ≤ maxLen := by rw [← hcap]; exact grownCap_le_maxLen w s.size 0 _ hs
  generalize hw : w.drew.alloc _ = w' at hr
  have hn : Next w w' none := by
    subst hw
    exact ⟨rfl, rfl, rfl, by show w.heap.size ≤ (w.heap.push _).size; simp, fun k hk _ => by
      show (w.heap.push _)[k]? = _
      rw [Array.getElem?_push, if_neg (by omega)]⟩
  have hsz : w.heap.size < w'.heap.size := by subst hw; show w.heap.size < (w.heap.push _).size; simp
  have st' := st.st.more hn (Nat.le_refl _) hsz
  have hcells := hn.cells st.st.gv (G := G) (fun k hk => by cases hk)
  refine ⟨.slice (some ⟨w.heap.size, 0, none⟩) s.size cap, w', μ, (fun n o => G n o ∨ n = w.heap.size), .d (.sl 1 (D.bytes s)), S, by simp only [execOp, ho, hv, Sem.run_bind, hr, Result.andThen_ok, Sem.run_pure], h, st', ⟨Nat.le_refl _, fun _ _ => rfl, fun _ _ h => .inl h, hcells⟩, ?_⟩
  have hcl : ∀ (l : List UInt8), CL w' (fun n o => G n o ∨ n = w.heap.size) (l.map fun b => D.int .u8 b.toNat) (l.map fun b => Value.int .u8 b.toNat) := by
    intro l
    induction l with
    | nil => exact .nil
    | cons b l ih => exact .int ih
  have hat : At w' (fun n o => G n o ∨ n = w.heap.size) w.heap.size 0 (s.data.toList.map fun b => Value.int .u8 b.toNat) := by
    intro k v hk
    refine ⟨?_, .inr rfl⟩
    have hkl : k < s.data.size := by
      have := (List.getElem?_eq_some_iff.1 hk).1
      simpa using this
    rw [← hw, Nat.zero_add]
    refine (World.cell?_alloc_mark w.drew (bytesRow s cap) _ ((bytesRow s cap).size, (bytesRow s cap).size + 1) k).trans ?_
    rw [bytesRow_at s cap k hkl, ← hk, List.getElem?_map, List.getElem?_eq_getElem (by simpa using hkl)]
    simp
  refine (VD.of_single (.sl (a := ⟨w.heap.size, 0, none⟩) (hcl s.data.toList) ?_ ?_ hat (.inr rfl) hge hle .nil) rfl).ra
  · exact bytes_length s
  · intro x hx
    obtain ⟨b, _, rfl⟩ := List.mem_map.1 hx
    rfl

end
end Go.Ab

namespace Go.Ab
open Go.RowKit

section
variable {B : Base} {N : Nat} {o : Oper} {env : Env} {S : List Blk} {K : Option AV → List Blk → Prop}

theorem rule_range {t : TypeId} {x : Operand} {i : TI} {s : ByteArray} (hc : B.c.ok) (ho : o.op = .range t x) (hi : B.c.tt t = some i) (hk : i.k = .str) (hx : evalA B.c env x = some (.d (.str s)))
    (h : K (some (.ptr S.length [])) (S ++ [.iter s 0])) : OpsTo B N o env S K := by
  obtain ⟨⟨d, h1, h2⟩, _⟩ := hc t i hi
  rw [hk] at h2
  cases d <;> simp [tkOf] at h2
  refine opsTo_value fun μ G a w st => ?_
  have hv := (evalA_sound st hx).vd.str_inv
  have hn : Next w (w.iter s 0) none := ⟨rfl, rfl, rfl, by show w.heap.size ≤ (w.heap.push _).size; simp, fun k hk _ => by
    show (w.heap.push _)[k]? = _
    rw [Array.getElem?_push, if_neg (by omega)]⟩
  have hcells := hn.cells st.st.gv (G := G) (fun k hk => by cases hk)
  have hμ : ∀ i, i < S.length → upd μ S.length (.pointer (some ⟨w.heap.size, 0, none⟩)) i = μ i := fun i hi => by simp [upd, Nat.ne_of_lt hi]
  refine ⟨.pointer (some ⟨w.heap.size, 0, none⟩), w.iter s 0, upd μ S.length (.pointer (some ⟨w.heap.size, 0, none⟩)), G, _, _, ?_, h, ?_, ⟨by simp, hμ, fun _ _ h => h, hcells⟩, ?_⟩
  · simp only [execOp, ho, hv, Sem.run_bind, run_range_string w t s h1, Result.andThen_ok, Sem.run_pure]
  · refine st.st.push hn (fun _ _ h => h) (fun _ _ h => .inl h) (fun _ n h => by cases h; exact Nat.le_refl _) (fun _ n h o _ hg => by
      cases h; have := st.st.gv _ _ hg; exact Nat.lt_irrefl _ this) ?_
    exact ⟨w.heap.size, rfl, World.iter_heap w s 0⟩
  · refine VA.ra (VA.of_single ?_ rfl) (fun l e => by cases e)
    exact .ptr (b := w.heap.size) (by simp) (.inl (by simp [upd])) (fun s hs => by cases hs) .nil

theorem rule_next {x : Operand} {n : Nat} {s : ByteArray} {pos : Nat} (ho : o.op = .next x true) (hx : evalA B.c env x = some (.ptr n [])) (hn : S[n]? = some (.iter s pos))
    (h : @Bool.rec (fun _ => Prop) (K (some (.tup [.d (.bool false)])) S)
      (K (some (.tup [.d (.bool true), .d (.int .i64 pos), .d (.int .i32 (Utf8.decode s pos).1)])) (S.set n (.iter s (pos + (Utf8.decode s pos).2)))) (decide (pos < s.size))) : OpsTo B N o env S K := by
  refine opsTo_value fun μ G a w st => ?_
  obtain ⟨b, h1, h2, h3, h4⟩ := VA.ptr_inv (evalA_sound st hx)
  obtain ⟨b', e1, e2⟩ := st.st.blks n _ hn
  have hbb : b' = b := h2.eq e1
  subst hbb
  replace h2 := e1
  simp only [offp] at h4
  have hG : ∀ o, ¬ G b' o := fun o => st.st.free n _ b' hn rfl (by rw [h2]; rfl) o (Nat.zero_le _)
  by_cases hp : pos < s.size
  · rw [decide_eq_true hp] at h
    have hlt : b' < w.heap.size := (Array.getElem?_eq_some_iff.1 e2).1
    let w' : World := { w with heap := w.heap.setIfInBounds b' (.stringIter s (pos + (Utf8.decode s pos).2)) }
    have hnx : Next w w' (some b') := ⟨rfl, rfl, rfl, by show w.heap.size ≤ (w.heap.setIfInBounds _ _).size; simp, fun k hk hne => by
      show (w.heap.setIfInBounds _ _)[k]? = _
      rw [Array.getElem?_setIfInBounds, if_neg (fun e => hne (by rw [e]))]⟩
    have hcells := hnx.cells st.st.gv (G := G) (fun k hk o v hgk _ => by cases hk; exact absurd hgk (hG o))
    have hw' : w'.heap[b']? = some (.stringIter s (pos + (Utf8.decode s pos).2)) := by
      show (w.heap.setIfInBounds _ _)[b']? = _
      simp [hlt]
    refine ⟨.tuple #[.bool true, .int .i64 pos, .int .i32 (Utf8.decode s pos).1], w', μ, G, _, _, ?_, h, ?_, ⟨by simp, fun _ _ => rfl, fun _ _ h => h, hcells⟩, ?_⟩
    · simp only [execOp, ho, h4, Instr.next, getObj, setObj, Sem.run_bind, Sem.run, e2, Result.andThen, hp, if_true]
      simp [goInt, w']
    · exact st.st.write hn rfl rfl rfl rfl (g := b') (by rw [h2]; rfl) hnx ⟨b', h2, hw'⟩
    · exact ⟨_, rfl, .cons (VA.d_iff.2 VD.bool) (.cons (VA.d_iff.2 VD.int) (.cons (VA.d_iff.2 VD.int) .nil))⟩
  · rw [decide_eq_false hp] at h
    refine ⟨.tuple #[.bool false], w, μ, G, _, _, ?_, h, st.st, Later.refl _ _ _ _, ?_⟩
    · simp [execOp, ho, h4, Instr.next, getObj, Sem.run, e2, hp, Result.andThen]
    · exact ⟨[.bool false], rfl, .cons (VA.d_iff.2 VD.bool) .nil⟩

theorem rule_slice_arr {t e : TypeId} {x : Operand} {lo hi : Option Operand} {i fi : TI} {n cnt : Nat} {p : List Step} {l h : Int} (hc : B.c.ok) (ho : o.op = .slice t x lo hi none) (hi' : B.c.tt t = some i) (hk : i.k = .arr cnt e) (hfi : B.c.tt e = some fi)
    (hx : evalA B.c env x = some (.ptr n p)) (hl : wBnd (evalA B.c env) lo 0 = some l) (hh : wBnd (evalA B.c env) hi cnt = some h) (h0 : 0 ≤ l) (h1 : l ≤ h) (h2 : h ≤ cnt) (h3 : l < cnt) (h4 : cnt ≤ maxLen)
    (hK : K (some (.vw n p l.toNat (h - l).toNat cnt fi.size)) S) : OpsTo B N o env S K := by
  obtain ⟨⟨d, g1, g2⟩, _⟩ := hc t i hi'
  have hfi' := hc e fi hfi
  rw [hk] at g2
  cases d <;> simp [tkOf] at g2
  rw [g2.1, g2.2] at g1
  refine opsTo_value fun μ G a w st => ?_
  obtain ⟨b, k1, k2, k3, k4⟩ := VA.ptr_inv (evalA_sound st hx)
  have hb := run_bounds (P := B.c.P) (isSlice := false) (len := cnt) (cap := cnt) (lo := lo.map a.eval) (hi := hi.map a.eval) (l := l) (h := h)
    (by rcases wBnd_sound st hl with ⟨e1, e2⟩ | ⟨y, k, e1, e⟩; exact .inl ⟨by rw [e1]; rfl, e2⟩; exact .inr ⟨k, by rw [e1]; simp [e]⟩)
    (by rcases wBnd_sound st hh with ⟨e1, e2⟩ | ⟨y, k, e1, e⟩; exact .inl ⟨by rw [e1]; rfl, e2⟩; exact .inr ⟨k, by rw [e1]; simp [e]⟩) h0 h1 h2 w
  refine ⟨.slice (some ⟨b, offp p + l.toNat * fi.size, none⟩) (h - l).toNat (cnt - l.toNat), w, μ, G, _, S, ?_, hK, st.st, Later.refl _ _ _ _, ?_⟩
  · simp only [execOp, ho, k4, Instr.sliceAt, Instr.sureAddr, Option.map_none, Sem.run_bind, run_underlying g1, Result.andThen_ok, hb, run_sizeOf' hfi', Sem.run_pure]
    rw [if_neg (by omega), addr_add]
    have : h.toNat - l.toNat = (h - l).toNat := by omega
    rw [this]
  · refine VA.ra (VA.of_single ?_ rfl) (fun l e => by cases e)
    exact .vw k1 k2 k3 (by omega) rfl (by omega) .nil

/-- Bytes of an array in the store, as a string. -/
theorem rule_conv_vw {src dst e : TypeId} {x : Operand} {i j ei : TI} {n lo len cnt : Nat} {p : List Step} {X : AV} {xs : List D} {s : ByteArray} (hc : B.c.ok) (ho : o.op = .convert src dst x) (hi : B.c.tt src = some i) (hj : B.c.tt dst = some j) (hk : i.k = .slice e) (hkj : j.k = .str)
    (he : B.c.tt e = some ei) (hke : ei.k = .int .u8) (hx : evalA B.c env x = some (.vw n p lo len cnt 1)) (hn : S[n]? = some (.var X)) (hX : AV.getP X p = some (.d (.arr cnt 1 xs))) (hs : (xs.drop lo).take len = D.bytes s) (hl : len = s.size)
    (h : K (some (.d (.str s))) S) : OpsTo B N o env S K := by
  obtain ⟨⟨d, h1, h2⟩, _⟩ := hc src i hi
  obtain ⟨⟨d', h3, h4⟩, _⟩ := hc dst j hj
  obtain ⟨⟨d'', h5, h6⟩, _⟩ := hc e ei he
  rw [hk] at h2
  rw [hkj] at h4
  rw [hke] at h6
  cases d <;> simp [tkOf] at h2
  cases d' <;> simp [tkOf] at h4
  cases d'' <;> simp [tkOf] at h6
  subst h2; subst h6
  refine opsTo_pure h fun μ G a w st => ⟨_, ?_, VD.str.ra⟩
  have hva := (evalA_sound st hx).va (fun l e => by cases e)
  obtain ⟨b, cap, k1, k2, k3, k4, k5⟩ : ∃ b cap, n < S.length ∧ ptrAt (μ n) b p ∧ pathOk p ∧ lo + len ≤ cnt ∧ a.eval x = .slice (some ⟨b, offp p + lo * 1, none⟩) len cap := by
    rcases hva.inv with ⟨q, _⟩ | ⟨_, q, _⟩
    · simp [AV.isAgg] at q
    · generalize a.eval x = v at q
      cases q with
      | vw k1 k2 k3 k4 k5 k6 _ => exact ⟨_, _, k1, k2, k3, k4, rfl⟩
  obtain ⟨b', cs, T, l, z, e1, e2, e3, e4⟩ := st.st.blks n _ hn
  have hbb : b' = b := k2.eq e1
  subst hbb
  replace k2 := e1
  obtain ⟨aa, cc, dd, rfl, f1, f2, _⟩ := e4.getP hX k3
  obtain ⟨f3, f4, f5⟩ := (CA.d_iff.1 f2).arr_inv3
  obtain ⟨a2, m, z2, rfl, f6, f7⟩ := f3.sub f5 lo len (by omega)
  rw [hs] at f7
  have hm := CL.bytes f7
  have hml : len = s.data.toList.length := by rw [hl, Array.length_toList]; rfl
  rw [hml] at k5
  simp only [execOp, ho, k5, Sem.run_bind]
  rw [run_conv_cells h1 h5 h3 fun j v hj => ?_]
  · rfl
  · rw [addr_add, cell_of_block e2, ← Array.getElem?_toList, e3, ← f1, ← f6, Nat.add_assoc]
    rw [← hm] at hj
    have : aa ++ (a2 ++ (m ++ z2) ++ dd) ++ z = aa ++ ((a2 ++ (m ++ (z2 ++ dd ++ z)))) := by simp [List.append_assoc]
    rw [this, List.getElem?_append_right (by omega)]
    have e5 : aa.length + (a2.length + j) - aa.length = a2.length + j := by omega
    rw [e5, List.getElem?_append_right (by omega)]
    have e6 : a2.length + j - a2.length = j := by omega
    rw [e6, List.getElem?_append_left (List.getElem?_eq_some_iff.1 hj).1]
    exact hj

/-- An element of an array that is only read. -/
theorem rule_indexAddr_carr {t e : TypeId} {x ix : Operand} {i fi : TI} {cnt sz : Nat} {xs : List D} {k : IntKind} {j : Int} (hc : B.c.ok) (ho : o.op = .indexAddr t x ix) (hi : B.c.tt t = some i) (hk : i.k = .arr cnt e) (hfi : B.c.tt e = some fi) (hsz : sz = fi.size)
    (hx : evalA B.c env x = some (.d (.cptr (.arr cnt sz xs)))) (hj : evalA B.c env ix = some (.d (.int k j))) (h0 : 0 ≤ j) (h1 : j < cnt) (h : K (some (.d (.cptr (xs.getD j.toNat .nilP)))) S) : OpsTo B N o env S K :=
  opsTo_pure h fun μ G a w st => by
    have e5 := (evalA_sound st hj).vd.int_inv
    have hv := (evalA_sound st hx).vd
    obtain ⟨b, off, c, e, h2, h3⟩ : ∃ b off c, a.eval x = .pointer (some ⟨b, off, none⟩) ∧ CL w G [.arr cnt sz xs] c ∧ At w G b off c := by
      generalize a.eval x = v at hv
      rcases hv.inv with ⟨q, _⟩ | ⟨_, q, _⟩
      · simp [D.isAgg] at q
      · cases q with
        | cptr q1 q2 q3 => exact ⟨_, _, _, rfl, q1, q2⟩
    obtain ⟨h5, h6, h7⟩ := h2.arr_inv3
    have hlt : j.toNat < xs.length := by omega
    obtain ⟨a1, m, z, rfl, g1, g2⟩ := h5.sub h7 j.toNat 1 (by omega)
    have e1 : (xs.drop j.toNat).take 1 = [xs.getD j.toNat .nilP] := by
      rw [List.drop_eq_getElem_cons hlt, List.getD_eq_getElem?_getD, List.getElem?_eq_getElem hlt]
      rfl
    rw [e1] at g2
    have hp := h3.part
    rw [g1] at hp
    refine ⟨.pointer (some ⟨b, off + j.toNat * sz, none⟩), ?_, (VD.of_single (.cptr g2 hp .nil) rfl).ra⟩
    simp only [execOp, ho, e, e5, Sem.run_bind, run_indexAt_arr (hc t i hi) hk (hc _ fi hfi) b _ k j h0 h1, Result.andThen_ok, Sem.run_pure, hsz]

theorem rule_indexAddr_vw {t e : TypeId} {x ix : Operand} {n lo len cnt : Nat} {p : List Step} {i fi : TI} {k : IntKind} {j : Int} (hc : B.c.ok) (ho : o.op = .indexAddr t x ix) (hi : B.c.tt t = some i) (hk : i.k = .slice e) (hfi : B.c.tt e = some fi)
    (hx : evalA B.c env x = some (.vw n p lo len cnt fi.size)) (hj : evalA B.c env ix = some (.d (.int k j))) (h0 : 0 ≤ j) (h1 : j < len) (h : K (some (.ptr n (p ++ [.ix (lo + j.toNat) fi.size cnt]))) S) : OpsTo B N o env S K := by
  refine opsTo_value fun μ G a w st => ?_
  have hva := (evalA_sound st hx).va (fun l e => by cases e)
  have e5 := (evalA_sound st hj).vd.int_inv
  obtain ⟨b, cap, k1, k2, k3, k4, k5⟩ : ∃ b cap, n < S.length ∧ ptrAt (μ n) b p ∧ pathOk p ∧ lo + len ≤ cnt ∧ a.eval x = .slice (some ⟨b, offp p + lo * fi.size, none⟩) len cap := by
    rcases hva.inv with ⟨q, _⟩ | ⟨_, q, _⟩
    · simp [AV.isAgg] at q
    · generalize a.eval x = v at q
      cases q with
      | vw k1 k2 k3 k4 k5 k6 _ => exact ⟨_, _, k1, k2, k3, k4, rfl⟩
  have e3 := run_indexAt_sl (hc t i hi) hk (hc e fi hfi) b (offp p + lo * fi.size) len cap k j h0 h1 w
  refine ⟨.pointer (some ⟨b, offp (p ++ [.ix (lo + j.toNat) fi.size cnt]), none⟩), w, μ, G, _, S, ?_, h, st.st, Later.refl _ _ _ _, ?_⟩
  · simp only [execOp, ho, k5, e5, Sem.run_bind, e3, Result.andThen_ok, Sem.run_pure]
    rw [offp_append]
    simp only [offp, Nat.add_mul, Nat.add_zero, Nat.add_assoc]
  · refine VA.ra (VA.of_single ?_ rfl) (fun l e => by cases e)
    refine .ptr k1 (k2.snoc _) ?_ .nil
    intro s hs
    rcases List.mem_append.1 hs with hs | hs
    · exact k3 s hs
    · simp at hs; subst hs
      show lo + j.toNat < cnt
      omega
end
end Go.Ab

namespace Go.Ab
open Go.RowKit

/-- A name more, whose block may be one that nobody owns any longer. -/
theorem St.push2 {B S μ G w} (st : St B S μ G w) {w' : World} {G' : Nat → Nat → Prop} {v : Value} {b : Blk} {n0 : Option Nat} (h : Next w w' n0)
    (hcell : ∀ k, n0 = some k → ∀ o u, G k o → w.cell? ⟨k, o, none⟩ = some u → w'.cell? ⟨k, o, none⟩ = some u)
    (hnl : ∀ i d, S[i]? = some d → d.live = true → ∀ k, n0 = some k → bid (μ i) ≠ some k)
    (hk : ∀ k, n0 = some k → (B.w0.heap.size ≤ k ∨ B.X k) ∧ k < w.heap.size)
    (hG : ∀ b o, G b o → G' b o) (hN : ∀ b o, G' b o → G b o ∨ (bid v = some b ∧ b < w'.heap.size ∧ (n0 = some b ∨ w.heap.size ≤ b)))
    (hv : ∀ n, bid v = some n → n0 = some n ∨ w.heap.size ≤ n)
    (hf : ∀ n, bid v = some n → ∀ o, b.fixed ≤ o → ¬ G' n o)
    (hb : BlkOk (upd μ S.length v) (S.length + 1) w' G' v b) : St B (S ++ [b]) (upd μ S.length v) G' w' := by
  have hc := h.cells st.gv hcell
  have hμ : ∀ i, i < S.length → upd μ S.length v i = μ i := fun i hi => by simp [upd, Nat.ne_of_lt hi]
  have hn : upd μ S.length v S.length = v := by simp [upd]
  have old : ∀ i d, (S ++ [b])[i]? = some d → (i < S.length ∧ S[i]? = some d ∧ upd μ S.length v i = μ i) ∨ (i = S.length ∧ d = b ∧ upd μ S.length v i = v) := by
    intro i d hd
    by_cases hi : i < S.length
    · exact .inl ⟨hi, by rw [List.getElem?_append_left hi] at hd; exact hd, hμ i hi⟩
    · rw [List.getElem?_append_right (by omega)] at hd
      have : i - S.length = 0 := by
        rcases Nat.eq_zero_or_pos (i - S.length) with h | h
        · exact h
        · rw [List.getElem?_eq_none (by simp; omega)] at hd; cases hd
      rw [this] at hd
      have hi' : i = S.length := by omega
      exact .inr ⟨hi', by simpa using hd.symm, by rw [hi']; exact hn⟩
  have heap : ∀ i d, S[i]? = some d → d.live = true → ∀ n, bid (μ i) = some n → w'.heap[n]? = w.heap[n]? := fun i d hs hl n hn =>
    h.heap n ((st.blks i d hs).bid_lt hl n hn) (fun e => hnl i d hs hl n e hn)
  have no : ∀ i d, S[i]? = some d → d.live = true → ∀ n, bid (μ i) = some n → bid v = some n → False := by
    intro i d hs hl n h1 h2
    have := (st.blks i d hs).bid_lt hl n h1
    rcases hv n h2 with e | e
    · exact hnl i d hs hl n e h1
    · omega
  exact {
    blks := by
      intro i d hd
      rw [List.length_append]
      rcases old i d hd with ⟨hi, hs, e⟩ | ⟨hi, rfl, e⟩
      · rw [e]
        exact (st.blks i d hs).mono (by simp) (fun i hi _ => hμ i hi) hG hc (heap i d hs)
      · rw [e]; exact hb
    apart := by
      intro i j d f hd hf' hl hm hij n hn hn'
      rcases old i d hd with ⟨hi, hs, e⟩ | ⟨hi, rfl, e⟩ <;> rcases old j f hf' with ⟨hj, hs', e'⟩ | ⟨hj, rfl, e'⟩
      · rw [e] at hn; rw [e'] at hn'; exact st.apart i j d f hs hs' hl hm hij n hn hn'
      · rw [e] at hn; rw [e'] at hn'; exact no i d hs hl n hn hn'
      · rw [e] at hn; rw [e'] at hn'; exact no j f hs' hm n hn' hn
      · omega
    free := by
      intro i d n hd hl hn o ho hg
      rcases old i d hd with ⟨hi, hs, e⟩ | ⟨hi, rfl, e⟩
      · rw [e] at hn
        rcases hN n o hg with h1 | h1
        · exact st.free i d n hs hl hn o ho h1
        · exact no i d hs hl n hn h1.1
      · rw [e] at hn; exact hf n hn o ho hg
    gv := fun b o hg => by
      rcases hN b o hg with h1 | h1
      · exact Nat.lt_of_lt_of_le (st.gv b o h1) h.size
      · exact h1.2.1
    k0 := by have := st.k0; simp; omega
    keep := fun i hi => by rw [hμ i (by have := st.k0; omega)]; exact st.keep i hi
    g0 := fun b o hg => hG _ _ (st.g0 b o hg)
    gn := fun b o hg => by
      rcases hN b o hg with h1 | ⟨_, _, h1 | h1⟩
      · exact st.gn b o h1
      · exact .inr (hk b h1).1
      · right; left; have := st.size; omega
    new := by
      intro i d n hi hd hl hn
      rcases old i d hd with ⟨hi', hs, e⟩ | ⟨hi', rfl, e⟩
      · rw [e] at hn; exact st.new i d n hi hs hl hn
      · rw [e] at hn
        rcases hv n hn with h1 | h1
        · exact (hk n h1).1
        · left; have := st.size; omega
    os := h.os.trans st.os
    tape := h.tape.trans st.tape
    output := h.output.trans st.output
    size := Nat.le_trans st.size h.size
    fr := fun k hk' hx => (h.heap k (Nat.lt_of_lt_of_le hk' st.size) (fun e => by rcases (hk k e).1 with h | h; omega; exact hx h)).trans (st.fr k hk' hx)
    lv := by
      intro i d hi hd hl
      have hi' : i < S.length := by have := st.k0; omega
      rcases old i d hd with ⟨_, hs, _⟩ | ⟨hi'', _⟩
      · exact st.lv i d hi hs hl
      · omega
    glob := fun g x hg => (st.glob g x hg).mono hG hc
    gw := fun b o v h1 h2 => hc b o v (st.g0 b o h1) (st.gw b o v h1 h2) }

/-- In place, behind a frozen head. -/
theorem run_append_roomF {P : Program} (w : World) (t ty e : TypeId) (i : TypeInfo) (ht : P.underlying t = some (.slice e)) (hi : P.info? e = some i)
    (g sLen sCap : Nat) (cur : Array Value) (fz : Nat × Nat) (hg : w.heap[g]? = some (.cells cur e fz)) (hfz : fz.2 ≤ sLen * i.size)
    (a : Addr) (m c : Nat) (news : List Value) (hl : news.length = m * i.size) (hnews : ∀ j u, news[j]? = some u → w.cell? (a.add j) = some u) (h1 : ∀ u ∈ news, u.oneCell' = true)
    (hroom : sLen + m ≤ sCap) (hfit : sLen * i.size + news.length ≤ cur.size) :
    (Builtin.append_ #[t, t] ty #[.slice (some ⟨g, 0, none⟩) sLen sCap, .slice (some a) m c]).run P w =
      .ok (.slice (some ⟨g, 0, none⟩) (sLen + m) sCap) (w.setRow g (cur.toList.take (sLen * i.size) ++ news ++ cur.toList.drop (sLen * i.size + news.length)).toArray) := by
  have hf := run_firstCells_some (P := P) w i.size m a m c news hl hnews
  have hst := run_storeCells_atF P g (sLen * i.size) e fz news 0 cur w hg (by simpa using hfz) (by simpa using hfit) h1
  simp only [Nat.add_zero] at hst
  simp [Builtin.append_, run_underlying ht, sizeOf, typeInfo, hi, Builtin.lenOf, hroom, hf, Addr.add_lit, hst]

/-- A row and something behind it: in place, or in new memory; what was known stays. -/
theorem run_append_row {P : Program} {w : World} {t ty e : TypeId} {i : TypeInfo} {z : Value} {size bytes : Nat} (ht : P.underlying t = some (.slice e)) (hi : P.info? e = some i) (hz : i.zero = some z)
    (hsize : i.size = size) (hby : i.bytes = bytes) (hzs : z.cells.size = size)
    {v : Value} {n : Nat} {xs : List Value} (hown : w.ownsRowF 0 e size v n xs)
    {a : Addr} {m c : Nat} {news : List Value} (hl : news.length = m * size) (hnews : ∀ j u, news[j]? = some u → w.cell? (a.add j) = some u) (h1 : ∀ u ∈ news, u.oneCell' = true) (hm : 0 < m)
    (hb : (n + m) * (bytes + 1) ≤ 140737488355328) :
    ∃ v' w', (Builtin.append_ #[t, t] ty #[v, .slice (some a) m c]).run P w = .ok v' w' ∧ w'.ownsRowF 0 e size v' (n + m) (xs ++ news) ∧ Next w w' (bid v) ∧
      (∀ k, bid v = some k → ∀ o, o < xs.length → w'.cell? ⟨k, o, none⟩ = w.cell? ⟨k, o, none⟩) ∧
      (∃ k, bid v' = some k ∧ (bid v = some k ∨ w.heap.size ≤ k) ∧ k < w'.heap.size) := by
  subst hsize; subst hby
  have hb1 : n + m ≤ 140737488355328 := by
    rw [Nat.mul_add, Nat.mul_one] at hb
    exact Nat.le_trans (Nat.le_add_left _ _) hb
  have hb2 : (n + m) * i.bytes ≤ 140737488355328 := by
    rw [Nat.mul_add, Nat.mul_one] at hb
    exact Nat.le_trans (Nat.le_add_right _ _) hb
  have h63 : n + m ≤ maxLen := by simp only [maxLen]; omega
  have hlen : (xs ++ news).length = (n + m) * i.size := by rw [List.length_append, hown.1, hl, Nat.add_mul]
  have nx : ∀ (cells : Array Value) (q : Option Nat), Next w (w.drew.alloc (.cells cells e)) q := fun cells q =>
    ⟨rfl, rfl, rfl, by show w.heap.size ≤ (w.heap.push _).size; simp, fun k hk _ => heap_alloc_old w.drew _ k hk⟩
  have sz : ∀ (cells : Array Value), w.heap.size < (w.drew.alloc (.cells cells e)).heap.size := fun cells => by show w.heap.size < (w.heap.push _).size; simp
  have grown : ∀ (old : Nat), old < n + m →
      (w.drew.alloc (.cells (xs.toArray ++ news.toArray ++ Builtin.zeroCells z.cells (grownCap w (n + m) old e - (n + m))) e)).ownsRowF 0 e i.size
        (.slice (some ⟨w.heap.size, 0, none⟩) (n + m) (grownCap w (n + m) old e)) (n + m) (xs ++ news) := by
    intro old ho
    have hge := grownCap_ge w (n + m) old e
    have hcm : grownCap w (n + m) old e ≤ maxLen := grownCap_le_maxLen w (n + m) old e h63
    refine ⟨hlen, .inr ⟨w.heap.size, _, _, (0, 0), rfl, Nat.zero_le _, heap_alloc_new w.drew _, Nat.zero_le _, hge, hcm, ?_, ?_⟩⟩
    · simp only [Array.size_append, List.size_toArray, size_zeroCells, hzs, hown.1, hl, ← Nat.add_mul]
      congr 1
      omega
    · simp only [Array.toList_append, List.append_assoc]
      rw [← List.append_assoc, ← hlen]
      exact List.take_left
  rcases hown.2 with ⟨rfl, rfl⟩ | ⟨g, cap, cur, fz, rfl, hbg, hg, hfz, hnc, hcm, hcs, htake⟩
  · have hx : xs = [] := List.eq_nil_of_length_eq_zero (by simpa using hown.1)
    subst hx
    have hr := run_append_nil (P := P) w t ty e i z ht hi hz a m c news hl hnews hm (by omega) (by simp only [Nat.zero_add] at hb2; omega)
    have hgr := grown 0 (by omega)
    simp only [Nat.zero_add, List.nil_append, Array.empty_append] at hgr ⊢
    exact ⟨_, _, hr, hgr, nx _ _, (fun k hk => by cases hk), w.heap.size, rfl, .inr (Nat.le_refl _), sz _⟩
  · have hglt : g < w.heap.size := (Array.getElem?_eq_some_iff.1 hg).1
    by_cases hroom : n + m ≤ cap
    · have hfit : n * i.size + news.length ≤ cur.size := by rw [hl, hcs, ← Nat.add_mul]; exact Nat.mul_le_mul_right _ hroom
      have hr := run_append_roomF (P := P) w t ty e i ht hi g n cap cur fz hg hfz a m c news hl hnews h1 hroom hfit
      have hset := fun cells => setRow_heap w g cur cells e fz hg
      refine ⟨_, _, hr, ⟨hlen, .inr ⟨g, cap, _, fz, rfl, hbg, hset _, Nat.le_trans hfz (Nat.mul_le_mul_right _ (Nat.le_add_right _ _)), hroom, hcm, ?_, ?_⟩⟩, ⟨rfl, rfl, rfl, ?_, fun k _ hk => setRow_other w g k _ (fun e => hk (by simp [bid, e]))⟩, ?_, g, rfl, .inl rfl, ?_⟩
      · simp only [List.size_toArray, List.length_append, List.length_take, List.length_drop, Array.length_toList]
        omega
      · rw [htake, ← hlen]
        exact List.take_left
      · simp [World.setRow]
      · intro k hk o ho
        cases hk
        have hxl := hown.1
        simp only [World.cell?, hset, hg, Option.isSome_none]
        simp only [Bool.false_eq_true, if_false]
        rw [List.getElem?_toArray, ← Array.getElem?_toList, List.append_assoc, List.getElem?_append_left (by simp; omega), List.getElem?_take, if_pos (by omega)]
      · have := (Array.getElem?_eq_some_iff.1 (hset (cur.toList.take (n * i.size) ++ news ++ cur.toList.drop (n * i.size + news.length)).toArray)).1
        exact this
    · have holds : ∀ j u, xs[j]? = some u → w.cell? ((⟨g, 0, none⟩ : Addr).add j) = some u := hown.cells (g := g) rfl
      have hr := run_append_grow (P := P) w t ty e i z ht hi hz ⟨g, 0, none⟩ n cap xs hown.1 holds a m c news hl hnews (by omega) (by omega) (growslice_fits (by omega) hb2)
      have hgr := grown cap (by omega)
      refine ⟨_, _, hr, hgr, nx _ _, fun k hk o _ => ?_, w.heap.size, rfl, .inr (Nat.le_refl _), sz _⟩
      cases hk
      exact cell?_heap (heap_alloc_old w.drew _ g hglt)

section
variable {B : Base} {N : Nat} {o : Oper} {env : Env} {S : List Blk} {K : Option AV → List Blk → Prop}

/-- A nil slice as a row of one's own. -/
theorem rule_nilrow {x : Operand} {e : TypeId} {sz : Nat} (ho : o.op = .assign x) (hx : x = .const (.slice none 0 0)) (h : K (some (.row S.length)) (S ++ [.row e sz []])) : OpsTo B N o env S K := by
  subst hx
  refine opsTo_value fun μ G a w st => ?_
  have hμ : ∀ i, i < S.length → upd μ S.length (.slice none 0 0) i = μ i := fun i hi => by simp [upd, Nat.ne_of_lt hi]
  refine ⟨.slice none 0 0, w, upd μ S.length (.slice none 0 0), G, _, _, ?_, h, ?_, ⟨by simp, hμ, fun _ _ h => h, fun _ _ _ _ h => h⟩, ?_⟩
  · simp [execOp, ho, Act.eval]
  · refine st.st.push (w' := w) ⟨rfl, rfl, rfl, Nat.le_refl _, fun _ _ _ => rfl⟩ (fun _ _ h => h) (fun _ _ h => .inl h) (fun _ n h => by cases h) (fun _ n h => by cases h) ?_
    exact ⟨[], World.ownsRowF_nil w 0 e sz, .nil, by simp, fun n h => by cases h⟩
  · refine VA.ra (VA.of_single ?_ rfl) (fun l e => by cases e)
    exact .row (by simp) (by simp [upd]) .nil

theorem rule_assign_nil {x : Operand} (ho : o.op = .assign x) (hx : x = .const (.slice none 0 0)) (h : K (some (.d (.sl 0 []))) S) : OpsTo B N o env S K := by
  subst hx
  exact opsTo_pure h fun μ G a w st => ⟨.slice none 0 0, by simp [execOp, ho, Act.eval], (VD.of_single (x := .sl 0 []) (.slnil .nil) rfl).ra⟩

theorem rule_max {x y : Operand} {ts : Array TypeId} {k k' : IntKind} {a b : Int} (ho : o.op = .call { callee := .builtin .max, args := #[x, y], argTypes := ts }) (hx : evalA B.c env x = some (.d (.int k a))) (hy : evalA B.c env y = some (.d (.int k' b)))
    (h : K (some (.d (.int k (if b > a then b else a)))) S) : OpsTo B N o env S K := by
  refine opsTo_pure h fun μ G a' w st => ⟨_, ?_, VD.int.ra⟩
  have e1 := (evalA_sound st hx).vd.int_inv
  have e2 := (evalA_sound st hy).vd.int_inv
  simp only [execOp, ho, resolve, Sem.run_bind, Sem.run_pure, Result.andThen_ok, invoke, builtin]
  have : (Array.map a'.eval #[x, y]) = #[.int k a, .int k' b] := by simp [e1, e2]
  rw [this, run_max_int2]
  rfl

/-- The greatest of several. -/
def wMaxs (ρ : Operand → Option AV) (K : Int → Prop) : List Operand → Int → Prop
  | [], a => K a
  | y :: r, a => match ρ y with
    | some (.d (.int _ b)) => wMaxs ρ K r (if b > a then b else a)
    | _ => False

theorem run_maxs {P : Program} {w : World} {k : IntKind} {f : Operand → Value} {ρ : Operand → Option AV} {K : Int → Prop} (hρ : ∀ y k b, ρ y = some (.d (.int k b)) → f y = .int k b) :
    ∀ {l : List Operand} {a : Int}, wMaxs ρ K l a → ∃ m, K m ∧ ((l.map f).foldlM Builtin.max2 (.int k a) : Sem Value).run P w = .ok (.int k m) w
  | [], a, h => ⟨a, h, rfl⟩
  | y :: r, a, h => by
    unfold wMaxs at h
    split at h
    case h_2 => exact h.elim
    rename_i k' b hy
    obtain ⟨m, h1, h2⟩ := run_maxs hρ h
    refine ⟨m, h1, ?_⟩
    rw [List.map_cons, List.foldlM_cons, hρ _ _ _ hy]
    simp only [Builtin.max2, Sem.run_bind, Sem.run_pure, Result.andThen_ok]
    exact h2

theorem rule_maxs {x : Operand} {l : List Operand} {args : Array Operand} {ts : Array TypeId} {k : IntKind} {a : Int} (ho : o.op = .call { callee := .builtin .max, args := args, argTypes := ts }) (ha : args.toList = x :: l) (hx : evalA B.c env x = some (.d (.int k a)))
    (h : wMaxs (evalA B.c env) (fun m => K (some (.d (.int k m))) S) l a) : OpsTo B N o env S K := by
  refine opsTo_value fun μ G a' w st => ?_
  have e1 := (evalA_sound st hx).vd.int_inv
  obtain ⟨m, h1, h2⟩ := run_maxs (P := B.c.P) (w := w) (k := k) (f := a'.eval) (fun y k b hy => (evalA_sound st hy).vd.int_inv) h
  refine ⟨.int k m, w, μ, G, _, S, ?_, h1, st.st, Later.refl _ _ _ _, VD.int.ra⟩
  simp only [execOp, ho, resolve, Sem.run_bind, Sem.run_pure, Result.andThen_ok, invoke, builtin, Builtin.max_]
  have : (Array.map a'.eval args).toList = .int k a :: l.map a'.eval := by rw [Array.toList_map, ha, List.map_cons, e1]
  rw [this]
  simp only [h2, Result.andThen_ok]

theorem rule_min {x y : Operand} {ts : Array TypeId} {k k' : IntKind} {a b : Int} (ho : o.op = .call { callee := .builtin .min, args := #[x, y], argTypes := ts }) (hx : evalA B.c env x = some (.d (.int k a))) (hy : evalA B.c env y = some (.d (.int k' b)))
    (h : K (some (.d (.int k (if b < a then b else a)))) S) : OpsTo B N o env S K := by
  refine opsTo_pure h fun μ G a' w st => ⟨_, ?_, VD.int.ra⟩
  have e1 := (evalA_sound st hx).vd.int_inv
  have e2 := (evalA_sound st hy).vd.int_inv
  simp only [execOp, ho, resolve, Sem.run_bind, Sem.run_pure, Result.andThen_ok, invoke, builtin]
  have : (Array.map a'.eval #[x, y]) = #[.int k a, .int k' b] := by simp [e1, e2]
  rw [this, run_min_int2]
  rfl

theorem D.eqLen {w G} {ys : List D} {c : List Value} {sz : Nat} (h : CL w G ys c) (hs : ∀ x ∈ ys, x.size = sz) : c.length = ys.length * sz := by
  rw [h.length, D.sizes_uniform hs]

theorem ca_row_inv {μ k w G n v} (h : VA μ k w G (.row n) v) : n < k ∧ v = μ n := by
  rcases h.inv with ⟨h1, _⟩ | ⟨_, h1, _⟩
  · simp [AV.isAgg] at h1
  · cases h1 with
    | row h1 h2 _ => exact ⟨h1, h2.symm⟩
    | mp h1 h2 _ => exact ⟨h1, h2.symm⟩

theorem rule_indexAddr_own {t e e' : TypeId} {x ix : Operand} {n sz : Nat} {xs : List D} {i fi : TI} {k : IntKind} {j : Int} (hc : B.c.ok) (ho : o.op = .indexAddr t x ix) (hi : B.c.tt t = some i) (hk : i.k = .slice e) (hfi : B.c.tt e = some fi) (_hsz : fi.size = sz)
    (hx : evalA B.c env x = some (.row n)) (hn : S[n]? = some (.own e' sz xs)) (hj : evalA B.c env ix = some (.d (.int k j))) (h0 : 0 ≤ j) (h1 : j < xs.length) (h : K (some (.ptr n [.ix j.toNat fi.size xs.length])) S) : OpsTo B N o env S K := by
  refine opsTo_value fun μ G a w st => ?_
  obtain ⟨hnS, hsv⟩ := ca_row_inv ((evalA_sound st hx).va (fun l e => by cases e))
  have e5 := (evalA_sound st hj).vd.int_inv
  obtain ⟨cs, g1, g2, g3⟩ := st.st.blks n _ hn
  rcases g1.2 with ⟨_, q2⟩ | ⟨g, cap, cur, q1, _, q2, q3, q4, q5, q6⟩
  · omega
  have k5 : a.eval x = .slice (some ⟨g, 0, none⟩) xs.length cap := by rw [hsv, q1]
  have e3 := run_indexAt_sl (hc t i hi) hk (hc e fi hfi) g 0 xs.length cap k j h0 h1 w
  refine ⟨.pointer (some ⟨g, offp [.ix j.toNat fi.size xs.length], none⟩), w, μ, G, _, S, ?_, h, st.st, Later.refl _ _ _ _, ?_⟩
  · simp only [execOp, ho, k5, e5, Sem.run_bind, e3, Result.andThen_ok, Sem.run_pure]
    simp only [offp, Nat.add_zero, Nat.zero_add]
  · refine VA.ra (VA.of_single ?_ rfl) (fun l e => by cases e)
    refine .ptr hnS (.inr ⟨by simp, _, _, q1⟩) ?_ .nil
    intro s hs
    simp at hs; subst hs
    show j.toNat < xs.length
    omega

/-- What an own slice's element becomes by a store within. -/
noncomputable def setO (sz : Nat) (x : D) (p : List Step) (v : AV) : Option D :=
  match p with
  | [] => match v with
    | .d z => match Nat.beq z.size sz with | true => some z | false => none
    | _ => none
  | t :: p => match (AV.getP (.d x) (t :: p)).isSome with
    | true => match AV.setP (.d x) (t :: p) v with | some (.d z) => some z | _ => none
    | false => none

theorem setO_sound {μ k w G sz x p y z c u} (hx : CL w G [x] c) (hsz : x.size = sz) (hp : pathOk p) (hu : CA μ k w G [y] u) (h : setO sz x p y = some z) :
    ∃ a c0 d, c = a ++ (c0 ++ d) ∧ a.length = offp p ∧ c0.length = u.length ∧ CL w G [z] (a ++ (u ++ d)) ∧ z.size = sz := by
  have hlx := hx.length
  have hlu := hu.length
  simp only [AV.sizes, D.sizes, Nat.add_zero] at hlx hlu
  cases p with
  | nil =>
    simp only [setO] at h
    split at h
    case h_2 => cases h
    rename_i z0
    split at h
    case h_2 => cases h
    rename_i hb
    cases h
    have hb := beq_true hb
    simp only [AV.size] at hlu
    exact ⟨[], c, [], by simp, rfl, by omega, by simpa using CA.d_iff.1 hu, hb⟩
  | cons t p =>
    simp only [setO] at h
    split at h
    case h_2 => cases h
    rename_i hg
    split at h
    case h_2 => cases h
    rename_i z0 hset
    cases h
    cases hg' : AV.getP (.d x) (t :: p) with
    | none => rw [hg'] at hg; cases hg
    | some y0 =>
    obtain ⟨a, c0, d, rfl, f1, f2, f3⟩ := (CA.d_iff.2 hx : CA μ k w G [.d x] c).getP hg' hp
    obtain ⟨g1, g2, g3, g4⟩ := f3 y _ _ hu hset
    have q1 := f2.length
    simp only [AV.sizes, Nat.add_zero] at q1
    simp only [AV.size] at g2
    have q2 : y0.size = y.size := by
      have l1 := (CA.d_iff.1 g1).length
      simp only [D.sizes, Nat.add_zero, List.length_append] at l1 hlx
      omega
    exact ⟨a, c0, d, rfl, f1, by omega, CA.d_iff.1 g1, by omega⟩

/-- An own slice and a place within. -/
theorem own_at {B S μ G w} (st : St B S μ G w) {n e sz cnt i0 : Nat} {p : List Step} {xs : List D} {v : Value} (hv : VA μ S.length w G (.ptr n (.ix i0 sz cnt :: p)) v) (hn : S[n]? = some (.own e sz xs)) (hlt : i0 < xs.length) :
    ∃ g cap cur a c d, μ n = .slice (some ⟨g, 0, none⟩) xs.length cap ∧ v = .pointer (some ⟨g, i0 * sz + offp p, none⟩) ∧ pathOk p ∧ w.heap[g]? = some (.cells cur e (0, 0)) ∧ xs.length ≤ cap ∧ cap ≤ maxLen ∧ cur.size = cap * sz ∧
      cur.toList.take (xs.length * sz) = a ++ (c ++ d) ∧ a.length = i0 * sz ∧ CL w G [xs.getD i0 .nilP] c ∧ (xs.getD i0 .nilP).size = sz ∧ (∀ y c', CL w G [y] c' → CL w G (xs.set i0 y) (a ++ (c' ++ d))) ∧ (∀ x ∈ xs, x.size = sz) := by
  obtain ⟨b, h3, h4, h5, rfl⟩ := hv.ptr_inv
  obtain ⟨cs, g1, g2, g3⟩ := st.blks n _ hn
  rcases g1.2 with ⟨_, q2⟩ | ⟨g, cap, cur, q1, _, q2, q3, q4, q5, q6⟩
  · omega
  have hb : b = g := by
    rcases h4 with h4 | ⟨_, _, _, h4⟩
    · rw [q1] at h4; cases h4
    · rw [q1] at h4; simp at h4; exact h4.1.symm
  subst hb
  have hx : xs[i0]? = some (xs.getD i0 .nilP) := by rw [List.getD_eq_getElem?_getD, List.getElem?_eq_getElem hlt]; rfl
  obtain ⟨a, c, d, e1, e2, e3, e4⟩ := g2.get2 hx
  have hm : xs.getD i0 .nilP ∈ xs := List.mem_of_getElem? hx
  have e5 : D.sizes (xs.take i0) = i0 * sz := by
    rw [D.sizes_uniform (sz := sz) (fun x hx => g3 x (List.mem_of_mem_take hx)), List.length_take, Nat.min_eq_left (Nat.le_of_lt hlt)]
  refine ⟨b, cap, cur, a, c, d, q1, ?_, fun s hs => h5 s (by simp [hs]), q2, q3, q4, q5, by rw [q6, e1], by rw [e2, e5], e3, g3 _ hm, e4, g3⟩
  simp only [offp]

theorem St.loadO {B S μ G w} (hc : B.c.ok) (st : St B S μ G w) {t n e sz cnt i0 : Nat} {p : List Step} {xs : List D} {y : AV} {v : Value} {i : TI} (hi : B.c.tt t = some i) (hv : VA μ S.length w G (.ptr n (.ix i0 sz cnt :: p)) v) (hn : S[n]? = some (.own e sz xs)) (hlt : i0 < xs.length)
    (hg : AV.getP (.d (xs.getD i0 .nilP)) p = some y) (hs : shapeB i y = true) : ∃ u, (Instr.loadAt t v).run B.c.P w = .ok u w ∧ VA μ S.length w G y u := by
  obtain ⟨g, cap, cur, a, c, d, h1, rfl, h3, h4, h5, h6, h7, h8, h9, h10, _, _, _⟩ := own_at st hv hn hlt
  obtain ⟨a', c', d', rfl, f1, f2, _⟩ := (CA.d_iff.2 h10 : CA μ S.length w G [.d (xs.getD i0 .nilP)] c).getP hg h3
  obtain ⟨u, g1, g2⟩ := run_loadVar (hc t i hi) (b := g) (off := i0 * sz + offp p) f2 hs (fun j v hj => by
    rw [cell_of_block h4, ← Array.getElem?_toList]
    have hl : (a ++ ((a' ++ (c' ++ d')) ++ d))[a.length + a'.length + j]? = some v := by
      have : a ++ ((a' ++ (c' ++ d')) ++ d) = (a ++ a') ++ (c' ++ (d' ++ d)) := by simp
      rw [this, ← List.length_append, List.getElem?_append_right (by omega), Nat.add_sub_cancel_left, List.getElem?_append_left (List.getElem?_eq_some_iff.1 hj).1]
      exact hj
    rw [← h8, List.getElem?_take] at hl
    split at hl
    · rw [h9, f1] at hl; exact hl
    · cases hl)
  refine ⟨u, ?_, g2⟩
  simp only [Instr.loadAt, Instr.sureAddr, Sem.run_bind, Sem.run_pure, Result.andThen_ok]
  exact g1

theorem St.storeO {B S μ G w} (hc : B.c.ok) (st : St B S μ G w) {t n e sz cnt i0 : Nat} {p : List Step} {xs : List D} {y : AV} {z : D} {v u : Value} {i : TI} (hi : B.c.tt t = some i) (hv : VA μ S.length w G (.ptr n (.ix i0 sz cnt :: p)) v) (hn : S[n]? = some (.own e sz xs)) (hlt : i0 < xs.length)
    (hu : VA μ S.length w G y u) (hset : setO sz (xs.getD i0 .nilP) p y = some z) (hs : shapeB i y = true) :
    ∃ w', (Instr.storeAt t v u).run B.c.P w = .ok () w' ∧ St B (S.set n (.own e sz (xs.set i0 z))) μ G w' ∧ Later S μ G w (S.set n (.own e sz (xs.set i0 z))) μ G w' := by
  have hf := hc t i hi
  obtain ⟨s1, s2⟩ := shapeB_spec hs
  obtain ⟨g, cap, cur, a, c, d, h1, rfl, h3, h4, h5, h6, h7, h8, h9, h10, h11, h12, h13⟩ := own_at st hv hn hlt
  have hcu : CA μ S.length w G [y] u.cells.toList := hu.1
  obtain ⟨a', c', d', rfl, f1, f2, f3, f4⟩ := setO_sound h10 h11 h3 hcu hset
  have hlu : u.cells.toList.length = i.size := by have := hcu.length; simp [AV.sizes] at this; simp; omega
  have hone := hcu.oneCell
  have hcur : cur.toList = a ++ (a' ++ (c' ++ (d' ++ (d ++ cur.toList.drop (xs.length * sz))))) :=
    (List.take_append_drop (xs.length * sz) cur.toList).symm.trans (by rw [h8]; simp)
  have e9 : cur.toList.length = cur.size := Array.length_toList
  have hoff : i0 * sz + offp p = (a ++ a').length := by rw [List.length_append, h9, f1]
  have hsz : i0 * sz + offp p + u.cells.toList.length ≤ cur.size := by
    have := congrArg List.length hcur
    simp only [List.length_append, Array.length_toList] at this hoff
    omega
  have hst := run_storeCells_at B.c.P g (i0 * sz + offp p) e u.cells.toList 0 cur w h4 (by simpa using hsz) hone
  simp only [Nat.add_zero] at hst
  have hbid : bid (μ n) = some g := by rw [h1]; rfl
  have hG : ∀ o, ¬ G g o := fun o => st.free n _ g hn rfl hbid o (Nat.zero_le _)
  obtain ⟨row, hrow⟩ : ∃ row : Array Value, row = (cur.toList.take (i0 * sz + offp p) ++ u.cells.toList ++ cur.toList.drop (i0 * sz + offp p + u.cells.toList.length)).toArray := ⟨_, rfl⟩
  rw [← hrow] at hst
  have hrl : row.toList = (a ++ ((a' ++ (u.cells.toList ++ d')) ++ d)) ++ cur.toList.drop (xs.length * sz) := by
    rw [hrow, List.toList_toArray]
    generalize cur.toList.drop (xs.length * sz) = T at hcur ⊢
    rw [hcur, hoff, ← f2, ← List.append_assoc a a', List.take_left, ← List.append_assoc (a ++ a') c', ← List.length_append, List.drop_left]
    simp
  have hcells := (setRow_next w g row).cells st.gv (G := G) (fun k hk o v hgk _ => by cases hk; exact absurd hgk (hG o))
  have hnew := h12 z _ f3
  refine ⟨w.setRow g row, ?_, ?_, ⟨by simp, fun _ _ => rfl, fun _ _ h => h, hcells⟩⟩
  · simp only [Instr.storeAt, Instr.sureAddr, Sem.run_bind, Sem.run_pure, Result.andThen_ok, storeVar, run_sizeOf' hf]
    rw [if_neg (by rw [← hlu]; simp)]
    exact hst
  · have hl8 := congrArg List.length h8
    have hle : xs.length * sz ≤ cap * sz := Nat.mul_le_mul_right _ h5
    rw [List.length_take, e9, h7, Nat.min_eq_left hle] at hl8
    have hlen : (a ++ ((a' ++ (u.cells.toList ++ d')) ++ d)).length = xs.length * sz := by
      rw [hl8]; simp only [List.length_append]; omega
    refine st.write hn rfl rfl rfl rfl (g := g) hbid (setRow_next w g row)
      ⟨_, ⟨by rw [List.length_set]; exact hlen, .inr ⟨g, cap, row, by rw [List.length_set]; exact h1, Nat.zero_le _, setRow_heap w g cur row e _ h4, by rw [List.length_set]; exact h5, h6, ?_, ?_⟩⟩, hnew.mono (fun _ _ h => h) hcells, ?_⟩
    · have := congrArg List.length hrl
      rw [List.length_append, hlen, List.length_drop, e9, h7] at this
      have e10 : row.toList.length = row.size := Array.length_toList
      omega
    · rw [List.length_set, hrl, ← hlen, List.take_left]
    · intro x hx
      rcases List.mem_or_eq_of_mem_set hx with hx | rfl
      · exact h13 x hx
      · exact f4

theorem rule_loadO {t : TypeId} {x : Operand} {i : TI} {n e sz cnt i0 : Nat} {p : List Step} {xs : List D} {y : AV} (hc : B.c.ok) (ho : o.op = .load t x) (hi : B.c.tt t = some i) (hx : evalA B.c env x = some (.ptr n (.ix i0 sz cnt :: p)))
    (hn : S[n]? = some (.own e sz xs)) (hlt : i0 < xs.length) (hg : AV.getP (.d (xs.getD i0 .nilP)) p = some y) (hs : shapeB i y = true) (hy : notTup y = true) (h : K (some y) S) : OpsTo B N o env S K :=
  opsTo_pure h fun μ G a w st => by
    obtain ⟨u, h1, h2⟩ := st.st.loadO hc hi ((evalA_sound st hx).va (fun l e => by cases e)) hn hlt hg hs
    refine ⟨u, ?_, h2.ra (notTup_spec hy)⟩
    simp only [execOp, ho, Sem.run_bind, h1, Result.andThen_ok, Sem.run_pure]

theorem rule_storeO {t : TypeId} {x y : Operand} {i : TI} {n e sz cnt i0 : Nat} {p : List Step} {xs : List D} {v : AV} {z : D} (hc : B.c.ok) (ho : o.op = .store t x y) (hi : B.c.tt t = some i) (hx : evalA B.c env x = some (.ptr n (.ix i0 sz cnt :: p)))
    (hn : S[n]? = some (.own e sz xs)) (hlt : i0 < xs.length) (hy : evalA B.c env y = some v) (hv : notTup v = true) (hset : setO sz (xs.getD i0 .nilP) p v = some z) (hs : shapeB i v = true) (h : K none (S.set n (.own e sz (xs.set i0 z)))) : OpsTo B N o env S K :=
  opsTo_skip fun μ G a w st => by
    obtain ⟨w', h1, h2, h3⟩ := st.st.storeO hc hi ((evalA_sound st hx).va (fun l e => by cases e)) hn hlt ((evalA_sound st hy).va (notTup_spec hv)) hset hs
    exact ⟨w', μ, G, _, by simp only [execOp, ho, Sem.run_bind, h1, Result.andThen_ok, Sem.run_pure], h, h2, h3⟩

/-- An own slice becomes a row: what stands in it stays. -/
theorem St.freeze {B S μ G w} (st : St B S μ G w) {n e sz : Nat} {xs : List D} (hn : S[n]? = some (.own e sz xs)) : ∃ G' : Nat → Nat → Prop, (∀ b o, G b o → G' b o) ∧ St B (S.set n (.row e sz xs)) μ G' w := by
  have hlt := (List.getElem?_eq_some_iff.1 hn).1
  have hbk := st.blks n _ hn
  have hbl := hbk.bid_lt rfl
  obtain ⟨cs, g1, g2, g3⟩ := hbk
  let G' : Nat → Nat → Prop := fun k o => G k o ∨ (bid (μ n) = some k ∧ o < xs.length * sz)
  have hG : ∀ k o, G k o → G' k o := fun _ _ h => .inl h
  have old : ∀ i d, (S.set n (.row e sz xs))[i]? = some d → (i ≠ n ∧ S[i]? = some d) ∨ (i = n ∧ d = .row e sz xs) := by
    intro i d hd
    by_cases e : i = n
    · subst e; rw [List.getElem?_set_self hlt] at hd; exact .inr ⟨rfl, by simpa using hd.symm⟩
    · rw [List.getElem?_set_ne (Ne.symm e)] at hd; exact .inl ⟨e, hd⟩
  have was : ∀ (i : Nat) (d : Blk), (S.set n (.row e sz xs))[i]? = some d → d.live = true → ∃ d' : Blk, S[i]? = some d' ∧ d'.live = true := by
    intro i d hd hl
    rcases old i d hd with ⟨_, h⟩ | ⟨rfl, _⟩
    · exact ⟨d, h, hl⟩
    · exact ⟨_, hn, rfl⟩
  refine ⟨G', hG, ?_⟩
  exact {
    blks := by
      intro i d hd
      rw [List.length_set]
      rcases old i d hd with ⟨hi, hs⟩ | ⟨rfl, rfl⟩
      · exact (st.blks i d hs).mono (Nat.le_refl _) (fun _ _ _ => rfl) hG (fun _ _ _ _ h => h) (fun _ _ _ => rfl)
      · exact ⟨cs, World.ownsRowF_of g1, g2.mono hG (fun _ _ _ _ h => h), g3, fun m hm o ho => .inr ⟨hm, by rw [← g1.1]; exact ho⟩⟩
    apart := by
      intro i j d f hd hf hl1 hl2 hij
      obtain ⟨d', h1, h2⟩ := was i d hd hl1
      obtain ⟨f', h3, h4⟩ := was j f hf hl2
      exact st.apart i j d' f' h1 h3 h2 h4 hij
    free := by
      intro i d m hd hl1 hm o ho hg
      rcases old i d hd with ⟨hi, hs⟩ | ⟨rfl, rfl⟩
      · rcases hg with hg | ⟨hg, _⟩
        · exact st.free i d m hs hl1 hm o ho hg
        · exact st.apart i n d _ hs hn hl1 rfl hi m hm hg
      · rcases hg with hg | ⟨_, hg⟩
        · exact st.free i _ m hn rfl hm o (Nat.zero_le _) hg
        · have ho : xs.length * sz ≤ o := ho
          omega
    gv := by
      intro k o hg
      rcases hg with hg | ⟨hg, _⟩
      · exact st.gv k o hg
      · exact hbl k hg
    k0 := by rw [List.length_set]; exact st.k0
    keep := st.keep
    g0 := fun b o h => hG _ _ (st.g0 b o h)
    gn := by
      intro k o hg
      rcases hg with hg | ⟨hg, _⟩
      · exact st.gn k o hg
      · rcases Nat.lt_or_ge n B.k0 with h5 | h5
        · exact .inr (.inr (st.xx h5 hn rfl hg))
        · exact .inr (st.new n _ k h5 hn rfl hg)
    new := by
      intro i d m hi hd hl1 hm
      obtain ⟨d', h1, h2⟩ := was i d hd hl1
      exact st.new i d' m hi h1 h2 hm
    os := st.os
    tape := st.tape
    output := st.output
    size := st.size
    fr := st.fr
    lv := by
      intro i d hi hd hl1
      obtain ⟨d', h1, h2⟩ := was i d hd hl1
      exact st.lv i d' hi h1 h2
    glob := fun g x hg => (st.glob g x hg).mono hG (fun _ _ _ _ h => h)
    gw := st.gw }

theorem opsTo_freeze {n e sz : Nat} {xs : List D} (hn : S[n]? = some (.own e sz xs)) (h : OpsTo B N o env (S.set n (.row e sz xs)) K) : OpsTo B N o env S K := by
  intro μ G a w st next Q hk
  obtain ⟨G', g1, g2⟩ := st.st.freeze hn
  have hl : Later S μ G w (S.set n (.row e sz xs)) μ G' w := ⟨by simp, fun _ _ => rfl, g1, fun _ _ _ _ h => h⟩
  refine h μ G' a w ⟨g2, fun t x hx => ?_, st.n, st.d⟩ next Q fun x S' μ' G'' v w' h1 h2 h3 => hk x S' μ' G'' v w' h1 h2 (hl.trans h3)
  obtain ⟨v, e1, e2⟩ := st.env t x hx
  exact ⟨v, e1, hl.ra e2⟩

/-- Behind a row of one's own: data. -/
theorem rule_append_src {s x : Operand} {t e : TypeId} {i fi : TI} {z : D} {n sz : Nat} {xs ys : List D} (hc : B.c.ok) (ho : o.op = .call { callee := .builtin .append, args := #[s, x], argTypes := #[t, t] })
    (hi : B.c.tt t = some i) (hk : i.k = .slice e) (hfi : B.c.tt e = some fi) (hz : fi.zero = some z) (hzs : z.size = sz) (hsz : fi.size = sz)
    (hs : evalA B.c env s = some (.row n)) (hn : S[n]? = some (.row e sz xs)) (hx : ∀ (μ : Nat → Value) (G : Nat → Nat → Prop) (a : Act) (w : World), At1 B N env S μ G a w → ∃ b1 b2 cap c, a.eval x = .slice (some ⟨b1, b2, none⟩) ys.length cap ∧ CL w G ys c ∧ (∀ y ∈ ys, y.size = sz) ∧ ∀ j u, c[j]? = some u → w.cell? ⟨b1, b2 + j, none⟩ = some u) (hy : 0 < ys.length)
    (hb : (xs.length + ys.length) * (fi.bytes + 1) ≤ 140737488355328)
    (h : K (some (.row S.length)) (S.set n (.sealed (.sl sz xs)) ++ [.row e sz (xs ++ ys)])) : OpsTo B N o env S K := by
  obtain ⟨⟨d, h1, h2⟩, _⟩ := hc t i hi
  obtain ⟨_, info, f1, f2, f3, f4⟩ := hc e fi hfi
  obtain ⟨zv, f5, f6⟩ := f4 z hz
  rw [hk] at h2
  obtain rfl : d = .slice e := by cases d <;> simp [tkOf] at h2; subst h2; rfl
  refine opsTo_value fun μ G a w st => ?_
  obtain ⟨hnS, hsv⟩ := ca_row_inv ((evalA_sound st hs).va (fun l e => by cases e))
  obtain ⟨cs, g1, g2, g3, g4⟩ := st.st.blks n _ hn
  obtain ⟨b1, b2, cap, c, e1, c1, c2, c3⟩ := hx μ G a w st
  have hcl := D.eqLen g2 g3
  have hcl2 := D.eqLen c1 c2
  obtain ⟨v', w', hr, k1, k2, k3, k, k4, k5, k6⟩ := run_append_row (P := B.c.P) (w := w) (ty := o.type) (bytes := fi.bytes) (size := sz) h1 f1 f5 (by rw [f2, hsz]) f3 (by rw [(f6 w G).cells_size, hzs]) g1
    (a := ⟨b1, b2, none⟩) (m := ys.length) (c := cap) (news := c) hcl2 (fun j u hj => by rw [addr_add]; exact c3 j u hj) c1.oneCell hy hb
  have hrun : (execOp a.eval o).run B.c.P w = .ok (.value v') w' := by
    simp only [execOp, ho, resolve, Sem.run_bind, Sem.run_pure, Result.andThen_ok, invoke, builtin]
    have : (Array.map a.eval #[s, x]) = #[μ n, .slice (some ⟨b1, b2, none⟩) ys.length cap] := by simp [hsv, e1]
    rw [this, hr]
    rfl
  -- the old name is given up
  have hdrop : St B (S.set n (.sealed (.sl sz xs))) μ G w := by
    refine st.st.drop hnS rfl (fun _ _ h => h) (fun _ _ h => .inl h) ?_
    show VD w G (.sl sz xs) (μ n)
    refine VD.of_single ?_ rfl
    rcases g1.2 with ⟨q1, q2⟩ | ⟨g, cap', cur, fz, q1, _, q2, q7, q3, q4, q5, q6⟩
    · rw [q1]
      have : xs = [] := List.eq_nil_of_length_eq_zero q2
      subst this
      exact .slnil .nil
    · rw [q1]
      refine .sl g2 rfl g3 ?_ (.inr rfl) q3 q4 .nil
      intro j u hj
      have := g1.cells (g := g) (by rw [q1]; rfl) j u hj
      rw [addr_add] at this
      exact ⟨this, g4 g (by rw [q1]; rfl) _ (by simpa using (List.getElem?_eq_some_iff.1 hj).1)⟩
  have hlenS : (S.set n (.sealed (.sl sz xs))).length = S.length := by simp
  have hfree : ∀ q, bid (μ n) = some q → ∀ p, xs.length * sz ≤ p → ¬ G q p := fun q hq p hp => st.st.free n _ q hn rfl hq p hp
  have hGv := st.st.gv
  let G' : Nat → Nat → Prop := fun b o => G b o ∨ (b = k ∧ o < (xs.length + ys.length) * sz)
  have hcells := k2.cells st.st.gv (G := G) (fun q hq p u hg hu => by
    rcases Nat.lt_or_ge p (xs.length * sz) with h | h
    · rw [k3 q hq p (by rw [hcl]; exact h)]; exact hu
    · exact absurd hg (hfree q hq p h))
  have hpush := hdrop.push2 (w' := w') (G' := G') (v := v') (b := .row e sz (xs ++ ys)) (n0 := bid (μ n)) k2
    (fun q hq p u hg hu => by
      rcases Nat.lt_or_ge p (xs.length * sz) with h | h
      · rw [k3 q hq p (by rw [hcl]; exact h)]; exact hu
      · exact absurd hg (hfree q hq p h))
    (fun i d hd hl q hq hiq => by
      by_cases e : i = n
      · subst e; rw [List.getElem?_set_self hnS] at hd; cases hd; cases hl
      · rw [List.getElem?_set_ne (Ne.symm e)] at hd
        exact st.st.apart i n d _ hd hn hl rfl e q hiq hq)
    (fun q hq => ⟨(by rcases Nat.lt_or_ge n B.k0 with h5 | h5; exact .inr (st.st.xx h5 hn rfl hq); exact st.st.new n _ q h5 hn rfl hq), (st.st.blks n _ hn).bid_lt rfl q hq⟩)
    (fun _ _ h => .inl h)
    (fun b o hg => by
      rcases hg with hg | ⟨rfl, _⟩
      · exact .inl hg
      · exact .inr ⟨k4, k6, k5⟩)
    (fun q hq => by rw [k4] at hq; cases hq; exact k5)
    (fun q hq p hp hg => by
      rw [k4] at hq; cases hq
      simp only [Blk.fixed, List.length_append] at hp
      rcases hg with hg | ⟨_, hg⟩
      · rcases k5 with h5 | h5
        · exact hfree k h5 p (Nat.le_trans (Nat.mul_le_mul_right _ (Nat.le_add_right _ _)) hp) hg
        · have := hGv k p hg; omega
      · omega)
    (by
      refine ⟨cs ++ c, by rw [List.length_append]; exact k1, (g2.mono (fun _ _ h => .inl h) hcells).append (c1.mono (fun _ _ h => .inl h) hcells), ?_, ?_⟩
      · intro y hy'
        rcases List.mem_append.1 hy' with h | h
        · exact g3 y h
        · exact c2 y h
      · intro q hq p hp
        rw [k4] at hq; cases hq
        refine .inr ⟨rfl, ?_⟩
        rw [List.length_append, hcl, hcl2, ← Nat.add_mul] at hp
        exact hp)
  rw [hlenS] at hpush
  have hμ : ∀ i, i < S.length → upd μ S.length v' i = μ i := fun i hi => by simp [upd, Nat.ne_of_lt hi]
  refine ⟨v', w', _, G', _, _, hrun, h, hpush, ⟨by simp, hμ, fun _ _ h => .inl h, hcells⟩, ?_⟩
  refine VA.ra (VA.of_single ?_ rfl) (fun l e => by cases e)
  have hv' : ∃ a len cap, v' = .slice a len cap := by
    rcases k1.2 with ⟨q, _⟩ | ⟨_, _, _, _, q, _⟩
    · exact ⟨_, _, _, q⟩
    · exact ⟨_, _, _, q⟩
  obtain ⟨q1, q2, q3, rfl⟩ := hv'
  exact .row (by simp) (by simp [upd]) .nil

theorem rule_append {s x : Operand} {t e : TypeId} {i fi : TI} {z : D} {n sz : Nat} {xs ys : List D} (hc : B.c.ok) (ho : o.op = .call { callee := .builtin .append, args := #[s, x], argTypes := #[t, t] })
    (hi : B.c.tt t = some i) (hk : i.k = .slice e) (hfi : B.c.tt e = some fi) (hz : fi.zero = some z) (hzs : z.size = sz) (hsz : fi.size = sz)
    (hs : evalA B.c env s = some (.row n)) (hn : S[n]? = some (.row e sz xs)) (hx : evalA B.c env x = some (.d (.sl sz ys))) (hy : 0 < ys.length)
    (hb : (xs.length + ys.length) * (fi.bytes + 1) ≤ 140737488355328)
    (h : K (some (.row S.length)) (S.set n (.sealed (.sl sz xs)) ++ [.row e sz (xs ++ ys)])) : OpsTo B N o env S K := by
  refine rule_append_src hc ho hi hk hfi hz hzs hsz hs hn (fun μ G a w st => ?_) hy hb h
  have hv := (evalA_sound st hx).vd
  rcases hv.sl_inv with ⟨_, e2⟩ | ⟨ad, cap, c, e1, c1, c2, c3, c4, c5, c6⟩
  · subst e2; simp at hy
  have hsp : ad.spot = none := c4.resolve_left (fun e => by subst e; simp at hy)
  obtain ⟨b1, b2, b3⟩ := ad
  simp only at hsp c3
  subst hsp
  exact ⟨b1, b2, cap, c, e1, c1, c2, fun j u hj => (c3 j u hj).1⟩

/-- A part of an array in the store: what stands there. -/
theorem vw_cells {x : Operand} {n lo len cnt sz : Nat} {p : List Step} {X : AV} {xs : List D} {μ : Nat → Value} {G : Nat → Nat → Prop} {a : Act} {w : World} (st : At1 B N env S μ G a w) (hx : evalA B.c env x = some (.vw n p lo len cnt sz)) (hn : S[n]? = some (.var X))
    (hX : AV.getP X p = some (.d (.arr cnt sz xs))) :
    ∃ b cap c, a.eval x = .slice (some ⟨b, offp p + lo * sz, none⟩) len cap ∧ lo + len ≤ cnt ∧ xs.length = cnt ∧ (∀ y ∈ xs, y.size = sz) ∧ CL w G ((xs.drop lo).take len) c ∧ ∀ j u, c[j]? = some u → w.cell? ⟨b, offp p + lo * sz + j, none⟩ = some u := by
  have hva := (evalA_sound st hx).va (fun l e => by cases e)
  obtain ⟨b, cap, k1, k2, k3, k4, k5⟩ : ∃ b cap, n < S.length ∧ ptrAt (μ n) b p ∧ pathOk p ∧ lo + len ≤ cnt ∧ a.eval x = .slice (some ⟨b, offp p + lo * sz, none⟩) len cap := by
    rcases hva.inv with ⟨q, _⟩ | ⟨_, q, _⟩
    · simp [AV.isAgg] at q
    · generalize a.eval x = v at q
      cases q with
      | vw k1 k2 k3 k4 k5 k6 _ => exact ⟨_, _, k1, k2, k3, k4, rfl⟩
  obtain ⟨b', cs, T, l, z, e1, e2, e3, e4⟩ := st.st.blks n _ hn
  have hbb : b' = b := k2.eq e1
  subst hbb
  obtain ⟨aa, cc, dd, rfl, f1, f2, _⟩ := e4.getP hX k3
  obtain ⟨f3, f4, f5⟩ := (CA.d_iff.1 f2).arr_inv3
  obtain ⟨a2, m, z2, rfl, f6, f7⟩ := f3.sub f5 lo len (by omega)
  refine ⟨b', cap, m, k5, k4, f4, f5, f7, fun j u hj => ?_⟩
  rw [cell_of_block e2, ← Array.getElem?_toList, e3, ← f1, ← f6, Nat.add_assoc]
  have : aa ++ (a2 ++ (m ++ z2) ++ dd) ++ z = aa ++ ((a2 ++ (m ++ (z2 ++ dd ++ z)))) := by simp [List.append_assoc]
  rw [this, List.getElem?_append_right (by omega)]
  have e5 : aa.length + (a2.length + j) - aa.length = a2.length + j := by omega
  rw [e5, List.getElem?_append_right (by omega)]
  have e6 : a2.length + j - a2.length = j := by omega
  rw [e6, List.getElem?_append_left (List.getElem?_eq_some_iff.1 hj).1]
  exact hj

/-- A part of an array in the store, behind a row. -/
theorem rule_append_vw {s x : Operand} {t e : TypeId} {i fi : TI} {z : D} {n m lo len cnt sz : Nat} {p : List Step} {X : AV} {xs ys : List D} (hc : B.c.ok) (ho : o.op = .call { callee := .builtin .append, args := #[s, x], argTypes := #[t, t] })
    (hi : B.c.tt t = some i) (hk : i.k = .slice e) (hfi : B.c.tt e = some fi) (hz : fi.zero = some z) (hzs : z.size = sz) (hsz : fi.size = sz)
    (hs : evalA B.c env s = some (.row n)) (hn : S[n]? = some (.row e sz xs)) (hx : evalA B.c env x = some (.vw m p lo len cnt sz)) (hm : S[m]? = some (.var X)) (hX : AV.getP X p = some (.d (.arr cnt sz ys))) (hy : 0 < ((ys.drop lo).take len).length)
    (hb : (xs.length + ((ys.drop lo).take len).length) * (fi.bytes + 1) ≤ 140737488355328)
    (h : K (some (.row S.length)) (S.set n (.sealed (.sl sz xs)) ++ [.row e sz (xs ++ (ys.drop lo).take len)])) : OpsTo B N o env S K := by
  refine rule_append_src hc ho hi hk hfi hz hzs hsz hs hn (fun μ G a w st => ?_) hy hb h
  obtain ⟨b, cap, c, h1, h2, h3, h4, h5, h6⟩ := vw_cells st hx hm hX
  have hl : ((ys.drop lo).take len).length = len := by rw [List.length_take, List.length_drop]; omega
  rw [hl]
  exact ⟨b, offp p + lo * sz, cap, c, h1, h5, fun y hy => h4 y (List.mem_of_mem_drop (List.mem_of_mem_take hy)), h6⟩

/-- Cells are laid over a part of an array in the store. -/
theorem rule_copy {x y : Operand} {t u e : TypeId} {i fi : TI} {n lo len cnt L : Nat} {p : List Step} {X X' : AV} {xs ys : List D} (hc : B.c.ok) (ho : o.op = .call { callee := .builtin .copy, args := #[x, y], argTypes := #[t, u] })
    (hi : B.c.tt t = some i) (hk : i.k = .slice e) (hfi : B.c.tt e = some fi) (hsz : fi.size = 1)
    (hx : evalA B.c env x = some (.vw n p lo len cnt 1)) (hn : S[n]? = some (.var X)) (hX : AV.getP X p = some (.d (.arr cnt 1 xs)))
    (hy : ∀ (μ : Nat → Value) (G : Nat → Nat → Prop) (a : Act) (w : World), At1 B N env S μ G a w → ∃ cs : List Value, (Builtin.lenOf (a.eval y)).run B.c.P w = .ok L w ∧ (Builtin.firstCells 1 (Nat.min L len) (a.eval y)).run B.c.P w = .ok cs.toArray w ∧ CL w G ys cs)
    (hys : ys.length = Nat.min L len) (hy1 : ∀ y ∈ ys, y.size = 1)
    (hset : AV.setP X p (.d (.arr cnt 1 (xs.take lo ++ (ys ++ xs.drop (lo + ys.length))))) = some X')
    (h : K (some (.d (.int .i64 (Nat.min L len : Nat)))) (S.set n (.var X'))) : OpsTo B N o env S K := by
  obtain ⟨⟨d, h1, h2⟩, _⟩ := hc t i hi
  obtain ⟨_, info, f1, f2, f3, f4⟩ := hc e fi hfi
  rw [hk] at h2
  obtain rfl : d = .slice e := by cases d <;> simp [tkOf] at h2; subst h2; rfl
  refine opsTo_value fun μ G a w st => ?_
  obtain ⟨cs0, q1, q2, q3⟩ := hy μ G a w st
  have hva := (evalA_sound st hx).va (fun l e => by cases e)
  obtain ⟨b, cap, k1, k2, k3, k4, k5⟩ : ∃ b cap, n < S.length ∧ ptrAt (μ n) b p ∧ pathOk p ∧ lo + len ≤ cnt ∧ a.eval x = .slice (some ⟨b, offp p + lo * 1, none⟩) len cap := by
    rcases hva.inv with ⟨q, _⟩ | ⟨_, q, _⟩
    · simp [AV.isAgg] at q
    · generalize a.eval x = v at q
      cases q with
      | vw k1 k2 k3 k4 k5 k6 _ => exact ⟨_, _, k1, k2, k3, k4, rfl⟩
  rw [Nat.mul_one] at k5
  obtain ⟨b', cs, T, l, z, e1, e2, e3, e4⟩ := st.st.blks n _ hn
  have hbb : b' = b := k2.eq e1
  subst hbb
  replace k2 := e1
  obtain ⟨aa, cc, dd, rfl, g1, g2, g3⟩ := e4.getP hX k3
  obtain ⟨g4, g5, g6⟩ := (CA.d_iff.1 g2).arr_inv3
  have hml : ys.length ≤ len := by rw [hys]; exact Nat.min_le_right _ _
  obtain ⟨a2, m, z2, rfl, g7, g8⟩ := g4.sub g6 lo ys.length (by omega)
  rw [Nat.mul_one] at g7
  have hxs : xs = xs.take lo ++ ((xs.drop lo).take ys.length ++ (xs.drop lo).drop ys.length) := by rw [List.take_append_drop, List.take_append_drop]
  have hdd : (xs.drop lo).drop ys.length = xs.drop (lo + ys.length) := by rw [List.drop_drop]
  rw [hxs, hdd] at g4
  obtain ⟨c1, r1, w1, w2, w3⟩ := CL.append_inv g4
  obtain ⟨c2, c3, rfl, w4, w5⟩ := CL.append_inv w3
  have l1 : c1.length = lo := by
    rw [w2.length, D.sizes_uniform (sz := 1) fun y hy => g6 y (List.mem_of_mem_take hy), List.length_take]; omega
  have l2 : c2.length = ys.length := by
    rw [w4.length, D.sizes_uniform (sz := 1) fun y hy => g6 y (List.mem_of_mem_drop (List.mem_of_mem_take hy)), List.length_take, List.length_drop]; omega
  have lm : m.length = ys.length := by
    rw [g8.length, D.sizes_uniform (sz := 1) fun y hy => g6 y (List.mem_of_mem_drop (List.mem_of_mem_take hy)), List.length_take, List.length_drop]; omega
  have l0 : cs0.length = ys.length := by rw [q3.length, D.sizes_uniform hy1, Nat.mul_one]
  obtain ⟨rfl, w6⟩ := List.append_inj w1 (by omega)
  obtain ⟨rfl, rfl⟩ := List.append_inj w6 (by omega)
  have hnew : CL w G (xs.take lo ++ (ys ++ xs.drop (lo + ys.length))) (a2 ++ (cs0 ++ z2)) := w2.append (q3.append w5)
  have hca : CA μ S.length w G [.d (.arr cnt 1 (xs.take lo ++ (ys ++ xs.drop (lo + ys.length))))] (a2 ++ (cs0 ++ z2)) := by
    refine CA.d_iff.2 ?_
    have := CL.arr hnew (n := cnt) (sz := 1) (by simp only [List.length_append, List.length_take, List.length_drop]; omega) (fun y hy => by
      rcases List.mem_append.1 hy with h | h
      · exact g6 y (List.mem_of_mem_take h)
      · rcases List.mem_append.1 h with h | h
        · exact hy1 y h
        · exact g6 y (List.mem_of_mem_drop h)) .nil
    simpa using this
  obtain ⟨r1, r2, r3, r4⟩ := g3 _ _ X' hca hset
  have hfit : offp p + lo + cs0.length ≤ cs.size := by
    have := congrArg List.length e3
    simp only [List.length_append, Array.length_toList] at this
    omega
  have hone := q3.oneCell
  have hst := run_storeCells_at B.c.P b' (offp p + lo) T cs0 0 cs w e2 (by simpa using hfit) hone
  simp only [Nat.add_zero] at hst
  have hG : ∀ o, ¬ G b' o := fun o => st.st.free n _ b' hn rfl (by rw [k2]; rfl) o (Nat.zero_le _)
  obtain ⟨row, hrow⟩ : ∃ row : Array Value, row = (cs.toList.take (offp p + lo) ++ cs0 ++ cs.toList.drop (offp p + lo + cs0.length)).toArray := ⟨_, rfl⟩
  rw [← hrow] at hst
  have hrl : row.toList = (aa ++ ((a2 ++ (cs0 ++ z2)) ++ dd)) ++ z := by
    rw [hrow, e3, ← g1, ← g7, l0, ← lm]
    have e5 : aa ++ (a2 ++ (m ++ z2) ++ dd) ++ z = (aa ++ a2) ++ (m ++ (z2 ++ dd ++ z)) := by simp [List.append_assoc]
    have e6 : List.drop ((aa ++ a2).length + m.length) ((aa ++ a2) ++ (m ++ (z2 ++ dd ++ z))) = z2 ++ dd ++ z := by rw [← List.append_assoc (aa ++ a2), ← List.length_append, List.drop_left]
    rw [e5, ← List.length_append, List.take_left, e6]
    simp [List.append_assoc]
  have hcells := (setRow_next w b' row).cells st.st.gv (G := G) (fun k hk o v hgk _ => by cases hk; exact absurd hgk (hG o))
  have hmin : cs0.length = Nat.min L len := by rw [l0, hys]
  refine ⟨.int .i64 (Nat.min L len : Nat), w.setRow b' row, μ, G, _, _, ?_, h, ?_, ⟨by simp, fun _ _ => rfl, fun _ _ h => h, hcells⟩, VD.int.ra⟩
  · simp only [execOp, ho, resolve, Sem.run_bind, Sem.run_pure, Result.andThen_ok, invoke, builtin]
    have : (Array.map a.eval #[x, y]) = #[.slice (some ⟨b', offp p + lo, none⟩) len cap, a.eval y] := by simp [k5]
    rw [this]
    have hi1 : info.size = 1 := by rw [f2, hsz]
    simp [Builtin.copy_, run_underlying h1, sizeOf, typeInfo, f1, hi1, q1, q2, hst, goInt]
  · exact st.st.write hn rfl rfl rfl rfl (g := b') (by rw [k2]; rfl) (setRow_next w b' row)
      ⟨b', row, T, aa ++ ((a2 ++ (cs0 ++ z2)) ++ dd), z, k2, setRow_heap w b' cs row T _ e2, hrl, r1.mono (Nat.le_refl _) (fun _ _ _ => rfl) (fun _ _ h => h) hcells⟩

/-- A row of bytes and a string's behind it. -/
theorem run_append_str {P : Program} {w : World} {t u ty e : TypeId} {i : TypeInfo} (ht : P.underlying t = some (.slice e)) (hu : P.underlying u = some .string) (hi : P.info? e = some i) (hz : i.zero = some (.int .u8 0))
    (hsize : i.size = 1) (hby : i.bytes = 1) {v : Value} {n : Nat} {xs : List Value} (hown : w.ownsRowF 0 e 1 v n xs) (s : ByteArray) (hb : n + s.size ≤ 140737488355328) :
    ∃ v' w', (Builtin.append_ #[t, u] ty #[v, .string s]).run P w = .ok v' w' ∧ w'.ownsRowF 0 e 1 v' (n + s.size) (xs ++ Lib.strCells s) ∧ Next w w' (bid v) ∧
      (∀ k, bid v = some k → ∀ o, o < xs.length → w'.cell? ⟨k, o, none⟩ = w.cell? ⟨k, o, none⟩) ∧ (∀ k, bid v' = some k → (bid v = some k ∨ w.heap.size ≤ k) ∧ k < w'.heap.size) := by
  have h63 : n + s.size ≤ maxLen := by simp only [maxLen]; omega
  have bo : ∀ x : Value, (∃ a l c, x = .slice a l c) → x.ownBlock = bid x := by
    rintro x ⟨a, l, c, rfl⟩
    cases a <;> rfl
  rcases hown.2 with ⟨rfl, rfl⟩ | ⟨g, cap, cur, fz, rfl, hbg, hg, hfz, hnc, hcm, hcs, htake⟩
  · obtain ⟨v', w', h1, h2, h3, _⟩ := Lib.run_append_own_string (P := P) w w.heap.size t u ty e i ht hu hi hz hsize hby (.slice none 0 0) 0 xs ⟨hown.1, .inl ⟨rfl, rfl⟩⟩ s h63 hb (Nat.le_refl _)
    have hlt := h2.lt
    refine ⟨v', w', h1, ?_, ⟨h3.os, h3.tape, h3.output, h3.size, fun k hk _ => h3.block k hk (fun e => by cases e)⟩, fun k hk => (by cases hk), fun k hk => ?_⟩
    · obtain ⟨q1, q2⟩ := World.ownsRowF_of h2
      exact ⟨q1, q2.imp id fun ⟨g, cap, cur, fz, a1, _, a3⟩ => ⟨g, cap, cur, fz, a1, Nat.zero_le _, a3⟩⟩
    · have := hlt k (by rw [bo]; exact hk; rcases h2.2 with ⟨q, _⟩ | ⟨_, _, _, q, _⟩ <;> exact ⟨_, _, _, q⟩)
      exact ⟨.inr this.1, this.2⟩
  · have hglt : g < w.heap.size := (Array.getElem?_eq_some_iff.1 hg).1
    have hxl : xs.length = n := by simpa using hown.1
    have hlen : (xs ++ Lib.strCells s).length = (n + s.size) * 1 := by rw [List.length_append, hxl, Lib.strCells_length, Nat.mul_one]
    have hcs' : cur.size = cap := by simpa using hcs
    have hfz' : fz.2 ≤ n := by simpa using hfz
    have ht' : cur.toList.take n = xs := by simpa using htake
    by_cases hroom : n + s.size ≤ cap
    · have hr := Lib.run_append_room_stringF (P := P) w t u ty e i ht hu hi hsize g n cap cur fz hg hfz' s hroom (by omega)
      have hset := fun cells => setRow_heap w g cur cells e fz hg
      refine ⟨_, _, hr, ⟨hlen, .inr ⟨g, cap, _, fz, rfl, hbg, hset _, by omega, hroom, hcm, ?_, ?_⟩⟩, ⟨rfl, rfl, rfl, by simp [World.setRow], fun k _ hk => setRow_other w g k _ (fun e => hk (by simp [bid, e]))⟩, ?_, ?_⟩
      · simp only [List.size_toArray, List.length_append, List.length_take, List.length_drop, Array.length_toList, Lib.strCells_length]
        omega
      · rw [ht', ← hlen]
        exact List.take_left
      · intro k hk o ho
        cases hk
        simp only [World.cell?, hset, hg, Option.isSome_none]
        simp only [Bool.false_eq_true, if_false]
        rw [List.getElem?_toArray, ← Array.getElem?_toList, List.append_assoc, List.getElem?_append_left (by simp; omega), List.getElem?_take, if_pos (by omega)]
      · intro k hk
        cases hk
        exact ⟨.inl rfl, (Array.getElem?_eq_some_iff.1 (hset (cur.toList.take n ++ Lib.strCells s ++ cur.toList.drop (n + s.size)).toArray)).1⟩
    · have holds : ∀ j u, xs[j]? = some u → w.cell? ((⟨g, 0, none⟩ : Addr).add j) = some u := hown.cells (g := g) rfl
      have hr := Lib.run_append_grow_string (P := P) w t u ty e i (.int .u8 0) ht hu hi hz ⟨g, 0, none⟩ n cap xs (by rw [hsize]; simpa using hxl) holds s (by omega) (by simp only [maxLen] at h63; omega) (by rw [hby]; exact growslice_fits (by omega) (by omega))
      have hge := grownCap_ge w (n + s.size) cap e
      have hcm2 : grownCap w (n + s.size) cap e ≤ maxLen := grownCap_le_maxLen w (n + s.size) cap e h63
      refine ⟨_, _, hr, ⟨hlen, .inr ⟨w.heap.size, _, _, (0, 0), rfl, Nat.zero_le _, heap_alloc_new w.drew _, Nat.zero_le _, hge, hcm2, ?_, ?_⟩⟩, ⟨rfl, rfl, rfl, by show w.heap.size ≤ (w.heap.push _).size; simp, fun k hk _ => heap_alloc_old w.drew _ k hk⟩, ?_, ?_⟩
      · have hz1 : (Value.int IntKind.u8 0).cells.size = 1 := rfl
        simp only [Array.size_append, List.size_toArray, size_zeroCells, hz1, hxl, Lib.strCells_length]
        omega
      · simp only [Array.toList_append, List.append_assoc]
        rw [← List.append_assoc, ← hlen]
        exact List.take_left
      · intro k hk o _
        cases hk
        exact cell?_heap (heap_alloc_old w.drew _ g hglt)
      · intro k hk
        cases hk
        exact ⟨.inr (Nat.le_refl _), by show w.heap.size < (w.heap.push _).size; simp⟩

theorem CL.bytesF {w G} (s : ByteArray) : CL w G (D.bytes s) (Lib.strCells s) := by
  unfold D.bytes Lib.strCells
  induction s.data.toList with
  | nil => exact .nil
  | cons b l ih => exact .int ih

/-- A row of bytes of one's own, as a string. -/
theorem rule_conv_row {src dst e e' : TypeId} {x : Operand} {i j ei : TI} {n : Nat} {xs : List D} {s : ByteArray} (hc : B.c.ok) (ho : o.op = .convert src dst x) (hi : B.c.tt src = some i) (hj : B.c.tt dst = some j) (hk : i.k = .slice e) (hkj : j.k = .str)
    (he : B.c.tt e = some ei) (hke : ei.k = .int .u8) (hx : evalA B.c env x = some (.row n)) (hn : S[n]? = some (.row e' 1 xs)) (hs : xs = D.bytes s)
    (h : K (some (.d (.str s))) S) : OpsTo B N o env S K := by
  subst hs
  obtain ⟨⟨d, h1, h2⟩, _⟩ := hc src i hi
  obtain ⟨⟨d', h3, h4⟩, _⟩ := hc dst j hj
  obtain ⟨⟨d'', h5, h6⟩, _⟩ := hc e ei he
  rw [hk] at h2
  rw [hkj] at h4
  rw [hke] at h6
  cases d <;> simp [tkOf] at h2
  cases d' <;> simp [tkOf] at h4
  cases d'' <;> simp [tkOf] at h6
  subst h2; subst h6
  refine opsTo_pure h fun μ G a w st => ⟨_, ?_, VD.str.ra⟩
  obtain ⟨hnS, hsv⟩ := ca_row_inv ((evalA_sound st hx).va (fun l e => by cases e))
  obtain ⟨cs, g1, g2, g3, g4⟩ := st.st.blks n _ hn
  have hv : VD w G (.sl 1 (D.bytes s)) (μ n) := by
    refine VD.of_single ?_ rfl
    rcases g1.2 with ⟨q1, q2⟩ | ⟨g, cap', cur, fz, q1, _, q2, q7, q3, q4, q5, q6⟩
    · rw [q1]
      have : D.bytes s = [] := List.eq_nil_of_length_eq_zero q2
      rw [this]
      exact .slnil .nil
    · rw [q1]
      refine .sl g2 rfl g3 ?_ (.inr rfl) q3 q4 .nil
      intro j u hj
      have := g1.cells (g := g) (by rw [q1]; rfl) j u hj
      rw [addr_add] at this
      exact ⟨this, g4 g (by rw [q1]; rfl) _ (by simpa using (List.getElem?_eq_some_iff.1 hj).1)⟩
  simp only [execOp, ho, hsv, Sem.run_bind, run_conv_bytes h1 h5 h3 hv, Result.andThen_ok, Sem.run_pure]

/-- Behind a row of bytes of one's own: a string's. -/
theorem rule_append_str {s x : Operand} {t u e : TypeId} {i j fi : TI} {n : Nat} {xs : List D} {q : ByteArray} (hc : B.c.ok) (ho : o.op = .call { callee := .builtin .append, args := #[s, x], argTypes := #[t, u] })
    (hi : B.c.tt t = some i) (hk : i.k = .slice e) (hj : B.c.tt u = some j) (hkj : j.k = .str) (hfi : B.c.tt e = some fi) (hz : fi.zero = some (.int .u8 0)) (hsz : fi.size = 1) (hby : fi.bytes = 1)
    (hs : evalA B.c env s = some (.row n)) (hn : S[n]? = some (.row e 1 xs)) (hx : evalA B.c env x = some (.d (.str q)))
    (hb : xs.length + q.size ≤ 140737488355328) (h : K (some (.row S.length)) (S.set n (.sealed (.sl 1 xs)) ++ [.row e 1 (xs ++ D.bytes q)])) : OpsTo B N o env S K := by
  obtain ⟨⟨d, h1, h2⟩, _⟩ := hc t i hi
  obtain ⟨⟨d', h1', h2'⟩, _⟩ := hc u j hj
  obtain ⟨_, info, f1, f2, f3, f4⟩ := hc e fi hfi
  obtain ⟨zv, f5, f6⟩ := f4 _ hz
  rw [hk] at h2
  rw [hkj] at h2'
  obtain rfl : d = .slice e := by cases d <;> simp [tkOf] at h2; subst h2; rfl
  obtain rfl : d' = .string := by cases d' <;> simp [tkOf] at h2'; rfl
  refine opsTo_value fun μ G a w st => ?_
  obtain rfl : zv = .int .u8 0 := (f6 w G).int_inv
  obtain ⟨hnS, hsv⟩ := ca_row_inv ((evalA_sound st hs).va (fun l e => by cases e))
  obtain ⟨cs, g1, g2, g3, g4⟩ := st.st.blks n _ hn
  have hxv := (evalA_sound st hx).vd.str_inv
  have hcl := D.eqLen g2 g3
  obtain ⟨v', w', hr, k1, k2, k3, k5⟩ := run_append_str (P := B.c.P) (w := w) (ty := o.type) h1 h1' f1 f5 (by rw [f2, hsz]) (by rw [f3, hby]) g1 q hb
  have hrun : (execOp a.eval o).run B.c.P w = .ok (.value v') w' := by
    simp only [execOp, ho, resolve, Sem.run_bind, Sem.run_pure, Result.andThen_ok, invoke, builtin]
    have : (Array.map a.eval #[s, x]) = #[μ n, .string q] := by simp [hsv, hxv]
    rw [this, hr]
    rfl
  have hdrop : St B (S.set n (.sealed (.sl 1 xs))) μ G w := by
    refine st.st.drop hnS rfl (fun _ _ h => h) (fun _ _ h => .inl h) ?_
    exact (st.st.blks n _ hn).row_view
  have hlenS : (S.set n (.sealed (.sl 1 xs))).length = S.length := by simp
  have hfree : ∀ q, bid (μ n) = some q → ∀ p, xs.length * 1 ≤ p → ¬ G q p := fun q hq p hp => st.st.free n _ q hn rfl hq p hp
  have hGv := st.st.gv
  let G' : Nat → Nat → Prop := fun b o => G b o ∨ (bid v' = some b ∧ o < (xs.length + q.size) * 1)
  have hcellk : ∀ r, bid (μ n) = some r → ∀ p u, G r p → w.cell? ⟨r, p, none⟩ = some u → w'.cell? ⟨r, p, none⟩ = some u := fun r hq p u hg hu => by
    rcases Nat.lt_or_ge p (xs.length * 1) with h | h
    · rw [k3 r hq p (by rw [hcl]; exact h)]; exact hu
    · exact absurd hg (hfree r hq p h)
  have hcells := k2.cells st.st.gv (G := G) hcellk
  have hpush := hdrop.push2 (w' := w') (G' := G') (v := v') (b := .row e 1 (xs ++ D.bytes q)) (n0 := bid (μ n)) k2 hcellk
    (fun i d hd hl q hq hiq => by
      by_cases e : i = n
      · subst e; rw [List.getElem?_set_self hnS] at hd; cases hd; cases hl
      · rw [List.getElem?_set_ne (Ne.symm e)] at hd
        exact st.st.apart i n d _ hd hn hl rfl e q hiq hq)
    (fun q hq => ⟨(by rcases Nat.lt_or_ge n B.k0 with h5 | h5; exact .inr (st.st.xx h5 hn rfl hq); exact st.st.new n _ q h5 hn rfl hq), (st.st.blks n _ hn).bid_lt rfl q hq⟩)
    (fun _ _ h => .inl h)
    (fun b o hg => by
      rcases hg with hg | ⟨hg, _⟩
      · exact .inl hg
      · exact .inr ⟨hg, (k5 b hg).2, (k5 b hg).1⟩)
    (fun q hq => (k5 q hq).1)
    (fun r hq p hp hg => by
      simp only [Blk.fixed, List.length_append, bytes_length] at hp
      rcases hg with hg | ⟨_, hg⟩
      · rcases (k5 r hq).1 with h5 | h5
        · exact hfree r h5 p (Nat.le_trans (Nat.mul_le_mul_right _ (Nat.le_add_right _ _)) hp) hg
        · have := hGv r p hg; omega
      · omega)
    (by
      refine ⟨cs ++ Lib.strCells q, by rw [List.length_append, bytes_length]; exact k1, (g2.mono (fun _ _ h => .inl h) hcells).append (CL.bytesF q), ?_, ?_⟩
      · intro y hy'
        rcases List.mem_append.1 hy' with h | h
        · exact g3 y h
        · unfold D.bytes at h
          obtain ⟨b, _, rfl⟩ := List.mem_map.1 h
          rfl
      · intro r hq p hp
        refine .inr ⟨hq, ?_⟩
        rw [List.length_append, hcl, Lib.strCells_length] at hp
        omega)
  rw [hlenS] at hpush
  have hμ : ∀ i, i < S.length → upd μ S.length v' i = μ i := fun i hi => by simp [upd, Nat.ne_of_lt hi]
  refine ⟨v', w', _, G', _, _, hrun, h, hpush, ⟨by simp, hμ, fun _ _ h => .inl h, hcells⟩, ?_⟩
  refine VA.ra (VA.of_single ?_ rfl) (fun l e => by cases e)
  have hv' : ∃ a len cap, v' = .slice a len cap := by
    rcases k1.2 with ⟨q, _⟩ | ⟨_, _, _, _, q, _⟩
    · exact ⟨_, _, _, q⟩
    · exact ⟨_, _, _, q⟩
  obtain ⟨a1, l1, c1, rfl⟩ := hv'
  exact .row (by simp) (by simp [upd]) .nil

/-- A string over a part of an array in the store. -/
theorem rule_copy_str {x y : Operand} {t u e : TypeId} {i fi : TI} {n lo len cnt : Nat} {p : List Step} {X X' : AV} {xs : List D} {s : ByteArray} (hc : B.c.ok) (ho : o.op = .call { callee := .builtin .copy, args := #[x, y], argTypes := #[t, u] })
    (hi : B.c.tt t = some i) (hk : i.k = .slice e) (hfi : B.c.tt e = some fi) (hsz : fi.size = 1)
    (hx : evalA B.c env x = some (.vw n p lo len cnt 1)) (hn : S[n]? = some (.var X)) (hX : AV.getP X p = some (.d (.arr cnt 1 xs))) (hy : evalA B.c env y = some (.d (.str s)))
    (hset : AV.setP X p (.d (.arr cnt 1 (xs.take lo ++ ((D.bytes s).take len ++ xs.drop (lo + Nat.min s.size len))))) = some X')
    (h : K (some (.d (.int .i64 (Nat.min s.size len : Nat)))) (S.set n (.var X'))) : OpsTo B N o env S K := by
  have hl : ((D.bytes s).take len).length = Nat.min s.size len := by
    rw [List.length_take]
    rw [bytes_length]; exact Nat.min_comm _ _
  refine rule_copy (L := s.size) (ys := (D.bytes s).take len) hc ho hi hk hfi hsz hx hn hX (fun μ G a w st => ?_) hl (fun y hy => ?_) (by rw [hl]; exact hset) h
  · have e := (evalA_sound st hy).vd.str_inv
    rw [e]
    refine ⟨(s.data.toList.map fun b => Value.int .u8 b.toNat).take (Nat.min s.size len), rfl, ?_, ?_⟩
    · simp only [Builtin.firstCells, Sem.run_pure]
      congr 1
      apply Array.toList_inj.1
      simp
    · have e1 : (D.bytes s).take len = (s.data.toList.take (Nat.min s.size len)).map fun b => D.int .u8 b.toNat := by
        unfold D.bytes
        rw [← List.map_take]
        congr 1
        have : s.data.toList.length = s.size := Array.length_toList
        rw [← this, show Nat.min s.data.toList.length len = min s.data.toList.length len from rfl]
        exact List.take_eq_take_iff.2 (by omega)
      rw [e1, ← List.map_take]
      generalize s.data.toList.take (Nat.min s.size len) = l
      induction l with
      | nil => exact .nil
      | cons a l ih => exact .int ih
  · have := List.mem_of_mem_take hy
    unfold D.bytes at this
    obtain ⟨b, _, rfl⟩ := List.mem_map.1 this
    rfl

/-- A zero value, some of whose nil slices are rows of one's own. -/
def rowsZ (k : Nat) : List D → List (Option TypeId) → List AV × List Blk
  | [], _ => ([], [])
  | .sl sz [] :: l, some e :: ws => (.row k :: (rowsZ (k + 1) l ws).1, .row e sz [] :: (rowsZ (k + 1) l ws).2)
  | x :: l, ws => (.d x :: (rowsZ k l ws.tail).1, (rowsZ k l ws.tail).2)

theorem rowsZ_ok : ∀ (l : List D) (ws : List (Option TypeId)) (cs : List Value) (S : List Blk) (μ : Nat → Value) (G : Nat → Nat → Prop) (w : World),
    cells0s l = some cs → St B S μ G w →
    ∃ μ', St B (S ++ (rowsZ S.length l ws).2) μ' G w ∧ Later S μ G w (S ++ (rowsZ S.length l ws).2) μ' G w ∧ CA μ' (S ++ (rowsZ S.length l ws).2).length w G (rowsZ S.length l ws).1 cs
  | [], ws, cs, S, μ, G, w, h, st => by
    simp only [cells0s] at h
    cases h
    simp only [rowsZ, List.append_nil]
    exact ⟨μ, st, Later.refl _ _ _ _, .nil⟩
  | x :: l, ws, cs, S, μ, G, w, h, st => by
    simp only [cells0s] at h
    split at h
    case h_2 => cases h
    rename_i c1 h1
    split at h
    case h_2 => cases h
    rename_i c2 h2
    cases h
    have gen : ∃ μ', St B (S ++ (rowsZ S.length l ws.tail).2) μ' G w ∧ Later S μ G w (S ++ (rowsZ S.length l ws.tail).2) μ' G w ∧ CA μ' (S ++ (rowsZ S.length l ws.tail).2).length w G (.d x :: (rowsZ S.length l ws.tail).1) (c1 ++ c2) := by
      obtain ⟨μ', g1, g2, g3⟩ := rowsZ_ok l ws.tail c2 S μ G w h2 st
      exact ⟨μ', g1, g2, .d (cells0_ok w G x c1 h1) g3⟩
    unfold rowsZ
    split
    · rename_i heq; cases heq
    · rename_i sz l' e ws' heq
      cases heq
      simp only [cells0] at h1
      cases h1
      have hp := st.push (w' := w) (G' := G) (v := .slice none 0 0) (b := .row e sz []) ⟨rfl, rfl, rfl, Nat.le_refl _, fun _ _ _ => rfl⟩ (fun _ _ h => h) (fun _ _ h => .inl h) (fun _ n h => by cases h) (fun _ n h => by cases h)
        ⟨[], World.ownsRowF_nil w 0 e sz, .nil, by simp, fun n h => by cases h⟩
      have hμ : ∀ i, i < S.length → upd μ S.length (.slice none 0 0) i = μ i := fun i hi => by simp [upd, Nat.ne_of_lt hi]
      have lt1 : Later S μ G w (S ++ [.row e sz []]) (upd μ S.length (.slice none 0 0)) G w := ⟨by simp, hμ, fun _ _ h => h, fun _ _ _ _ h => h⟩
      obtain ⟨μ', g1, g2, g3⟩ := rowsZ_ok l ws' c2 (S ++ [.row e sz []]) _ G w h2 hp
      have e1 : (S ++ [Blk.row e sz []]).length = S.length + 1 := by simp
      rw [e1] at g1 g2 g3
      rw [List.append_assoc] at g1 g2 g3
      refine ⟨μ', g1, lt1.trans g2, ?_⟩
      refine .row (by simp) ?_ g3
      have := g2.μ S.length (by simp)
      rw [this]
      simp [upd]
    · rename_i heq _
      cases heq
      exact gen

theorem rule_alloc_rows {t : TypeId} {i : TI} {l : List D} {ws : List (Option TypeId)} (hc : B.c.ok) (ho : o.op = .alloc t) (hi : B.c.tt t = some i) (hz : i.zero = some (.agg l))
    (h : K (some (.ptr (S ++ (rowsZ S.length l ws).2).length [])) ((S ++ (rowsZ S.length l ws).2) ++ [.tvar t (.agg (rowsZ S.length l ws).1)])) : OpsTo B N o env S K :=
  opsTo_value fun μ G a w st => by
    obtain ⟨info, v, h1, h5, h6, h7⟩ := hc.zero0 t i _ hi hz
    have h6' : cells0s l = some v.cells.toList := by simpa only [cells0] using h6
    obtain ⟨μ1, g1, g2, g3⟩ := rowsZ_ok l ws _ S μ G w h6' st.st
    have hva : VA μ1 (S ++ (rowsZ S.length l ws).2).length w G (.agg (rowsZ S.length l ws).1) v := ⟨by simpa using CA.agg g3 .nil, by rw [h7]; rfl⟩
    obtain ⟨μ', q7, q8, q9, q10⟩ := g1.newVarT (t := t) hva
    refine ⟨.pointer (some ⟨w.heap.size, 0, none⟩), _, μ', G, _, _, ?_, h, q8, g2.trans q9, q10.ra (fun l e => by cases e)⟩
    simp only [execOp, ho, Sem.run_bind, Instr.alloc, zeroValue, typeInfo, run_program, Result.andThen_ok, h1, h5, Sem.run_pure, q7]

theorem rep_cells (z : List Value) (hz : 0 < z.length) : ∀ n : Nat, (List.range (n * z.length)).map (fun j => z[j % z.length]!) = (List.replicate n z).flatten
  | 0 => by simp
  | n + 1 => by
    rw [Nat.add_mul, Nat.one_mul, Nat.add_comm, List.range_add, List.map_append, List.replicate_succ, List.flatten_cons, ← rep_cells z hz n]
    congr 1
    · refine List.ext_getElem? fun j => ?_
      rw [List.getElem?_map]
      by_cases hj : j < z.length
      · rw [List.getElem?_eq_getElem (by simpa using hj), List.getElem?_eq_getElem hj]
        simp only [List.getElem_range, Option.map_some, Nat.mod_eq_of_lt hj]
        rw [getElem!_pos z j hj]
      · rw [List.getElem?_eq_none (by simp; omega), List.getElem?_eq_none (by omega)]; rfl
    · rw [List.map_map]
      refine List.map_congr_left fun j _ => ?_
      simp [Function.comp]

theorem CL.rep {w G z c} (h : CL w G [z] c) : ∀ n : Nat, CL w G (List.replicate n z) (List.replicate n c).flatten
  | 0 => .nil
  | n + 1 => by
    rw [List.replicate_succ, List.replicate_succ, List.flatten_cons]
    exact CL.append h (CL.rep h n)

/-- A slice that is written out, as data in new memory. -/
theorem rule_buildSlice {t e : TypeId} {len : Nat} {parts : Array (Nat × Operand)} {i fi : TI} {z : D} {xs : List D} {n' sz' : Nat} (hc : B.c.ok) (ho : o.op = .buildSlice t len parts) (hi : B.c.tt t = some i) (hk : i.k = .slice e) (hfi : B.c.tt e = some fi) (hz : fi.zero = some z) (hzs : z.size = fi.size) (hpos : 0 < fi.size)
    (hlen : len * fi.size ≤ 1024) (hf : fillA (evalA B.c env) (stepArr len fi.size) parts.toList (.d (.arr len fi.size (List.replicate len z))) = some (.d (.arr n' sz' xs))) (hn' : n' = len) (hsz' : sz' = fi.size)
    (h : K (some (.d (.sl fi.size xs))) S) : OpsTo B N o env S K := by
  subst hn'; subst hsz'
  obtain ⟨⟨d, h1, h2⟩, _⟩ := hc t i hi
  have hfi' := hc e fi hfi
  obtain ⟨_, info, f1, f2, f3, f4⟩ := hc e fi hfi
  obtain ⟨zv, f5, f6⟩ := f4 z hz
  rw [hk] at h2
  obtain rfl : d = .slice e := by cases d <;> simp [tkOf] at h2; subst h2; rfl
  refine opsTo_value fun μ G a w st => ?_
  have hzc : zv.cells.toList.length = fi.size := by rw [Array.length_toList, (f6 w G).cells_size, hzs]
  have hcl := CL.rep (f6 w G).1 n'
  have hca : CA μ S.length w G [.d (.arr n' fi.size (List.replicate n' z))] (List.replicate n' zv.cells.toList).flatten.toArray.toList := by
    refine CA.d_iff.2 ?_
    have := CL.arr hcl (n := n') (sz := fi.size) (by simp) (fun x hx => by rw [List.eq_of_mem_replicate hx, hzs]) (r := []) (cs := []) .nil
    simpa using this
  obtain ⟨cells', e1, e2, e3, e4⟩ := fill_sound st (st := stepArr n' fi.size) (place := fun i => some (i * fi.size, fi.size)) (fun i s sz hs => by
    unfold stepArr at hs
    split at hs
    · rename_i hb
      cases hs
      exact ⟨Nat.le_of_ble_eq_true hb, rfl⟩
    · cases hs) parts.toList _ _ _ hf hca
  have hz0 : (Array.map (fun j => zv.cells[j % zv.cells.size]!) (Array.range (n' * fi.size))) = (List.replicate n' zv.cells.toList).flatten.toArray := by
    apply Array.ext'
    rw [Array.toList_map, Array.toList_range]
    have := rep_cells zv.cells.toList (by rw [hzc]; exact hpos) n'
    rw [hzc] at this
    rw [← this]
    refine List.map_congr_left fun j _ => ?_
    rw [← hzc]
    have hlt : j % zv.cells.size < zv.cells.size := Nat.mod_lt _ (by rw [← Array.length_toList, hzc]; exact hpos)
    simp only [Array.length_toList]
    rw [getElem!_pos zv.cells _ hlt, getElem!_pos zv.cells.toList _ (by rw [Array.length_toList]; exact hlt)]
    simp
  obtain ⟨g1, g2, g3⟩ := (CA.d_iff.1 e2).arr_inv3
  let w' := w.alloc (.cells cells' e)
  have hn : Next w w' none := ⟨rfl, rfl, rfl, by show w.heap.size ≤ (w.heap.push _).size; simp, fun k hk _ => heap_alloc_old w _ k hk⟩
  have hsz : w.heap.size < w'.heap.size := by show w.heap.size < (w.heap.push _).size; simp
  have st' := st.st.more hn (Nat.le_refl _) hsz
  have hcells := hn.cells st.st.gv (G := G) (fun k hk => by cases hk)
  have hrun : (execOp a.eval o).run B.c.P w = .ok (.value (.slice (some ⟨w.heap.size, 0, none⟩) n' n')) w' := by
    have hz1 : (zeroValue e).run B.c.P w = .ok zv w := by simp [zeroValue, typeInfo, f1, f5]
    have hnz : ¬ (n' * fi.size > 2 ^ 24) := by simp; omega
    have hfill : ∀ cells, cells = (List.replicate n' zv.cells.toList).flatten.toArray → Instr.fill (fun i => some (i * fi.size, fi.size)) cells (parts.map fun p => (p.1, a.eval p.2)).toList = some cells' := by
      intro cells hcs
      subst hcs
      rw [Array.toList_map]
      exact e1
    by_cases h0 : n' * fi.size = 0
    · have hn0 : n' = 0 := by rcases Nat.mul_eq_zero.1 h0 with h | h <;> omega
      subst hn0
      simp only [execOp, ho, Sem.run_bind, Instr.buildSlice, run_underlying h1, Result.andThen_ok, run_sizeOf' hfi', if_neg hnz, Sem.run_pure, if_pos h0]
      rw [hfill _ (by simp)]
      rfl
    · simp only [execOp, ho, Sem.run_bind, Instr.buildSlice, run_underlying h1, Result.andThen_ok, run_sizeOf' hfi', if_neg hnz, Sem.run_pure, if_neg h0, hz1]
      rw [hfill _ hz0]
      rfl
  refine ⟨_, w', μ, _, .d (.sl fi.size xs), S, hrun, h, st', ⟨Nat.le_refl _, fun _ _ => rfl, fun _ _ h => .inl h, hcells⟩, ?_⟩
  refine (VD.of_single (.sl (a := ⟨w.heap.size, 0, none⟩) (g1.mono (fun _ _ h => .inl h) hcells) g2 g3 ?_ (.inr rfl) (Nat.le_refl _) (by simp only [maxLen]; exact Nat.le_trans (Nat.le_mul_of_pos_right n' hpos) (by omega)) .nil) rfl).ra
  intro j u hj
  refine ⟨?_, .inr rfl⟩
  rw [Nat.zero_add, cell_of_block (heap_alloc_new w _), ← Array.getElem?_toList]
  exact hj

end
end Go.Ab

namespace Go.Ab
open Go.RowKit

def wVal (K : Option AV → List Blk → Prop) (S : List Blk) : Option AV → Prop
  | some v => K (some v) S
  | none => False

def wLoadO (i : TI) (S : List Blk) (y : Option AV) (K : Option AV → List Blk → Prop) : Prop :=
  match y with
  | some y => match shapeB i y && notTup y with
    | true => K (some y) S
    | false => False
  | none => False

def wStoreO (n e sz i0 : Nat) (xs : List D) (S : List Blk) (z : Option D) (K : Option AV → List Blk → Prop) : Prop :=
  match z with
  | some z => fS (S.set n (.own e sz (xs.set i0 z))) fun S' => K none S'
  | none => False

def wLoad (i : TI) (S : List Blk) (x : Option AV) (K : Option AV → List Blk → Prop) : Prop :=
  match x with
  | some (.ptr n p) => match S[n]? with
    | some (.var X) => match AV.getP X p with
      | some y => match shapeB i y && notTup y with
        | true => K (some y) S
        | false => False
      | none => False
    | some (.tvar _ X) => match AV.getP X p with
      | some y => match shapeB i y && notTup y with
        | true => K (some y) S
        | false => False
      | none => False
    | some (.own _ sz xs) => match p with
      | .ix i0 sz' _ :: p => match Nat.beq sz' sz with
        | true => i0 < xs.length ∧ wLoadO i S (AV.getP (.d (xs.getD i0 .nilP)) p) K
        | false => False
      | _ => False
    | _ => False
  | some (.d (.cptr X)) => match shapeB i (.d X) with
    | true => K (some (.d X)) S
    | false => False
  | _ => False

def wStore (i : TI) (S : List Blk) (x v : Option AV) (K : Option AV → List Blk → Prop) : Prop :=
  match x, v with
  | some (.ptr n p), some v => match S[n]? with
    | some (.var X) => match (AV.getP X p).isSome && notTup v && shapeB i v with
      | true => match AV.setP X p v with
        | some X' => fS (S.set n (.var X')) fun S' => K none S'
        | none => False
      | false => False
    | some (.tvar T X) => match (AV.getP X p).isSome && notTup v && shapeB i v with
      | true => match AV.setP X p v with
        | some X' => fS (S.set n (.tvar T X')) fun S' => K none S'
        | none => False
      | false => False
    | some (.own e sz xs) => match p with
      | .ix i0 sz' _ :: p => match Nat.beq sz' sz && notTup v && shapeB i v with
        | true => i0 < xs.length ∧ wStoreO n e sz i0 xs S (setO sz (xs.getD i0 .nilP) p v) K
        | false => False
      | _ => False
    | _ => False
  | _, _ => False

def wField (c : Ctx) (i : TI) (f : Nat) (S : List Blk) (x : Option AV) (K : Option AV → List Blk → Prop) : Prop :=
  match i.k with
  | .struct fs => match fs[f]? with
    | some (off, ft, _) => match c.tt ft with
      | some fi => match Nat.beq fi.size 0 with
        | false => match x with
          | some (.ptr n p) => K (some (.ptr n (p ++ [.fld f off]))) S
          | some (.d (.cptr (.agg l))) => match Nat.beq (D.sizes (l.take f)) off with
            | true => match l[f]? with
              | some y => K (some (.d (.cptr y))) S
              | none => False
            | false => False
          | _ => False
        | true => False
      | none => False
    | none => False
  | _ => False

def wIndexAddr (c : Ctx) (i : TI) (S : List Blk) (x ix : Option AV) (K : Option AV → List Blk → Prop) : Prop :=
  match ix with
  | some (.d (.int _ j)) => match i.k with
    | .arr cnt e => match c.tt e with
      | some fi => match x with
        | some (.ptr n p) => (0 ≤ j ∧ j < cnt) ∧ K (some (.ptr n (p ++ [.ix j.toNat fi.size cnt]))) S
        | some (.d (.cptr (.arr cnt' sz xs))) => match Nat.beq cnt' cnt && Nat.beq sz fi.size with
          | true => (0 ≤ j ∧ j < cnt) ∧ K (some (.d (.cptr (xs.getD j.toNat .nilP)))) S
          | false => False
        | _ => False
      | none => False
    | .slice e => match c.tt e with
      | some fi => match x with
        | some (.vw n p lo len cnt sz) => match Nat.beq fi.size sz with
          | true => (0 ≤ j ∧ j < len) ∧ K (some (.ptr n (p ++ [.ix (lo + j.toNat) fi.size cnt]))) S
          | false => False
        | some (.row n) => match S[n]? with
          | some (.own _ sz xs) => match Nat.beq fi.size sz with
            | true => (0 ≤ j ∧ j < xs.length) ∧ K (some (.ptr n [.ix j.toNat fi.size xs.length])) S
            | false => False
          | some (.row _ sz xs) => match Nat.beq fi.size sz with
            | true => (0 ≤ j ∧ j < xs.length) ∧ K (some (.d (.cptr (xs.getD j.toNat .nilP)))) S
            | false => False
          | some (.sealed (.sl sz xs)) => match Nat.beq fi.size sz with
            | true => (0 ≤ j ∧ j < xs.length) ∧ K (some (.d (.cptr (xs.getD j.toNat .nilP)))) S
            | false => False
          | _ => False
        | some (.d (.sl sz xs)) => match Nat.beq fi.size sz with
          | true => (0 ≤ j ∧ j < xs.length) ∧ K (some (.d (.cptr (xs.getD j.toNat .nilP)))) S
          | false => False
        | _ => False
      | none => False
    | _ => False
  | _ => False

def wBuild (c : Ctx) (ρ : Operand → Option AV) (i : TI) (parts : List (Nat × Operand)) (K : AV → Prop) : Prop :=
  match i.k with
  | .struct fs => match i.zero with
    | some z => match z.isAgg && allKnown c fs with
      | true => match fillA ρ (stepOf c fs) parts (.d z) with
        | some x => K x
        | none => False
      | false => False
    | none => False
  | .arr n e => match c.tt e with
    | some fi => match i.zero with
      | some z => match z.isAgg with
        | true => match fillA ρ (stepArr n fi.size) parts (.d z) with
          | some x => K x
          | none => False
        | false => False
      | none => False
    | none => False
  | _ => False

def wLen (k0 : Nat) (i : TI) (S : List Blk) (x : Option AV) (K : Option AV → List Blk → Prop) : Prop :=
  match i.k with
  | .str => match x with
    | some (.d (.str s)) => K (some (.d (.int .i64 s.size))) S
    | _ => False
  | .slice _ => match x with
    | some (.vw _ _ _ len _ _) => K (some (.d (.int .i64 len))) S
    | some v => match v.toD k0 S with
      | some (.sl _ xs, _) => K (some (.d (.int .i64 xs.length))) S
      | _ => False
    | none => False
  | .arr n _ => match x with
    | some v => match notTup v with
      | true => K (some (.d (.int .i64 n))) S
      | false => False
    | none => False
  | _ => False

/-- An index into data or into an array in the store. -/
def wIndexQ (c : Ctx) (i : TI) (x ix : Option AV) (K : AV → Prop) : Prop :=
  match ix with
  | some (.d (.int _ j)) => match i.k with
    | .arr cnt e => match c.tt e with
      | some fi => match x with
        | some (.ptr n p) => (0 ≤ j ∧ j < cnt) ∧ K (.ptr n (p ++ [.ix j.toNat fi.size cnt]))
        | some (.d (.cptr (.arr cnt' sz xs))) => match Nat.beq cnt' cnt && Nat.beq sz fi.size with
          | true => (0 ≤ j ∧ j < cnt) ∧ K (.d (.cptr (xs.getD j.toNat .nilP)))
          | false => False
        | _ => False
      | none => False
    | .slice e => match c.tt e with
      | some fi => match x with
        | some (.d (.sl sz xs)) => match Nat.beq fi.size sz with
          | true => (0 ≤ j ∧ j < xs.length) ∧ K (.d (.cptr (xs.getD j.toNat .nilP)))
          | false => False
        | _ => False
      | none => False
    | _ => False
  | _ => False

def wLenQ (i : TI) (x : Option AV) (K : AV → Prop) : Prop :=
  match i.k with
  | .str => match x with
    | some (.d (.str s)) => K (.d (.int .i64 s.size))
    | _ => False
  | .slice _ => match x with
    | some (.vw _ _ _ len _ _) => K (.d (.int .i64 len))
    | some (.d (.sl _ xs)) => K (.d (.int .i64 xs.length))
    | _ => False
  | .arr n _ => match x with
    | some v => match notTup v with
      | true => K (.d (.int .i64 n))
      | false => False
    | none => False
  | _ => False

def isU8 : TK → Bool
  | .int .u8 => true
  | _ => false
def isIf : TK → Bool
  | .iface _ => true
  | _ => false

def wConv (c : Ctx) (i j : TI) (x : Option AV) (K : AV → Prop) : Prop :=
  match x with
  | some (.d (.int _ n)) => match j.k with
    | .int k => K (.d (.int k (k.wrap n)))
    | .str => K (.d (.str (Utf8.encode n)))
    | _ => False
  | some (.d (.str s)) => match j.k with
    | .str => K (.d (.str s))
    | _ => False
  | some (.d (.sl _ xs)) => match i.k with
    | .slice e => match c.tt e with
      | some ei => match isU8 ei.k with
        | true => match j.k with
          | .str => ∃ s, xs = D.bytes s ∧ K (.d (.str s))
          | _ => False
        | false => False
      | none => False
    | _ => False
  | _ => False

def wIdx (c : Ctx) (i : TI) (x ix : Option AV) (K : AV → Prop) : Prop :=
  match ix with
  | some (.d (.int _ j)) => match x with
    | some (.d (.str s)) => match i.k with
      | .str => (0 ≤ j ∧ j < s.size) ∧ K (.d (.int .u8 (byteAt s j.toNat)))
      | _ => False
    | some (.d (.arr n sz xs)) => match i.k with
      | .arr cnt e => match c.tt e with
        | some fi => match Nat.beq n cnt && Nat.beq fi.size sz with
          | true => (0 ≤ j ∧ j < n) ∧ shapeB fi (.d (xs.getD j.toNat .nilP)) = true ∧ K (.d (xs.getD j.toNat .nilP))
          | false => False
        | none => False
      | _ => False
    | _ => False
  | _ => False

def wFld (c : Ctx) (i : TI) (f : Nat) (x : Option AV) (K : AV → Prop) : Prop :=
  match i.k with
  | .struct fs => match fs[f]? with
    | some (off, ft, _) => match c.tt ft with
      | some fi => match x with
        | some v => match AV.getS v (.fld f off) with
          | some y => match shapeB fi y && (notTup v && notTup y) with
            | true => K y
            | false => False
          | none => False
        | none => False
      | none => False
    | none => False
  | _ => False

def wAssert (i : TI) (t : TypeId) (ok : Bool) (x : Option AV) (K : AV → Prop) : Prop :=
  match isIf i.k with
  | true => False
  | false => match x with
    | some (.d (.iface t' y)) => match Nat.beq t' t with
      | true => match ok with
        | true => K (.tup [.d y, .d (.bool true)])
        | false => K (.d y)
      | false => match ok with
        | true => match i.zero with
          | some z => K (.tup [.d z, .d (.bool false)])
          | none => False
        | false => False
    | some (.d .nilI) => match ok with
      | true => match i.zero with
        | some z => K (.tup [.d z, .d (.bool false)])
        | none => False
      | false => False
    | _ => False

def wNil (x : Option AV) (K : AV → Prop) : Prop :=
  match x with
  | some (.ptr n p) => K (.ptr n p)
  | some (.d (.cptr y)) => K (.d (.cptr y))
  | some (.fn f cs) => K (.fn f cs)
  | _ => False

def wSlice (c : Ctx) (i : TI) (ρ : Operand → Option AV) (x : Option AV) (lo hi : Option Operand) (K : AV → Prop) : Prop :=
  match wBnd ρ lo 0 with
  | none => False
  | some l => match x with
    | some (.d (.str s)) => match i.k with
      | .str => match wBnd ρ hi s.size with
        | some h => (0 ≤ l ∧ l ≤ h ∧ h ≤ s.size) ∧ K (.d (.str (s.extract l.toNat h.toNat)))
        | none => False
      | _ => False
    | some (.d (.sl sz xs)) => match i.k with
      | .slice e => match c.tt e with
        | some fi => match Nat.beq fi.size sz with
          | true => match wBnd ρ hi xs.length with
            | some h => (0 ≤ l ∧ l ≤ h ∧ h ≤ xs.length) ∧ K (.d (.sl sz ((xs.drop l.toNat).take (h - l).toNat)))
            | none => False
          | false => False
        | none => False
      | _ => False
    | _ => False

def wFunc (fn : Fn) (first : Array Operand) (ns : Option (List Nat)) (K : AV → Prop) : Prop :=
  match fn with
  | .func f => match first.toList with
    | [] => match ns with
      | some ns => K (.fn f ns)
      | none => False
    | _ => False
  | _ => False

def wValQ (K : AV → Prop) : Option AV → Prop
  | some v => K v
  | none => False

/-- The operations that neither look into the store nor change it. -/
def WOpQ (c : Ctx) (o : Oper) (ρ : Operand → Option AV) (K : AV → Prop) : Prop :=
  match o.op with
  | .move x => wValQ K (ρ x)
  | .assign x => wValQ K (ρ x)
  | .pick q x y => match ρ q with
    | some (.d (.bool b)) => @Bool.rec (fun _ => Prop) (wValQ K (ρ y)) (wValQ K (ρ x)) b
    | _ => False
  | .binOp op t x y _ => match nilLit y with
    | true => wNilL c op t (ρ x) K
    | false => wBin c op t (ρ x) (ρ y) K
  | .unOp op _ x => match op, ρ x with
    | .not, some (.d (.bool b)) => K (.d (.bool (!b)))
    | .neg, some (.d (.int k n)) => K (.d (.int k (k.wrap (0 - n))))
    | .xor, some (.d (.int k n)) => K (.d (.int k (k.wrap (BitVec.ofInt k.bits (if k.signed then -1 else k.max) ^^^ BitVec.ofInt k.bits n).toNat)))
    | _, _ => False
  | .extract x i => match ρ x with
    | some (.tup l) => match l[i]? with
      | some v => match notTup v with
        | true => K v
        | false => False
      | none => False
    | _ => False
  | .fieldAddr t x f => match c.tt t with
    | some i => wField c i f [] (ρ x) fun v _ => wValQ K v
    | none => False
  | .indexAddr t x ix => match c.tt t with
    | some i => wIndexQ c i (ρ x) (ρ ix) K
    | none => False
  | .call { callee := .builtin .len, args, argTypes } => match argTypes.toList, args.toList with
    | [t], [x] => match c.tt t with
      | some i => wLenQ i (ρ x) K
      | none => False
    | _, _ => False
  | .convert src dst x => match c.tt src with
    | some i => match c.tt dst with
      | some j => wConv c i j (ρ x) K
      | none => False
    | none => False
  | .index t x ix => match c.tt t with
    | some i => wIdx c i (ρ x) (ρ ix) K
    | none => False
  | .field t x f => match c.tt t with
    | some i => wFld c i f (ρ x) K
    | none => False
  | .makeInterface t x => match c.tt t with
    | some i => match isIf i.k with
      | true => False
      | false => match ρ x with
        | some (.d y) => K (.d (.iface t y))
        | _ => False
    | none => False
  | .typeAssert x _ t ok => match c.tt t with
    | some i => wAssert i t ok (ρ x) K
    | none => False
  | .nilCheck x => wNil (ρ x) K
  | .build t parts => match c.tt t with
    | some i => wBuild c ρ i parts.toList K
    | none => False
  | .makeFunc fn first cs => wFunc fn first (capNames ρ cs.toList) K
  | .slice t x lo hi mx => match mx with
    | none => match c.tt t with
      | some i => wSlice c i ρ (ρ x) lo hi K
      | none => False
    | some _ => False
  | _ => False

def nilSlB : Operand → Bool
  | .const (.slice none 0 0) => true
  | _ => false

theorem nilSlB_spec {x : Operand} (h : nilSlB x = true) : x = .const (.slice none 0 0) := by
  unfold nilSlB at h
  split at h
  · rfl
  · cases h

def quietB (o : Oper) : Bool :=
  match o.op with
  | .move _ => true
  | .assign x => match nilSlB x with | true => false | false => true
  | .pick .. => true
  | .binOp .. => true
  | .unOp .. => true
  | .extract .. => true
  | .fieldAddr .. => true
  | .index .. => true
  | .field .. => true
  | .makeInterface .. => true
  | .typeAssert .. => true
  | .nilCheck .. => true
  | .makeFunc .. => true
  | .build .. => true
  | _ => false

/-- A conversion: that of a string to bytes lays new memory. -/
def wConvS (c : Ctx) (o : Oper) (src dst : TypeId) (env : Env) (S : List Blk) (x : Option AV) (K : Option AV → List Blk → Prop) : Prop :=
  match c.tt dst with
  | some j => match j.k with
    | .slice e => match x with
      | some (.d (.str s)) => match c.tt src with
        | some i => match i.k with
          | .str => match c.tt e with
            | some ei => match isU8 ei.k with
              | true => s.size ≤ maxLen ∧ K (some (.d (.sl 1 (D.bytes s)))) S
              | false => False
            | none => False
          | _ => False
        | none => False
      | _ => False
    | .str => match x with
      | some (.vw n p lo len cnt sz) => match c.tt src with
        | some i => match i.k with
          | .slice e => match c.tt e with
            | some ei => match isU8 ei.k && Nat.beq sz 1 with
              | true => match S[n]? with
                | some (.var X) => match AV.getP X p with
                  | some (.d (.arr cnt' sz' xs)) => match Nat.beq cnt cnt' && Nat.beq sz' 1 with
                    | true => ∃ s, ((xs.drop lo).take len = D.bytes s ∧ len = s.size) ∧ K (some (.d (.str s))) S
                    | false => False
                  | _ => False
                | _ => False
              | false => False
            | none => False
          | _ => False
        | none => False
      | some (.row n) => match c.tt src with
        | some i => match i.k with
          | .slice e => match c.tt e with
            | some ei => match isU8 ei.k with
              | true => match S[n]? with
                | some (.row _ 1 xs) => ∃ s, xs = D.bytes s ∧ K (some (.d (.str s))) S
                | _ => False
              | false => False
            | none => False
          | _ => False
        | none => False
      | _ => WOpQ c o (evalA c env) fun x => K (some x) S
    | _ => WOpQ c o (evalA c env) fun x => K (some x) S
  | none => False

/-- A slice: of an array in the store it is a view. -/
def wSliceS (c : Ctx) (o : Oper) (t : TypeId) (_ : Operand) (lo hi mx : Option Operand) (env : Env) (S : List Blk) (v : Option AV) (K : Option AV → List Blk → Prop) : Prop :=
  match v with
  | some (.ptr n p) => match mx with
    | none => match c.tt t with
      | some i => match i.k with
        | .arr cnt e => match c.tt e with
          | some fi => match wBnd (evalA c env) lo 0 with
            | some l => match wBnd (evalA c env) hi cnt with
              | some h => (0 ≤ l ∧ l ≤ h ∧ h ≤ cnt ∧ l < cnt ∧ cnt ≤ maxLen) ∧ K (some (.vw n p l.toNat (h - l).toNat cnt fi.size)) S
              | none => False
            | none => False
          | none => False
        | _ => False
      | none => False
    | some _ => False
  | some (.row n) => match mx with
    | none => match c.tt t with
      | some i => match i.k with
        | .slice e => match c.tt e with
          | some fi => match S[n]? with
            | some (.row _ sz xs) => match Nat.beq fi.size sz with
              | true => match wBnd (evalA c env) lo 0 with
                | some l => match wBnd (evalA c env) hi xs.length with
                  | some h => (0 ≤ l ∧ l ≤ h ∧ h ≤ xs.length) ∧ K (some (.d (.sl sz ((xs.drop l.toNat).take (h - l).toNat)))) S
                  | none => False
                | none => False
              | false => False
            | _ => False
          | none => False
        | _ => False
      | none => False
    | some _ => False
  | _ => WOpQ c o (evalA c env) fun x => K (some x) S

/-- Something behind a row of one's own. -/
def wAppend (c : Ctx) (_ : Nat) (t : TypeId) (S : List Blk) (s x : Option AV) (K : Option AV → List Blk → Prop) : Prop :=
  match c.tt t with
  | some i => match i.k with
    | .slice e => match c.tt e with
      | some fi => match fi.zero with
        | some z => match s with
          | some (.row n) => match S[n]? with
            | some (.row e' sz xs) => match (Nat.beq e e' && Nat.beq fi.size sz) && Nat.beq z.size sz with
              | true => match x with
                | some (.d (.sl sz' ys)) => match Nat.beq sz' sz with
                  | true => (0 < ys.length ∧ (xs.length + ys.length) * (fi.bytes + 1) ≤ 140737488355328) ∧ fS (S.set n (.sealed (.sl sz xs)) ++ [.row e sz (xs ++ ys)]) fun S' => K (some (.row S.length)) S'
                  | false => False
                | some (.vw m p lo len cnt sz') => match Nat.beq sz' sz with
                  | true => match S[m]? with
                    | some (.var X) => match AV.getP X p with
                      | some (.d (.arr cnt' sz2 ys)) => match Nat.beq cnt' cnt && Nat.beq sz2 sz with
                        | true => (0 < ((ys.drop lo).take len).length ∧ (xs.length + ((ys.drop lo).take len).length) * (fi.bytes + 1) ≤ 140737488355328) ∧ fS (S.set n (.sealed (.sl sz xs)) ++ [.row e sz (xs ++ (ys.drop lo).take len)]) fun S' => K (some (.row S.length)) S'
                        | false => False
                      | _ => False
                    | _ => False
                  | false => False
                | _ => False
              | false => False
            | some (.own e' sz xs) => match (Nat.beq e e' && Nat.beq fi.size sz) && Nat.beq z.size sz with
              | true => match x with
                | some (.d (.sl sz' ys)) => match Nat.beq sz' sz with
                  | true => (0 < ys.length ∧ (xs.length + ys.length) * (fi.bytes + 1) ≤ 140737488355328) ∧ fS (S.set n (.sealed (.sl sz xs)) ++ [.row e sz (xs ++ ys)]) fun S' => K (some (.row S.length)) S'
                  | false => False
                | _ => False
              | false => False
            | _ => False
          | _ => False
        | none => False
      | none => False
    | _ => False
  | none => False

/-- A new variable: where the context says so, some of its nil slices are rows of one's own. -/
def wAlloc (c : Ctx) (t : TypeId) (z : D) (S : List Blk) (K : Option AV → List Blk → Prop) : Prop :=
  match c.rws t with
  | none => K (some (.ptr S.length [])) (S ++ [.var (.d z)])
  | some ws => match z with
    | .agg l => fS ((S ++ (rowsZ S.length l ws).2) ++ [.tvar t (.agg (rowsZ S.length l ws).1)]) fun S' => K (some (.ptr (S ++ (rowsZ S.length l ws).2).length [])) S'
    | _ => False

/-- A string's bytes behind a row of one's own. -/
def wAppendS (c : Ctx) (t u : TypeId) (S : List Blk) (s x : Option AV) (K : Option AV → List Blk → Prop) : Prop :=
  match c.tt t, c.tt u with
  | some i, some j => match i.k, j.k with
    | .slice e, .str => match c.tt e with
      | some fi => match fi.zero with
        | some (.int .u8 0) => match s with
          | some (.row n) => match S[n]? with
            | some (.row e' sz xs) => match (Nat.beq e e' && Nat.beq fi.size 1) && (Nat.beq fi.bytes 1 && Nat.beq sz 1) with
              | true => match x with
                | some (.d (.str q)) => xs.length + q.size ≤ 140737488355328 ∧ fS (S.set n (.sealed (.sl 1 xs)) ++ [.row e 1 (xs ++ D.bytes q)]) fun S' => K (some (.row S.length)) S'
                | _ => False
              | false => False
            | _ => False
          | _ => False
        | _ => False
      | none => False
    | _, _ => False
  | _, _ => False

/-- A string over a part of an array in the store. -/
def wCopy (c : Ctx) (t : TypeId) (S : List Blk) (x y : Option AV) (K : Option AV → List Blk → Prop) : Prop :=
  match c.tt t with
  | some i => match i.k with
    | .slice e => match c.tt e with
      | some fi => match Nat.beq fi.size 1 with
        | true => match x with
          | some (.vw n p lo len cnt sz) => match S[n]? with
            | some (.var X) => match AV.getP X p with
              | some (.d (.arr cnt' sz2 xs)) => match (Nat.beq cnt' cnt && Nat.beq sz2 1) && Nat.beq sz 1 with
                | true => match y with
                  | some (.d (.str s)) => match AV.setP X p (.d (.arr cnt 1 (xs.take lo ++ ((D.bytes s).take len ++ xs.drop (lo + Nat.min s.size len))))) with
                    | some X' => fS (S.set n (.var X')) fun S' => K (some (.d (.int .i64 (Nat.min s.size len : Nat)))) S'
                    | none => False
                  | _ => False
                | false => False
              | _ => False
            | _ => False
          | _ => False
        | false => False
      | none => False
    | _ => False
  | none => False

/-- A slice that is written out. -/
def wBuildSl (c : Ctx) (t : TypeId) (len : Nat) (ρ : Operand → Option AV) (parts : List (Nat × Operand)) (K : AV → Prop) : Prop :=
  match c.tt t with
  | some i => match i.k with
    | .slice e => match c.tt e with
      | some fi => match fi.zero with
        | some z => match (Nat.beq z.size fi.size && Nat.ble 1 fi.size) && Nat.ble (len * fi.size) 1024 with
          | true => match fillA ρ (stepArr len fi.size) parts (.d (.arr len fi.size (List.replicate len z))) with
            | some (.d (.arr n' sz' xs)) => match Nat.beq n' len && Nat.beq sz' fi.size with
              | true => K (.d (.sl fi.size xs))
              | false => False
            | _ => False
          | false => False
        | none => False
      | none => False
    | _ => False
  | none => False

def WOp (c : Ctx) (k0 : Nat) (o : Oper) (env : Env) (S : List Blk) (K : Option AV → List Blk → Prop) : Prop :=
  match quietB o with
  | true => WOpQ c o (evalA c env) fun x => K (some x) S
  | false => match o.op with
    | .alloc t => match c.tt t with
      | some i => match i.zero with
        | some z => wAlloc c t z S K
        | none => False
      | none => False
    | .box _ x => match evalA c env x with
      | some v => match notTup v with
        | true => K (some (.ptr S.length [])) (S ++ [.var v])
        | false => False
      | none => False
    | .load t x => match c.tt t with
      | some i => wLoad i S (evalA c env x) K
      | none => False
    | .store t x y => match c.tt t with
      | some i => wStore i S (evalA c env x) (evalA c env y) K
      | none => False
    | .indexAddr t x ix => match c.tt t with
      | some i => wIndexAddr c i S (evalA c env x) (evalA c env ix) K
      | none => False
    | .call { callee := .value fo, args, argTypes := _ } => wCall c k0 env S fo args.toList fun r S' => K (some r) S'
    | .call { callee := .builtin .len, args, argTypes } => match argTypes.toList, args.toList with
      | [t], [x] => match c.tt t with
        | some i => wLen k0 i S (evalA c env x) K
        | none => False
      | _, _ => False
    | .call { callee := .builtin .append, args, argTypes } => match argTypes.toList, args.toList with
      | [t, t'], [x, y] => match Nat.beq t t' with
        | true => wAppend c k0 t S (evalA c env x) (evalA c env y) K
        | false => wAppendS c t t' S (evalA c env x) (evalA c env y) K
      | _, _ => False
    | .call { callee := .builtin .copy, args, argTypes } => match argTypes.toList, args.toList with
      | [t, _], [x, y] => wCopy c t S (evalA c env x) (evalA c env y) K
      | _, _ => False
    | .call { callee := .builtin .max, args, argTypes := _ } => match args.toList with
      | [x, y] => match evalA c env x, evalA c env y with
        | some (.d (.int k a)), some (.d (.int _ b)) => K (some (.d (.int k (if b > a then b else a)))) S
        | _, _ => False
      | x :: l => match evalA c env x with
        | some (.d (.int k a)) => wMaxs (evalA c env) (fun m => K (some (.d (.int k m))) S) l a
        | _ => False
      | [] => False
    | .call { callee := .builtin .min, args, argTypes := _ } => match args.toList with
      | [x, y] => match evalA c env x, evalA c env y with
        | some (.d (.int k a)), some (.d (.int _ b)) => K (some (.d (.int k (if b < a then b else a)))) S
        | _, _ => False
      | _ => False
    | .assign x => match nilSlB x with
      | true => K (some (.d (.sl 0 []))) S ∨ ∃ e sz, fS (S ++ [.row e sz []]) fun S' => K (some (.row S.length)) S'
      | false => False
    | .buildSlice t len parts => wBuildSl c t len (evalA c env) parts.toList fun x => K (some x) S
    | .convert src dst x => wConvS c o src dst env S (evalA c env x) K
    | .slice t x lo hi mx => wSliceS c o t x lo hi mx env S (evalA c env x) K
    | .range t x => match c.tt t with
      | some i => match i.k with
        | .str => match evalA c env x with
          | some (.d (.str s)) => K (some (.ptr S.length [])) (S ++ [.iter s 0])
          | _ => False
        | _ => False
      | none => False
    | .next x isS => match isS with
      | true => match evalA c env x with
        | some (.ptr n []) => match S[n]? with
          | some (.iter s pos) => @Bool.rec (fun _ => Prop) (K (some (.tup [.d (.bool false)])) S)
              (fS (S.set n (.iter s (pos + (Utf8.decode s pos).2))) fun S' => K (some (.tup [.d (.bool true), .d (.int .i64 pos), .d (.int .i32 (Utf8.decode s pos).1)])) S') (decide (pos < s.size))
          | _ => False
        | _ => False
      | false => False
    | _ => False

section
variable {B : Base} {N : Nat} {o : Oper} {env : Env} {S : List Blk} {K : Option AV → List Blk → Prop}

theorem wVal_some {x : Option AV} (h : wVal K S x) : ∃ v, x = some v ∧ K (some v) S := by
  cases x with
  | none => exact h.elim
  | some v => exact ⟨v, rfl, h⟩

theorem wBuildSl_sound {t : TypeId} {len : Nat} {parts : Array (Nat × Operand)} (hc : B.c.ok) (ho : o.op = .buildSlice t len parts) (h : wBuildSl B.c t len (evalA B.c env) parts.toList fun x => K (some x) S) : OpsTo B N o env S K := by
  unfold wBuildSl at h
  split at h
  case h_2 => exact h.elim
  rename_i i hi
  split at h
  case h_2 => exact h.elim
  rename_i e hk
  split at h
  case h_2 => exact h.elim
  rename_i fi hfi
  split at h
  case h_2 => exact h.elim
  rename_i z hz
  split at h
  case h_2 => exact h.elim
  rename_i hb
  simp only [Bool.and_eq_true] at hb
  split at h
  case h_2 => exact h.elim
  rename_i n' sz' xs hf
  split at h
  case h_2 => exact h.elim
  rename_i hb2
  simp only [Bool.and_eq_true] at hb2
  exact rule_buildSlice hc ho hi hk hfi hz (beq_true hb.1.1) (Nat.le_of_ble_eq_true hb.1.2) (Nat.le_of_ble_eq_true hb.2) hf (beq_true hb2.1) (beq_true hb2.2) h

theorem rule_len {i : TI} {t : TypeId} {x : Operand} (hc : B.c.ok) (ho : o.op = .call { callee := .builtin .len, args := #[x], argTypes := #[t] }) (hi : B.c.tt t = some i) (h : wLen B.k0 i S (evalA B.c env x) K) : OpsTo B N o env S K := by
  obtain ⟨⟨d, h1, h2⟩, _⟩ := hc t i hi
  have run : ∀ (a : Act) (w : World) (v : Value), (Builtin.len_ #[t] o.type #[a.eval x]).run B.c.P w = .ok v w → (execOp a.eval o).run B.c.P w = .ok (.value v) w := by
    intro a w v hv
    simp only [execOp, ho, resolve, Sem.run_bind, Sem.run_pure, Result.andThen_ok, invoke, builtin]
    have : (Array.map a.eval #[x]) = #[a.eval x] := by simp
    rw [this, hv]
    rfl
  unfold wLen at h
  split at h
  · rename_i hk
    split at h
    · rename_i s hx
      refine opsTo_pure h fun μ G a w st => ⟨_, run a w _ ?_, VD.int.ra⟩
      have := (evalA_sound st hx).vd.str_inv
      rw [hk] at h2
      cases d <;> simp [tkOf] at h2
      simp [Builtin.len_, run_underlying h1, this, goInt]
    · exact h.elim
  · rename_i e hk
    split at h
    · rename_i n p lo len cnt sz hx
      refine opsTo_pure h fun μ G a w st => ⟨_, run a w _ ?_, VD.int.ra⟩
      have hva := (evalA_sound st hx).va (fun l e => by cases e)
      rcases hva.inv with ⟨h3, _⟩ | ⟨_, h3, _⟩
      · simp [AV.isAgg] at h3
      · rw [hk] at h2
        cases d <;> simp [tkOf] at h2
        generalize a.eval x = q at h3
        cases h3
        simp [Builtin.len_, run_underlying h1, goInt]
    · rename_i v _ hx
      split at h
      · rename_i sz xs S1 hv
        have hnt : ∀ l, v ≠ .tup l := fun l e => by subst e; simp [AV.toD] at hv
        refine opsTo_pure h fun μ G a w st => ⟨_, run a w _ ?_, VD.int.ra⟩
        have hva := (evalA_sound st hx).va hnt
        obtain ⟨G', g1, g2, g3⟩ := toD_sound v hv st.st hva.1
        have hvd : VD w G' (.sl sz xs) (a.eval x) := ⟨g3, by rw [hva.2]; exact (toD_isAgg hv).symm⟩
        rw [hk] at h2
        cases d <;> simp [tkOf] at h2
        rcases hvd.sl_inv with ⟨e1, rfl⟩ | ⟨b, cap, c, e1, _⟩
        · simp [Builtin.len_, run_underlying h1, e1, goInt]
        · simp [Builtin.len_, run_underlying h1, e1, goInt]
      · exact h.elim
    · exact h.elim
  · rename_i n e hk
    split at h
    case h_2 => exact h.elim
    rename_i v hx
    split at h
    case h_2 => exact h.elim
    refine opsTo_pure h fun μ G a w st => ⟨_, run a w _ ?_, VD.int.ra⟩
    rw [hk] at h2
    cases d <;> simp [tkOf] at h2
    obtain ⟨rfl, rfl⟩ := h2
    simp [Builtin.len_, run_underlying h1, goInt]
  · exact h.elim

theorem wValQ_some {x : Option AV} {K : AV → Prop} (h : wValQ K x) : ∃ v, x = some v ∧ K v := by
  cases x with
  | none => exact h.elim
  | some v => exact ⟨v, rfl, h⟩

theorem isU8_spec {k : TK} (h : isU8 k = true) : k = .int .u8 := by
  unfold isU8 at h
  split at h
  · rfl
  · cases h

theorem isIf_no {k : TK} (h : isIf k = false) : ∀ b, k ≠ .iface b := by
  intro b e; subst e; cases h

theorem wConv_sound {src dst : TypeId} {x : Operand} {i j : TI} (hc : B.c.ok) (ho : o.op = .convert src dst x) (hi : B.c.tt src = some i) (hj : B.c.tt dst = some j) (h : wConv B.c i j (evalA B.c env x) fun x => K (some x) S) : OpsTo B N o env S K := by
  unfold wConv at h
  split at h
  · rename_i k n hx
    split at h
    · rename_i k' hk; exact rule_conv_int hc ho hi hj hk hx h
    · rename_i hk; exact rule_conv_rune hc ho hi hj hk hx h
    · exact h.elim
  · rename_i s hx
    split at h
    case h_2 => exact h.elim
    rename_i hk
    exact rule_conv_str hc ho hi hj hk hx h
  · rename_i sz xs hx
    split at h
    case h_2 => exact h.elim
    rename_i e hk
    split at h
    case h_2 => exact h.elim
    rename_i ei he
    split at h
    case h_2 => exact h.elim
    rename_i hu
    split at h
    case h_2 => exact h.elim
    rename_i hkj
    obtain ⟨s, rfl, h⟩ := h
    exact rule_conv_bytes hc ho hi hj hk hkj he (isU8_spec hu) hx h
  · exact h.elim

theorem wAssert_sound {x : Operand} {xt t : TypeId} {ok : Bool} {i : TI} (hc : B.c.ok) (ho : o.op = .typeAssert x xt t ok) (hi : B.c.tt t = some i) (h : wAssert i t ok (evalA B.c env x) fun x => K (some x) S) : OpsTo B N o env S K := by
  unfold wAssert at h
  split at h
  case h_1 => exact h.elim
  rename_i hk
  split at h
  · rename_i t' y hx
    split at h
    · rename_i hb
      obtain rfl := beq_true hb
      refine rule_assert hc ho hi (isIf_no hk) hx ?_
      cases ok <;> exact h
    · rename_i hb
      split at h
      case h_2 => exact h.elim
      split at h
      case h_2 => exact h.elim
      rename_i z hz
      exact rule_assert_no hc ho hi (isIf_no hk) hz hx (.inr ⟨t', y, rfl, fun e => by subst e; simp at hb⟩) h
  · rename_i hx
    split at h
    case h_2 => exact h.elim
    split at h
    case h_2 => exact h.elim
    rename_i z hz
    exact rule_assert_no hc ho hi (isIf_no hk) hz hx (.inl rfl) h
  · exact h.elim

theorem wopQ_sound (hc : B.c.ok) (h : WOpQ B.c o (evalA B.c env) fun x => K (some x) S) : OpsTo B N o env S K := by
  unfold WOpQ at h
  split at h
  · rename_i x ho
    obtain ⟨v, h1, h2⟩ := wValQ_some h
    exact rule_move (.inl ho) h1 h2
  · rename_i x ho
    obtain ⟨v, h1, h2⟩ := wValQ_some h
    exact rule_move (.inr ho) h1 h2
  · rename_i q x y ho
    split at h
    · rename_i b hb
      cases b with
      | false =>
        obtain ⟨v, h1, h2⟩ := wValQ_some h
        exact rule_pick (b := false) ho hb h1 h2
      | true =>
        obtain ⟨v, h1, h2⟩ := wValQ_some h
        exact rule_pick (b := true) ho hb h1 h2
    · exact h.elim
  · rename_i op t x y yt ho
    cases hn : nilLit y with
    | true => rw [hn] at h; exact wNilL_sound hc ho hn h
    | false => rw [hn] at h; exact wBin_sound hc ho h
  · rename_i op t x ho
    split at h
    · rename_i b hx
      exact rule_un ho rfl hx h
    · rename_i k n hx
      exact rule_neg ho hx h
    · rename_i k n hx
      exact rule_not ho hx h
    · exact h.elim
  · rename_i x i ho
    split at h
    case h_2 => exact h.elim
    rename_i l hl
    split at h
    case h_2 => exact h.elim
    rename_i v hv
    split at h
    case h_2 => exact h.elim
    rename_i hn
    exact rule_extract ho hl hv hn h
  · rename_i t x f ho
    split at h
    case h_2 => exact h.elim
    rename_i i hi
    unfold wField at h
    split at h
    case h_2 => exact h.elim
    rename_i fs hk
    split at h
    case h_2 => exact h.elim
    rename_i off ft nm hf
    split at h
    case h_2 => exact h.elim
    rename_i fi hfi
    split at h
    case h_2 => exact h.elim
    rename_i hz
    split at h
    · rename_i n p hx
      exact rule_fieldAddr hc ho hi hk hf hfi hz hx h
    · rename_i l hx
      split at h
      case h_2 => exact h.elim
      rename_i hb
      split at h
      case h_2 => exact h.elim
      rename_i y hy
      exact rule_fieldAddrC hc ho hi hk hf hfi hz hx hb hy h
    · exact h.elim
  · rename_i t x ix ho
    split at h
    case h_2 => exact h.elim
    rename_i i hi
    unfold wIndexQ at h
    split at h
    case h_2 => exact h.elim
    rename_i k j hj
    split at h
    · rename_i cnt e hk
      split at h
      case h_2 => exact h.elim
      rename_i fi hfi
      split at h
      case h_3 => exact h.elim
      · rename_i n p hx
        exact rule_indexAddr_arr hc ho hi hk hfi hx hj h.1.1 h.1.2 h.2
      · rename_i cnt' sz xs hx
        split at h
        case h_2 => exact h.elim
        rename_i hb
        simp only [Bool.and_eq_true] at hb
        obtain rfl := beq_true hb.1
        exact rule_indexAddr_carr hc ho hi hk hfi (beq_true hb.2) hx hj h.1.1 h.1.2 h.2
    · rename_i e hk
      split at h
      case h_2 => exact h.elim
      rename_i fi hfi
      split at h
      case h_2 => exact h.elim
      rename_i sz xs hv
      split at h
      case h_2 => exact h.elim
      rename_i hsz
      exact rule_indexAddr_sl hc ho hi hk hfi hsz hv rfl hj h.1.1 h.1.2 h.2
    · exact h.elim
  · rename_i args ts ho
    split at h
    case h_2 => exact h.elim
    rename_i t x e1 e2
    split at h
    case h_2 => exact h.elim
    rename_i i hi
    have e3 : args = #[x] := Array.ext' e2
    have e4 : ts = #[t] := Array.ext' e1
    subst e3; subst e4
    refine rule_len hc ho hi ?_
    unfold wLenQ at h
    unfold wLen
    split at h
    · split at h
      · exact h
      · exact h.elim
    · split at h
      · first | exact h | (rename_i hx; rw [hx]; exact h)
      · first | exact h | (rename_i sz xs hx; rw [hx]; exact h)
      · exact h.elim
    · split at h
      case h_2 => exact h.elim
      exact h
    · exact h.elim
  · rename_i src dst x ho
    split at h
    case h_2 => exact h.elim
    rename_i i hi
    split at h
    case h_2 => exact h.elim
    rename_i j hj
    exact wConv_sound hc ho hi hj h
  · rename_i t x ix ho
    split at h
    case h_2 => exact h.elim
    rename_i i hi
    unfold wIdx at h
    split at h
    case h_2 => exact h.elim
    rename_i k j hj
    split at h
    · rename_i s hx
      split at h
      case h_2 => exact h.elim
      rename_i hk
      exact rule_index_str hc ho hi hk hx hj h.1.1 h.1.2 h.2
    · rename_i n sz xs hx
      split at h
      case h_2 => exact h.elim
      rename_i cnt e hk
      split at h
      case h_2 => exact h.elim
      rename_i fi hfi
      split at h
      case h_2 => exact h.elim
      rename_i hb
      simp only [Bool.and_eq_true] at hb
      obtain rfl := beq_true hb.1
      exact rule_index_arr hc ho hi hk hfi hb.2 hx hj h.1.1 h.1.2 h.2.1 h.2.2
    · exact h.elim
  · rename_i t x f ho
    split at h
    case h_2 => exact h.elim
    rename_i i hi
    unfold wFld at h
    split at h
    case h_2 => exact h.elim
    rename_i fs hk
    split at h
    case h_2 => exact h.elim
    rename_i off ft nm hf
    split at h
    case h_2 => exact h.elim
    rename_i fi hfi
    split at h
    case h_2 => exact h.elim
    rename_i v hx
    split at h
    case h_2 => exact h.elim
    rename_i y hy
    split at h
    case h_2 => exact h.elim
    rename_i hb
    simp only [Bool.and_eq_true] at hb
    exact rule_field hc ho hi hk hf hfi hx hb.2.1 hy hb.1 hb.2.2 h
  · rename_i t x ho
    split at h
    case h_2 => exact h.elim
    rename_i i hi
    split at h
    case h_1 => exact h.elim
    rename_i hk
    split at h
    case h_2 => exact h.elim
    rename_i y hy
    exact rule_iface hc ho hi (isIf_no hk) hy h
  · rename_i x xt t ok ho
    split at h
    case h_2 => exact h.elim
    rename_i i hi
    exact wAssert_sound hc ho hi h
  · rename_i x ho
    unfold wNil at h
    split at h
    · rename_i n p hx; exact rule_nilCheck ho hx (.inl ⟨n, p, rfl⟩) h
    · rename_i y hx; exact rule_nilCheck ho hx (.inr (.inl ⟨y, rfl⟩)) h
    · rename_i f cs hx; exact rule_nilCheck ho hx (.inr (.inr ⟨f, cs, rfl⟩)) h
    · exact h.elim
  · rename_i t parts ho
    split at h
    case h_2 => exact h.elim
    rename_i i hi
    unfold wBuild at h
    split at h
    · rename_i fs hk
      split at h
      case h_2 => exact h.elim
      rename_i z hz
      split at h
      case h_2 => exact h.elim
      rename_i hb
      simp only [Bool.and_eq_true] at hb
      split at h
      case h_2 => exact h.elim
      rename_i x hx
      exact rule_build hc ho hi hk hz hb.1 hb.2 hx h
    · rename_i n e hk
      split at h
      case h_2 => exact h.elim
      rename_i fi hfi
      split at h
      case h_2 => exact h.elim
      rename_i z hz
      split at h
      case h_2 => exact h.elim
      rename_i ha
      split at h
      case h_2 => exact h.elim
      rename_i x hx
      exact rule_buildA hc ho hi hk hfi hz ha hx h
    · exact h.elim
  · rename_i fn first cs ho
    unfold wFunc at h
    split at h
    case h_2 => exact h.elim
    rename_i f
    split at h
    case h_2 => exact h.elim
    rename_i hf
    split at h
    case h_2 => exact h.elim
    rename_i ns hns
    have e : first = #[] := Array.ext' hf
    subst e
    exact rule_makeFunc ho hns h
  · rename_i t x lo hi mx ho
    split at h
    case h_2 => exact h.elim
    split at h
    case h_2 => exact h.elim
    rename_i i hi'
    unfold wSlice at h
    split at h
    case h_1 => exact h.elim
    rename_i l hl
    split at h
    · rename_i s hx
      split at h
      case h_2 => exact h.elim
      rename_i hk
      split at h
      case h_2 => exact h.elim
      rename_i b hb
      exact rule_slice_str hc ho hi' hk hx hl hb h.1.1 h.1.2.1 h.1.2.2 h.2
    · rename_i sz xs hx
      split at h
      case h_2 => exact h.elim
      rename_i e hk
      split at h
      case h_2 => exact h.elim
      rename_i fi hfi
      split at h
      case h_2 => exact h.elim
      rename_i hsz
      split at h
      case h_2 => exact h.elim
      rename_i b hb
      exact rule_slice_sl hc ho hi' hk hfi hsz hx hl hb h.1.1 h.1.2.1 h.1.2.2 h.2
    · exact h.elim
  · exact h.elim

theorem wop_sound (hc : B.c.ok) (h : WOp B.c B.k0 o env S K) : OpsTo B N o env S K := by
  unfold WOp at h
  split at h
  · exact wopQ_sound hc h
  split at h
  · rename_i t ho
    split at h
    case h_2 => exact h.elim
    rename_i i hi
    split at h
    case h_2 => exact h.elim
    rename_i z hz
    unfold wAlloc at h
    split at h
    · exact rule_alloc hc ho hi hz h
    · rename_i ws hws
      split at h
      · rename_i l
        rw [fS_eq] at h
        exact rule_alloc_rows hc ho hi hz h
      · exact h.elim
  · rename_i t x ho
    split at h
    case h_2 => exact h.elim
    rename_i v hv
    split at h
    case h_2 => exact h.elim
    rename_i hn
    exact rule_box ho hv hn h
  · rename_i t x ho
    split at h
    case h_2 => exact h.elim
    rename_i i hi
    unfold wLoad at h
    split at h
    · rename_i n p hx
      split at h
      · rename_i X hX
        split at h
        case h_2 => exact h.elim
        rename_i y hy
        split at h
        case h_2 => exact h.elim
        rename_i hb
        simp only [Bool.and_eq_true] at hb
        exact rule_load hc ho hi hx hX hy hb.1 hb.2 h
      · rename_i T X hX
        split at h
        case h_2 => exact h.elim
        rename_i y hy
        split at h
        case h_2 => exact h.elim
        rename_i hb
        simp only [Bool.and_eq_true] at hb
        exact rule_loadT hc ho hi hx hX hy hb.1 hb.2 h
      · rename_i e' sz xs hX
        split at h
        case h_2 => exact h.elim
        rename_i i0 sz' cnt p
        split at h
        case h_2 => exact h.elim
        rename_i hsz
        obtain rfl := beq_true hsz
        obtain ⟨hlt, h⟩ := h
        unfold wLoadO at h
        split at h
        case h_2 => exact h.elim
        rename_i y hy
        split at h
        case h_2 => exact h.elim
        rename_i hb
        simp only [Bool.and_eq_true] at hb
        exact rule_loadO hc ho hi hx hX hlt hy hb.1 hb.2 h
      · exact h.elim
    · rename_i X hx
      split at h
      case h_2 => exact h.elim
      rename_i hb
      exact rule_loadC hc ho hi hx hb h
    · exact h.elim
  · rename_i t x y ho
    split at h
    case h_2 => exact h.elim
    rename_i i hi
    unfold wStore at h
    split at h
    case h_2 => exact h.elim
    rename_i n p v hx hv
    split at h
    · rename_i X hX
      split at h
      case h_2 => exact h.elim
      rename_i hb
      simp only [Bool.and_eq_true] at hb
      split at h
      case h_2 => exact h.elim
      rename_i X' hX'
      rw [fS_eq] at h
      exact rule_store hc ho hi hx hX hb.1.1 hv hb.1.2 hX' hb.2 h
    · rename_i T X hX
      split at h
      case h_2 => exact h.elim
      rename_i hb
      simp only [Bool.and_eq_true] at hb
      split at h
      case h_2 => exact h.elim
      rename_i X' hX'
      rw [fS_eq] at h
      exact rule_storeT hc ho hi hx hX hb.1.1 hv hb.1.2 hX' hb.2 h
    · rename_i e' sz xs hX
      split at h
      case h_2 => exact h.elim
      rename_i i0 sz' cnt p
      split at h
      case h_2 => exact h.elim
      rename_i hb
      simp only [Bool.and_eq_true] at hb
      obtain rfl := beq_true hb.1.1
      obtain ⟨hlt, h⟩ := h
      unfold wStoreO at h
      split at h
      case h_2 => exact h.elim
      rename_i z hz
      rw [fS_eq] at h
      exact rule_storeO hc ho hi hx hX hlt hv hb.1.2 hz hb.2 h
    · exact h.elim
  · rename_i t x ix ho
    split at h
    case h_2 => exact h.elim
    rename_i i hi
    unfold wIndexAddr at h
    split at h
    case h_2 => exact h.elim
    rename_i k j hj
    split at h
    · rename_i cnt e hk
      split at h
      case h_2 => exact h.elim
      rename_i fi hfi
      split at h
      case h_3 => exact h.elim
      · rename_i n p hx
        exact rule_indexAddr_arr hc ho hi hk hfi hx hj h.1.1 h.1.2 h.2
      · rename_i cnt' sz xs hx
        split at h
        case h_2 => exact h.elim
        rename_i hb
        simp only [Bool.and_eq_true] at hb
        obtain rfl := beq_true hb.1
        exact rule_indexAddr_carr hc ho hi hk hfi (beq_true hb.2) hx hj h.1.1 h.1.2 h.2
    · rename_i e hk
      split at h
      case h_2 => exact h.elim
      rename_i fi hfi
      split at h
      · rename_i n p lo len cnt sz hx
        split at h
        case h_2 => exact h.elim
        rename_i hsz
        obtain rfl := beq_true hsz
        exact rule_indexAddr_vw hc ho hi hk hfi hx hj h.1.1 h.1.2 h.2
      · rename_i n hx
        split at h
        · rename_i e' sz xs hn
          split at h
          case h_2 => exact h.elim
          rename_i hsz
          exact rule_indexAddr_own hc ho hi hk hfi (beq_true hsz) hx hn hj h.1.1 h.1.2 h.2
        · rename_i e' sz xs hn
          split at h
          case h_2 => exact h.elim
          rename_i hsz
          exact rule_indexAddr_sl hc ho hi hk hfi hsz hx (by simp only [AV.toD, hn]) hj h.1.1 h.1.2 h.2
        · rename_i sz xs hn
          split at h
          case h_2 => exact h.elim
          rename_i hsz
          exact rule_indexAddr_sl hc ho hi hk hfi hsz hx (by simp only [AV.toD, hn]) hj h.1.1 h.1.2 h.2
        · exact h.elim
      · rename_i sz xs hx
        split at h
        case h_2 => exact h.elim
        rename_i hsz
        exact rule_indexAddr_sl hc ho hi hk hfi hsz hx (by simp only [AV.toD]) hj h.1.1 h.1.2 h.2
      · exact h.elim
    · exact h.elim
  · rename_i fo args ts ho
    exact rule_call ho h
  · rename_i args ts ho
    split at h
    case h_2 => exact h.elim
    rename_i t x e1 e2
    split at h
    case h_2 => exact h.elim
    rename_i i hi
    have e3 : args = #[x] := Array.ext' e2
    have e4 : ts = #[t] := Array.ext' e1
    subst e3; subst e4
    exact rule_len hc ho hi h
  · rename_i args ts ho
    split at h
    case h_2 => exact h.elim
    rename_i t t' x y e1 e2
    split at h
    case h_2 =>
      have e3 : args = #[x, y] := Array.ext' e2
      have e4 : ts = #[t, t'] := Array.ext' e1
      subst e3; subst e4
      unfold wAppendS at h
      split at h
      case h_2 => exact h.elim
      rename_i i j hi hj
      split at h
      case h_2 => exact h.elim
      rename_i e hk hkj
      split at h
      case h_2 => exact h.elim
      rename_i fi hfi
      split at h
      case h_2 => exact h.elim
      rename_i hz
      split at h
      case h_2 => exact h.elim
      rename_i n hs
      split at h
      case h_2 => exact h.elim
      rename_i e' sz xs hn
      split at h
      case h_2 => exact h.elim
      rename_i hb
      simp only [Bool.and_eq_true] at hb
      obtain rfl := beq_true hb.1.1
      obtain rfl := beq_true hb.2.2
      split at h
      case h_2 => exact h.elim
      rename_i q hx
      obtain ⟨h1, h2⟩ := h
      rw [fS_eq] at h2
      exact rule_append_str hc ho hi hk hj hkj hfi hz (beq_true hb.1.2) (beq_true hb.2.1) hs hn hx h1 h2
    rename_i hb
    obtain rfl := beq_true hb
    have e3 : args = #[x, y] := Array.ext' e2
    have e4 : ts = #[t, t] := Array.ext' e1
    subst e3; subst e4
    unfold wAppend at h
    split at h
    case h_2 => exact h.elim
    rename_i i hi
    split at h
    case h_2 => exact h.elim
    rename_i e hk
    split at h
    case h_2 => exact h.elim
    rename_i fi hfi
    split at h
    case h_2 => exact h.elim
    rename_i z hz
    split at h
    case h_2 => exact h.elim
    rename_i n hs
    split at h
    · rename_i e' sz xs hn
      split at h
      case h_2 => exact h.elim
      rename_i hb
      simp only [Bool.and_eq_true] at hb
      obtain rfl := beq_true hb.1.1
      split at h
      case h_3 => exact h.elim
      · rename_i sz' ys hx
        split at h
        case h_2 => exact h.elim
        rename_i hsz
        obtain rfl := beq_true hsz
        obtain ⟨⟨h1, h2⟩, h3⟩ := h
        rw [fS_eq] at h3
        exact rule_append hc ho hi hk hfi hz (beq_true hb.2) (beq_true hb.1.2) hs hn hx h1 h2 h3
      · rename_i m p lo len cnt sz' hx
        split at h
        case h_2 => exact h.elim
        rename_i hsz
        obtain rfl := beq_true hsz
        split at h
        case h_2 => exact h.elim
        rename_i X hm
        split at h
        case h_2 => exact h.elim
        rename_i cnt' sz2 ys hX
        split at h
        case h_2 => exact h.elim
        rename_i hq
        simp only [Bool.and_eq_true] at hq
        obtain rfl := beq_true hq.1
        obtain rfl := beq_true hq.2
        obtain ⟨⟨h1, h2⟩, h3⟩ := h
        rw [fS_eq] at h3
        exact rule_append_vw hc ho hi hk hfi hz (beq_true hb.2) (beq_true hb.1.2) hs hn hx hm hX h1 h2 h3
    · rename_i e' sz xs hn
      split at h
      case h_2 => exact h.elim
      rename_i hb
      simp only [Bool.and_eq_true] at hb
      obtain rfl := beq_true hb.1.1
      split at h
      case h_2 => exact h.elim
      rename_i sz' ys hx
      split at h
      case h_2 => exact h.elim
      rename_i hsz
      obtain rfl := beq_true hsz
      obtain ⟨⟨h1, h2⟩, h3⟩ := h
      rw [fS_eq] at h3
      have hlt := (List.getElem?_eq_some_iff.1 hn).1
      refine opsTo_freeze hn (rule_append hc ho hi hk hfi hz (beq_true hb.2) (beq_true hb.1.2) hs (List.getElem?_set_self hlt) hx h1 h2 ?_)
      rw [List.set_set, List.length_set]
      exact h3
    · exact h.elim
  · rename_i args ts ho
    split at h
    case h_2 => exact h.elim
    rename_i t u x y e1 e2
    have e3 : args = #[x, y] := Array.ext' e2
    have e4 : ts = #[t, u] := Array.ext' e1
    subst e3; subst e4
    unfold wCopy at h
    split at h
    case h_2 => exact h.elim
    rename_i i hi
    split at h
    case h_2 => exact h.elim
    rename_i e hk
    split at h
    case h_2 => exact h.elim
    rename_i fi hfi
    split at h
    case h_2 => exact h.elim
    rename_i hsz
    split at h
    case h_2 => exact h.elim
    rename_i n p lo len cnt sz hx
    split at h
    case h_2 => exact h.elim
    rename_i X hn
    split at h
    case h_2 => exact h.elim
    rename_i cnt' sz2 xs hX
    split at h
    case h_2 => exact h.elim
    rename_i hq
    simp only [Bool.and_eq_true] at hq
    obtain rfl := beq_true hq.1.1
    obtain rfl := beq_true hq.1.2
    obtain rfl := beq_true hq.2
    split at h
    case h_2 => exact h.elim
    rename_i s hy
    split at h
    case h_2 => exact h.elim
    rename_i X' hset
    rw [fS_eq] at h
    exact rule_copy_str hc ho hi hk hfi (beq_true hsz) hx hn hX hy hset h
  · rename_i args ts ho
    split at h
    · rename_i x y e2
      split at h
      case h_2 => exact h.elim
      rename_i k a k' b hx hy
      have e3 : args = #[x, y] := Array.ext' e2
      subst e3
      exact rule_max ho hx hy h
    · rename_i x l _ e2
      split at h
      case h_2 => exact h.elim
      rename_i k a hx
      exact rule_maxs ho e2 hx h
    · exact h.elim
  · rename_i args ts ho
    split at h
    case h_2 => exact h.elim
    rename_i x y e2
    split at h
    case h_2 => exact h.elim
    rename_i k a k' b hx hy
    have e3 : args = #[x, y] := Array.ext' e2
    subst e3
    exact rule_min ho hx hy h
  · rename_i x ho
    split at h
    case h_2 => exact h.elim
    rename_i hx
    rcases h with h | ⟨e, sz, h⟩
    · exact rule_assign_nil ho (nilSlB_spec hx) h
    · rw [fS_eq] at h
      exact rule_nilrow ho (nilSlB_spec hx) h
  · rename_i t len parts ho
    exact wBuildSl_sound hc ho h
  · rename_i src dst x ho
    unfold wConvS at h
    split at h
    case h_2 => exact h.elim
    rename_i j hj
    split at h
    · rename_i e hk
      split at h
      case h_2 => exact h.elim
      rename_i s hx
      split at h
      case h_2 => exact h.elim
      rename_i i hi
      split at h
      case h_2 => exact h.elim
      rename_i hki
      split at h
      case h_2 => exact h.elim
      rename_i ei he
      split at h
      case h_2 => exact h.elim
      rename_i hu
      exact rule_conv_sb hc ho hi hj hki hk he (isU8_spec hu) hx h.1 h.2
    · rename_i hkj
      split at h
      · rename_i n p lo len cnt sz hx
        split at h
        case h_2 => exact h.elim
        rename_i i hi
        split at h
        case h_2 => exact h.elim
        rename_i e hk
        split at h
        case h_2 => exact h.elim
        rename_i ei he
        split at h
        case h_2 => exact h.elim
        rename_i hu
        simp only [Bool.and_eq_true] at hu
        obtain rfl := beq_true hu.2
        split at h
        case h_2 => exact h.elim
        rename_i X hX
        split at h
        case h_2 => exact h.elim
        rename_i cnt' sz' xs hg
        split at h
        case h_2 => exact h.elim
        rename_i hb
        simp only [Bool.and_eq_true] at hb
        obtain rfl := beq_true hb.1
        obtain rfl := beq_true hb.2
        obtain ⟨s, h1, h2⟩ := h
        exact rule_conv_vw hc ho hi hj hk hkj he (isU8_spec hu.1) hx hX hg h1.1 h1.2 h2
      · rename_i n hx
        split at h
        case h_2 => exact h.elim
        rename_i i hi
        split at h
        case h_2 => exact h.elim
        rename_i e hk
        split at h
        case h_2 => exact h.elim
        rename_i ei he
        split at h
        case h_2 => exact h.elim
        rename_i hu
        split at h
        case h_2 => exact h.elim
        rename_i xs hn
        obtain ⟨s, h1, h2⟩ := h
        exact rule_conv_row hc ho hi hj hk hkj he (isU8_spec hu) hx hn h1 h2
      · exact wopQ_sound hc h
    · exact wopQ_sound hc h
  · rename_i t x lo hi mx ho
    unfold wSliceS at h
    split at h
    · rename_i n p hx
      split at h
      case h_2 => exact h.elim
      split at h
      case h_2 => exact h.elim
      rename_i i hi'
      split at h
      case h_2 => exact h.elim
      rename_i cnt e hk
      split at h
      case h_2 => exact h.elim
      rename_i fi hfi
      split at h
      case h_2 => exact h.elim
      rename_i l hl
      split at h
      case h_2 => exact h.elim
      rename_i b hb
      exact rule_slice_arr hc ho hi' hk hfi hx hl hb h.1.1 h.1.2.1 h.1.2.2.1 h.1.2.2.2.1 h.1.2.2.2.2 h.2
    · rename_i n hx
      split at h
      case h_2 => exact h.elim
      split at h
      case h_2 => exact h.elim
      rename_i i hi'
      split at h
      case h_2 => exact h.elim
      rename_i e hk
      split at h
      case h_2 => exact h.elim
      rename_i fi hfi
      split at h
      case h_2 => exact h.elim
      rename_i sz xs hn
      split at h
      case h_2 => exact h.elim
      rename_i hsz
      split at h
      case h_2 => exact h.elim
      rename_i l hl
      split at h
      case h_2 => exact h.elim
      rename_i b hb
      exact rule_slice_v hc ho hi' hk hfi hsz (fun st => by
        obtain ⟨_, hsv⟩ := ca_row_inv ((evalA_sound st hx).va (fun l e => by cases e))
        rw [hsv]
        exact (st.st.blks n _ hn).row_view) hl hb h.1.1 h.1.2.1 h.1.2.2 h.2
    · exact wopQ_sound hc h
  · rename_i t x ho
    split at h
    case h_2 => exact h.elim
    rename_i i hi
    split at h
    case h_2 => exact h.elim
    rename_i hk
    split at h
    case h_2 => exact h.elim
    rename_i s hx
    exact rule_range hc ho hi hk hx h
  · rename_i x isS ho
    split at h
    case h_2 => exact h.elim
    split at h
    case h_2 => exact h.elim
    rename_i n hx
    split at h
    case h_2 => exact h.elim
    rename_i s pos hn
    rw [fS_eq] at h
    exact rule_next ho hx hn h
  · exact h.elim

end

end Go.Ab
