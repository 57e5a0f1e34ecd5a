/- slices.Insert of one value into a slice of one's own, in the own logic. -/
import Derived.Test.YtmdfpifcghmpfaaDoorIn
namespace Go.Proofs.YtmdfpifcghmpfaaDoor
open Go.Shelf Go.RowKit Go.Lib Go.Ab

theorem setCells_row : ∀ (vs : List Value) (o : Nat) (w : World) (b : Nat) (cur : Array Value) (T : TypeId), w.heap[b]? = some (.cells cur T (0, 0)) → o + vs.length ≤ cur.size →
    (w.setCells b o vs).heap[b]? = some (.cells (cur.toList.take o ++ vs ++ cur.toList.drop (o + vs.length)).toArray T (0, 0)) ∧ (w.setCells b o vs).os = w.os ∧ (w.setCells b o vs).tape = w.tape ∧ (w.setCells b o vs).output = w.output ∧
      (w.setCells b o vs).heap.size = w.heap.size ∧ ∀ k, k ≠ b → (w.setCells b o vs).heap[k]? = w.heap[k]?
  | [], o, w, b, cur, T, h, hl => by
    refine ⟨?_, rfl, rfl, rfl, rfl, fun _ _ => rfl⟩
    simp only [World.setCells, List.append_nil, List.length_nil, Nat.add_zero, List.take_append_drop]
    rw [h]
  | v :: r, o, w, b, cur, T, h, hl => by
    have h1 : (w.setCell ⟨b, o, none⟩ v).heap[b]? = some (.cells (cur.setIfInBounds o v) T (0, 0)) := by
      simp only [World.setCell, Array.getElem?_modify, if_pos, h]
      rfl
    simp only [List.length_cons] at hl
    obtain ⟨g1, g2, g3, g4, g5, g6⟩ := setCells_row r (o + 1) (w.setCell ⟨b, o, none⟩ v) b _ T h1 (by simp; omega)
    refine ⟨?_, g2, g3, g4, by rw [World.setCells, g5]; simp [World.setCell], fun k hk => ?_⟩
    · rw [World.setCells, g1]
      congr 3
      have e := list_seg_step cur.toList o v r (by simp; omega)
      simpa [Array.toList_setIfInBounds, Nat.add_assoc] using e
    · rw [World.setCells, g6 k hk]
      simp [World.setCell, Array.getElem?_modify, Ne.symm hk]

/-- A slice of one's own in the place of another one, in its memory or in new memory. -/
theorem ownFor {c : Ctx} {μ : Nat → Value} {G : Nat → Nat → Prop} {w w' : World} {e e' : TypeId} {sz sz' : Nat} {xs ys : List D} {v' : Value} (st : St (base c [.own e sz xs] μ G w) [.own e sz xs] μ G w)
    (ho : w'.os = w.os) (ht : w'.tape = w.tape) (hp : w'.output = w.output) (hs : w.heap.size ≤ w'.heap.size) (hh : ∀ k, k < w.heap.size → bid (μ 0) ≠ some k → w'.heap[k]? = w.heap[k]?)
    (hv : ∀ n, bid v' = some n → w.heap.size ≤ n ∨ bid (μ 0) = some n) (hb : BlkOk (upd μ 1 v') 2 w' G v' (.own e' sz' ys)) :
    St (base c [.own e sz xs] μ G w) [.dead, .own e' sz' ys] (upd μ 1 v') G w' := by
  have hX : ∀ n, bid (μ 0) = some n → (base c [.own e sz xs] μ G w).X n := fun n hn => ⟨0, by simp [base], ⟨_, rfl, rfl⟩, hn⟩
  have hfree : ∀ n, bid (μ 0) = some n → ∀ o, ¬ G n o := fun n hn o => st.free 0 _ n rfl rfl hn o (Nat.zero_le _)
  have hcell : ∀ b o v, G b o → w.cell? ⟨b, o, none⟩ = some v → w'.cell? ⟨b, o, none⟩ = some v := fun b o v hg hc => by
    rw [cell?_heap (hh b (st.gv b o hg) (fun e => hfree b e o hg))]; exact hc
  have two : ∀ (i : Nat) (d : Blk), ([Blk.dead, .own e' sz' ys] : List Blk)[i]? = some d → d.live = true → i = 1 ∧ d = .own e' sz' ys := by
    intro i d hd hl
    match i, hd with
    | 0, hd => cases hd; cases hl
    | 1, hd => cases hd; exact ⟨rfl, rfl⟩
  have hu : upd μ 1 v' 1 = v' := by simp [upd]
  exact {
    blks := by
      intro i d hd
      match i, hd with
      | 0, hd => cases hd; trivial
      | 1, hd => cases hd; rw [hu]; exact hb
    apart := by
      intro i j b d hb hd hl hl' hij
      exact absurd ((two i b hb hl).1.trans (two j d hd hl').1.symm) hij
    free := by
      intro i d n hd hl hn o _ hg
      obtain ⟨rfl, rfl⟩ := two i d hd hl
      rw [hu] at hn
      rcases hv n hn with h | h
      · have := st.gv n o hg; omega
      · exact hfree n h o hg
    gv := fun b o hg => Nat.lt_of_lt_of_le (st.gv b o hg) hs
    k0 := by simp [base]
    keep := fun i hi => by simp [base] at hi; subst hi; simp [upd, base]
    g0 := fun _ _ h => h
    gn := fun _ _ h => .inl h
    new := by
      intro i d n hi hd hl hn
      obtain ⟨rfl, rfl⟩ := two i d hd hl
      rw [hu] at hn
      rcases hv n hn with h | h
      · exact .inl h
      · exact .inr (hX n h)
    os := ho
    tape := ht
    output := hp
    size := hs
    fr := fun k hk hx => hh k hk (fun e => hx (hX k e))
    lv := by
      intro i d hi hd hl
      obtain ⟨rfl, rfl⟩ := two i d hd hl
      simp [base] at hi
    glob := fun g x hg => (st.glob g x hg).mono (fun _ _ h => h) hcell
    gw := fun b o v h1 h2 => hcell b o v h1 h2 }

theorem shift_list (L cs vs : List Value) (A s N : Nat) (hA : A ≤ N) (hcs : cs.length = N) (hvs : vs.length = s) (hL : N + s ≤ L.length) (hpre : L.take A = cs.take A) :
    ((L.take (A + s) ++ cs.drop A ++ L.drop (A + s + (cs.drop A).length)).take A ++ vs ++ (L.take (A + s) ++ cs.drop A ++ L.drop (A + s + (cs.drop A).length)).drop (A + vs.length)).take (N + s) = cs.take A ++ (vs ++ cs.drop A) := by
  have hl : (L.take (A + s)).length = A + s := by rw [List.length_take]; omega
  have e1 : (L.take (A + s) ++ cs.drop A ++ L.drop (A + s + (cs.drop A).length)).take A = cs.take A := by
    rw [List.append_assoc, List.take_append_of_le_length (by omega), List.take_take, Nat.min_eq_left (by omega), hpre]
  have e2 : (L.take (A + s) ++ cs.drop A ++ L.drop (A + s + (cs.drop A).length)).drop (A + vs.length) = cs.drop A ++ L.drop (A + s + (cs.drop A).length) := by
    rw [List.append_assoc, List.drop_left' (by omega)]
  rw [e1, e2]
  have h3 : (cs.take A ++ vs ++ cs.drop A).length = N + s := by simp; omega
  rw [← List.append_assoc, List.take_left' h3, List.append_assoc]

theorem grow_list (R cs vs : List Value) (A s N : Nat) (hA : A ≤ N) (hcs : cs.length = N) (hvs : vs.length = s) (hpre : R.take A = cs.take A) :
    ((R.take A ++ vs ++ R.drop (A + vs.length)).take (A + s) ++ cs.drop A ++ (R.take A ++ vs ++ R.drop (A + vs.length)).drop (A + s + (cs.drop A).length)).take (N + s) = cs.take A ++ (vs ++ cs.drop A) := by
  have hl : (cs.take A ++ vs).length = A + s := by simp; omega
  have e1 : (R.take A ++ vs ++ R.drop (A + vs.length)).take (A + s) = cs.take A ++ vs := by
    rw [hpre, List.take_left' hl]
  rw [e1]
  have h3 : (cs.take A ++ vs ++ cs.drop A).length = N + s := by simp; omega
  rw [List.take_left' h3, List.append_assoc]

theorem VS.three {μ k w G x y z vals} (h : VS μ k w G [x, y, z] vals) : ∃ u v t, vals = [u, v, t] ∧ VA μ k w G x u ∧ VA μ k w G y v ∧ VA μ k w G z t := by
  cases h with
  | cons h1 h =>
  cases h with
  | cons h2 h =>
  cases h with
  | cons h3 h =>
  cases h
  exact ⟨_, _, _, rfl, h1, h2, h3⟩

theorem insert_c {ρ : Ren} {sz bytes : Nat} {z : Value} (L : InsL Tryd.prog ρ sz bytes z) {fn : Func} {xs : List D} {x : D} {e i : Nat} (he : ρ.t 9 = e) (hf : Tryd.prog.funcs[ρ.f 22]? = some fn) (hname : (fn.name == "runtime.NumGoroutine") = false) (hbd : fn.body.isSome = true)
    (hi : i ≤ xs.length) (hl : xs.length + 1 ≤ maxLen) (hbig : (xs.length + 1) * (bytes + 1) ≤ 140737488355328) :
    CallR cx (ρ.f 22) [.row 0, .d (.int .i64 i), .d (.sl sz [x])] [.own e sz xs] fun r S => r = .row 1 ∧ S = [.dead, .own e sz (xs.take i ++ x :: xs.drop i)] := by
  subst he
  refine callR_raw (c := cx) hf hname hbd fun μ G w vals st hv => ?_
  obtain ⟨v0, v1, v2, rfl, a0, a1, a2⟩ := VS.three hv
  obtain ⟨_, rfl⟩ := ca_row_inv a0
  obtain rfl := (VA.d_iff.1 a1).int_inv
  obtain ⟨cs, ho, hc, hs⟩ := st.blks 0 _ rfl
  have h1c := hc.oneCell
  have hcl : cs.length = xs.length * sz := D.eqLen hc hs
  have s0 := L.s0
  have hbig1 : (xs.length + 1) * bytes ≤ 140737488355328 := Nat.le_trans (Nat.mul_le_mul_left _ (by omega)) hbig
  rcases (VA.d_iff.1 a2).sl_inv with ⟨_, h⟩ | ⟨⟨vb, voff, sp⟩, vc, vs, rfl, g1, g2, g3, g4, g5, g6⟩
  · cases h
  obtain rfl : sp = none := g4.resolve_left (by simp)
  have hvl : vs.length = 1 * sz := D.eqLen g1 g2
  have h1v := g1.oneCell
  have hvs : ∀ j v, vs[j]? = some v → w.cell? ⟨vb, voff + j, none⟩ = some v := fun j v hj => (g3 j v hj).1
  have hG0 : G vb (voff + 0) := (g3 0 _ (List.getElem?_eq_getElem (by omega))).2
  have hvw : vb < w.heap.size := st.gv _ _ hG0
  have hvn : ∀ n, bid (μ 0) = some n → vb ≠ n := fun n hn e => by subst e; exact st.free 0 _ vb rfl rfl hn _ (Nat.zero_le _) hG0
  -- from the run to the store
  have fin : ∀ (v' : Value) (w' : World) (cs' : List Value), w'.os = w.os → w'.tape = w.tape → w'.output = w.output → w.heap.size ≤ w'.heap.size → (∀ k, k < w.heap.size → bid (μ 0) ≠ some k → w'.heap[k]? = w.heap[k]?) →
      (∀ n, bid v' = some n → w.heap.size ≤ n ∨ bid (μ 0) = some n) → w'.ownsRow 0 (ρ.t 9) sz v' (xs.length + 1) cs' → cs' = cs.take (i * sz) ++ (vs ++ cs.drop (i * sz)) →
      ∃ v r S' μ' G', Ending.returned v' = Ending.returned v ∧ (r = AV.row 1 ∧ S' = [Blk.dead, Blk.own (ρ.t 9) sz (xs.take i ++ x :: xs.drop i)]) ∧ St (base cx [.own (ρ.t 9) sz xs] μ G w) S' μ' G' w' ∧ RA μ' S'.length w' G' r v := by
    intro v' w' cs' k1 k2 k3 k4 k5 k6 k7 k8
    have hcell : ∀ b o v, G b o → w.cell? ⟨b, o, none⟩ = some v → w'.cell? ⟨b, o, none⟩ = some v := fun b o v hg hc => by
      rw [cell?_heap (k5 b (st.gv b o hg) (fun e => st.free 0 _ b rfl rfl e o (Nat.zero_le _) hg))]; exact hc
    have hsplit : xs = xs.take i ++ xs.drop i := (List.take_append_drop i xs).symm
    have hCL : CL w G (xs.take i ++ x :: xs.drop i) cs' := by
      rw [hsplit] at hc
      obtain ⟨p, q, hpq, c1, c2⟩ := CL.append_inv hc
      have hp : p.length = i * sz := by
        have := D.eqLen c1 (fun y hy => hs y (List.mem_of_mem_take hy))
        rw [this, List.length_take, Nat.min_eq_left hi]
      have e1 : cs.take (i * sz) = p := by rw [hpq, List.take_left' hp]
      have e2 : cs.drop (i * sz) = q := by rw [hpq, List.drop_left' hp]
      rw [k8, e1, e2]
      exact c1.append (CL.append (l := [x]) g1 c2)
    have hsz : ∀ y ∈ xs.take i ++ x :: xs.drop i, y.size = sz := by
      intro y hy
      rcases List.mem_append.1 hy with h | h
      · exact hs y (List.mem_of_mem_take h)
      · rcases List.mem_cons.1 h with rfl | h
        · exact g2 y (by simp)
        · exact hs y (List.mem_of_mem_drop h)
    have hlen : (xs.take i ++ x :: xs.drop i).length = xs.length + 1 := by simp; omega
    refine ⟨v', .row 1, _, upd μ 1 v', G, rfl, ⟨rfl, rfl⟩, ownFor st k1 k2 k3 k4 k5 k6 ⟨cs', by rw [hlen]; exact k7, hCL.mono (fun _ _ h => h) hcell, hsz⟩, ?_⟩
    have hsl : ∃ a l c, v' = .slice a l c := by
      rcases k7.2 with ⟨q, _⟩ | ⟨_, _, _, q, _⟩
      · exact ⟨_, _, _, q⟩
      · exact ⟨_, _, _, q⟩
    obtain ⟨a, l, c, rfl⟩ := hsl
    exact VA.ra (VA.of_single (.row (by show 1 < 2; omega) (by simp [upd]) .nil) rfl) (fun l e => by cases e)
  by_cases hin : i = xs.length
  · subst hin
    obtain ⟨i0, hi0, hz0, hzs, hzb⟩ := L.i9
    obtain ⟨v', w', hr, q1, q2, _⟩ := run_append_own (P := Tryd.prog) w 0 (ρ.t 24) (ρ.t 24) (ρ.t 9) i0 z sz bytes L.t24 hi0 hz0 hzs hzb L.zs s0 (μ 0) xs.length cs ho ⟨vb, voff, none⟩ 1 vc vs hvl (fun j u hj => by rw [Addr.add_lit]; exact hvs j u hj) h1v hl hbig1 (Nat.zero_le _)
    obtain ⟨v2, w2, hr2, _, _, _, k, q3, q4, _⟩ := run_append_row (P := Tryd.prog) (w := w) (ty := ρ.t 24) L.t24 hi0 hz0 hzs hzb L.zs (World.ownsRowF_of ho) (a := ⟨vb, voff, none⟩) (m := 1) (c := vc) hvl (fun j u hj => by rw [Addr.add_lit]; exact hvs j u hj) h1v (by omega) hbig
    rw [hr] at hr2
    injection hr2 with e1 e2
    subst e1; subst e2
    obtain ⟨a, c, hsl, hnc⟩ : ∃ a c, μ 0 = .slice a xs.length c ∧ xs.length ≤ c := by
      rcases ho.2 with ⟨q, q2⟩ | ⟨g, cap, cur, q, _, _, q3, _⟩
      · exact ⟨_, _, by rw [q, q2], by omega⟩
      · exact ⟨_, _, q, q3⟩
    have hbo : (μ 0).ownBlock = bid (μ 0) := by rw [hsl]; cases a <;> rfl
    rw [hsl] at hr
    have hcalls := insert_end L a xs.length c vb voff 1 vc w (by omega) hnc v' w' (fun ty => hr)
    rw [← hsl] at hcalls
    refine hcalls.mono ?_
    rintro e w1 ⟨rfl, rfl⟩
    refine fin v' w1 _ q2.os q2.tape q2.output q2.size (fun k hk hne => q2.block k hk (fun e => hne (by rw [← hbo]; exact e.symm))) (fun n hn => ?_) q1 (by rw [← hcl, List.take_length, List.drop_length, List.append_nil])
    rw [q3] at hn
    cases hn
    rcases q4 with q4 | q4
    · exact .inr q4
    · exact .inl q4
  · have hlt : i < xs.length := by omega
    have hislt : i * sz ≤ xs.length * sz := Nat.mul_le_mul_right _ (by omega)
    have hi1 : (i + 1) * sz = i * sz + sz := by rw [Nat.add_mul, Nat.one_mul]
    have hn1 : (xs.length + 1) * sz = xs.length * sz + sz := by rw [Nat.add_mul, Nat.one_mul]
    have hi2 : (i + 1) * sz ≤ xs.length * sz := Nat.mul_le_mul_right _ (by omega)
    rcases ho.2 with ⟨_, q⟩ | ⟨g, cap, cur, q1, _, q2, q3, q4, q5, q6⟩
    · omega
    have hbid : bid (μ 0) = some g := by rw [q1]; rfl
    have hgw : g < w.heap.size := (Array.getElem?_eq_some_iff.1 q2).1
    have hmx : maxLen ≤ 9223372036854775807 := by unfold maxLen; omega
    have hcur : ∀ j, w.cell? ⟨g, j, none⟩ = cur[j]? := fun j => by simp [World.cell?, q2]
    have hcs : ∀ j v, cs[j]? = some v → w.cell? ⟨g, j, none⟩ = some v := fun j v hj => by
      rw [hcur, ← Array.getElem?_toList]
      rw [← q6, List.getElem?_take] at hj
      split at hj
      · exact hj
      · cases hj
    have hdl : (cs.drop (i * sz)).length = xs.length * sz - i * sz := by rw [List.length_drop, hcl]
    have htk : cur.toList.take (i * sz) = cs.take (i * sz) := by rw [← q6, List.take_take, Nat.min_eq_left hislt]
    by_cases hroom : xs.length + 1 ≤ cap
    · have hcap : (xs.length + 1) * sz ≤ cur.size := by rw [q5]; exact Nat.mul_le_mul_right _ hroom
      rw [q1]
      have hsa : ∃ tA kA, w.shape? vb = some (tA, kA) ∧ kA ≠ 0 := by
        have h0 := hvs 0 _ (List.getElem?_eq_getElem (by omega))
        simp only [World.cell?] at h0
        split at h0
        · rename_i c1 e1 f1 hq
          refine ⟨e1, c1.size, by simp [World.shape?, hq], fun e => ?_⟩
          rw [Option.isSome_none, if_neg (by simp)] at h0
          have := (Array.getElem?_eq_some_iff.1 h0).1
          omega
        · cases h0
      obtain ⟨tA, kA, hsa, hkA⟩ := hsa
      refine (insert_shift L g xs.length cap i vb voff 1 vc cs vs w hlt (by omega) hroom (by omega) (hvn g hbid) hcl hvl hcs (fun j hj => by rw [hcur, Array.getElem?_eq_getElem (by omega)]; rfl) (fun j => by simp [World.frozen?, q2]) hvs h1c h1v tA (ρ.t 9) kA cur.size hsa (by simp [World.shape?, q2]) hkA).mono ?_
      rintro e w1 ⟨rfl, rfl⟩
      have hdr : w.drew.heap[g]? = some (.cells cur (ρ.t 9) (0, 0)) := q2
      obtain ⟨r1, r2, r3, r4, r5, r6⟩ := setCells_row (cs.drop (i * sz)) ((i + 1) * sz) w.drew g cur (ρ.t 9) hdr (by rw [hdl]; omega)
      obtain ⟨p1, p2, p3, p4, p5, p6⟩ := setCells_row vs (i * sz) _ g _ (ρ.t 9) r1 (by simp; omega)
      refine fin _ _ (cs.take (i * sz) ++ (vs ++ cs.drop (i * sz))) (by rw [p2, r2]; rfl) (by rw [p3, r3]; rfl) (by rw [p4, r4]; rfl) (by rw [p5, r5]; exact Nat.le_refl _) (fun k hk hne => ?_) (fun n hn => ?_) ⟨?_, .inr ⟨g, cap, _, rfl, Nat.zero_le _, p1, hroom, q4, ?_, ?_⟩⟩ rfl
      · rw [hbid] at hne
        have hkg : k ≠ g := fun e => hne (by rw [e])
        rw [p6 k hkg, r6 k hkg]
        rfl
      · exact .inr (by rw [hbid]; exact hn)
      · simp; omega
      · simp; omega
      · have := shift_list cur.toList cs vs (i * sz) sz (xs.length * sz) hislt hcl (by omega) (by simp; omega) htk
        rw [hn1, hi1, List.toList_toArray, List.toList_toArray]
        exact this
    · have hmx2 : (xs.length + 1) ≤ maxLen := hl
      rw [q1]
      refine (insert_grow L g xs.length cap i vb voff 1 vc cs vs w hlt (by omega) q3 (by omega) hbig1 hl hcl hvl hgw hvw hcs hvs h1c h1v).mono ?_
      rintro e w1 ⟨rfl, rfl⟩
      have hGn : xs.length + 1 ≤ grownCap w (xs.length + 1) cap (ρ.t 9) := grownCap_ge w _ _ _
      have hG63 : grownCap w (xs.length + 1) cap (ρ.t 9) ≤ maxLen := grownCap_le_maxLen w (xs.length + 1) cap (ρ.t 9) hl
      obtain ⟨Gc, hGc⟩ : ∃ Gc, Gc = grownCap w (xs.length + 1) cap (ρ.t 9) := ⟨_, rfl⟩
      rw [← hGc] at hGn hG63 ⊢
      obtain ⟨ROW, hROW⟩ : ∃ ROW : Array Value, ROW = (cs.take (i * sz)).toArray ++ Builtin.zeroCells z.cells (xs.length + 1 - i) ++ Builtin.zeroCells z.cells (Gc - (xs.length + 1)) := ⟨_, rfl⟩
      rw [← hROW]
      have htl : (cs.take (i * sz)).length = i * sz := by rw [List.length_take]; omega
      have hRs : ROW.size = Gc * sz := by
        rw [hROW]
        simp only [Builtin.zeroCells, Array.size_append, List.size_toArray, Array.size_map, Array.size_range, htl, L.zs]
        have e5 : i + (xs.length + 1 - i) + (Gc - (xs.length + 1)) = Gc := by omega
        rw [← Nat.add_mul, ← Nat.add_mul, e5]
      have hRt : ROW.toList.take (i * sz) = cs.take (i * sz) := by
        rw [hROW]
        simp only [Array.toList_append, List.append_assoc]
        rw [List.take_left' htl]
      have hRl : (xs.length + 1) * sz ≤ ROW.size := by rw [hRs]; exact Nat.mul_le_mul_right _ hGn
      have hal : (w.alloc (.cells ROW (ρ.t 9))).drew.heap[w.heap.size]? = some (.cells ROW (ρ.t 9) (0, 0)) := by
        show (w.heap.push _)[w.heap.size]? = _
        simp
      have hpast : ∀ k, k < w.heap.size → (w.alloc (.cells ROW (ρ.t 9))).drew.heap[k]? = w.heap[k]? := fun k hk => by
        show (w.heap.push _)[k]? = _
        rw [Array.getElem?_push, if_neg (by omega)]
      obtain ⟨r1, r2, r3, r4, r5, r6⟩ := setCells_row vs (i * sz) (w.alloc (.cells ROW (ρ.t 9))).drew w.heap.size ROW (ρ.t 9) hal (by omega)
      have r1' : (((w.alloc (.cells ROW (ρ.t 9))).drew.setCells w.heap.size (i * sz) vs).drew).heap[w.heap.size]? = _ := r1
      obtain ⟨p1, p2, p3, p4, p5, p6⟩ := setCells_row (cs.drop (i * sz)) ((i + 1) * sz) _ w.heap.size _ (ρ.t 9) r1' (by simp; omega)
      refine fin _ _ (cs.take (i * sz) ++ (vs ++ cs.drop (i * sz))) (by rw [p2]; exact r2) (by rw [p3]; exact r3) (by rw [p4]; exact r4) ?_ (fun k hk hne => ?_) (fun n hn => ?_) ⟨?_, .inr ⟨w.heap.size, Gc, _, rfl, Nat.zero_le _, p1, hGn, hG63, ?_, ?_⟩⟩ rfl
      · rw [p5]
        show w.heap.size ≤ ((w.alloc (.cells ROW (ρ.t 9))).drew.setCells w.heap.size (i * sz) vs).heap.size
        rw [r5]
        show w.heap.size ≤ (w.heap.push _).size
        simp
      · rw [p6 k (by omega)]
        show ((w.alloc (.cells ROW (ρ.t 9))).drew.setCells w.heap.size (i * sz) vs).heap[k]? = _
        rw [r6 k (by omega), hpast k hk]
      · cases hn; exact .inl (Nat.le_refl _)
      · simp; omega
      · simp; omega
      · have := grow_list ROW.toList cs vs (i * sz) sz (xs.length * sz) hislt hcl (by omega) hRt
        rw [hn1, hi1, List.toList_toArray, List.toList_toArray]
        exact this
end Go.Proofs.YtmdfpifcghmpfaaDoor
