/- slices.Delete of some elements of a slice of one's own, of whatever elements: the run (after the kit's text for elements of one cell). -/
import Derived.Test.YtmdfpifcghmpfaaDoorIn2
import Derived.Shelf.SlicesE.Delete
set_option linter.unusedVariables false
set_option linter.unusedSimpArgs false
namespace Go.Proofs.YtmdfpifcghmpfaaDoor
open Go.Shelf Go.RowKit Go.Lib

section
variable {P : Program} {ρ : Ren}

/-- What a program has where slices.Delete lies in it. -/
structure DelL (P : Program) (ρ : Ren) (size bytes : Nat) (z : Value) : Prop where
  mixed : P.follows .mixedOrders = true
  f45 : Bears P (ρ.f 45) (SlBodyN.n45 ρ)
  t3 : P.underlying (ρ.t 3) = some (TypeDesc.int IntKind.i64)
  a3 : ∀ w, (isAgg (ρ.t 3)).run P w = .ok false w
  z3 : ∀ w, (Go.sizeOf (ρ.t 3)).run P w = .ok 1 w
  v3 : ∀ w, (zeroValue (ρ.t 3)).run P w = .ok (Value.int IntKind.i64 0) w
  t4 : P.underlying (ρ.t 4) = some (TypeDesc.bool)
  a4 : ∀ w, (isAgg (ρ.t 4)).run P w = .ok false w
  z4 : ∀ w, (Go.sizeOf (ρ.t 4)).run P w = .ok 1 w
  v4 : ∀ w, (zeroValue (ρ.t 4)).run P w = .ok (Value.bool false) w
  t22 : P.underlying (ρ.t 22) = some (TypeDesc.slice (ρ.t 23))
  a22 : ∀ w, (isAgg (ρ.t 22)).run P w = .ok false w
  z22 : ∀ w, (Go.sizeOf (ρ.t 22)).run P w = .ok 1 w
  v22 : ∀ w, (zeroValue (ρ.t 22)).run P w = .ok (Value.slice none 0 0) w
  z23 : ∀ w, (Go.sizeOf (ρ.t 23)).run P w = .ok size w
  v23 : ∀ w, (zeroValue (ρ.t 23)).run P w = .ok z w
  i23 : ∃ i0, P.info? (ρ.t 23) = some i0 ∧ i0.zero = some z ∧ i0.size = size ∧ i0.bytes = bytes
  zs : z.cells.size = size
  zo : ∀ v ∈ z.cells.toList, v.oneCell' = true
  s0 : 0 < size

theorem zeroCells_one {cs : Array Value} {n : Nat} (h1 : ∀ v ∈ cs.toList, v.oneCell' = true) : ∀ v ∈ (Builtin.zeroCells cs n).toList, v.oneCell' = true := by
  intro v hv
  simp only [Builtin.zeroCells, Array.toList_map, Array.toList_range, List.mem_map, List.mem_range] at hv
  obtain ⟨i, hi, rfl⟩ := hv
  by_cases h0 : cs.size = 0
  · simp [h0] at hi
  · have : i % cs.size < cs.size := Nat.mod_lt _ (by omega)
    refine h1 _ ?_
    rw [getElem!_pos cs _ this]
    exact Array.getElem_mem_toList this

theorem run_clear_cells (w : World) (t e ty : TypeId) (z : Value) (ht : P.underlying t = some (.slice e)) (hv : ∀ w, (zeroValue e).run P w = .ok z w) (h1 : ∀ v ∈ z.cells.toList, v.oneCell' = true) (b o n c : Nat) (hn : 0 < n)
    (hc : ∀ j, j < n * z.cells.size → (w.cell? ⟨b, o + j, none⟩).isSome = true) (hf : ∀ j, j < n * z.cells.size → w.frozen? ⟨b, o + j, none⟩ = false) :
    (Builtin.clear_ #[t] ty #[.slice (some ⟨b, o, none⟩) n c]).run P w = .ok (.tuple #[]) (w.setCells b o (Builtin.zeroCells z.cells n).toList) := by
  have hl : (Builtin.zeroCells z.cells n).toList.length = n * z.cells.size := by simp [Builtin.zeroCells]
  have hst := run_storeCells_cells (P := P) b o (Builtin.zeroCells z.cells n).toList 0 w (by rw [hl]; simpa using hc) (by rw [hl]; simpa using hf) (zeroCells_one h1)
  simp only [Nat.add_zero] at hst
  obtain ⟨m, rfl⟩ : ∃ m, n = m + 1 := ⟨n - 1, by omega⟩
  simp [Builtin.clear_, run_underlying ht, hv, hst]

set_option maxHeartbeats 4000000 in
set_option maxRecDepth 1000000 in
theorem delete_run {size bytes : Nat} {z : Value} (L : DelL P ρ size bytes z) (blk n cap i j : Nat) (cs : List Value) (w : World) (hlt : i < j) (hj : j ≤ n) (hcap : n ≤ cap) (hm : cap ≤ 9223372036854775807) (hcl : cs.length = n * size)
    (hcs : ∀ j v, cs[j]? = some v → w.cell? ⟨blk, j, none⟩ = some v) (hfz : ∀ j, w.frozen? ⟨blk, j, none⟩ = false) (h1c : ∀ v ∈ cs, v.oneCell' = true) :
    Calls P (ρ.f 45) #[.slice (some ⟨blk, 0, none⟩) n cap, .int .i64 i, .int .i64 j] w fun e w' => e = .returned (.slice (some ⟨blk, 0, none⟩) (i + (n - j)) cap) ∧
      w' = (w.drew.setCells blk (0 + i * size) (cs.drop (j * size))).setCells blk (0 + (i + (n - j)) * size) (Builtin.zeroCells z.cells (n - (i + (n - j)))).toList := by
  have mixed := L.mixed; have t3 := L.t3; have a3 := L.a3; have z3 := L.z3; have v3 := L.v3; have t4 := L.t4; have a4 := L.a4; have z4 := L.z4; have v4 := L.v4; have t22 := L.t22; have a22 := L.a22; have z22 := L.z22; have v22 := L.v22; have z23 := L.z23
  obtain ⟨i0, hi0, _, hz1, _⟩ := L.i23
  obtain ⟨news, hnews⟩ : ∃ news, news = cs.drop (j * size) := ⟨_, rfl⟩
  have hjs : j * size ≤ n * size := Nat.mul_le_mul_right _ hj
  have his : i * size ≤ j * size := Nat.mul_le_mul_right _ (by omega)
  have hlen : news.length = (n - j) * size := by rw [hnews, List.length_drop, hcl, Nat.sub_mul]
  have hlen2 : (n - j) * size = n * size - j * size := Nat.sub_mul _ _ _
  have hget : ∀ t u, news[t]? = some u → w.cell? ⟨blk, j * size + t, none⟩ = some u := by
    intro t u hu
    rw [hnews, List.getElem?_drop] at hu
    exact hcs _ u hu
  have hsome : ∀ t, t < n * size → (w.cell? ⟨blk, t, none⟩).isSome = true := fun t ht => by rw [hcs t _ (List.getElem?_eq_getElem (by omega))]; rfl
  obtain ⟨A, hA, hsrc⟩ : ∃ A : Addr, (if cap = j then some (⟨blk, 0, none⟩ : Addr) else some ⟨blk, j * size, none⟩) = some A ∧ Hid (∀ t u, news[t]? = some u → w.drew.cell? (A.add t) = some u) := by
    by_cases h : cap = j
    · refine ⟨⟨blk, 0, none⟩, by simp [h], fun t u hu => ?_⟩
      have h0 : n - j = 0 := by omega
      rw [h0, Nat.zero_mul] at hlen
      rw [List.length_eq_zero_iff.1 hlen] at hu
      simp at hu
    · refine ⟨⟨blk, j * size, none⟩, by simp [h], fun t u hu => ?_⟩
      rw [Addr.add_lit]
      exact hget t u hu
  have s1 : Hid (news.length = (n - j) * size) := hlen
  have s2 : Hid (∀ u ∈ news, u.oneCell' = true) := by
    intro u hu
    rw [hnews] at hu
    exact h1c u (List.mem_of_mem_drop hu)
  have s3 : Hid (∀ t, t < news.length → (w.drew.cell? ⟨blk, 0 + i * size + t, none⟩).isSome = true ∧ w.drew.frozen? ⟨blk, 0 + i * size + t, none⟩ = false) := by
    intro t ht
    rw [hlen] at ht
    exact ⟨hsome _ (by omega), hfz _⟩
  obtain ⟨W1, hW1⟩ : ∃ W1, W1 = w.drew.setCells blk (0 + i * size) news := ⟨_, rfl⟩
  have hsome1 : ∀ t, t < n * size → (W1.cell? ⟨blk, t, none⟩).isSome = true := fun t ht => by
    rw [hW1]
    exact isSome_setCells blk news (0 + i * size) w.drew (fun q hq => hsome _ (by omega)) t (hsome t ht)
  have hcut : (i + (n - j)) * size + (n - (i + (n - j))) * size = n * size := by rw [← Nat.add_mul]; congr 1; omega
  have hcl2 : ∀ ty, (Builtin.clear_ #[ρ.t 22] ty #[.slice (some ⟨blk, (i + (n - j)) * size, none⟩) (n - (i + (n - j))) (cap - (i + (n - j)))]).run P W1 = .ok (.tuple #[]) (W1.setCells blk ((i + (n - j)) * size) (Builtin.zeroCells z.cells (n - (i + (n - j)))).toList) :=
    fun ty => run_clear_cells W1 _ _ ty z t22 L.v23 L.zo blk ((i + (n - j)) * size) _ _ (by omega) (fun t ht => by rw [L.zs] at ht; exact hsome1 _ (by omega)) (fun t ht => by rw [hW1, World.frozen?_setCells]; exact hfz _)
  have hW : Hid (W1 = w.drew.setCells blk (0 + i * size) news) := hW1
  have hic : i ≤ cap := by omega
  have hjc : j ≤ cap := by omega
  have h45 := L.f45
  rw [← hnews]
  clear hW1 hget hnews hlen hsome hsome1 hcut hlen2 hjs his hcs hfz
  obtain ⟨_, _, FG⟩ := h45
  go_enter FG, SlBodyN.n45_ntmps ρ
  go_wp2_with fail
  go_region_law_o (refine step_append_room rfl (.tmp 22) (.tmp 25) (ρ.t 22) rfl (ρ.t 23) i0 size t22 hi0 hz1 blk 0 i cap (by simp [Act.eval, Act.put]) A (n - j) (cap - j) news (by simp [Act.eval, Act.put]) s1.out hsrc.out s2.out (by omega) s3.out ?_; rw [← hW.out])
  go_wp2
  all_goals
    go_ret
    refine ⟨rfl, ?_⟩
    rw [Nat.zero_add, Nat.zero_add, hW.out, Nat.zero_add]
    first
      | rfl
      | (rename_i hx
         have hz : z.cells = #[z] := by
           cases z <;> first | rfl | exact (hx _ rfl).elim
         rw [hz])
end

open Go.Ab

theorem del_list (L cs Z : List Value) (A D N : Nat) (hA : A ≤ D) (hD : D ≤ N) (hcs : cs.length = N) (hL : N ≤ L.length) (hpre : L.take A = cs.take A) :
    ((L.take A ++ cs.drop D ++ L.drop (A + (cs.drop D).length)).take (A + (N - D)) ++ Z ++ (L.take A ++ cs.drop D ++ L.drop (A + (cs.drop D).length)).drop (A + (N - D) + Z.length)).take (A + (N - D)) = cs.take A ++ cs.drop D := by
  have hl : (cs.take A ++ cs.drop D).length = A + (N - D) := by simp; omega
  have e1 : (L.take A ++ cs.drop D ++ L.drop (A + (cs.drop D).length)).take (A + (N - D)) = cs.take A ++ cs.drop D := by
    rw [hpre, List.take_left' hl]
  rw [e1, List.append_assoc, List.take_left' hl]

theorem delete_c {ρ : Ren} {sz bytes : Nat} {z : Value} (L : DelL Tryd.prog ρ sz bytes z) {fn : Func} {xs : List D} {e i : Nat} (he : ρ.t 23 = e) (hf : Tryd.prog.funcs[ρ.f 45]? = some fn) (hname : (fn.name == "runtime.NumGoroutine") = false) (hbd : fn.body.isSome = true)
    (hi : i < xs.length) :
    CallR cx (ρ.f 45) [.row 0, .d (.int .i64 (i : Int)), .d (.int .i64 ((i + 1 : Nat) : Int))] [.own e sz xs] fun r S => r = .row 1 ∧ S = [.dead, .own e sz (xs.take i ++ xs.drop (i + 1))] := by
  subst he
  refine callR_raw (c := cx) hf hname hbd fun μ G w vals st hv => ?_
  obtain ⟨v0, v1, v2, rfl, a0, a1, a2⟩ := VS.three hv
  obtain ⟨_, rfl⟩ := ca_row_inv a0
  obtain rfl := (VA.d_iff.1 a1).int_inv
  obtain rfl := (VA.d_iff.1 a2).int_inv
  obtain ⟨cs, ho, hc, hs⟩ := st.blks 0 _ rfl
  have h1c := hc.oneCell
  have hcl : cs.length = xs.length * sz := D.eqLen hc hs
  have s0 := L.s0
  rcases ho.2 with ⟨_, q⟩ | ⟨g, cap, cur, q1, _, q2, q3, q4, q5, q6⟩
  · omega
  have hbid : bid (μ 0) = some g := by rw [q1]; rfl
  have hmx : maxLen ≤ 9223372036854775807 := by unfold maxLen; omega
  have hcur : ∀ j, w.cell? ⟨g, j, none⟩ = cur[j]? := fun j => by simp [World.cell?, q2]
  have hcs : ∀ j v, cs[j]? = some v → w.cell? ⟨g, j, none⟩ = some v := fun j v hj => by
    rw [hcur, ← Array.getElem?_toList]
    rw [← q6, List.getElem?_take] at hj
    split at hj
    · exact hj
    · cases hj
  have hA : i * sz ≤ (i + 1) * sz := Nat.mul_le_mul_right _ (by omega)
  have hD : (i + 1) * sz ≤ xs.length * sz := Nat.mul_le_mul_right _ (by omega)
  have hcap : xs.length * sz ≤ cap * sz := Nat.mul_le_mul_right _ q3
  have hdl : (cs.drop ((i + 1) * sz)).length = xs.length * sz - (i + 1) * sz := by rw [List.length_drop, hcl]
  have htk : cur.toList.take (i * sz) = cs.take (i * sz) := by rw [← q6, List.take_take, Nat.min_eq_left (by omega)]
  have en : i + (xs.length - (i + 1)) = xs.length - 1 := by omega
  have ez : xs.length - (xs.length - 1) = 1 := by omega
  have hB : (xs.length - 1) * sz = i * sz + (xs.length * sz - (i + 1) * sz) := by
    rw [← en, Nat.add_mul, Nat.sub_mul]
  have hZ : (Builtin.zeroCells z.cells 1).toList.length = sz := by simp [Builtin.zeroCells, L.zs]
  have hi1 : (i + 1) * sz = i * sz + sz := by rw [Nat.add_mul, Nat.one_mul]
  have run := delete_run L g xs.length cap i (i + 1) cs w (by omega) (by omega) q3 (by omega) hcl hcs (fun j => by simp [World.frozen?, q2]) h1c
  rw [en, ez] at run
  rw [q1]
  refine run.mono ?_
  rintro e w1 ⟨rfl, rfl⟩
  rw [Nat.zero_add, Nat.zero_add]
  have hdr : w.drew.heap[g]? = some (.cells cur (ρ.t 23) (0, 0)) := q2
  obtain ⟨r1, r2, r3, r4, r5, r6⟩ := setCells_row (cs.drop ((i + 1) * sz)) (i * sz) w.drew g cur (ρ.t 23) hdr (by rw [hdl]; omega)
  obtain ⟨p1, p2, p3, p4, p5, p6⟩ := setCells_row (Builtin.zeroCells z.cells 1).toList ((xs.length - 1) * sz) _ g _ (ρ.t 23) r1 (by simp only [List.size_toArray, List.length_append, List.length_take, List.length_drop, hZ, Array.length_toList]; omega)
  have hlen : (xs.take i ++ xs.drop (i + 1)).length = xs.length - 1 := by simp; omega
  have hheap : ∀ k, k < w.heap.size → bid (μ 0) ≠ some k → ((w.drew.setCells g (i * sz) (cs.drop ((i + 1) * sz))).setCells g ((xs.length - 1) * sz) (Builtin.zeroCells z.cells 1).toList).heap[k]? = w.heap[k]? := by
    intro k hk hne
    rw [hbid] at hne
    have hkg : k ≠ g := fun e => hne (by rw [e])
    rw [p6 k hkg, r6 k hkg]
    rfl
  have hcell : ∀ b o v, G b o → w.cell? ⟨b, o, none⟩ = some v → ((w.drew.setCells g (i * sz) (cs.drop ((i + 1) * sz))).setCells g ((xs.length - 1) * sz) (Builtin.zeroCells z.cells 1).toList).cell? ⟨b, o, none⟩ = some v := fun b o v hg hc => by
    rw [cell?_heap (hheap b (st.gv b o hg) (fun e => st.free 0 _ b rfl rfl e o (Nat.zero_le _) hg))]; exact hc
  have hCL : CL w G (xs.take i ++ xs.drop (i + 1)) (cs.take (i * sz) ++ cs.drop ((i + 1) * sz)) := by
    have h1 : xs = xs.take i ++ xs.drop i := (List.take_append_drop i xs).symm
    have h2 : xs = xs.take (i + 1) ++ xs.drop (i + 1) := (List.take_append_drop (i + 1) xs).symm
    have c1 : CL w G (xs.take i) (cs.take (i * sz)) := by
      rw [h1] at hc
      obtain ⟨p, q, hpq, c1, c2⟩ := CL.append_inv hc
      have hp : p.length = i * sz := by
        have := D.eqLen c1 (fun y hy => hs y (List.mem_of_mem_take hy))
        rw [this, List.length_take, Nat.min_eq_left (by omega)]
      rw [hpq, List.take_left' hp]
      exact c1
    have c2 : CL w G (xs.drop (i + 1)) (cs.drop ((i + 1) * sz)) := by
      rw [h2] at hc
      obtain ⟨p, q, hpq, c1, c2⟩ := CL.append_inv hc
      have hp : p.length = (i + 1) * sz := by
        have := D.eqLen c1 (fun y hy => hs y (List.mem_of_mem_take hy))
        rw [this, List.length_take, Nat.min_eq_left (by omega)]
      rw [hpq, List.drop_left' hp]
      exact c2
    exact c1.append c2
  have hsz : ∀ y ∈ xs.take i ++ xs.drop (i + 1), y.size = sz := by
    intro y hy
    rcases List.mem_append.1 hy with h | h
    · exact hs y (List.mem_of_mem_take h)
    · exact hs y (List.mem_of_mem_drop h)
  refine ⟨.slice (some ⟨g, 0, none⟩) (xs.length - 1) cap, .row 1, _, upd μ 1 (.slice (some ⟨g, 0, none⟩) (xs.length - 1) cap), G, rfl, ⟨rfl, rfl⟩, ownFor (v' := .slice (some ⟨g, 0, none⟩) (xs.length - 1) cap) st (by rw [p2, r2]; rfl) (by rw [p3, r3]; rfl) (by rw [p4, r4]; rfl) (by rw [p5, r5]; exact Nat.le_refl _) hheap (fun n hn => .inr (by rw [hbid]; exact hn))
    ⟨cs.take (i * sz) ++ cs.drop ((i + 1) * sz), ⟨?_, .inr ⟨g, cap, _, by rw [hlen], Nat.zero_le _, p1, by rw [hlen]; omega, q4, ?_, ?_⟩⟩, hCL.mono (fun _ _ h => h) hcell, hsz⟩, ?_⟩
  · rw [hlen, hB]; simp only [List.length_append, List.length_take, List.length_drop, hcl]; omega
  · simp only [List.size_toArray, List.length_append, List.length_take, List.length_drop, hZ, Array.length_toList]; omega
  · have := del_list cur.toList cs (Builtin.zeroCells z.cells 1).toList (i * sz) ((i + 1) * sz) (xs.length * sz) hA hD hcl (by simp; omega) htk
    rw [hlen, hB, List.toList_toArray, List.toList_toArray]
    exact this
  · exact VA.ra (VA.of_single (.row (by show 1 < 2; omega) (by simp [upd]) .nil) rfl) (fun l e => by cases e)
end Go.Proofs.YtmdfpifcghmpfaaDoor
