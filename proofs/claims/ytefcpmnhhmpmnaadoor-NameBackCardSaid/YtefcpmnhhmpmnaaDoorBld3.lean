/- strings.Builder: the contracts. -/
import Derived.Test.YtefcpmnhhmpmnaaDoorBld2
namespace Go.Proofs.YtefcpmnhhmpmnaaDoor
open Go.Ab Go.RowKit

/-- What a builder's store means. -/
theorem bd_inv {B : Base} {μ G w} {p : AV} {s : ByteArray} (st : St B (bd p s) μ G w) (hp : p = .d .nilP ∨ p = .ptr 0 []) :
    ∃ b pv, μ 0 = .pointer (some ⟨b, 0, none⟩) ∧ w.heap[b]? = some (.cells #[pv, μ 1] 44 (0, 0)) ∧ ((p = .d .nilP ∧ pv = .pointer none) ∨ (p = .ptr 0 [] ∧ pv = .pointer (some ⟨b, 0, none⟩))) ∧
      w.ownsRowF 0 5 1 (μ 1) s.size (Lib.strCells s) := by
  obtain ⟨b, cs, h1, h2, h3⟩ := st.blks 0 _ rfl
  obtain ⟨cs', g1, g2, _, _⟩ := st.blks 1 _ rfl
  have e := CL.bytes (l := s.data.toList) g2
  have e : cs' = Lib.strCells s := e
  subst e
  rw [bytes_length] at g1
  generalize hcs : cs.toList = l at h3
  cases h3 with
  | agg h4 h5 =>
    cases h5
    rw [List.append_nil] at hcs
    rcases hp with rfl | rfl
    · cases h4 with
      | d h6 h7 =>
        cases h6 with
        | nilP h8 =>
          cases h8
          cases h7 with
          | row q1 q2 q3 =>
            cases q3
            rw [← q2] at hcs
            refine ⟨b, _, h1, ?_, .inl ⟨rfl, rfl⟩, g1⟩
            rw [h2]
            congr 2
            exact Array.toList_inj.1 hcs
    · cases h4 with
      | ptr q0 q1 q2 q3 =>
        cases q3 with
        | row q4 q5 q6 =>
          cases q6
          rw [← q5] at hcs
          replace q1 := q1.nil
          rw [h1] at q1
          cases q1
          refine ⟨b, _, h1, ?_, .inr ⟨rfl, rfl⟩, g1⟩
          rw [h2]
          congr 2
          exact Array.toList_inj.1 hcs

theorem bd_row {B : Base} {μ G w} {p : AV} {s : ByteArray} (st : St B (bd p s) μ G w) {w' : World} (hc : ∀ b o v, G b o → w.cell? ⟨b, o, none⟩ = some v → w'.cell? ⟨b, o, none⟩ = some v) (h : w'.ownsRowF 0 5 1 (μ 1) s.size (Lib.strCells s)) :
    BlkOk μ (bd p s).length w' G (μ 1) (.row 5 1 (D.bytes s)) := by
  obtain ⟨cs', g1, g2, g3, g4⟩ := st.blks 1 _ rfl
  have e : cs' = Lib.strCells s := CL.bytes (l := s.data.toList) g2
  subst e
  exact ⟨_, by rw [bytes_length]; exact h, g2.mono (fun _ _ h => h) hc, g3, g4⟩

theorem copyCheck_c {p : AV} {s : ByteArray} (hp : p = .d .nilP ∨ p = .ptr 0 []) : CallR cx 42 [.ptr 0 []] (bd p s) fun r S => r = .tup [] ∧ S = bd (.ptr 0 []) s := by
  refine callR_raw (c := cx) Tryd.func42 (by kernel_rfl) (by kernel_rfl) fun μ G w vals st hv => ?_
  obtain ⟨b, rfl, hμ⟩ := VS.ptr0 hv
  obtain ⟨b', pv, h1, h2, h3, h4⟩ := bd_inv st hp
  rw [hμ] at h1
  cases h1
  have hra : ∀ (μ : Nat → Value) (k : Nat) (w : World) (G : Nat → Nat → Prop), RA μ k w G (.tup []) (.tuple #[]) := fun μ k w G => ⟨[], rfl, .nil⟩
  rcases h3 with ⟨rfl, rfl⟩ | ⟨rfl, rfl⟩
  · refine (raw_copy_fresh b w (by rw [Lib.cell_of_heap h2]; rfl) (by simp [World.shape?, h2]) (Lib.frozen_of_heap h2 0)).mono ?_
    rintro e w' ⟨rfl, rfl⟩
    have hset : w.setCell ⟨b, 0, none⟩ (.pointer (some ⟨b, 0, none⟩)) = w.setRow b #[.pointer (some ⟨b, 0, none⟩), μ 1] := by
      rw [setCell_eq_setRow w b 0 _ _ _ _ h2]; rfl
    refine ⟨_, _, bd (.ptr 0 []) s, μ, G, rfl, ⟨rfl, rfl⟩, ?_, hra _ _ _ _⟩
    rw [hset]
    have hrow : μ 1 = μ 1 := rfl
    refine st.write (n := 0) (g := b) (b' := .tvar 44 (.agg [.ptr 0 [], .row 1])) rfl rfl rfl rfl rfl (by rw [hμ]; rfl) (setRow_next w b _) ?_
    refine ⟨b, _, hμ, setRow_heap w b _ _ _ _ h2, ?_⟩
    have hsl : ∃ a l c, μ 1 = .slice a l c := by
      rcases h4.2 with ⟨q, _⟩ | ⟨_, _, _, _, q, _⟩
      · exact ⟨_, _, _, q⟩
      · exact ⟨_, _, _, q⟩
    obtain ⟨a, l, c, hs⟩ := hsl
    rw [hs]
    have : CA μ 2 (w.setRow b #[.pointer (some ⟨b, 0, none⟩), .slice a l c]) G [.ptr 0 [], .row 1] [.pointer (some ⟨b, 0, none⟩), .slice a l c] :=
      .ptr (p := []) (by omega) (.inl hμ) (fun s hs => by cases hs) (.row (by omega) hs .nil)
    simpa using CA.agg this .nil
  · refine (raw_copy_used b w (by rw [Lib.cell_of_heap h2]; rfl)).mono ?_
    rintro e w' ⟨rfl, rfl⟩
    exact ⟨_, _, _, μ, G, rfl, ⟨rfl, rfl⟩, st, hra _ _ _ _⟩

theorem string_c {p : AV} {s : ByteArray} (hp : p = .d .nilP ∨ p = .ptr 0 []) : CallR cx 32 [.ptr 0 []] (bd p s) fun r S => r = AV.d (.str s) ∧ S = bd p s := by
  refine callR_raw (c := cx) Tryd.func32 (by kernel_rfl) (by kernel_rfl) fun μ G w vals st hv => ?_
  obtain ⟨b, rfl, hμ⟩ := VS.ptr0 hv
  obtain ⟨b', pv, h1, h2, _, h4⟩ := bd_inv st hp
  rw [hμ] at h1
  cases h1
  have hra : ∀ (x : ByteArray), x = s → ∀ (μ : Nat → Value) (k : Nat) (w : World) (G : Nat → Nat → Prop), RA μ k w G (.d (.str s)) (.string x) := fun x e μ k w G => by subst e; exact VD.str.ra
  have quiet : ∀ w' : World, Ab.Next w w' none → St (base cx (bd p s) μ G w) (bd p s) μ G w' := fun w' h => st.quiet h
  have hem : s.size = 0 → (⟨#[]⟩ : ByteArray) = s := fun h => (size0 h).symm
  rcases h4.2 with ⟨q1, q2⟩ | ⟨g, cap, cur, fz, q1, _, q3, q4, q5, q6, q7, q8⟩
  · rw [q1] at h2
    refine (raw_string_nil b pv w h2).mono ?_
    rintro e w' ⟨rfl, rfl⟩
    exact ⟨_, _, _, μ, G, rfl, ⟨rfl, rfl⟩, quiet _ ⟨rfl, rfl, rfl, Nat.le_refl _, fun _ _ _ => rfl⟩, hra _ (hem q2) _ _ _ _⟩
  · rw [q1] at h2
    by_cases hz : s.size = 0
    · rw [hz] at h2
      by_cases hc : cap = 0
      · subst hc
        refine (raw_string_noroom b g pv cur fz w h2 q3).mono ?_
        rintro e w' ⟨rfl, hn⟩
        exact ⟨_, _, _, μ, G, rfl, ⟨rfl, rfl⟩, quiet _ hn, hra _ (hem hz) _ _ _ _⟩
      · refine (raw_string_room b g cap pv w hc h2).mono ?_
        rintro e w' ⟨rfl, rfl⟩
        exact ⟨_, _, _, μ, G, rfl, ⟨rfl, rfl⟩, quiet _ ⟨rfl, rfl, rfl, Nat.le_refl _, fun _ _ _ => rfl⟩, hra _ (hem hz) _ _ _ _⟩
    · have hlen : s.data.toList.length = s.size := Array.length_toList
      have hne : s.data.toList ≠ [] := by intro e; rw [e] at hlen; simp at hlen; omega
      rw [Nat.mul_one] at q7 q4
      refine (raw_string_some b g cap pv cur fz s.data.toList w hne (by rw [hlen]; exact h2) q3 (by omega) q6 q7 ?_).mono ?_
      · intro j x hx
        have := h4.cells (g := g) (by rw [q1]; rfl) j (.int .u8 x.toNat) (by unfold Lib.strCells; rw [List.getElem?_map, hx]; rfl)
        exact this
      · rintro e w' ⟨rfl, rfl⟩
        obtain ⟨fz', f1, f2⟩ := freeze_heap (n := s.data.toList.length) (show w.drew.heap[g]? = some (.cells cur 5 fz) from q3)
        have hn : Ab.Next w (w.drew.freeze ⟨g, 0, none⟩ s.data.toList.length) (some g) := (freeze_next w.drew g _).ofDrew
        have hcell : ∀ o, (w.drew.freeze ⟨g, 0, none⟩ s.data.toList.length).cell? ⟨g, o, none⟩ = w.cell? ⟨g, o, none⟩ := fun o => by
          rw [Lib.cell_of_heap f1, Lib.cell_of_heap q3]
        refine ⟨_, _, _, μ, G, rfl, ⟨rfl, rfl⟩, st.turn (n := 1) (g := g) rfl rfl (by rw [q1]; rfl) hn hcell ?_, hra _ (by cases s; rfl) _ _ _ _⟩
        refine bd_row st (hn.cells st.gv (fun k hk o v _ hv => by cases hk; rw [hcell]; exact hv)) ⟨h4.1, .inr ⟨g, cap, cur, fz', q1, Nat.zero_le _, f1, ?_, q5, q6, by rw [Nat.mul_one]; exact q7, q8⟩⟩
        rw [Nat.mul_one, ← hlen]
        exact f2 (by omega)

theorem writeString_c {p : AV} {s t : ByteArray} (hp : p = .d .nilP ∨ p = .ptr 0 []) (hb : s.size + t.size ≤ 140737488355328) : CallR cx 37 [.ptr 0 [], .d (.str t)] (bd p s) fun r S =>
    r = .tup [.d (.int .i64 t.size), .d .nilI] ∧ S = [.tvar 44 (.agg [.ptr 0 [], .row 2]), .sealed (.sl 1 (D.bytes s)), .row 5 1 (D.bytes (s ++ t))] := by
  have cc := copyCheck_c (p := p) (s := s) hp
  unfold bd at cc ⊢
  rw [bytes_append]
  have hl := bytes_length s
  generalize D.bytes s = xs at *
  have go : ∀ q : AV, CallR cx 42 [.ptr 0 []] [.tvar 44 (.agg [q, .row 1]), .row 5 1 xs] (fun r S => r = .tup [] ∧ S = [.tvar 44 (.agg [.ptr 0 [], .row 1]), .row 5 1 xs]) →
      (q = .d .nilP ∨ q = .ptr 0 []) → CallR cx 37 [.ptr 0 [], .d (.str t)] [.tvar 44 (.agg [q, .row 1]), .row 5 1 xs] fun r S =>
    r = .tup [.d (.int .i64 t.size), .d .nilI] ∧ S = [.tvar 44 (.agg [.ptr 0 [], .row 2]), .sealed (.sl 1 xs), .row 5 1 (xs ++ D.bytes t)] := by
    rintro q cc (rfl | rfl) <;>
    · refine callR_of (R := R1) cx_ok Tryd.func37 (by kernel_rfl) rfl ?_
      conv => whnf
      refine ⟨_, cc, ?_⟩
      rintro _ _ ⟨rfl, rfl⟩
      conv => whnf
      refine ⟨by rw [hl]; exact hb, ?_⟩
      conv => whnf
      exact ⟨rfl, rfl⟩
  exact go p cc hp
end Go.Proofs.YtefcpmnhhmpmnaaDoor
