/- Ledgers: the program's Open. -/
import Derived.Test.YtmdfpifcghmpfaaDoorLJ
namespace Go.Proofs.YtmdfpifcghmpfaaDoor
open Go.Shelf Go.Ab Go.RowKit

/-- Where an account more has its place. -/
theorem idx_ins : ∀ (l : List Ac) (b : Ac) (k : Nat), (idxOf (fun a => decide (ordN a.name b.name > 0)) l k = -1 ∧ insA l b = l ++ [b]) ∨
    ∃ j, j < l.length ∧ idxOf (fun a => decide (ordN a.name b.name > 0)) l k = ((k + j : Nat) : Int) ∧ insA l b = l.take j ++ b :: l.drop j
  | [], b, k => .inl ⟨rfl, rfl⟩
  | a :: l, b, k => by
    have ht : ordN a.name b.name = - ordN b.name a.name := ordL_turn _ _
    by_cases e : ordN a.name b.name > 0
    · refine .inr ⟨0, by simp, by rw [idxOf, if_pos (decide_eq_true e)]; rfl, ?_⟩
      rw [insA, if_pos (by omega)]
      rfl
    · have e1 : idxOf (fun a => decide (ordN a.name b.name > 0)) (a :: l) k = idxOf (fun a => decide (ordN a.name b.name > 0)) l (k + 1) := by rw [idxOf, if_neg (by rw [decide_eq_false e]; decide)]
      have e2 : insA (a :: l) b = a :: insA l b := by rw [insA, if_neg (by omega)]
      rcases idx_ins l b (k + 1) with ⟨h1, h2⟩ | ⟨j, h, h1, h2⟩
      · exact .inl ⟨by rw [e1, h1], by rw [e2, h2]; rfl⟩
      · exact .inr ⟨j + 1, by simpa using h, by rw [e1, h1]; congr 1; omega, by rw [e2, h2]; rfl⟩

theorem open_c {l : Lg} {who : ByteArray} {key : List D} {n : Int} (hl : l.ok) (hn : ∀ a ∈ l.accs, a.name.size ≤ 200) (hw : who.size ≤ 200) :
    CallR cx 51 [.d l.d, st who, .d (.arr 32 1 key), u64 n] [] fun r S => r = .tup [.d (openL l who key n).1.d, i64 (openL l who key n).2] ∧ S = [] := by
  have rc := right_c (s := who) (by omega)
  have at' := at_c (who := who) hl.2.2
  have hix := idx_look l.accs who 0
  have hax := idx_ins l.accs ⟨who, key, 0, n⟩ 0
  have ix := indexFunc2_c (who := who) hl.2.2 hn hw
  have c1 := cloneA_c (l := l.accs) hl.2.2
  have hll := hl.2.2
  obtain ⟨h, t, g, al, es⟩ := l
  simp only at hn hix ix c1 hll hax
  have hlen : (acs al).length = al.length := List.length_map _
  have ins : ∀ i, i ≤ al.length → _ := fun i hi => insertA_c (l := al) (b := ⟨who, key, 0, n⟩) (i := i) hi hll
  unfold openL
  simp only
  unfold atN at at'
  simp only at at'
  cases q : rightT who with
  | false =>
    rw [q] at rc
    rw [if_pos rfl]
    refine callR_of (R := R1) cx_ok Tryd.func51 (by kernel_rfl) rfl ?_
    conv => whnf
    refine ⟨_, rc, ?_⟩
    rintro _ _ ⟨rfl, rfl⟩
    conv => whnf
    exact ⟨rfl, rfl⟩
  | true =>
    rw [q] at rc
    rw [if_neg (by decide)]
    rcases hix with ⟨h1, h2⟩ | ⟨j, hj, h1, h2, h3, h4⟩
    · rw [h1] at at'
      rw [h2]
      simp only
      refine callR_of (R := R1) cx_ok Tryd.func51 (by kernel_rfl) rfl ?_
      conv => whnf
      refine ⟨_, rc, ?_⟩
      rintro _ _ ⟨rfl, rfl⟩
      conv => whnf
      refine ⟨_, at', ?_⟩
      rintro _ _ ⟨rfl, rfl⟩
      conv => whnf
      refine brec (fun h5 => ?_) (fun h5 => ?_)
      · have h5 := of_decide_eq_true h5
        rw [hlen] at h5
        rw [if_pos (by omega)]
        conv => whnf
        exact ⟨rfl, rfl⟩
      · have h5 := of_decide_eq_false h5
        rw [hlen] at h5
        rw [if_neg (by omega)]
        conv => whnf
        refine ⟨_, ix, ?_⟩
        rintro _ _ ⟨rfl, rfl⟩
        rcases hax with ⟨g1, g2⟩ | ⟨j, hj, g1, g2⟩
        · rw [g1, g2]
          have ins0 := ins al.length (Nat.le_refl _)
          rw [List.take_length, List.drop_length] at ins0
          obtain ⟨M, hM⟩ : ∃ M, M = al ++ [(⟨who, key, 0, n⟩ : Ac)] := ⟨_, rfl⟩
          rw [← hM] at ins0 ⊢
          rw [← hlen] at ins0
          conv => whnf
          refine ⟨by kernel_rfl, ?_⟩
          conv => whnf
          refine ⟨_, _, _, c1, ?_⟩
          conv => whnf
          refine ⟨_, _, _, ins0, ?_⟩
          conv => whnf
          refine ⟨by kernel_rfl, ?_⟩
          conv => whnf
          exact ⟨rfl, rfl⟩
        · rw [g1, g2, Nat.zero_add]
          have ins0 := ins j (by omega)
          obtain ⟨M, hM⟩ : ∃ M, M = al.take j ++ (⟨who, key, 0, n⟩ : Ac) :: al.drop j := ⟨_, rfl⟩
          rw [← hM] at ins0 ⊢
          generalize hJ : (j : Int) = J at *
          conv => whnf
          refine brF (decide_eq_false (by omega)) ?_
          conv => whnf
          refine ⟨by kernel_rfl, ?_⟩
          conv => whnf
          refine ⟨_, _, _, c1, ?_⟩
          conv => whnf
          refine ⟨_, _, _, ins0, ?_⟩
          conv => whnf
          refine ⟨by kernel_rfl, ?_⟩
          conv => whnf
          exact ⟨rfl, rfl⟩
    · rw [h1, Nat.zero_add] at at'
      rw [h2]
      simp only
      generalize hJ : (j : Int) = J at *
      refine callR_of (R := R1) cx_ok Tryd.func51 (by kernel_rfl) rfl ?_
      conv => whnf
      refine ⟨_, rc, ?_⟩
      rintro _ _ ⟨rfl, rfl⟩
      conv => whnf
      refine ⟨_, at', ?_⟩
      rintro _ _ ⟨rfl, rfl⟩
      conv => whnf
      refine brT (decide_eq_true (by omega)) ?_
      conv => whnf
      exact ⟨rfl, rfl⟩
end Go.Proofs.YtmdfpifcghmpfaaDoor
