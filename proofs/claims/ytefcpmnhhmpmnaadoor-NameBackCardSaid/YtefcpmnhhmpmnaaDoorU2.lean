/- The library's decoder of one rune, in this logic. -/
import Derived.Test.YtefcpmnhhmpmnaaDoorCx
import Derived.Test.YtefcpmnhhmpmnaaDoorSh
import Derived.Test.YtefcpmnhhmpmnaaDoorU1
namespace Go.Proofs.YtefcpmnhhmpmnaaDoor
open Go.Ab Go.RowKit
theorem gl_reads {w : World} (h : Lib.Utf8Tabs 0 1 w) (hz : true = true → ∀ j, j < 64 → w.cell? ⟨7, j, none⟩ = some (.int .u8 (tzF j))) : ∀ g x, cx.glob g = some x → VD w (Old w) (.cptr x) (.pointer (some ⟨g, 0, none⟩)) := by
  obtain ⟨h1, h2⟩ := tabs_glob h
  intro g x hx
  change gl g = some x at hx
  unfold gl at hx
  split at hx
  · rename_i e
    obtain rfl := Nat.eq_of_beq_eq_true e
    cases hx
    exact h1
  · split at hx
    · rename_i e
      obtain rfl := Nat.eq_of_beq_eq_true e
      cases hx
      exact h2
    · split at hx
      · rename_i e
        have e := Bool.and_eq_true_iff.1 e
        have hq := hz e.2
        obtain rfl := Nat.eq_of_beq_eq_true e.1
        cases hx
        exact tab_glob hq (fun j hj => World.block_lt_of_cell? w _ (hq j hj))
      · cases hx

theorem decode_c {s : ByteArray} : CallR cx 41 [st s] [] fun r S => r = .tup [i32 (Lib.decodeGo s).1, i64 (Lib.decodeGo s).2] ∧ S = [] := by
  refine callR_below (c := cx) Tryd.func41 (by kernel_rfl) (by kernel_rfl) fun μ G w vals st hv => ?_
  obtain ⟨v, rfl, h1⟩ := VS.one hv
  have := (VA.d_iff.1 h1).str_inv
  subst this
  have hT : Lib.Utf8Tabs 0 1 w := glob_tabs (st.glob 0 _ rfl) (st.glob 1 _ rfl)
  refine (Tryd.utf8_DecodeRuneInString s w hT).mono ?_
  rintro e w' ⟨rfl, hb⟩
  exact ⟨_, rfl, ⟨_, rfl, .cons (VA.d_iff.2 VD.int) (.cons (VA.d_iff.2 VD.int) .nil)⟩, hb⟩

theorem extract_get! (s : ByteArray) (i k : Nat) : (s.extract i s.size).get! k = s.get! (i + k) := by
  rw [← getD_get!, ← getD_get!]
  have e : (s.extract i s.size).data.toList = s.data.toList.drop i := by
    rw [ByteArray.data_extract, Array.toList_extract, List.extract_eq_take_drop]
    refine List.take_of_length_le ?_
    rw [List.length_drop, Array.length_toList]
    exact Nat.le_refl _
  rw [e, List.getD_eq_getElem?_getD, List.getD_eq_getElem?_getD, List.getElem?_drop]

theorem decode_from {s : ByteArray} {i : Nat} (h : i < s.size) : Lib.decodeGo (s.extract i s.size) = Utf8.decode s i := by
  have hs : (s.extract i s.size).size = s.size - i := by rw [ByteArray.size_extract]; omega
  unfold Lib.decodeGo
  rw [if_neg (by omega), Lib.decode_at, Lib.decode_at, hs]
  simp only [extract_get!, Nat.sub_zero, Nat.add_zero, Nat.zero_add]

/-- Is there a stray at a place, where a rune was read? -/
theorem broken_c {s : ByteArray} {i : Nat} (h : i < s.size) : CallR cx 24 [st s, i64 (i : Int), i32 ((Utf8.decode s i).1 : Int)] [] fun r S => r = bo (stray s i) ∧ S = [] := by
  have hd := decode_c (s := s.extract i s.size)
  rw [decode_from h] at hd
  generalize hk : Utf8.decode s i = d at *
  obtain ⟨r, n⟩ := d
  simp only at hd ⊢
  have hst : stray s i = (decide ((r : Int) = 65533) && decide ((n : Int) = 1)) := by
    unfold stray
    rw [hk]
    have e : ((r, n) = ((65533, 1) : Nat × Nat)) = (((r : Int) = 65533) ∧ ((n : Int) = 1)) := by
      refine propext ⟨fun h => ?_, fun h => ?_⟩
      · cases h; exact ⟨rfl, rfl⟩
      · have h1 : r = 65533 := by omega
        have h2 : n = 1 := by omega
        rw [h1, h2]
    simp only [e, Bool.decide_and]
  rw [hst]
  generalize hr : (r : Int) = R at *
  generalize hn : (n : Int) = M at *
  refine callR_of (R := R1) cx_ok Tryd.func24 (by kernel_rfl) rfl ?_
  conv => whnf
  refine brec (fun h1 => ?_) (fun h1 => ?_)
  · have h1 : ¬ R = 65533 := by simpa using h1
    rw [decide_eq_false h1]
    conv => whnf
    exact ⟨rfl, rfl⟩
  · have h1 : R = 65533 := by simpa using h1
    subst h1
    conv => whnf
    refine ⟨⟨by omega, by show (i : Int) ≤ _; omega, Int.le_refl _⟩, ?_⟩
    conv => whnf
    refine ⟨_, hd, ?_⟩
    rintro _ _ ⟨rfl, rfl⟩
    conv => whnf
    exact ⟨rfl, rfl⟩
end Go.Proofs.YtefcpmnhhmpmnaaDoor
