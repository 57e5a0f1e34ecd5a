/- The law PostBack. -/
import Derived.Test.YtboohfijacjhjaaPF
set_option linter.unusedVariables false
namespace Go.Proofs.Ytboohfijacjhjaa
open Go.Ab Go.RowKit

theorem its_of : ∀ {ys : List D}, (∀ y ∈ ys, tyIt.has y) → ∃ l : List It, ys = its l ∧ ∀ i ∈ l, i.to < 4294967296
  | [], _ => ⟨[], rfl, by simp⟩
  | y :: ys, h => by
    obtain ⟨l, rfl, h2⟩ := its_of fun z hz => h z (List.mem_cons_of_mem _ hz)
    obtain ⟨b, rfl, h3⟩ := it_of (h y List.mem_cons_self)
    exact ⟨b :: l, rfl, fun z hz => by rcases List.mem_cons.1 hz with rfl | hz; exact h3; exact h2 z hz⟩

abbrev tyPo : Ty := .st [.sl 2 tyIt]
theorem po_of {x : D} (h : tyPo.has x) : ∃ l : List It, x = pod l ∧ ∀ i ∈ l, i.to < 4294967296 := by
  obtain ⟨_, rfl, _, _, rfl, ⟨ys, rfl, _, h2⟩, rfl⟩ := h
  obtain ⟨l, rfl, h3⟩ := its_of h2
  exact ⟨l, rfl, h3⟩

theorem take_last {l : List It} {i : It} : takeP (l ++ [i]) (l.length : Int) = (l, i, true) := by
  have hi : inB (l ++ [i]) (l.length : Int) := ⟨by omega, by rw [List.length_append]; show (l.length : Int) < ((l.length + 1 : Nat) : Int); omega⟩
  unfold takeP
  rw [if_pos hi, Int.toNat_natCast, List.take_left' rfl, List.drop_eq_nil_of_le (by simp), List.append_nil, List.getD_eq_getElem?_getD, List.getElem?_append_right (Nat.le_refl _), Nat.sub_self]
  rfl

theorem twice_last {l : List It} {i : It} : twiceP (l ++ [i]) (l.length : Int) = if 255 ≤ l.length then (l ++ [i], 6) else (l ++ [i, i], 0) := by
  have hi : inB (l ++ [i]) (l.length : Int) := ⟨by omega, by rw [List.length_append]; show (l.length : Int) < ((l.length + 1 : Nat) : Int); omega⟩
  have hn : (l ++ [i]).length = l.length + 1 := by simp
  unfold twiceP
  rw [if_pos hi]
  by_cases h : 255 ≤ l.length
  · rw [if_pos h, if_pos (by omega)]
  · rw [if_neg h, if_neg (by omega), Int.toNat_natCast, List.take_of_length_le (by omega), List.drop_eq_nil_of_le (by omega), List.getD_eq_getElem?_getD, List.getElem?_append_right (Nat.le_refl _), Nat.sub_self]
    simp

theorem postBack_c (ys : List D) (hy : Ty.hass [tyPo, .int .u32, tyAn] ys) : CallR cx 5 (ys.map AV.d) [] fun r S => r = .d (.bool true) ∧ S = [] := by
  obtain ⟨_, _, rfl, hp, _, _, rfl, ⟨h, rfl, wh⟩, _, _, rfl, ha, rfl⟩ := hy
  obtain ⟨l, rfl, _⟩ := po_of hp
  obtain ⟨h, rfl, hh⟩ := wf_u32 wh
  obtain ⟨x, rfl, hx⟩ := an_of ha
  have lx0 := clight_c (x := x)
  have fw0 := few_c (l := l)
  have lx := lx0.mono fun r S ⟨b, h1, h2, h3⟩ => (⟨b, h1, h3⟩ : ∃ b, r = bo b ∧ S = [])
  have fw := fw0.mono fun r S ⟨b, h1, h2, h3⟩ => (⟨b, h1, h3⟩ : ∃ b, r = bo b ∧ S = [])
  by_cases hl : l.length ≤ 260
  case neg => exact pbk_no1 (fw0.mono fun r S ⟨b, h1, h2, h3⟩ => ⟨by cases b with | false => exact h1 | true => exact absurd (h2 rfl) hl, h3⟩)
  by_cases hlx : x.light
  case neg => exact pbk_no2 fw (lx0.mono fun r S ⟨b, h1, h2, h3⟩ => ⟨by cases b with | false => exact h1 | true => exact absurd (h2 rfl) hlx, h3⟩)
  have fx := An.fit hx hlx
  have sn := send_c (l := l) (h := h) (c := x.cl) (by omega) fx
  unfold sendP at sn
  by_cases he : x.cl.cE = 0
  case neg =>
    rw [if_neg he] at sn
    exact pbk_er he fw lx cto_c sn (to_c (by omega)) (plsame_c (by omega))
  rw [if_pos he] at sn
  by_cases hf : 256 ≤ l.length
  case pos =>
    rw [if_pos hf] at sn
    exact pbk_er (e := 6) (by decide) fw lx cto_c sn (to_c (by omega)) (plsame_c (by omega))
  rw [if_neg hf] at sn
  have hn : (l ++ [(⟨h, x.cl.cS⟩ : It)]).length = l.length + 1 := by simp
  have tk := take_c (l := l ++ [⟨h, x.cl.cS⟩]) (i := (l.length : Int)) (by omega)
  have tw := twice_c (l := l ++ [⟨h, x.cl.cS⟩]) (i := (l.length : Int)) (by omega)
  have op := popen_c (i := ⟨h, x.cl.cS⟩) (Cl.cS_size fx)
  rw [take_last] at tk
  have el := its_len l
  rw [← el] at tk
  refine pbk_yes (H := its l) (M := its (l ++ [⟨h, x.cl.cS⟩])) (Q := its (twiceP (l ++ [⟨h, x.cl.cS⟩]) (l.length : Int)).1) (q := decide (0 < x.cl.tag) && decide (x.cl = (readC x.cl.cS).1)) (by rw [its_len, its_len]; exact hn) fw lx cto_c sn tk op (by rw [el]; exact tw) (csame_c fx (readC_fit _)) (to_c (by omega)) (plsame_c (by omega)) ?_ (by omega) ?_
  · intro a1 a2 a3 a4 a5 e2
    exact back_same fx (small_of (shr32 hx.sig a1) (shr32 hx.u.2.2.2.1 a2) (shr32 hx.v.2.2.2.1 a3) (shr32 hx.s.2.2.2.1 a4) (shr32 hx.s.2.2.1 a5)) he e2
  · rw [el, twice_last]
    by_cases h5 : 255 ≤ l.length
    · rw [if_pos h5]
      exact .inr ⟨rfl, h5⟩
    · rw [if_neg h5]
      refine .inl ⟨rfl, by rw [its_len]; simp, ?_, ?_⟩
      · show (its (l ++ [_, _])).getD _ _ = _
        rw [its_getD (by simp), List.getD_eq_getElem?_getD, List.getElem?_append_right (Nat.le_refl _), Nat.sub_self]
        rfl
      · show (its (l ++ [_, _])).getD _ _ = _
        rw [its_getD (by simp), List.getD_eq_getElem?_getD, List.getElem?_append_right (by omega), show l.length + 1 - l.length = 1 by omega]
        rfl
end Go.Proofs.Ytboohfijacjhjaa
