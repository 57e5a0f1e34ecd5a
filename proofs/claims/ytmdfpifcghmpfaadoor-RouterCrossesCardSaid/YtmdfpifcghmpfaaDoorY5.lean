/- Routers: the chapter's example; texts that are light. -/
import Derived.Test.YtmdfpifcghmpfaaDoorYA
set_option linter.unusedVariables false
namespace Go.Proofs.YtmdfpifcghmpfaaDoor
open Go.Ab Go.RowKit

theorem rlight_c {l : List ByteArray} (hl : l.length ≤ 100) : CallR cx 48 [.d (.sl 1 (l.map D.str))] [] fun r S => ∃ b, r = bo b ∧ (b = true → ∀ s ∈ l, s.size ≤ 1000) ∧ S = [] := by
  have hlen : (l.map D.str).length = l.length := List.length_map _
  refine callR_of (R := R1) cx_ok Tryd.func48 (by kernel_rfl) rfl ?_
  conv => whnf
  refine .inl ⟨fun m L S => ∃ (j : Nat), (∀ s ∈ l.take j, s.size ≤ 1000) ∧ j ≤ l.length ∧ m = l.length - j ∧
      L = [(5, .d (.sl 1 (l.map D.str))), (6, i64 (((l.map D.str).length : Nat) : Int)), (7, i64 (j : Int))] ∧ S = [],
    ⟨_, _, ⟨0, by simp, Nat.zero_le _, rfl, rfl, rfl⟩, ⟨rfl, rfl, rfl, trivial⟩⟩, ?_⟩
  rintro _ _ _ ⟨j, h1, hj, rfl, rfl, rfl⟩
  conv => whnf
  refine brec (fun h4 => ?_) (fun h4 => ?_)
  · have h4 := of_decide_eq_true h4
    rw [hlen] at h4
    have hlt : j < l.length := by omega
    have hgd : (l.map D.str).getD (j : Int).toNat .nilP = .str (l[j]'hlt) := by
      rw [Int.toNat_natCast, List.getD_eq_getElem?_getD, List.getElem?_map, List.getElem?_eq_getElem hlt]; rfl
    have h2 : ∀ s ∈ l.take (j + 1), s.size ≤ 1000 ∨ s = l[j]'hlt := by
      intro s hs
      rw [List.take_succ_eq_append_getElem hlt] at hs
      rcases List.mem_append.1 hs with hs | hs
      · exact .inl (h1 s hs)
      · exact .inr (List.mem_singleton.1 hs)
    conv => whnf
    refine ⟨⟨by omega, by rw [hlen]; omega⟩, ?_⟩
    rw [hgd]
    generalize l[j]'hlt = a at *
    have e3 : IntKind.i64.wrap ((j : Int) + 1) = ((j + 1 : Nat) : Int) := by rw [w64 (by omega)]; omega
    conv => whnf
    by_cases c : (a.size : Int) > 1000
    · refine brT (decide_eq_true c) ?_
      conv => whnf
      exact ⟨false, rfl, by simp, rfl⟩
    · refine brF (decide_eq_false c) ?_
      conv => whnf
      exact ⟨_, _, 0, (by omega : l.length - (j + 1) < l.length - j), ⟨j + 1, fun s hs => (h2 s hs).elim id (fun e => by rw [e]; omega), by omega, rfl, rfl, rfl⟩, ⟨rfl, rfl, congrArg (fun z => some (i64 z)) e3, trivial⟩, rfl⟩
  · have h4 := of_decide_eq_false h4
    rw [hlen] at h4
    obtain rfl : j = l.length := by omega
    rw [List.take_length] at h1
    conv => whnf
    exact ⟨true, rfl, fun _ => h1, rfl⟩

theorem say_c {a b : ByteArray} {z1 z2 : D} (ha : a.size < 100000) (hb : b.size < 100000) : CallR cx 91 [.d (.agg [.str a, .str b, z1, z2])] [] fun r S => r = .tup [st (Pl.sy a b).outS, i64 (Pl.sy a b).outE] ∧ S = [] := by
  have bc := bytes_c (p := .sy a b) ⟨ha, hb⟩
  generalize (Pl.sy a b).outS = X at *
  generalize (Pl.sy a b).outE = Y at *
  refine callR_of (R := R1) cx_ok Tryd.func91 (by kernel_rfl) rfl ?_
  conv => whnf
  refine ⟨_, bc, ?_⟩
  rintro _ _ ⟨rfl, rfl⟩
  conv => whnf
  exact ⟨rfl, rfl⟩

def aB : ByteArray := ⟨#[97]⟩
def hiB : ByteArray := ⟨#[104, 105]⟩
theorem sayRight : (Pl.sy aB hiB).right = true := by decide +kernel

theorem awake18_c : CallR cx 42 [] [] fun r S => r = bo true ∧ S = [] := by
  have hc := hand_no (T := []) (H := []) (here := 1) (f := 2) (q := 0) (t := 1) (remote := ⟨#[98]⟩) (s := aB) (r := rtB) (b := .empty) (.inr (.inl (by decide)))
  have sc := say_c (a := aB) (b := hiB) (z1 := .int .u64 0) (z2 := .agg [.int .i64 0, .sl 32 [], .sl 32 [], .sl 32 []]) (by decide) (by decide)
  have e1 : (Pl.sy aB hiB).outS = (Pl.sy aB hiB).bytes := if_pos sayRight
  have e2 : (Pl.sy aB hiB).outE = 0 := (if_neg (show ¬ (2 : Int) = 0 by decide)).trans (if_pos sayRight)
  have e3 : (Pl.sy aB hiB).bytes.size = 12 := by
    unfold Pl.bytes
    simp only [ByteArray.size_append, textB_size, bigB_size]
    rfl
  rw [e1, e2] at sc
  generalize (Pl.sy aB hiB).bytes = X at *
  refine callR_of (R := R1) cx_ok Tryd.func42 (by kernel_rfl) rfl ?_
  conv => whnf
  refine ⟨_, hc, ?_⟩
  rintro _ _ ⟨rfl, rfl⟩
  conv => whnf
  refine ⟨_, sc, ?_⟩
  rintro _ _ ⟨rfl, rfl⟩
  conv => whnf
  rw [e3]
  exact ⟨rfl, rfl⟩
end Go.Proofs.YtmdfpifcghmpfaaDoor
