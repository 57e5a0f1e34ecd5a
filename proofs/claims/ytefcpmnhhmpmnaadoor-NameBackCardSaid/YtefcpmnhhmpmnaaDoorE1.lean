/- Texts cut: behind a first byte, ahead of a last one, at the first byte of a kind. -/
import Derived.Test.YtefcpmnhhmpmnaaDoorE0
import Derived.Lib.Bytealg
import Derived.Laws.Externs
set_option linter.unusedVariables false
namespace Go.Proofs.YtefcpmnhhmpmnaaDoor
open Go.Ab Go.RowKit
variable [Errs]

omit [Errs] in
theorem VS.two' {μ k w G x y vals} (h : VS μ k w G [x, y] vals) : ∃ v u, vals = [v, u] ∧ VA μ k w G x v ∧ VA μ k w G y u := by
  cases h with
  | cons h1 h2 => cases h2 with
    | cons h3 h4 => cases h4; exact ⟨_, _, rfl, h1, h3⟩
omit [Errs] in
theorem va_d {μ k w G x v} (h : CL w G [x] [v]) (ha : vAgg v = x.isAgg) (hc : v.cells.toList = [v]) : VA μ k w G (.d x) v := VA.d_iff.2 ⟨by rw [hc]; exact h, ha⟩

theorem ixs_c {s : ByteArray} {c : UInt8} : CallR cxE 83 [st s, u8 (c.toNat : Int)] [] fun r S => r = i64 (Lib.indexByte s.data.toList c) ∧ S = [] := by
  intro μ G w vals st0 hv
  obtain ⟨v, u, rfl, h1, h2⟩ := VS.two' hv
  obtain rfl := (VA.d_iff.1 h1).str_inv
  obtain rfl := (VA.d_iff.1 h2).int_inv
  refine .inr ⟨.int .i64 (Lib.indexByte s.data.toList c), w, ?_, _, i64 (Lib.indexByte s.data.toList c), [], μ, G, rfl, ⟨rfl, rfl⟩, st0, va_d (.int .nil) rfl rfl⟩
  show (callFunc 83 #[.string s, .int .u8 (c.toNat : Int)]).run Tryd.prog w = _
  rw [run_callFunc_extern (P := Tryd.prog) Tryd.func83 (by kernel_rfl) (by kernel_rfl) (by kernel_rfl) (e := Extern.BytealgIndexByte.indexByte) (by kernel_rfl), Lib.run_indexByteString]
  have hc : ((c.toNat : Int)).toNat.toUInt8 = c := by simp
  rw [hc]
  rfl

theorem ixb_c {s : ByteArray} {c : UInt8} : CallR cxE 74 [st s, u8 (c.toNat : Int)] [] fun r S => r = i64 (Lib.indexByte s.data.toList c) ∧ S = [] := by
  have h := ixs_c (s := s) (c := c)
  generalize Lib.indexByte s.data.toList c = z at *
  generalize (c.toNat : Int) = k at *
  refine callR_of (R := R1) cxE_ok Tryd.func74 (by kernel_rfl) rfl ?_
  conv => whnf
  refine ⟨_, h, ?_⟩
  rintro _ _ ⟨rfl, rfl⟩
  conv => whnf
  exact ⟨rfl, rfl⟩

theorem ix59_c {s : ByteArray} : CallR cxE 62 [st s, st ⟨#[59]⟩] [] fun r S => r = i64 (Lib.indexByte s.data.toList 59) ∧ S = [] := by
  have h := ixb_c (s := s) (c := 59)
  have h0 : (⟨#[59]⟩ : ByteArray) = s → Lib.indexByte s.data.toList 59 = 0 := by rintro rfl; decide
  generalize Lib.indexByte s.data.toList 59 = z at *
  refine callR_of (R := R1) cxE_ok Tryd.func62 (by kernel_rfl) rfl ?_
  conv => whnf
  refine brec (fun k => ?_) (fun k => ?_)
  · have k := of_decide_eq_true k
    rw [h0 k]
    conv => whnf
    exact ⟨rfl, rfl⟩
  · conv => whnf
    refine ⟨⟨by decide, by decide⟩, ?_⟩
    conv => whnf
    refine ⟨_, h, ?_⟩
    rintro _ _ ⟨rfl, rfl⟩
    conv => whnf
    exact ⟨rfl, rfl⟩

/-- At the first of a kind. -/
def cutL (c : UInt8) : List UInt8 → Option (List UInt8 × List UInt8)
  | [] => none
  | a :: l => if a = c then some ([], l) else match cutL c l with
    | some (x, y) => some (a :: x, y)
    | none => none
omit [Errs] in
theorem cutL_ix (c : UInt8) : ∀ l, (cutL c l = none ∧ Lib.indexByte l c = -1) ∨ (∃ x y, cutL c l = some (x, y) ∧ Lib.indexByte l c = (x.length : Int) ∧ l = x ++ c :: y)
  | [] => .inl ⟨rfl, rfl⟩
  | a :: l => by
    by_cases h : a = c
    · subst h
      refine .inr ⟨[], l, ?_, ?_, rfl⟩
      · unfold cutL; rw [if_pos rfl]
      · unfold Lib.indexByte; rw [if_pos (by simp)]; rfl
    · have hb : (a == c) = false := by simpa using h
      rcases cutL_ix c l with ⟨h1, h2⟩ | ⟨x, y, h1, h2, h3⟩
      · refine .inl ⟨?_, ?_⟩
        · unfold cutL; rw [if_neg h, h1]
        · unfold Lib.indexByte; rw [hb, h2]; rfl
      · refine .inr ⟨a :: x, y, ?_, ?_, by rw [h3]; rfl⟩
        · unfold cutL; rw [if_neg h, h1]
        · unfold Lib.indexByte
          rw [hb, h2]
          have e : (((x.length : Nat) : Int) == -1) = false := beq_eq_false_iff_ne.2 (by omega)
          rw [e]
          simp
def cutT (c : UInt8) (l : List UInt8) : List UInt8 × List UInt8 × Bool := match cutL c l with
  | some (x, y) => (x, y, true)
  | none => (l, [], false)

omit [Errs] in
theorem baL_size (l : List UInt8) : (baL l).size = l.length := List.size_toArray
omit [Errs] in
theorem baL_ext {l : List UInt8} {a b : Nat} : (baL l).extract a b = baL ((l.drop a).take (b - a)) := by
  apply ByteArray.ext
  show (ByteArray.extract ⟨l.toArray⟩ a b).data = _
  rw [ByteArray.data_extract]
  show l.toArray.extract a b = ((l.drop a).take (b - a)).toArray
  simp

theorem cut59_c {l : List UInt8} (hl : l.length ≤ 1000000000) : CallR cxE 47 [st (baL l), st ⟨#[59]⟩] [] fun r S => r = .tup [st (baL (cutT 59 l).1), st (baL (cutT 59 l).2.1), bo (cutT 59 l).2.2] ∧ S = [] := by
  have key : CallR cxE 55 [st (baL l), st ⟨#[59]⟩] [] fun r S => r = .tup [st (baL (cutT 59 l).1), st (baL (cutT 59 l).2.1), bo (cutT 59 l).2.2] ∧ S = [] := by
    have h := ix59_c (s := baL l)
    have e : (baL l).data.toList = l := by show l.toArray.toList = l; simp
    rw [e] at h
    rcases cutL_ix 59 l with ⟨h1, h2⟩ | ⟨x, y, h1, h2, h3⟩
    · rw [h2] at h
      have ct : cutT 59 l = (l, [], false) := by unfold cutT; rw [h1]
      rw [ct]
      simp only
      generalize baL l = s at *
      refine callR_of (R := R1) cxE_ok Tryd.func55 (by kernel_rfl) rfl ?_
      conv => whnf
      refine ⟨_, h, ?_⟩
      rintro _ _ ⟨rfl, rfl⟩
      conv => whnf
      exact ⟨rfl, rfl⟩
    · rw [h2] at h
      have ct : cutT 59 l = (x, y, true) := by unfold cutT; rw [h1]
      rw [ct]
      simp only
      have hz : l.length = x.length + 1 + y.length := by rw [h3]; simp; omega
      have e1 : (baL l).extract 0 x.length = baL x := by rw [baL_ext, h3]; simp
      have e2 : (baL l).extract (x.length + 1) (baL l).size = baL y := by
        rw [baL_ext, baL_size, hz, h3]
        rw [show (x ++ 59 :: y).drop (x.length + 1) = y by rw [List.drop_append]; simp [List.drop_eq_nil_of_le]]
        rw [List.take_of_length_le (by omega)]
      have hsz := baL_size l
      rw [← e1, ← e2]
      clear e1 e2
      generalize baL l = s at *
      generalize x.length = n at *
      refine callR_of (R := R1) cxE_ok Tryd.func55 (by kernel_rfl) rfl ?_
      conv => whnf
      refine ⟨_, h, ?_⟩
      rintro _ _ ⟨rfl, rfl⟩
      conv => whnf
      refine ⟨by kernel_rfl, ?_⟩
      conv => whnf
      refine ⟨⟨by omega, by omega, by omega⟩, ?_⟩
      conv => whnf
      have ew : IntKind.i64.wrap ((n : Int) + (((⟨#[59]⟩ : ByteArray).size : Nat) : Int)) = ((n + 1 : Nat) : Int) := by
        show IntKind.i64.wrap ((n : Int) + 1) = _
        rw [w64 (by omega)]; omega
      rw [ew]
      refine ⟨⟨by omega, by omega, by omega⟩, ?_⟩
      conv => whnf
      refine ⟨by kernel_rfl, ?_⟩
      conv => whnf
      exact ⟨rfl, rfl⟩
  refine callR_of (R := R1) cxE_ok Tryd.func47 (by kernel_rfl) rfl ?_
  conv => whnf
  refine ⟨_, key, ?_⟩
  rintro _ _ ⟨rfl, rfl⟩
  conv => whnf
  exact ⟨rfl, rfl⟩
end Go.Proofs.YtefcpmnhhmpmnaaDoor
