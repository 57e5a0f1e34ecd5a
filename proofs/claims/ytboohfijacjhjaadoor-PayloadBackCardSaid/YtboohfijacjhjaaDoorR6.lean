/- The law 'PayloadBytes' returns true (the end). -/
import Derived.Test.YtboohfijacjhjaaDoorR5
namespace Go.Proofs.YtboohfijacjhjaaDoor
open Go.Ab Go.RowKit

theorem pb_out {k o n : Int} {a b s : ByteArray} {x : Bool} (h : x = false ∨ 5000 < (s.size : Int))
    (li : CallR cx 12 [.d (any k o a b n)] [] fun r S => r = bo x ∧ S = []) : CallR cx 5 [.d (any k o a b n), st s] [] fun r S => r = .d (.bool true) ∧ S = [] := by
  refine callR_of (R := R1) cx_ok Tryd.func5 (by kernel_rfl) rfl ?_
  conv => whnf
  refine ⟨_, awake_c, ?_⟩
  rintro _ _ ⟨rfl, rfl⟩
  conv => whnf
  refine ⟨_, li, ?_⟩
  rintro _ _ ⟨rfl, rfl⟩
  cases x with
  | false =>
    conv => whnf
    refine ⟨_, awake_c, ?_⟩
    rintro _ _ ⟨rfl, rfl⟩
    conv => whnf
    exact ⟨rfl, rfl⟩
  | true =>
    have h : 5000 < (s.size : Int) := h.resolve_left (by simp)
    conv => whnf
    refine brT (decide_eq_true (by omega)) ?_
    conv => whnf
    refine ⟨_, awake_c, ?_⟩
    rintro _ _ ⟨rfl, rfl⟩
    conv => whnf
    exact ⟨rfl, rfl⟩

theorem toP_fit {k o n : Int} {a b : ByteArray} (ho : 0 ≤ o ∧ o < 4294967296) (hn : 0 ≤ n ∧ n < 18446744073709551616) (ha : a.size < 100000) (hb : b.size < 100000) : (toP k o a b n).fit := by
  unfold toP
  split
  · exact ⟨ho, hn, ha, hb⟩
  split
  · exact ⟨ha, hb⟩
  split
  · exact ⟨ho, hn, ha⟩
  split <;> trivial

theorem light_iff {a b : ByteArray} (h : light a b = true) : a.size < 100000 ∧ b.size < 100000 := by
  unfold light at h
  simp only [Bool.and_eq_true, decide_eq_true_eq] at h
  omega

theorem U32.of_wf {n : Int} (h : (Lit.int .u32 n).wf = true) : 0 ≤ n ∧ n < 4294967296 := by
  simp [Lit.wf, IntKind.min, IntKind.max, IntKind.signed, IntKind.bits] at h
  omega

/-- A payload that was read, or none with an error. -/
theorem readP_kinds (s : ByteArray) : ((readP s).1 = .no ∧ (readP s).2 ≠ 0) ∨ ((readP s).1.right = true ∧ (readP s).2 = 0) := by
  unfold readP
  split
  · split
    · exact .inr ⟨by assumption, rfl⟩
    · exact .inl ⟨rfl, by decide⟩
  · exact .inl ⟨rfl, by assumption⟩

theorem right_iface {p : Pl} (h : p.right = true) : ∃ t y, p.d = .iface t y := by
  cases p with
  | no | nu => cases h
  | _ => exact ⟨_, _, rfl⟩

theorem payloadBytes_c (ys : List D) (hy : Ty.hass [.st [.int .i64, .int .u32, .str, .str, .int .u64], .str] ys) : CallR cx 5 (ys.map AV.d) [] fun r S => r = .d (.bool true) ∧ S = [] := by
  obtain ⟨_, _, rfl, ⟨_, rfl, _, _, rfl, ⟨k, rfl, _⟩, _, _, rfl, ⟨o, rfl, wo⟩, _, _, rfl, ⟨a, rfl, _⟩, _, _, rfl, ⟨b, rfl, _⟩, _, _, rfl, ⟨n, rfl, wn⟩, rfl⟩, _, _, rfl, ⟨s, rfl, _⟩, rfl⟩ := hy
  have li := light_c (k := k) (o := o) (n := n) (a := a) (b := b)
  have to := to_c (k := k) (o := o) (n := n) (a := a) (b := b)
  by_cases h : light a b = false ∨ 5000 < (s.size : Int)
  · exact pb_out h li
  have h1 : light a b = true := by
    cases e : light a b with
    | true => rfl
    | false => exact absurd (.inl e) h
  have h2 : (s.size : Int) ≤ 5000 := by
    rcases Int.lt_or_le 5000 (s.size : Int) with g | g
    · exact absurd (.inr g) h
    · exact g
  have hf := toP_fit (k := k) (U32.of_wf wo) (U.of_wf wn) (light_iff h1).1 (light_iff h1).2
  rw [h1] at li
  generalize toP k o a b n = p at *
  have re := read_c (s := s) (by omega)
  have fr := fread_c (s := s) (by omega)
  have oq := of_c (p := (readP s).1)
  rcases readP_kinds s with ⟨e1, e2⟩ | ⟨e1, e2⟩
  · generalize (readP s).2 = e at *
    rw [e1] at re fr oq
    exact pb_no h2 li to of_c (bytes_c hf) (fbytes_c hf) re fr tag_c (pright_c hf) (fright_c hf) oq e2 (y := .nilP) (t := 0)
  · obtain ⟨t, y, e3⟩ := right_iface e1
    rw [e2] at re fr
    rw [e3] at re oq
    exact pb_in h2 li to of_c (bytes_c hf) (fbytes_c hf) re fr tag_c (pright_c hf) (fright_c hf) oq (e2 := 0)
end Go.Proofs.YtboohfijacjhjaaDoor
