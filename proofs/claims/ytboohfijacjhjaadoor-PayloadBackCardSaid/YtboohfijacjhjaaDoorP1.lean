/- What the readers of bytes do: 'take', 'number', 'Byte', 'Fail', 'End' of package wire. -/
import Derived.Test.YtboohfijacjhjaaDoorTy
import Derived.Test.YtboohfijacjhjaaDoorAbZ
namespace Go.Proofs.YtboohfijacjhjaaDoor
open Go.Ab
def gl (g : Nat) : Option D := match Nat.beq g 3 with
  | true => some (tabD 256 firstF)
  | false => match Nat.beq g 4 with
    | true => some (tabD 32 accF)
    | false => none
noncomputable def cx : Ctx := { P := Tryd.prog, tt := ty.look, glob := gl }
theorem cx_ok : cx.ok := tab_ok ty_fits
theorem laid : laidOutB Tryd.prog = true := by kernel_rfl
abbrev u64 (n : Int) : AV := .d (.int .u64 n)
abbrev i64 (n : Int) : AV := .d (.int .i64 n)
abbrev u8 (n : Int) : AV := .d (.int .u8 n)
abbrev bo (b : Bool) : AV := .d (.bool b)
abbrev st (s : ByteArray) : AV := .d (.str s)

/-- A reader: what is left, what is wrong. -/
abbrev rd (s : ByteArray) (e : Int) : D := .agg [.str s, .int .i64 e]

def tkS (s : ByteArray) (e n : Int) : ByteArray := if e = 0 ∧ n ≤ s.size then s.extract 0 n.toNat else .empty
def tkR (s : ByteArray) (e n : Int) : ByteArray := if e = 0 ∧ n ≤ s.size then s.extract n.toNat s.size else s
def tkE (s : ByteArray) (e n : Int) : Int := if e = 0 then (if n ≤ s.size then 0 else 3) else e

theorem take_c {s : ByteArray} {e n : Int} (hn : 0 ≤ n) : CallR cx 121 [.ptr 0 [], i64 n] [.var (.d (rd s e))] fun r S =>
    r = st (tkS s e n) ∧ S = [.var (.d (rd (tkR s e n) (tkE s e n)))] := by
  refine callR_of (R := R1) cx_ok Tryd.func121 (by kernel_rfl) rfl ?_
  conv => whnf
  refine brec (fun h => ?_) (fun h => ?_)
  · have h : ¬ e = 0 := by simpa using h
    have e1 : tkS s e n = .empty := if_neg fun g => h g.1
    have e2 : tkR s e n = s := if_neg fun g => h g.1
    have e3 : tkE s e n = e := if_neg h
    rw [e1, e2, e3]
    conv => whnf
    exact ⟨rfl, rfl⟩
  · have h : e = 0 := by simpa using h
    subst h
    conv => whnf
    refine brec (fun g => ?_) (fun g => ?_)
    · have g := of_decide_eq_true g
      have e1 : tkS s 0 n = .empty := if_neg fun k => by omega
      have e2 : tkR s 0 n = s := if_neg fun k => by omega
      have e3 : tkE s 0 n = 3 := by unfold tkE; rw [if_pos rfl, if_neg (by omega)]
      rw [e1, e2, e3]
      conv => whnf
      exact ⟨rfl, rfl⟩
    · have g := of_decide_eq_false g
      have g : n ≤ s.size := by omega
      have e1 : tkS s 0 n = s.extract 0 n.toNat := if_pos ⟨rfl, g⟩
      have e2 : tkR s 0 n = s.extract n.toNat s.size := if_pos ⟨rfl, g⟩
      have e3 : tkE s 0 n = 0 := by unfold tkE; rw [if_pos rfl, if_pos g]
      rw [e1, e2, e3]
      conv => whnf
      refine ⟨⟨by decide, hn, g⟩, ?_⟩
      conv => whnf
      refine ⟨⟨hn, g, Int.le_refl _⟩, ?_⟩
      conv => whnf
      exact ⟨rfl, rfl⟩

theorem fail_c {s : ByteArray} {e f : Int} : CallR cx 93 [.ptr 0 [], i64 f] [.var (.d (rd s e))] fun r S =>
    r = .tup [] ∧ S = [.var (.d (rd s (if e = 0 then f else e)))] := by
  refine callR_of (R := R1) cx_ok Tryd.func93 (by kernel_rfl) rfl ?_
  conv => whnf
  refine brec (fun h => ?_) (fun h => ?_)
  · have h : e = 0 := by simpa using h
    rw [if_pos h]
    conv => whnf
    exact ⟨rfl, rfl⟩
  · have h : ¬ e = 0 := by simpa using h
    rw [if_neg h]
    conv => whnf
    exact ⟨rfl, rfl⟩

theorem end_c {s : ByteArray} {e : Int} : CallR cx 66 [.ptr 0 []] [.var (.d (rd s e))] fun r S =>
    r = i64 (if e = 0 then (if s = .empty then 0 else 4) else e) ∧ S = [.var (.d (rd s e))] := by
  refine callR_of (R := R1) cx_ok Tryd.func66 (by kernel_rfl) rfl ?_
  conv => whnf
  refine brec (fun h => ?_) (fun h => ?_)
  · have h : e = 0 := by simpa using h
    subst h
    rw [if_pos rfl]
    conv => whnf
    refine brec (fun g => ?_) (fun g => ?_)
    · have g : ¬ s = .empty := by
        intro e; subst e; simp at g; exact g rfl
      rw [if_neg g]
      conv => whnf
      exact ⟨rfl, rfl⟩
    · have g : s = .empty := (by simpa using g : s = ⟨#[]⟩)
      rw [if_pos g]
      conv => whnf
      exact ⟨rfl, rfl⟩
  · have h : ¬ e = 0 := by simpa using h
    rw [if_neg h]
    conv => whnf
    exact ⟨rfl, rfl⟩
end Go.Proofs.YtboohfijacjhjaaDoor
