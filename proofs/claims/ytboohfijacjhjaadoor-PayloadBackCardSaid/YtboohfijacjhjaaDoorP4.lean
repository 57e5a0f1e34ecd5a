/- Payloads: what 'To', 'Of', 'Transfer', 'Same' of the law's and the program's packages compute. -/
import Derived.Test.YtboohfijacjhjaaDoorPan
namespace Go.Proofs.YtboohfijacjhjaaDoor
open Go.Ab

/-- A payload: a transfer, a saying, a detail, nothing, a number. -/
inductive Pl where
  | tr (o : Int) (a b : ByteArray) (n : Int)
  | sy (a b : ByteArray)
  | de (o : Int) (a : ByteArray) (n : Int)
  | no
  | nu

def Pl.d : Pl → D
  | .tr o a b n => .iface 32 (.agg [.int .u32 o, .str a, .str b, .int .u64 n])
  | .sy a b => .iface 89 (.agg [.str a, .str b])
  | .de o a n => .iface 91 (.agg [.int .u32 o, .str a, .int .u64 n])
  | .no => .nilI
  | .nu => .iface 3 (.int .i64 7)

def Pl.kd : Pl → Int
  | .tr .. => 1
  | .sy .. => 2
  | .de .. => 3
  | _ => 0
def Pl.og : Pl → Int
  | .tr o .. => o
  | .de o .. => o
  | _ => 0
def Pl.fa : Pl → ByteArray
  | .tr _ a _ _ => a
  | .sy a _ => a
  | .de _ a _ => a
  | _ => .empty
def Pl.fb : Pl → ByteArray
  | .tr _ _ b _ => b
  | .sy _ b => b
  | _ => .empty
def Pl.fn : Pl → Int
  | .tr _ _ _ n => n
  | .de _ _ n => n
  | _ => 0
def Pl.isT : Pl → Bool
  | .tr .. => true
  | _ => false

/-- A payload's fields. -/
abbrev fld (p : Pl) : D := .agg [.int .i64 p.kd, .int .u32 p.og, .str p.fa, .str p.fb, .int .u64 p.fn]

abbrev tr4 (o : Int) (a b : ByteArray) (n : Int) : D := .agg [.int .u32 o, .str a, .str b, .int .u64 n]

/-- The transfer that it is, if it is one. -/
def trD (p : Pl) : D := match p with
  | .tr o a b n => tr4 o a b n
  | _ => tr4 0 .empty .empty 0

def toP (k o : Int) (a b : ByteArray) (n : Int) : Pl :=
  if k.tmod 5 = 0 then .tr o a b n else if k.tmod 5 = 1 ∨ k.tmod 5 = -1 then .sy a b else if k.tmod 5 = 2 ∨ k.tmod 5 = -2 then .de o a n else if k.tmod 5 = 3 ∨ k.tmod 5 = -3 then .no else .nu

abbrev any (k o : Int) (a b : ByteArray) (n : Int) : D := .agg [.int .i64 k, .int .u32 o, .str a, .str b, .int .u64 n]

theorem to_c {k o n : Int} {a b : ByteArray} : CallR cx 13 [.d (any k o a b n)] [] fun r S => r = .d (toP k o a b n).d ∧ S = [] := by
  refine callR_of (R := R1) cx_ok Tryd.func13 (by kernel_rfl) rfl ?_
  conv => whnf
  refine ⟨by decide, ?_⟩
  conv => whnf
  unfold toP
  generalize k.tmod 5 = m
  refine brec (fun h => ?_) (fun h => ?_)
  · rw [if_pos (eq_of_beq h)]
    conv => whnf
    exact ⟨rfl, rfl⟩
  have h0 := ne_of_beq_false h
  rw [if_neg h0]
  conv => whnf
  refine brec (fun h => ?_) (fun h => ?_)
  · rw [if_pos (.inl (eq_of_beq h))]
    conv => whnf
    exact ⟨rfl, rfl⟩
  have h1 := ne_of_beq_false h
  conv => whnf
  refine brec (fun h => ?_) (fun h => ?_)
  · rw [if_pos (.inr (eq_of_beq h))]
    conv => whnf
    exact ⟨rfl, rfl⟩
  have h1' := ne_of_beq_false h
  rw [if_neg (by omega)]
  conv => whnf
  refine brec (fun h => ?_) (fun h => ?_)
  · rw [if_pos (.inl (eq_of_beq h))]
    conv => whnf
    exact ⟨rfl, rfl⟩
  have h2 := ne_of_beq_false h
  conv => whnf
  refine brec (fun h => ?_) (fun h => ?_)
  · rw [if_pos (.inr (eq_of_beq h))]
    conv => whnf
    exact ⟨rfl, rfl⟩
  have h2' := ne_of_beq_false h
  rw [if_neg (by omega)]
  conv => whnf
  refine brec (fun h => ?_) (fun h => ?_)
  · rw [if_pos (.inl (eq_of_beq h))]
    conv => whnf
    exact ⟨rfl, rfl⟩
  have h3 := ne_of_beq_false h
  conv => whnf
  refine brec (fun h => ?_) (fun h => ?_)
  · rw [if_pos (.inr (eq_of_beq h))]
    conv => whnf
    exact ⟨rfl, rfl⟩
  have h3' := ne_of_beq_false h
  rw [if_neg (by omega)]
  conv => whnf
  exact ⟨rfl, rfl⟩

theorem of_c {p : Pl} : CallR cx 14 [.d p.d] [] fun r S => r = .d (fld p) ∧ S = [] := by
  cases p <;>
  · refine callR_of (R := R1) cx_ok Tryd.func14 (by kernel_rfl) rfl ?_
    conv => whnf
    exact ⟨rfl, rfl⟩

theorem transfer_c {p : Pl} : CallR cx 15 [.d p.d] [] fun r S => r = .tup [.d (trD p), bo p.isT] ∧ S = [] := by
  cases p <;>
  · refine callR_of (R := R1) cx_ok Tryd.func15 (by kernel_rfl) rfl ?_
    conv => whnf
    exact ⟨rfl, rfl⟩

theorem panics_c {p : Pl} : CallR cx 16 [.d p.d] [] fun r S => r = bo (!p.isT) ∧ S = [] := by
  cases p with
  | tr o a b n => exact panics_no_c
  | sy a b => exact panics_yes_c (.inr ⟨_, _, rfl, by decide⟩)
  | de o a n => exact panics_yes_c (.inr ⟨_, _, rfl, by decide⟩)
  | no => exact panics_yes_c (.inl rfl)
  | nu => exact panics_yes_c (.inr ⟨_, _, rfl, by decide⟩)

theorem mustP_c {p : Pl} (h : p.isT = true) : CallR cx 17 [.d p.d] [] fun r S => r = .d (trD p) ∧ S = [] := by
  cases p with
  | tr o a b n => exact must_c
  | _ => cases h

/-- Are two the same? -/
noncomputable def same (p q : Pl) : Bool := @decide (p = q ∧ 0 < p.kd) (Classical.propDecidable _)

theorem deq_iff {x y : D} {P : Prop} (h : x = y ↔ P) : deq x y = @decide P (Classical.propDecidable _) := by
  unfold deq
  by_cases e : x = y
  · rw [@decide_eq_true _ (Classical.propDecidable _) e, @decide_eq_true _ (Classical.propDecidable _) (h.1 e)]
  · rw [@decide_eq_false _ (Classical.propDecidable _) e, @decide_eq_false _ (Classical.propDecidable _) (fun k => e (h.2 k))]

theorem side32 {o n o' n' : Int} {a b a' b' : ByteArray} : ∃ T : Ty, T.fitE cx.tt 32 = true ∧ Nat.blt T.depth 9999 = true ∧ T.is (tr4 o a b n) ∧ T.is (tr4 o' a' b' n') :=
  ⟨.st [.int .u32, .str, .str, .int .u64], by kernel_rfl, by kernel_rfl, ⟨_, rfl, _, _, rfl, ⟨_, rfl⟩, _, _, rfl, ⟨_, rfl⟩, _, _, rfl, ⟨_, rfl⟩, _, _, rfl, ⟨_, rfl⟩, rfl⟩, ⟨_, rfl, _, _, rfl, ⟨_, rfl⟩, _, _, rfl, ⟨_, rfl⟩, _, _, rfl, ⟨_, rfl⟩, _, _, rfl, ⟨_, rfl⟩, rfl⟩⟩
theorem side89 {a b a' b' : ByteArray} : ∃ T : Ty, T.fitE cx.tt 89 = true ∧ Nat.blt T.depth 9999 = true ∧ T.is (.agg [.str a, .str b]) ∧ T.is (.agg [.str a', .str b']) :=
  ⟨.st [.str, .str], by kernel_rfl, by kernel_rfl, ⟨_, rfl, _, _, rfl, ⟨_, rfl⟩, _, _, rfl, ⟨_, rfl⟩, rfl⟩, ⟨_, rfl, _, _, rfl, ⟨_, rfl⟩, _, _, rfl, ⟨_, rfl⟩, rfl⟩⟩
theorem side91 {o n o' n' : Int} {a a' : ByteArray} : ∃ T : Ty, T.fitE cx.tt 91 = true ∧ Nat.blt T.depth 9999 = true ∧ T.is (.agg [.int .u32 o, .str a, .int .u64 n]) ∧ T.is (.agg [.int .u32 o', .str a', .int .u64 n']) :=
  ⟨.st [.int .u32, .str, .int .u64], by kernel_rfl, by kernel_rfl, ⟨_, rfl, _, _, rfl, ⟨_, rfl⟩, _, _, rfl, ⟨_, rfl⟩, _, _, rfl, ⟨_, rfl⟩, rfl⟩, ⟨_, rfl, _, _, rfl, ⟨_, rfl⟩, _, _, rfl, ⟨_, rfl⟩, _, _, rfl, ⟨_, rfl⟩, rfl⟩⟩
theorem side29 {p q : Pl} : ∃ T : Ty, T.fitE cx.tt 29 = true ∧ Nat.blt T.depth 9999 = true ∧ T.is (fld p) ∧ T.is (fld q) :=
  ⟨.st [.int .i64, .int .u32, .str, .str, .int .u64], by kernel_rfl, by kernel_rfl, ⟨_, rfl, _, _, rfl, ⟨_, rfl⟩, _, _, rfl, ⟨_, rfl⟩, _, _, rfl, ⟨_, rfl⟩, _, _, rfl, ⟨_, rfl⟩, _, _, rfl, ⟨_, rfl⟩, rfl⟩, ⟨_, rfl, _, _, rfl, ⟨_, rfl⟩, _, _, rfl, ⟨_, rfl⟩, _, _, rfl, ⟨_, rfl⟩, _, _, rfl, ⟨_, rfl⟩, _, _, rfl, ⟨_, rfl⟩, rfl⟩⟩

theorem same_c {p q : Pl} : CallR cx 18 [.d p.d, .d q.d] [] fun r S => r = bo (same p q) ∧ S = [] := by
  cases p <;> cases q
  all_goals
    refine callR_of (R := R1) cx_ok Tryd.func18 (by kernel_rfl) rfl ?_
    conv => whnf
  case tr.tr =>
    refine ⟨side32, ?_⟩
    conv => whnf
    refine ⟨?_, rfl⟩
    refine congrArg bo (deq_iff ?_)
    simp [Pl.kd]
  case sy.sy =>
    refine ⟨side89, ?_⟩
    conv => whnf
    refine ⟨?_, rfl⟩
    refine congrArg bo (deq_iff ?_)
    simp [Pl.kd]
  case de.de =>
    refine ⟨side91, ?_⟩
    conv => whnf
    refine ⟨?_, rfl⟩
    refine congrArg bo (deq_iff ?_)
    simp [Pl.kd]
  all_goals
    refine ⟨?_, rfl⟩
    simp [same, pack, Pl.kd]

theorem fld_same {p q : Pl} (h : 0 < p.kd) : deq (fld p) (fld q) = same p q := by
  refine deq_iff ?_
  cases p <;> cases q <;> simp_all [fld, Pl.kd, Pl.og, Pl.fa, Pl.fb, Pl.fn] <;> try omega

theorem same_no {p q : Pl} (h : ¬ 0 < p.kd) : same p q = false := by simp [same, h]

theorem isT_kd (p : Pl) : p.isT = (p.kd == 1) := by cases p <;> rfl

theorem trD_fld {p : Pl} (h : p.isT = true) : trD p = tr4 p.og p.fa p.fb p.fn := by cases p <;> first | rfl | cases h
theorem trD_no {p : Pl} (h : p.isT = false) : trD p = tr4 0 .empty .empty 0 := by cases p <;> first | rfl | cases h
end Go.Proofs.YtboohfijacjhjaaDoor
