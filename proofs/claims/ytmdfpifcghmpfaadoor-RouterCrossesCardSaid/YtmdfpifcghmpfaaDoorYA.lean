/- Routers: what sets out; what is given for what came. Routers: a token's cap is known. Routers: a letter does its work. Routers: a letter does its work: the contract. -/
import Derived.Test.YtmdfpifcghmpfaaDoorXP
import Derived.Test.YtmdfpifcghmpfaaDoorQN
import Derived.Test.YtmdfpifcghmpfaaDoorAbX
set_option linter.unusedVariables false
namespace Go.Proofs.YtmdfpifcghmpfaaDoor
open Go.Ab Go.RowKit

/-- What a router is asked to send. -/
def sdD (f : ByteArray) (o : Int) (t w : ByteArray) (k : Int) (z1 z2 : D) : D := .agg [.str f, .int .u32 o, .str t, .str w, .int .u64 k, z1, z2]

def outP (p : Pu) (here : Int) (f : ByteArray) (o : Int) (t : ByteArray) (k : Int) : Pu × Int := if o = here then lockP p o t f k else burnP p o t f k
def sendP (p : Pu) (here : Int) (f : ByteArray) (o : Int) (t w : ByteArray) (k : Int) : Pu × ByteArray × Int :=
  if (outP p here f o t k).2 ≠ 0 then (p, .empty, (outP p here f o t k).2)
  else if (Pl.tr o t w k).right then ((outP p here f o t k).1, (Pl.tr o t w k).bytes, 0) else (p, .empty, 4)

theorem send_w {T H T2 H2 : List D} {here o k e e2 : Int} {f t w b : ByteArray} {z1 z2 : D} (F : FuncId)
    (hF : (o = here ∧ F = 33) ∨ (o ≠ here ∧ F = 37))
    (oc : CallR cx F [.d (.agg [.sl 7 T, .sl 4 H]), .d (.int .u32 o), st t, st f, u64 k] [] fun r S => r = .tup [.d (.agg [.sl 7 T2, .sl 4 H2]), i64 e] ∧ S = [])
    (bc : e = 0 → CallR cx 97 [.d (.iface 104 (.agg [.int .u32 o, .str t, .str w, .int .u64 k]))] [] fun r S => r = .tup [st b, i64 e2] ∧ S = []) :
    CallR cx 45 [.d (.agg [.sl 7 T, .sl 4 H]), .d (.int .u32 here), .d (sdD f o t w k z1 z2)] [] fun r S =>
      r = (if e ≠ 0 then .tup [.d (.agg [.sl 7 T, .sl 4 H]), st .empty, i64 e] else if e2 ≠ 0 then .tup [.d (.agg [.sl 7 T, .sl 4 H]), st .empty, i64 e2] else .tup [.d (.agg [.sl 7 T2, .sl 4 H2]), st b, i64 0]) ∧ S = [] := by
  refine callR_of (R := R1) cx_ok Tryd.func45 (by kernel_rfl) rfl ?_
  conv => whnf
  rcases hF with ⟨ho, rfl⟩ | ⟨ho, rfl⟩
  · refine brT (decide_eq_true ho) ?_
    conv => whnf
    refine ⟨_, oc, ?_⟩
    rintro _ _ ⟨rfl, rfl⟩
    conv => whnf
    by_cases he : e = 0
    · rw [if_neg (by simp [he])]
      refine brF (bne_eq_false_iff_eq.2 he) ?_
      conv => whnf
      refine ⟨_, bc he, ?_⟩
      rintro _ _ ⟨rfl, rfl⟩
      conv => whnf
      by_cases he2 : e2 = 0
      · rw [if_neg (by simp [he2])]
        refine brF (bne_eq_false_iff_eq.2 he2) ?_
        conv => whnf
        exact ⟨rfl, rfl⟩
      · rw [if_pos he2]
        refine brT (bne_iff_ne.2 he2) ?_
        conv => whnf
        exact ⟨rfl, rfl⟩
    · rw [if_pos he]
      refine brT (bne_iff_ne.2 he) ?_
      conv => whnf
      exact ⟨rfl, rfl⟩
  · refine brF (decide_eq_false ho) ?_
    conv => whnf
    refine ⟨_, oc, ?_⟩
    rintro _ _ ⟨rfl, rfl⟩
    conv => whnf
    by_cases he : e = 0
    · rw [if_neg (by simp [he])]
      refine brF (bne_eq_false_iff_eq.2 he) ?_
      conv => whnf
      refine ⟨_, bc he, ?_⟩
      rintro _ _ ⟨rfl, rfl⟩
      conv => whnf
      by_cases he2 : e2 = 0
      · rw [if_neg (by simp [he2])]
        refine brF (bne_eq_false_iff_eq.2 he2) ?_
        conv => whnf
        exact ⟨rfl, rfl⟩
      · rw [if_pos he2]
        refine brT (bne_iff_ne.2 he2) ?_
        conv => whnf
        exact ⟨rfl, rfl⟩
    · rw [if_pos he]
      refine brT (bne_iff_ne.2 he) ?_
      conv => whnf
      exact ⟨rfl, rfl⟩

theorem send_c {p : Pu} {N : Nat} {here o k : Int} {f t w : ByteArray} {z1 z2 : D} (hp : p.fine N) (hN : N ≤ 99999) (hf : f.size ≤ 1000) (ht : t.size ≤ 1000) (hw : w.size ≤ 1000) (ho : 0 ≤ o ∧ o < 4294967296) (hk : U k) :
    CallR cx 45 [.d p.d, .d (.int .u32 here), .d (sdD f o t w k z1 z2)] [] fun r S => r = .tup [.d (sendP p here f o t w k).1.d, st (sendP p here f o t w k).2.1, i64 (sendP p here f o t w k).2.2] ∧ S = [] := by
  have bc := bytes_c (p := .tr o t w k) ⟨ho, hk, by omega, by omega⟩
  have hE : (Pl.tr o t w k).outE = if (Pl.tr o t w k).right then 0 else 4 := by
    exact if_neg (show ¬ (1 : Int) = 0 by decide)
  have hS : (Pl.tr o t w k).outS = if (Pl.tr o t w k).right then (Pl.tr o t w k).bytes else .empty := rfl
  rw [hE, hS] at bc
  unfold sendP
  have oc : ∃ F, ((o = here ∧ F = 33) ∨ (o ≠ here ∧ F = 37)) ∧ CallR cx F [.d p.d, .d (.int .u32 o), st t, st f, u64 k] [] fun r S => r = .tup [.d (outP p here f o t k).1.d, i64 (outP p here f o t k).2] ∧ S = [] := by
    unfold outP
    by_cases c : o = here
    · rw [if_pos c]
      exact ⟨_, .inl ⟨c, rfl⟩, lock_cc hp hN ht hf hk⟩
    · rw [if_neg c]
      exact ⟨_, .inr ⟨c, rfl⟩, burn_cc hp hN ht hf hk⟩
  obtain ⟨F, hF, oc⟩ := oc
  generalize outP p here f o t k = Q at *
  obtain ⟨q, e⟩ := Q
  simp only at oc ⊢
  refine (send_w (w := w) F hF oc (fun _ => bc)).mono fun r S ⟨h1, h2⟩ => ⟨?_, h2⟩
  rw [h1]
  by_cases he : e = 0
  · subst he
    cases hr : (Pl.tr o t w k).right <;> simp <;> rfl
  · rw [if_pos he, if_pos he]; rfl

def transP (p : Pu) (here frm o : Int) (t w : ByteArray) (k : Int) : Pu × Int := if o = here then unlockP p o t w k else if o = frm then mintP p o t w k else (p, 40)

theorem trans_w {T H T2 H2 : List D} {here frm o k e : Int} {t w : ByteArray}
    (hF : (o = here ∧ CallR cx 34 [.d (.agg [.sl 7 T, .sl 4 H]), .d (.int .u32 o), st t, st w, u64 k] [] fun r S => r = .tup [.d (.agg [.sl 7 T2, .sl 4 H2]), i64 e] ∧ S = []) ∨
      (o ≠ here ∧ o = frm ∧ CallR cx 36 [.d (.agg [.sl 7 T, .sl 4 H]), .d (.int .u32 o), st t, st w, u64 k] [] fun r S => r = .tup [.d (.agg [.sl 7 T2, .sl 4 H2]), i64 e] ∧ S = []) ∨
      (o ≠ here ∧ o ≠ frm ∧ T2 = T ∧ H2 = H ∧ e = 40)) :
    CallR cx 99 [.d (.agg [.sl 7 T, .sl 4 H]), .d (.int .u32 here), .d (.int .u32 frm), .d (.agg [.int .u32 o, .str t, .str w, .int .u64 k])] [] fun r S => r = .tup [.d (.agg [.sl 7 T2, .sl 4 H2]), i64 e] ∧ S = [] := by
  refine callR_of (R := R1) cx_ok Tryd.func99 (by kernel_rfl) rfl ?_
  conv => whnf
  rcases hF with ⟨ho, oc⟩ | ⟨ho, hf, oc⟩ | ⟨ho, hf, rfl, rfl, rfl⟩
  · refine brT (decide_eq_true ho) ?_
    conv => whnf
    refine ⟨_, oc, ?_⟩
    rintro _ _ ⟨rfl, rfl⟩
    conv => whnf
    exact ⟨rfl, rfl⟩
  · refine brF (decide_eq_false ho) ?_
    conv => whnf
    refine brT (decide_eq_true hf) ?_
    conv => whnf
    refine ⟨_, oc, ?_⟩
    rintro _ _ ⟨rfl, rfl⟩
    conv => whnf
    exact ⟨rfl, rfl⟩
  · refine brF (decide_eq_false ho) ?_
    conv => whnf
    refine brF (decide_eq_false hf) ?_
    conv => whnf
    exact ⟨rfl, rfl⟩

theorem trans_c {p : Pu} {N : Nat} {here frm o k : Int} {t w : ByteArray} (hp : p.fine N) (hN : N ≤ 99999) (ht : t.size ≤ 1000) (hw : w.size ≤ 1000) (hk : U k) :
    CallR cx 99 [.d p.d, .d (.int .u32 here), .d (.int .u32 frm), .d (.agg [.int .u32 o, .str t, .str w, .int .u64 k])] [] fun r S => r = .tup [.d (transP p here frm o t w k).1.d, i64 (transP p here frm o t w k).2] ∧ S = [] := by
  have uc := unlock_cc (o := o) hp hN ht hw hk
  have mc := mint_cc (o := o) hp hN ht hw hk
  refine trans_w ?_
  unfold transP
  by_cases c1 : o = here
  · rw [if_pos c1]
    exact .inl ⟨c1, uc⟩
  · rw [if_neg c1]
    by_cases c2 : o = frm
    · rw [if_pos c2]
      exact .inr (.inl ⟨c1, c2, mc⟩)
    · rw [if_neg c2]
      exact .inr (.inr ⟨c1, c2, rfl, rfl, rfl⟩)
end Go.Proofs.YtmdfpifcghmpfaaDoor

set_option linter.unusedVariables false
namespace Go.Proofs.YtmdfpifcghmpfaaDoor
open Go.Ab Go.RowKit

theorem twin2_c {p : Pu} (hp : p.ok) : CallR cx 124 [.d p.d] [] fun r S => r = .agg [.row 4, .row 7] ∧ S = [.var (.d p.d), .var (.agg [.row 4, .row 7]), .dead, .dead, .own 78 7 (tks p.toks), .dead, .dead, .own 129 4 (hds p.holds), .dead, .dead] := by
  have c1 := cloneT_c (l := p.toks) hp.nt
  have c2 := cloneH_c (l := p.holds) hp.nh
  obtain ⟨ts, hs⟩ := p
  simp only at c1 c2
  refine callR_ofA (R := R1) cx_ok Tryd.func124 (by kernel_rfl) rfl ?_
  conv => whnf
  refine ⟨by kernel_rfl, ?_⟩
  conv => whnf
  refine ⟨_, _, _, c1, ?_⟩
  conv => whnf
  refine ⟨_, _, _, c2, ?_⟩
  conv => whnf
  refine ⟨by kernel_rfl, ?_⟩
  conv => whnf
  exact ⟨rfl, rfl⟩

theorem det1_c {t : Tk} {o k : Int} {n : ByteArray} : CallR cx 139 [.d t.d, .ptr 0 []] [.var (.d (.agg [.int .u32 o, .str n, .int .u64 k]))] fun r S => r = bo (tkP o n t) ∧ S = [.var (.d (.agg [.int .u32 o, .str n, .int .u64 k]))] := by
  obtain ⟨o', n', a, b, c, d, e⟩ := t
  unfold tkP same2
  simp only
  refine callR_of (R := R1) cx_ok Tryd.func139 (by kernel_rfl) rfl ?_
  conv => whnf
  by_cases c1 : o' = o
  · rw [decide_eq_true c1]
    refine brT (decide_eq_true c1) ?_
    conv => whnf
    exact ⟨rfl, rfl⟩
  · rw [decide_eq_false c1]
    refine brF (decide_eq_false c1) ?_
    conv => whnf
    exact ⟨rfl, rfl⟩

def detP (p : Pu) (here frm o : Int) (n : ByteArray) (k : Int) : Pu × Int := if o ≠ frm ∨ o = here then (p, 40) else match lookP (tkP o n) p.toks with
  | none => enlistP p o n k
  | some t => (⟨putP (tkP o n) p.toks { t with cap := k }, p.holds⟩, 0)

theorem det_no {T H : List D} {here frm o k : Int} {n : ByteArray} (h : o ≠ frm ∨ o = here) :
    CallR cx 101 [.d (.agg [.sl 7 T, .sl 4 H]), .d (.int .u32 here), .d (.int .u32 frm), .d (.agg [.int .u32 o, .str n, .int .u64 k])] [] fun r S => r = .tup [.d (.agg [.sl 7 T, .sl 4 H]), i64 40] ∧ S = [] := by
  refine callR_of (R := R1) cx_ok Tryd.func101 (by kernel_rfl) rfl ?_
  conv => whnf
  by_cases c1 : o = frm
  · refine brF (bne_eq_false_iff_eq.2 c1) ?_
    conv => whnf
    refine brT (decide_eq_true (h.resolve_left (fun z => z c1))) ?_
    conv => whnf
    exact ⟨rfl, rfl⟩
  · refine brT (bne_iff_ne.2 c1) ?_
    conv => whnf
    exact ⟨rfl, rfl⟩

theorem det_en {T H T2 H2 : List D} {here frm o k e : Int} {n : ByteArray} (h1 : o = frm) (h2 : ¬ o = here)
    (ix : CallR cx 92 [.d (.sl 7 T), .fn 139 [0]] [.var (.d (.agg [.int .u32 o, .str n, .int .u64 k]))] fun r S => r = i64 (-1) ∧ S = [.var (.d (.agg [.int .u32 o, .str n, .int .u64 k]))])
    (en : CallR cx 43 [.d (.agg [.sl 7 T, .sl 4 H]), .d (.int .u32 o), st n, u64 k] [] fun r S => r = .tup [.d (.agg [.sl 7 T2, .sl 4 H2]), i64 e] ∧ S = []) :
    CallR cx 101 [.d (.agg [.sl 7 T, .sl 4 H]), .d (.int .u32 here), .d (.int .u32 frm), .d (.agg [.int .u32 o, .str n, .int .u64 k])] [] fun r S => r = .tup [.d (.agg [.sl 7 T2, .sl 4 H2]), i64 e] ∧ S = [] := by
  refine callR_of (R := R1) cx_ok Tryd.func101 (by kernel_rfl) rfl ?_
  conv => whnf
  refine brF (bne_eq_false_iff_eq.2 h1) ?_
  conv => whnf
  refine brF (decide_eq_false h2) ?_
  conv => whnf
  refine ⟨_, ix, ?_⟩
  rintro _ _ ⟨rfl, rfl⟩
  conv => whnf
  refine ⟨_, en, ?_⟩
  rintro _ _ ⟨rfl, rfl⟩
  conv => whnf
  exact ⟨rfl, rfl⟩

theorem det_set {T H : List D} {here frm o k J : Int} {n : ByteArray} (hJ : 0 ≤ J) (hJT : J < T.length) {to a b c d e : Int} {tn : ByteArray} (h1 : o = frm) (h2 : ¬ o = here)
    (hgd : T.getD J.toNat .nilP = .agg [.int .u32 to, .str tn, .int .u64 a, .int .u64 b, .int .u64 c, .int .u64 d, .int .u64 e])
    (ix : CallR cx 92 [.d (.sl 7 T), .fn 139 [0]] [.var (.d (.agg [.int .u32 o, .str n, .int .u64 k]))] fun r S => r = i64 J ∧ S = [.var (.d (.agg [.int .u32 o, .str n, .int .u64 k]))])
    (tw : CallR cx 124 [.d (.agg [.sl 7 T, .sl 4 H])] [] fun r S => r = .agg [.row 4, .row 7] ∧ S = [.var (.d (.agg [.sl 7 T, .sl 4 H])), .var (.agg [.row 4, .row 7]), .dead, .dead, .own 78 7 T, .dead, .dead, .own 129 4 H, .dead, .dead]) :
    CallR cx 101 [.d (.agg [.sl 7 T, .sl 4 H]), .d (.int .u32 here), .d (.int .u32 frm), .d (.agg [.int .u32 o, .str n, .int .u64 k])] [] fun r S =>
      r = .tup [.d (.agg [.sl 7 (T.set J.toNat (.agg [.int .u32 to, .str tn, .int .u64 k, .int .u64 b, .int .u64 c, .int .u64 d, .int .u64 e])), .sl 4 H]), i64 0] ∧ S = [] := by
  refine callR_of (R := R1) cx_ok Tryd.func101 (by kernel_rfl) rfl ?_
  conv => whnf
  refine brF (bne_eq_false_iff_eq.2 h1) ?_
  conv => whnf
  refine brF (decide_eq_false h2) ?_
  conv => whnf
  refine ⟨_, ix, ?_⟩
  rintro _ _ ⟨rfl, rfl⟩
  conv => whnf
  refine brF (decide_eq_false (by omega)) ?_
  conv => whnf
  refine ⟨_, tw, ?_⟩
  rintro _ _ ⟨rfl, rfl⟩
  conv => whnf
  refine ⟨⟨by omega, by omega⟩, ?_⟩
  conv => whnf
  refine ⟨by omega, ?_⟩
  rw [hgd]
  conv => whnf
  exact ⟨rfl, rfl⟩

theorem det_c {p : Pu} {here frm o k : Int} {n : ByteArray} (hp : p.ok) (hn : n.size ≤ 1000) :
    CallR cx 101 [.d p.d, .d (.int .u32 here), .d (.int .u32 frm), .d (.agg [.int .u32 o, .str n, .int .u64 k])] [] fun r S => r = .tup [.d (detP p here frm o n k).1.d, i64 (detP p here frm o n k).2] ∧ S = [] := by
  have ix := ixT_c (f := 139) (p := tkP o n) (x0 := .agg [.int .u32 o, .str n, .int .u64 k]) hp.nt (fun t _ => det1_c)
  have hix := ix_look (tkP o n) p.toks 0
  have en := enlist_c (o := o) (n := n) (k := k) hp hn
  have tw := twin2_c hp
  have hll := hp.nt
  unfold detP
  by_cases c : o ≠ frm ∨ o = here
  · rw [if_pos c]
    exact det_no c
  rw [if_neg c]
  have c1 : o = frm := Classical.byContradiction fun z => c (.inl z)
  have c2 : ¬ o = here := fun z => c (.inr z)
  rcases hix with ⟨h1, h2⟩ | ⟨j, hj, h1, h2, h3, h4, h5⟩
  · rw [h1] at ix
    rw [h2]
    exact det_en c1 c2 ix en
  · rw [h1, Nat.zero_add] at ix
    rw [h2]
    simp only
    have hgd := tks_getD hj
    have hlt' : (tks p.toks).length = p.toks.length := List.length_map _
    rw [← h4]
    generalize p.toks[j]'hj = t at *
    have e := det_set (J := (j : Int)) (by omega) (by rw [hlt']; omega) c1 c2 hgd ix tw
    rw [Int.toNat_natCast] at e
    have hs : tks (p.toks.set j { t with cap := k }) = (tks p.toks).set j (Tk.d { t with cap := k }) := by simp [tks, List.map_set]
    unfold Pu.d
    simp only
    rw [hs]
    exact e
end Go.Proofs.YtmdfpifcghmpfaaDoor

set_option linter.unusedVariables false
namespace Go.Proofs.YtmdfpifcghmpfaaDoor
open Go.Ab Go.RowKit

def rtB : ByteArray := ⟨#[114, 111, 117, 116, 101, 114]⟩
/-- A letter. -/
def ltD (f q t : Int) (s r b : ByteArray) : D := .agg [.int .u32 f, .int .u32 q, .int .u32 t, .str s, .str r, .str b]

def doesP (p : Pu) (here frm : Int) : Pl → Pu × Int
  | .tr o t w k => transP p here frm o t w k
  | .de o n k => detP p here frm o n k
  | _ => (p, 0)
def handP (p : Pu) (here frm : Int) (remote s r b : ByteArray) : Pu × Pl × Int :=
  if remote = .empty ∨ s ≠ remote ∨ r ≠ rtB then (p, .no, 39)
  else if (readP b).2 ≠ 0 then (p, .no, 41)
  else if (doesP p here frm (readP b).1).2 ≠ 0 then (p, .no, (doesP p here frm (readP b).1).2)
  else ((doesP p here frm (readP b).1).1, (readP b).1, 0)

section
variable {T H : List D} {here f q t : Int} {remote s r b : ByteArray}

theorem hand_no (h : remote = .empty ∨ s ≠ remote ∨ r ≠ rtB) :
    CallR cx 46 [.d (.agg [.sl 7 T, .sl 4 H]), .d (.int .u32 here), st remote, .d (ltD f q t s r b)] [] fun r S => r = .tup [.d (.agg [.sl 7 T, .sl 4 H]), .d .nilI, i64 39] ∧ S = [] := by
  refine callR_of (R := R1) cx_ok Tryd.func46 (by kernel_rfl) rfl ?_
  conv => whnf
  by_cases c1 : remote = .empty
  · refine brT (decide_eq_true c1) ?_
    conv => whnf
    exact ⟨rfl, rfl⟩
  refine brF (decide_eq_false c1) ?_
  conv => whnf
  by_cases c2 : s = remote
  · refine brF (by rw [decide_eq_true c2]; rfl) ?_
    conv => whnf
    refine brT ?_ ?_
    · show (!decide (r = rtB)) = true
      rw [decide_eq_false (fun z => (h.resolve_left c1).resolve_left (fun y => y c2) z)]; rfl
    conv => whnf
    exact ⟨rfl, rfl⟩
  · refine brT (by rw [decide_eq_false c2]; rfl) ?_
    conv => whnf
    exact ⟨rfl, rfl⟩

theorem hand_rd {e : Int} {x : D} (h : ¬ (remote = .empty ∨ s ≠ remote ∨ r ≠ rtB)) (he : e ≠ 0)
    (rc : CallR cx 49 [st b] [] fun r S => r = .tup [.d x, i64 e] ∧ S = []) :
    CallR cx 46 [.d (.agg [.sl 7 T, .sl 4 H]), .d (.int .u32 here), st remote, .d (ltD f q t s r b)] [] fun r S => r = .tup [.d (.agg [.sl 7 T, .sl 4 H]), .d .nilI, i64 41] ∧ S = [] := by
  have c1 : ¬ remote = .empty := fun z => h (.inl z)
  have c2 : s = remote := Classical.byContradiction fun z => h (.inr (.inl z))
  have c3 : r = rtB := Classical.byContradiction fun z => h (.inr (.inr z))
  refine callR_of (R := R1) cx_ok Tryd.func46 (by kernel_rfl) rfl ?_
  conv => whnf
  refine brF (decide_eq_false c1) ?_
  conv => whnf
  refine brF (by rw [decide_eq_true c2]; rfl) ?_
  conv => whnf
  refine brF ?_ ?_
  · show (!decide (r = rtB)) = false
    rw [decide_eq_true c3]; rfl
  conv => whnf
  refine ⟨_, rc, ?_⟩
  rintro _ _ ⟨rfl, rfl⟩
  conv => whnf
  refine brT (bne_iff_ne.2 he) ?_
  conv => whnf
  exact ⟨rfl, rfl⟩

theorem hand_tr {o k e : Int} {n w : ByteArray} {T2 H2 : List D} (h : ¬ (remote = .empty ∨ s ≠ remote ∨ r ≠ rtB))
    (rc : CallR cx 49 [st b] [] fun r S => r = .tup [.d (Pl.tr o n w k).d, i64 0] ∧ S = [])
    (oc : CallR cx 99 [.d (.agg [.sl 7 T, .sl 4 H]), .d (.int .u32 here), .d (.int .u32 f), .d (.agg [.int .u32 o, .str n, .str w, .int .u64 k])] [] fun r S => r = .tup [.d (.agg [.sl 7 T2, .sl 4 H2]), i64 e] ∧ S = []) :
    CallR cx 46 [.d (.agg [.sl 7 T, .sl 4 H]), .d (.int .u32 here), st remote, .d (ltD f q t s r b)] [] fun r S =>
      r = (if e ≠ 0 then .tup [.d (.agg [.sl 7 T, .sl 4 H]), .d .nilI, i64 e] else .tup [.d (.agg [.sl 7 T2, .sl 4 H2]), .d (Pl.tr o n w k).d, i64 0]) ∧ S = [] := by
  have c1 : ¬ remote = .empty := fun z => h (.inl z)
  have c2 : s = remote := Classical.byContradiction fun z => h (.inr (.inl z))
  have c3 : r = rtB := Classical.byContradiction fun z => h (.inr (.inr z))
  have tc := tag_c (p := .tr o n w k)
  have mc := mustP_c (p := .tr o n w k) rfl
  refine callR_of (R := R1) cx_ok Tryd.func46 (by kernel_rfl) rfl ?_
  conv => whnf
  refine brF (decide_eq_false c1) ?_
  conv => whnf
  refine brF (by rw [decide_eq_true c2]; rfl) ?_
  conv => whnf
  refine brF ?_ ?_
  · show (!decide (r = rtB)) = false
    rw [decide_eq_true c3]; rfl
  conv => whnf
  refine ⟨_, rc, ?_⟩
  rintro _ _ ⟨rfl, rfl⟩
  conv => whnf
  refine ⟨_, tc, ?_⟩
  rintro _ _ ⟨rfl, rfl⟩
  conv => whnf
  refine ⟨by kernel_rfl, ?_⟩
  conv => whnf
  refine ⟨_, mc, ?_⟩
  conv => whnf
  refine ⟨_, oc, ?_⟩
  conv => whnf
  refine ⟨by kernel_rfl, ?_⟩
  conv => whnf
  by_cases he : e = 0
  · rw [if_neg (by simp [he])]
    refine brF (bne_eq_false_iff_eq.2 he) ?_
    conv => whnf
    exact ⟨rfl, rfl⟩
  · rw [if_pos he]
    refine brT (bne_iff_ne.2 he) ?_
    conv => whnf
    exact ⟨rfl, rfl⟩

theorem hand_de {o k e : Int} {n : ByteArray} {T2 H2 : List D} (h : ¬ (remote = .empty ∨ s ≠ remote ∨ r ≠ rtB))
    (rc : CallR cx 49 [st b] [] fun r S => r = .tup [.d (Pl.de o n k).d, i64 0] ∧ S = [])
    (oc : CallR cx 101 [.d (.agg [.sl 7 T, .sl 4 H]), .d (.int .u32 here), .d (.int .u32 f), .d (.agg [.int .u32 o, .str n, .int .u64 k])] [] fun r S => r = .tup [.d (.agg [.sl 7 T2, .sl 4 H2]), i64 e] ∧ S = []) :
    CallR cx 46 [.d (.agg [.sl 7 T, .sl 4 H]), .d (.int .u32 here), st remote, .d (ltD f q t s r b)] [] fun r S =>
      r = (if e ≠ 0 then .tup [.d (.agg [.sl 7 T, .sl 4 H]), .d .nilI, i64 e] else .tup [.d (.agg [.sl 7 T2, .sl 4 H2]), .d (Pl.de o n k).d, i64 0]) ∧ S = [] := by
  have c1 : ¬ remote = .empty := fun z => h (.inl z)
  have c2 : s = remote := Classical.byContradiction fun z => h (.inr (.inl z))
  have c3 : r = rtB := Classical.byContradiction fun z => h (.inr (.inr z))
  have tc := tag_c (p := .de o n k)
  refine callR_of (R := R1) cx_ok Tryd.func46 (by kernel_rfl) rfl ?_
  conv => whnf
  refine brF (decide_eq_false c1) ?_
  conv => whnf
  refine brF (by rw [decide_eq_true c2]; rfl) ?_
  conv => whnf
  refine brF ?_ ?_
  · show (!decide (r = rtB)) = false
    rw [decide_eq_true c3]; rfl
  conv => whnf
  refine ⟨_, rc, ?_⟩
  rintro _ _ ⟨rfl, rfl⟩
  conv => whnf
  refine ⟨_, tc, ?_⟩
  rintro _ _ ⟨rfl, rfl⟩
  conv => whnf
  refine ⟨by kernel_rfl, ?_⟩
  conv => whnf
  refine ⟨_, oc, ?_⟩
  conv => whnf
  refine ⟨by kernel_rfl, ?_⟩
  conv => whnf
  by_cases he : e = 0
  · rw [if_neg (by simp [he])]
    refine brF (bne_eq_false_iff_eq.2 he) ?_
    conv => whnf
    exact ⟨rfl, rfl⟩
  · rw [if_pos he]
    refine brT (bne_iff_ne.2 he) ?_
    conv => whnf
    exact ⟨rfl, rfl⟩

theorem hand_sy {a c : ByteArray} (h : ¬ (remote = .empty ∨ s ≠ remote ∨ r ≠ rtB))
    (rc : CallR cx 49 [st b] [] fun r S => r = .tup [.d (Pl.sy a c).d, i64 0] ∧ S = []) :
    CallR cx 46 [.d (.agg [.sl 7 T, .sl 4 H]), .d (.int .u32 here), st remote, .d (ltD f q t s r b)] [] fun r S =>
      r = .tup [.d (.agg [.sl 7 T, .sl 4 H]), .d (Pl.sy a c).d, i64 0] ∧ S = [] := by
  have c1 : ¬ remote = .empty := fun z => h (.inl z)
  have c2 : s = remote := Classical.byContradiction fun z => h (.inr (.inl z))
  have c3 : r = rtB := Classical.byContradiction fun z => h (.inr (.inr z))
  have tc := tag_c (p := .sy a c)
  refine callR_of (R := R1) cx_ok Tryd.func46 (by kernel_rfl) rfl ?_
  conv => whnf
  refine brF (decide_eq_false c1) ?_
  conv => whnf
  refine brF (by rw [decide_eq_true c2]; rfl) ?_
  conv => whnf
  refine brF ?_ ?_
  · show (!decide (r = rtB)) = false
    rw [decide_eq_true c3]; rfl
  conv => whnf
  refine ⟨_, rc, ?_⟩
  rintro _ _ ⟨rfl, rfl⟩
  conv => whnf
  refine ⟨_, tc, ?_⟩
  rintro _ _ ⟨rfl, rfl⟩
  conv => whnf
  exact ⟨rfl, rfl⟩
end
end Go.Proofs.YtmdfpifcghmpfaaDoor

set_option linter.unusedVariables false
namespace Go.Proofs.YtmdfpifcghmpfaaDoor
open Go.Ab Go.RowKit

theorem readP_fit {b : ByteArray} (h : b.size < 100000) : (readP b).1.fit := by
  have hs := take_size (Rs.mk b 0) 1
  have hs : ((Rs.mk b 0).take 1).s.size ≤ b.size := hs
  have f := readB_fit (t := (Rs.mk b 0).num 1) (r := (Rs.mk b 0).take 1) (by omega)
  unfold readP
  split
  · split
    · exact f
    · trivial
  · trivial
theorem tr_size {o k : Int} {n w : ByteArray} : n.size ≤ (Pl.tr o n w k).bytes.size ∧ w.size ≤ (Pl.tr o n w k).bytes.size := by
  unfold Pl.bytes
  simp only [ByteArray.size_append, textB_size]
  omega
theorem de_size {o k : Int} {n : ByteArray} : n.size ≤ (Pl.de o n k).bytes.size := by
  unfold Pl.bytes
  simp only [ByteArray.size_append, textB_size]
  omega

theorem hand_c {p : Pu} {N : Nat} {here f q t : Int} {remote s r b : ByteArray} (hp : p.fine N) (hN : N ≤ 99999) (hb : b.size ≤ 1000) :
    CallR cx 46 [.d p.d, .d (.int .u32 here), st remote, .d (ltD f q t s r b)] [] fun x S =>
      x = .tup [.d (handP p here f remote s r b).1.d, .d (handP p here f remote s r b).2.1.d, i64 (handP p here f remote s r b).2.2] ∧ S = [] := by
  have rc := read_c (s := b) (by omega)
  have fi := readP_fit (b := b) (by omega)
  have br := fun h => bytes_read (s := b) h
  unfold handP
  by_cases c : remote = .empty ∨ s ≠ remote ∨ r ≠ rtB
  · rw [if_pos c]
    exact hand_no c
  rw [if_neg c]
  generalize readP b = Q at *
  obtain ⟨pl, e⟩ := Q
  simp only at rc fi br ⊢
  by_cases he : e = 0
  · obtain ⟨b1, b2⟩ := br he
    rw [if_neg (by simp [he])]
    subst he
    cases pl with
    | tr o n w k =>
      obtain ⟨ho, hk, _, _⟩ := fi
      have sz := tr_size (o := o) (k := k) (n := n) (w := w)
      rw [b2] at sz
      have tc := trans_c (here := here) (frm := f) (o := o) (k := k) (t := n) (w := w) hp hN (by omega) (by omega) hk
      have h := hand_tr (q := q) (t := t) c rc tc
      refine h.mono fun x S ⟨h1, h2⟩ => ⟨?_, h2⟩
      rw [h1]
      rw [show doesP p here f (Pl.tr o n w k) = transP p here f o n w k from rfl]
      by_cases hq : (transP p here f o n w k).2 ≠ 0
      · rw [if_pos hq, if_pos hq]; rfl
      · rw [if_neg hq, if_neg hq]; rfl
    | sy a d =>
      exact hand_sy c rc
    | de o n k =>
      have sz := de_size (o := o) (k := k) (n := n)
      rw [b2] at sz
      have tc := det_c (here := here) (frm := f) (o := o) (k := k) (n := n) (hp.ok (by omega)) (by omega)
      have h := hand_de (q := q) (t := t) c rc tc
      refine h.mono fun x S ⟨h1, h2⟩ => ⟨?_, h2⟩
      rw [h1]
      rw [show doesP p here f (Pl.de o n k) = detP p here f o n k from rfl]
      by_cases hq : (detP p here f o n k).2 ≠ 0
      · rw [if_pos hq, if_pos hq]; rfl
      · rw [if_neg hq, if_neg hq]; rfl
    | no => cases b1
    | nu => cases b1
  · rw [if_pos he]
    exact hand_rd c he rc
end Go.Proofs.YtmdfpifcghmpfaaDoor
