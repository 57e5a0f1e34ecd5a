/- The law 'PayloadKinds' returns true, for any two values. -/
import Derived.Test.YtboohfijacjhjaaDoorP4
namespace Go.Proofs.YtboohfijacjhjaaDoor
open Go.Ab

theorem awake_c : CallR cx 11 [] [] fun r S => r = bo true ∧ S = [] := by
  refine callR_of (R := R1) cx_ok Tryd.func11 (by kernel_rfl) rfl ?_
  conv => whnf
  refine ⟨_, read4_c, ?_⟩
  rintro _ _ ⟨rfl, rfl⟩
  conv => whnf
  refine ⟨_, panics_c (p := .no), ?_⟩
  rintro _ _ ⟨rfl, rfl⟩
  conv => whnf
  exact ⟨rfl, rfl⟩

/-- Is it gone through here? -/
def light (a b : ByteArray) : Bool := decide ((a.size : Int) ≤ 2000) && decide ((b.size : Int) ≤ 2000)

theorem light_c {k o n : Int} {a b : ByteArray} : CallR cx 12 [.d (any k o a b n)] [] fun r S => r = bo (light a b) ∧ S = [] := by
  refine callR_of (R := R1) cx_ok Tryd.func12 (by kernel_rfl) rfl ?_
  conv => whnf
  refine brec (fun h => ?_) (fun h => ?_)
  · conv => whnf
    refine ⟨?_, rfl⟩
    simp [pack, light, h]
  · conv => whnf
    refine ⟨?_, rfl⟩
    simp [pack, light, h]

set_option maxHeartbeats 4000000 in
theorem kinds_T {k o n k' o' n' : Int} {a b a' b' : ByteArray} {p q : Pl}
    (l1 : CallR cx 12 [.d (any k o a b n)] [] fun r S => r = bo true ∧ S = []) (l2 : CallR cx 12 [.d (any k' o' a' b' n')] [] fun r S => r = bo true ∧ S = [])
    (t1 : CallR cx 13 [.d (any k o a b n)] [] fun r S => r = .d p.d ∧ S = []) (t2 : CallR cx 13 [.d (any k' o' a' b' n')] [] fun r S => r = .d q.d ∧ S = [])
    (of1 : CallR cx 14 [.d p.d] [] fun r S => r = .d (.agg [.int .i64 1, .int .u32 p.og, .str p.fa, .str p.fb, .int .u64 p.fn]) ∧ S = [])
    (tr : CallR cx 15 [.d p.d] [] fun r S => r = .tup [.d (tr4 p.og p.fa p.fb p.fn), bo true] ∧ S = [])
    (pa : CallR cx 16 [.d p.d] [] fun r S => r = bo false ∧ S = []) (mu : CallR cx 17 [.d p.d] [] fun r S => r = .d (tr4 p.og p.fa p.fb p.fn) ∧ S = [])
    (sideX : ∃ T : Ty, T.fitE cx.tt 29 = true ∧ Nat.blt T.depth 9999 = true ∧ T.is (.agg [.int .i64 1, .int .u32 p.og, .str p.fa, .str p.fb, .int .u64 p.fn]) ∧ T.is (fld q))
    (fs : deq (.agg [.int .i64 1, .int .u32 p.og, .str p.fa, .str p.fb, .int .u64 p.fn]) (fld q) = same p q) :
    CallR cx 3 [.d (any k o a b n), .d (any k' o' a' b' n')] [] fun r S => r = .d (.bool true) ∧ S = [] := by
  refine callR_of (R := R1) cx_ok Tryd.func3 (by kernel_rfl) rfl ?_
  conv => whnf
  refine ⟨_, awake_c, ?_⟩
  rintro _ _ ⟨rfl, rfl⟩
  conv => whnf
  refine ⟨_, l1, ?_⟩
  rintro _ _ ⟨rfl, rfl⟩
  conv => whnf
  refine ⟨_, l2, ?_⟩
  rintro _ _ ⟨rfl, rfl⟩
  conv => whnf
  refine ⟨by kernel_rfl, ?_⟩
  conv => whnf
  refine ⟨_, t1, ?_⟩
  conv => whnf
  refine ⟨_, t2, ?_⟩
  conv => whnf
  refine ⟨by kernel_rfl, ?_⟩
  conv => whnf
  refine ⟨_, of1, ?_⟩
  rintro _ _ ⟨rfl, rfl⟩
  conv => whnf
  refine ⟨_, of_c, ?_⟩
  rintro _ _ ⟨rfl, rfl⟩
  conv => whnf
  refine ⟨_, tr, ?_⟩
  rintro _ _ ⟨rfl, rfl⟩
  conv => whnf
  refine ⟨side32, ?_⟩
  conv => whnf
  refine brec (fun h => absurd h (by simp [deq])) (fun _ => ?_)
  conv => whnf
  refine ⟨by kernel_rfl, ?_⟩
  conv => whnf
  refine ⟨_, pa, ?_⟩
  conv => whnf
  refine ⟨_, mu, ?_⟩
  conv => whnf
  refine ⟨side32, ?_⟩
  conv => whnf
  refine ⟨by kernel_rfl, ?_⟩
  conv => whnf
  refine brec (fun h => absurd h (by simp [deq])) (fun _ => ?_)
  conv => whnf
  refine ⟨by kernel_rfl, ?_⟩
  conv => whnf
  refine ⟨_, awake_c, ?_⟩
  conv => whnf
  refine ⟨_, same_c, ?_⟩
  conv => whnf
  refine ⟨sideX, ?_⟩
  conv => whnf
  refine ⟨by kernel_rfl, ?_⟩
  conv => whnf
  refine ⟨?_, rfl⟩
  rw [← fs]
  simp [pack]

set_option maxHeartbeats 4000000 in
theorem kinds_F {k o n k' o' n' : Int} {a b a' b' : ByteArray} {p q : Pl} {m g v : Int} {x y : ByteArray}
    (l1 : CallR cx 12 [.d (any k o a b n)] [] fun r S => r = bo true ∧ S = []) (l2 : CallR cx 12 [.d (any k' o' a' b' n')] [] fun r S => r = bo true ∧ S = [])
    (t1 : CallR cx 13 [.d (any k o a b n)] [] fun r S => r = .d p.d ∧ S = []) (t2 : CallR cx 13 [.d (any k' o' a' b' n')] [] fun r S => r = .d q.d ∧ S = [])
    (of1 : CallR cx 14 [.d p.d] [] fun r S => r = .d (.agg [.int .i64 m, .int .u32 g, .str x, .str y, .int .u64 v]) ∧ S = []) (hk : m ≠ 1)
    (tr : CallR cx 15 [.d p.d] [] fun r S => r = .tup [.d (tr4 0 .empty .empty 0), bo false] ∧ S = [])
    (sideX : ∃ T : Ty, T.fitE cx.tt 29 = true ∧ Nat.blt T.depth 9999 = true ∧ T.is (.agg [.int .i64 m, .int .u32 g, .str x, .str y, .int .u64 v]) ∧ T.is (fld q))
    (fs : 0 < m → deq (.agg [.int .i64 m, .int .u32 g, .str x, .str y, .int .u64 v]) (fld q) = same p q) (fn : ¬ 0 < m → same p q = false)
    (pa : CallR cx 16 [.d p.d] [] fun r S => r = bo true ∧ S = []) :
    CallR cx 3 [.d (any k o a b n), .d (any k' o' a' b' n')] [] fun r S => r = .d (.bool true) ∧ S = [] := by
  refine callR_of (R := R1) cx_ok Tryd.func3 (by kernel_rfl) rfl ?_
  conv => whnf
  refine ⟨_, awake_c, ?_⟩
  rintro _ _ ⟨rfl, rfl⟩
  conv => whnf
  refine ⟨_, l1, ?_⟩
  rintro _ _ ⟨rfl, rfl⟩
  conv => whnf
  refine ⟨_, l2, ?_⟩
  rintro _ _ ⟨rfl, rfl⟩
  conv => whnf
  refine ⟨by kernel_rfl, ?_⟩
  conv => whnf
  refine ⟨_, t1, ?_⟩
  conv => whnf
  refine ⟨_, t2, ?_⟩
  conv => whnf
  refine ⟨by kernel_rfl, ?_⟩
  conv => whnf
  refine ⟨_, of1, ?_⟩
  rintro _ _ ⟨rfl, rfl⟩
  conv => whnf
  refine ⟨_, of_c, ?_⟩
  rintro _ _ ⟨rfl, rfl⟩
  conv => whnf
  refine ⟨_, tr, ?_⟩
  rintro _ _ ⟨rfl, rfl⟩
  conv => whnf
  refine brec (fun h => absurd h (by simpa using hk)) (fun _ => ?_)
  conv => whnf
  refine ⟨side32, ?_⟩
  conv => whnf
  refine brec (fun h => absurd h (by simp [deq])) (fun _ => ?_)
  conv => whnf
  refine ⟨by kernel_rfl, ?_⟩
  conv => whnf
  refine ⟨_, pa, ?_⟩
  conv => whnf
  refine ⟨by kernel_rfl, ?_⟩
  conv => whnf
  refine ⟨by kernel_rfl, ?_⟩
  conv => whnf
  refine ⟨_, awake_c, ?_⟩
  conv => whnf
  refine ⟨_, same_c, ?_⟩
  conv => whnf
  refine brec (fun g1 => ?_) (fun g1 => ?_)
  · conv => whnf
    refine ⟨sideX, ?_⟩
    conv => whnf
    refine ⟨by kernel_rfl, ?_⟩
    conv => whnf
    refine ⟨?_, rfl⟩
    rw [← fs (of_decide_eq_true g1)]
    simp [pack]
  · conv => whnf
    refine ⟨by kernel_rfl, ?_⟩
    conv => whnf
    refine ⟨?_, rfl⟩
    rw [fn (of_decide_eq_false g1)]
    simp [pack]

theorem kinds_no {k o n k' o' n' : Int} {a b a' b' : ByteArray} {x y : Bool} (h : x = false ∨ y = false)
    (l1 : CallR cx 12 [.d (any k o a b n)] [] fun r S => r = bo x ∧ S = []) (l2 : CallR cx 12 [.d (any k' o' a' b' n')] [] fun r S => r = bo y ∧ S = []) :
    CallR cx 3 [.d (any k o a b n), .d (any k' o' a' b' n')] [] fun r S => r = .d (.bool true) ∧ S = [] := by
  refine callR_of (R := R1) cx_ok Tryd.func3 (by kernel_rfl) rfl ?_
  conv => whnf
  refine ⟨_, awake_c, ?_⟩
  rintro _ _ ⟨rfl, rfl⟩
  conv => whnf
  refine ⟨_, l1, ?_⟩
  rintro _ _ ⟨rfl, rfl⟩
  cases x with
  | false =>
    conv => whnf
    refine ⟨_, awake_c, ?_⟩
    rintro _ _ ⟨rfl, rfl⟩
    conv => whnf
    exact ⟨rfl, rfl⟩
  | true =>
    obtain rfl : y = false := h.resolve_left (by simp)
    conv => whnf
    refine ⟨_, l2, ?_⟩
    rintro _ _ ⟨rfl, rfl⟩
    conv => whnf
    refine ⟨_, awake_c, ?_⟩
    rintro _ _ ⟨rfl, rfl⟩
    conv => whnf
    exact ⟨rfl, rfl⟩

theorem payloadKinds_c (ys : List D) (hy : Ty.hass [.st [.int .i64, .int .u32, .str, .str, .int .u64], .st [.int .i64, .int .u32, .str, .str, .int .u64]] ys) : CallR cx 3 (ys.map AV.d) [] fun r S => r = .d (.bool true) ∧ S = [] := by
  obtain ⟨_, _, rfl, ⟨_, rfl, _, _, rfl, ⟨k, rfl, _⟩, _, _, rfl, ⟨o, rfl, _⟩, _, _, rfl, ⟨a, rfl, _⟩, _, _, rfl, ⟨b, rfl, _⟩, _, _, rfl, ⟨n, rfl, _⟩, rfl⟩, _, _, rfl, ⟨_, rfl, _, _, rfl, ⟨k', rfl, _⟩, _, _, rfl, ⟨o', rfl, _⟩, _, _, rfl, ⟨a', rfl, _⟩, _, _, rfl, ⟨b', rfl, _⟩, _, _, rfl, ⟨n', rfl, _⟩, rfl⟩, rfl⟩ := hy
  have l1 := light_c (k := k) (o := o) (n := n) (a := a) (b := b)
  have l2 := light_c (k := k') (o := o') (n := n') (a := a') (b := b')
  have t1 := to_c (k := k) (o := o) (n := n) (a := a) (b := b)
  have t2 := to_c (k := k') (o := o') (n := n') (a := a') (b := b')
  by_cases h : light a b = false ∨ light a' b' = false
  · exact kinds_no h l1 l2
  · have h1 : light a b = true := by
      cases e : light a b with
      | true => rfl
      | false => exact absurd (.inl e) h
    have h2 : light a' b' = true := by
      cases e : light a' b' with
      | true => rfl
      | false => exact absurd (.inr e) h
    rw [h1] at l1
    rw [h2] at l2
    generalize toP k o a b n = p at t1
    generalize toP k' o' a' b' n' = q at t2
    have of1 := of_c (p := p)
    have tr := transfer_c (p := p)
    have pa := panics_c (p := p)
    cases hp : p.isT with
    | true =>
      have hk : p.kd = 1 := by have := isT_kd p; rw [hp] at this; simpa using this.symm
      have mu := mustP_c hp
      have fs := fld_same (p := p) (q := q) (by omega)
      have sx := side29 (p := p) (q := q)
      rw [trD_fld hp] at tr mu
      rw [hp] at tr pa
      unfold fld at of1
      rw [hk] at of1
      have e : fld p = .agg [.int .i64 1, .int .u32 p.og, .str p.fa, .str p.fb, .int .u64 p.fn] := by unfold fld; rw [hk]
      rw [e] at fs sx
      exact kinds_T l1 l2 t1 t2 of1 tr pa mu sx fs
    | false =>
      have hk : p.kd ≠ 1 := by have := isT_kd p; rw [hp] at this; simpa using this.symm
      rw [trD_no hp, hp] at tr
      rw [hp] at pa
      exact kinds_F l1 l2 t1 t2 of1 hk tr side29 (fun h => fld_same h) (fun h => same_no h) pa
end Go.Proofs.YtboohfijacjhjaaDoor
