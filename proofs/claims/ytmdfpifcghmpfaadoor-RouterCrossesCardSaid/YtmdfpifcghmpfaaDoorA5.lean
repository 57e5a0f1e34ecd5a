/- Sums of all of a list: the program's and the document's. -/
import Derived.Test.YtmdfpifcghmpfaaDoorA4
namespace Go.Proofs.YtmdfpifcghmpfaaDoor
open Go.Ab

/-- The sum of the first of a list. -/
def pre (ns : List Int) (j : Nat) : Int := (ns.take j).sum

theorem pre_succ {ns : List Int} {j : Nat} (h : j < ns.length) : pre ns (j + 1) = pre ns j + ns.getD j 0 := by
  unfold pre
  rw [List.take_add_one, List.sum_append, List.getElem?_eq_getElem h, List.getD_eq_getElem?_getD, List.getElem?_eq_getElem h]
  simp

theorem pre_nonneg {ns : List Int} (h : ∀ n ∈ ns, U n) (j : Nat) : 0 ≤ pre ns j := by
  unfold pre
  have : ∀ l : List Int, (∀ n ∈ l, U n) → 0 ≤ l.sum := by
    intro l
    induction l with
    | nil => intro _; simp
    | cons a l ih =>
      intro h
      have h1 := (h a (by simp)).1
      have h2 := ih fun n hn => h n (by simp [hn])
      simp only [List.sum_cons]
      omega
  exact this _ fun n hn => h n (List.mem_of_mem_take hn)

theorem getD_U {ns : List Int} (h : ∀ n ∈ ns, U n) {j : Nat} (hj : j < ns.length) : U (ns.getD j 0) := by
  rw [List.getD_eq_getElem?_getD, List.getElem?_eq_getElem hj]
  exact h _ (List.getElem_mem hj)

theorem getD_ui {ns : List Int} {j : Nat} (hj : j < ns.length) : (ns.map ui).getD (j : Int).toNat .nilP = ui (ns.getD j 0) := by
  rw [Int.toNat_natCast, List.getD_eq_getElem?_getD, List.getD_eq_getElem?_getD, List.getElem?_map, List.getElem?_eq_getElem hj]
  rfl

theorem hass_ui {xs : List D} (h : ∀ y ∈ xs, (Ty.int .u64).has y) : ∃ ns : List Int, xs = ns.map ui ∧ ∀ n ∈ ns, U n := by
  induction xs with
  | nil => exact ⟨[], rfl, by simp⟩
  | cons x xs ih =>
    obtain ⟨ns, rfl, h1⟩ := ih fun y hy => h y (by simp [hy])
    obtain ⟨n, rfl, h2⟩ := h x (by simp)
    refine ⟨n :: ns, rfl, fun m hm => ?_⟩
    rcases List.mem_cons.1 hm with rfl | hm
    · exact U.of_wf h2
    · exact h1 m hm

/-- A sum as a wide number, round about. -/
def wv (v : Int) : D := wd (v / 18446744073709551616 % 18446744073709551616) (v % 18446744073709551616)

theorem sum_step {v n : Int} (hv : 0 ≤ v) (hn : U n) : wd (IntKind.u64.wrap (v / 18446744073709551616 % 18446744073709551616 + (v % 18446744073709551616 + n + 0) / 18446744073709551616)) ((v % 18446744073709551616 + n + 0) % 18446744073709551616) = wv (v + n) := by
  obtain ⟨h1, h2⟩ := hn
  unfold wv
  have e1 : IntKind.u64.wrap (v / 18446744073709551616 % 18446744073709551616 + (v % 18446744073709551616 + n + 0) / 18446744073709551616) = (v + n) / 18446744073709551616 % 18446744073709551616 := by rw [wrap64]; omega
  have e2 : (v % 18446744073709551616 + n + 0) % 18446744073709551616 = (v + n) % 18446744073709551616 := by omega
  rw [e1, e2]

theorem sum_c {ns : List Int} (h : ∀ n ∈ ns, U n) (hl : ns.length ≤ 200) : CallR cx 56 [.d (.sl 1 (ns.map ui))] [] fun r S => r = .d (wv ns.sum) ∧ S = [] := by
  have hall : pre ns ns.length = ns.sum := by unfold pre; rw [List.take_length]
  refine callR_of (R := R1) cx_ok Tryd.func56 (by kernel_rfl) rfl ?_
  conv => whnf
  refine .inl ⟨fun n l S => ∃ j : Nat, j ≤ ns.length ∧ n = ns.length - j ∧ l = [(2, .ptr 0 []), (3, .ptr 1 []), (8, .d (.sl 1 (ns.map ui))), (9, i64 (((ns.map ui).length : Nat) : Int)), (10, i64 (j : Int))] ∧
    S = [.var (.d (wd 0 0)), .var (.d (wv (pre ns j)))], ⟨_, _, ⟨0, Nat.zero_le _, rfl, rfl, rfl⟩, ⟨rfl, rfl, rfl, rfl, rfl, trivial⟩⟩, ?_⟩
  rintro _ _ _ ⟨j, hj, rfl, rfl, rfl⟩
  conv => whnf
  refine brec (fun h1 => ?_) (fun h1 => ?_)
  · have h1 := of_decide_eq_true h1
    rw [List.length_map] at h1
    have hlt : j < ns.length := by omega
    conv => whnf
    refine ⟨⟨by omega, by rw [List.length_map]; omega⟩, ?_⟩
    rw [getD_ui hlt]
    conv => whnf
    have hp := pre_nonneg h j
    refine ⟨_, add64 (x := pre ns j % 18446744073709551616) ⟨by omega, by omega⟩ (getD_U h hlt) (by decide), ?_⟩
    rintro _ _ ⟨rfl, rfl⟩
    conv => whnf
    have e := sum_step hp (getD_U h hlt)
    rw [← pre_succ hlt] at e
    have e2 : IntKind.i64.wrap ((j : Int) + 1) = ((j + 1 : Nat) : Int) := by rw [IntKind.wrap_i64]; omega
    exact ⟨_, _, 2, (by omega : ns.length - (j + 1) < ns.length - j), ⟨j + 1, hlt, rfl, rfl, congrArg (fun z => [Blk.var (.d (wd 0 0)), .var (.d z)]) e⟩, ⟨rfl, rfl, rfl, rfl, congrArg (fun z => some (i64 z)) e2, trivial⟩, rfl⟩
  · have h1 := of_decide_eq_false h1
    rw [List.length_map] at h1
    have : j = ns.length := by omega
    subst this
    conv => whnf
    rw [← hall]
    exact ⟨rfl, rfl⟩

theorem rsum_c {ns : List Int} (h : ∀ n ∈ ns, U n) (hl : ns.length ≤ 200) : CallR cx 74 [.d (.sl 1 (ns.map ui))] [] fun r S => r = .d (w4 (ns.sum % 340282366920938463463374607431768211456)) ∧ S = [] := by
  have hall : pre ns ns.length = ns.sum := by unfold pre; rw [List.take_length]
  refine callR_of (R := R1) cx_ok Tryd.func74 (by kernel_rfl) rfl ?_
  conv => whnf
  refine .inl ⟨fun n l S => ∃ j : Nat, j ≤ ns.length ∧ n = ns.length - j ∧ l = [(2, .ptr 0 []), (3, .ptr 1 []), (6, .d (.sl 1 (ns.map ui))), (7, i64 (((ns.map ui).length : Nat) : Int)), (8, i64 (j : Int))] ∧
    S = [.var (.d (a4 0 0 0 0)), .var (.d (w4 (pre ns j % 340282366920938463463374607431768211456)))], ⟨_, _, ⟨0, Nat.zero_le _, rfl, rfl, rfl⟩, ⟨rfl, rfl, rfl, rfl, rfl, trivial⟩⟩, ?_⟩
  rintro _ _ _ ⟨j, hj, rfl, rfl, rfl⟩
  conv => whnf
  refine brec (fun h1 => ?_) (fun h1 => ?_)
  · have h1 := of_decide_eq_true h1
    rw [List.length_map] at h1
    have hlt : j < ns.length := by omega
    conv => whnf
    refine ⟨⟨by omega, by rw [List.length_map]; omega⟩, ?_⟩
    rw [getD_ui hlt]
    conv => whnf
    have hp := pre_nonneg h j
    have hu := getD_U h hlt
    refine ⟨by kernel_rfl, ?_⟩
    conv => whnf
    refine ⟨_, of_c (h := 0) ⟨by decide, by decide⟩ hu, ?_⟩
    conv => whnf
    refine ⟨_, plus_c (v := pre ns j % 340282366920938463463374607431768211456) ⟨by omega, by omega⟩ (x := 0 * 18446744073709551616 + ns.getD j 0) ⟨by have := hu.1; omega, by have := hu.2; omega⟩, ?_⟩
    conv => whnf
    refine ⟨by kernel_rfl, ?_⟩
    conv => whnf
    have e : w4 ((pre ns j % 340282366920938463463374607431768211456 + (0 * 18446744073709551616 + ns.getD j 0)) % 340282366920938463463374607431768211456) = w4 (pre ns (j + 1) % 340282366920938463463374607431768211456) := by
      rw [pre_succ hlt]; congr 1; omega
    have e2 : IntKind.i64.wrap ((j : Int) + 1) = ((j + 1 : Nat) : Int) := by rw [IntKind.wrap_i64]; omega
    exact ⟨_, _, 2, (by omega : ns.length - (j + 1) < ns.length - j), ⟨j + 1, hlt, rfl, rfl, congrArg (fun z => [Blk.var (.d (a4 0 0 0 0)), .var (.d z)]) e⟩, ⟨rfl, rfl, rfl, rfl, congrArg (fun z => some (i64 z)) e2, trivial⟩, rfl⟩
  · have h1 := of_decide_eq_false h1
    rw [List.length_map] at h1
    have : j = ns.length := by omega
    subst this
    conv => whnf
    rw [← hall]
    exact ⟨rfl, rfl⟩
end Go.Proofs.YtmdfpifcghmpfaaDoor
