/- Ledgers, the model's: an account more. -/
import Derived.Test.YtmdfpifcghmpfaaDoorLF
namespace Go.Proofs.YtmdfpifcghmpfaaDoor
open Go.Ab Go.RowKit

def insA : List Ac → Ac → List Ac
  | [], b => [b]
  | a :: l, b => if ordN b.name a.name < 0 then b :: a :: l else a :: insA l b
def openL (l : Lg) (who : ByteArray) (key : List D) (n : Int) : Lg × Int :=
  if rightT who = false then (l, 7) else match look l.accs who with
    | some _ => (l, 13)
    | none => if l.accs.length > 63 then (l, 6) else ({ l with accs := insA l.accs ⟨who, key, 0, n⟩ }, 0)

theorem ropen_c {l : Lg} {who : ByteArray} {key : List D} {n : Int} (hl : l.ok) (hn : ∀ a ∈ l.accs, a.name.size ≤ 200) (hw : who.size ≤ 200) :
    CallR cx 58 [.d l.d, st who, .d (.arr 32 1 key), u64 n] [] fun r S => r = .tup [.d (openL l who key n).1.d, i64 (openL l who key n).2] ∧ S = [] := by
  have rc := rright_c (s := who) (by omega)
  have fd := rfind_c (who := who) hl
  obtain ⟨h, t, g, al, es⟩ := l
  simp only at hn
  have hlen : (acs al).length = al.length := List.length_map _
  unfold openL
  unfold findL at fd
  simp only at fd ⊢
  cases q : rightT who with
  | false =>
    rw [q] at rc
    rw [if_pos rfl]
    refine callR_of (R := R1) cx_ok Tryd.func58 (by kernel_rfl) rfl ?_
    conv => whnf
    refine ⟨_, rc, ?_⟩
    rintro _ _ ⟨rfl, rfl⟩
    conv => whnf
    exact ⟨rfl, rfl⟩
  | true =>
    rw [q] at rc
    rw [if_neg (by decide)]
    cases hx : look al who with
    | some a =>
      rw [hx] at fd
      obtain ⟨nm, ky, nn, cn⟩ := a
      simp only at fd ⊢
      refine callR_of (R := R1) cx_ok Tryd.func58 (by kernel_rfl) rfl ?_
      conv => whnf
      refine ⟨_, rc, ?_⟩
      rintro _ _ ⟨rfl, rfl⟩
      conv => whnf
      refine ⟨_, fd, ?_⟩
      rintro _ _ ⟨rfl, rfl⟩
      conv => whnf
      exact ⟨rfl, rfl⟩
    | none =>
      rw [hx] at fd
      simp only at fd ⊢
      refine callR_of (R := R1) cx_ok Tryd.func58 (by kernel_rfl) rfl ?_
      conv => whnf
      refine ⟨_, rc, ?_⟩
      rintro _ _ ⟨rfl, rfl⟩
      conv => whnf
      refine ⟨_, fd, ?_⟩
      rintro _ _ ⟨rfl, rfl⟩
      conv => whnf
      by_cases c : ((acs al).length : Int) > 63
      · rw [if_pos (by omega)]
        refine brT (decide_eq_true c) ?_
        conv => whnf
        exact ⟨rfl, rfl⟩
      rw [if_neg (by omega)]
      refine brF (decide_eq_false c) ?_
      conv => whnf
      refine .inr ⟨36, 35, ?_⟩
      conv => whnf
      refine .inr ⟨fun m L S => ∃ (j : Nat) (dn : Bool) (out : List Ac), out ++ (if dn then al.drop j else insA (al.drop j) ⟨who, key, 0, n⟩) = insA al ⟨who, key, 0, n⟩ ∧ out.length ≤ 2 * j ∧ j ≤ al.length ∧ m = al.length - j ∧
          L = [(1, st who), (4, .ptr 0 []), (8, .ptr 2 []), (9, i64 0), (12, .ptr 4 []), (13, .row 5), (14, bo dn), (39, .d (.sl 35 (acs al))), (40, i64 (((acs al).length : Nat) : Int)), (41, i64 (j : Int))] ∧
          S = [.var (.d (Lg.d ⟨h, t, g, al, es⟩)), .var (.d (.arr 32 1 key)), .var (.d (.agg [.int .u64 0, .int .u64 0, .int .u64 0, .sl 35 [], .sl 35 []])), .var (.d zeroA), .var (.d (Ac.d ⟨who, key, 0, n⟩)), .row 36 35 (acs out)],
        ⟨_, _, ⟨0, false, [], rfl, by decide, Nat.zero_le _, rfl, rfl, rfl⟩, ⟨rfl, rfl, rfl, rfl, rfl, rfl, rfl, rfl, rfl, rfl, trivial⟩⟩, ?_⟩
      rintro _ _ _ ⟨j, dn, out, h1, h2, hj, rfl, rfl, rfl⟩
      have hlo : (acs out).length = out.length := List.length_map _
      conv => whnf
      refine brec (fun h4 => ?_) (fun h4 => ?_)
      · have h4 := of_decide_eq_true h4
        rw [hlen] at h4
        have hlt : j < al.length := by omega
        conv => whnf
        refine ⟨⟨by omega, by rw [hlen]; omega⟩, ?_⟩
        rw [acs_getD hlt]
        rw [List.drop_eq_getElem_cons hlt, insA] at h1
        have hs := hn _ (List.getElem_mem hlt)
        generalize al[j]'hlt = a at *
        have e3 : IntKind.i64.wrap ((j : Int) + 1) = ((j + 1 : Nat) : Int) := by rw [w64 (by omega)]; omega
        have ea : ∀ x : Ac, acs out ++ [x.d] = acs (out ++ [x]) := fun x => by unfold acs; rw [List.map_append]; rfl
        have ea2 : ∀ x y : Ac, acs out ++ [x.d] ++ [y.d] = acs (out ++ [x, y]) := fun x y => by unfold acs; rw [List.map_append, List.append_assoc]; rfl
        obtain ⟨nm, ky, nn, cn⟩ := a
        simp only at h1 hs
        have oc := rorder_c (a := who) (b := nm) (by omega) (by omega)
        unfold ordN at h1
        generalize ordL (keysAt who 0) (keysAt nm 0) = O at *
        conv => whnf
        cases dn with
        | true =>
          conv => whnf
          refine ⟨⟨Nat.succ_pos _, by show ((acs out).length + 1) * (64 + 1) ≤ _; omega⟩, ?_⟩
          conv => whnf
          refine ⟨al.length - (j + 1), [(1, st who), (4, .ptr 0 []), (8, .ptr 2 []), (9, i64 0), (12, .ptr 4 []), (13, .row 7), (14, bo true), (39, .d (.sl 35 (acs al))), (40, i64 (((acs al).length : Nat) : Int)), (41, i64 ((j + 1 : Nat) : Int))], [0, 1, 2, 3, 4, 7], by omega, ⟨rfl, rfl, rfl, rfl, rfl, rfl, rfl, rfl, rfl, congrArg (fun z => some (i64 z)) e3, trivial⟩, ?_⟩
          conv => whnf
          refine ⟨j + 1, true, out ++ [⟨nm, ky, nn, cn⟩], by rw [if_pos rfl] at h1 ⊢; rw [List.append_assoc]; exact h1, by rw [List.length_append]; first | (show _ + 1 ≤ _; omega) | (show _ + 2 ≤ _; omega), by omega, rfl, rfl, ?_⟩
          exact congrArg (fun z => [Blk.var (.d (Lg.d ⟨h, t, g, al, es⟩)), .var (.d (.arr 32 1 key)), .var (.d (.agg [.int .u64 0, .int .u64 0, .int .u64 0, .sl 35 [], .sl 35 []])), .var (.d zeroA), .var (.d (Ac.d ⟨who, key, 0, n⟩)), .row 36 35 z]) (ea ⟨nm, ky, nn, cn⟩)
        | false =>
          conv => whnf
          refine ⟨_, oc, ?_⟩
          rintro _ _ ⟨rfl, rfl⟩
          conv => whnf
          by_cases c5 : O < 0
          · refine brT (decide_eq_true c5) ?_
            conv => whnf
            refine ⟨⟨Nat.succ_pos _, by show ((acs out).length + 1) * (64 + 1) ≤ _; omega⟩, ?_⟩
            conv => whnf
            refine ⟨⟨Nat.succ_pos _, by show ((acs out ++ [_]).length + 1) * (64 + 1) ≤ _; rw [List.length_append]; show ((acs out).length + 1 + 1) * _ ≤ _; omega⟩, ?_⟩
            conv => whnf
            refine ⟨al.length - (j + 1), [(1, st who), (4, .ptr 0 []), (8, .ptr 2 []), (9, i64 0), (12, .ptr 4 []), (13, .row 8), (14, bo true), (39, .d (.sl 35 (acs al))), (40, i64 (((acs al).length : Nat) : Int)), (41, i64 ((j + 1 : Nat) : Int))], [0, 1, 2, 3, 4, 8], by omega, ⟨rfl, rfl, rfl, rfl, rfl, rfl, rfl, rfl, rfl, congrArg (fun z => some (i64 z)) e3, trivial⟩, ?_⟩
            conv => whnf
            refine ⟨j + 1, true, out ++ [⟨who, key, 0, n⟩, ⟨nm, ky, nn, cn⟩], by rw [if_neg (by decide), if_pos c5] at h1; rw [if_pos rfl, List.append_assoc]; exact h1, by rw [List.length_append]; first | (show _ + 1 ≤ _; omega) | (show _ + 2 ≤ _; omega), by omega, rfl, rfl, ?_⟩
            exact congrArg (fun z => [Blk.var (.d (Lg.d ⟨h, t, g, al, es⟩)), .var (.d (.arr 32 1 key)), .var (.d (.agg [.int .u64 0, .int .u64 0, .int .u64 0, .sl 35 [], .sl 35 []])), .var (.d zeroA), .var (.d (Ac.d ⟨who, key, 0, n⟩)), .row 36 35 z]) (ea2 ⟨who, key, 0, n⟩ ⟨nm, ky, nn, cn⟩)
          · refine brF (decide_eq_false c5) ?_
            conv => whnf
            refine ⟨⟨Nat.succ_pos _, by show ((acs out).length + 1) * (64 + 1) ≤ _; omega⟩, ?_⟩
            conv => whnf
            refine ⟨al.length - (j + 1), [(1, st who), (4, .ptr 0 []), (8, .ptr 2 []), (9, i64 0), (12, .ptr 4 []), (13, .row 7), (14, bo false), (39, .d (.sl 35 (acs al))), (40, i64 (((acs al).length : Nat) : Int)), (41, i64 ((j + 1 : Nat) : Int))], [0, 1, 2, 3, 4, 7], by omega, ⟨rfl, rfl, rfl, rfl, rfl, rfl, rfl, rfl, rfl, congrArg (fun z => some (i64 z)) e3, trivial⟩, ?_⟩
            conv => whnf
            refine ⟨j + 1, false, out ++ [⟨nm, ky, nn, cn⟩], by rw [if_neg (by decide), if_neg c5] at h1; rw [if_neg (by decide), List.append_assoc]; exact h1, by rw [List.length_append]; first | (show _ + 1 ≤ _; omega) | (show _ + 2 ≤ _; omega), by omega, rfl, rfl, ?_⟩
            exact congrArg (fun z => [Blk.var (.d (Lg.d ⟨h, t, g, al, es⟩)), .var (.d (.arr 32 1 key)), .var (.d (.agg [.int .u64 0, .int .u64 0, .int .u64 0, .sl 35 [], .sl 35 []])), .var (.d zeroA), .var (.d (Ac.d ⟨who, key, 0, n⟩)), .row 36 35 z]) (ea ⟨nm, ky, nn, cn⟩)
      · have h4 := of_decide_eq_false h4
        rw [hlen] at h4
        obtain rfl : j = al.length := by omega
        rw [List.drop_length, insA] at h1
        have ea : ∀ x : Ac, acs out ++ [x.d] = acs (out ++ [x]) := fun x => by unfold acs; rw [List.map_append]; rfl
        conv => whnf
        cases dn with
        | true =>
          rw [if_pos rfl, List.append_nil] at h1
          conv => whnf
          rw [← h1]
          exact ⟨rfl, rfl⟩
        | false =>
          rw [if_neg (by decide)] at h1
          conv => whnf
          refine ⟨⟨Nat.succ_pos _, by show ((acs out).length + 1) * (64 + 1) ≤ _; omega⟩, ?_⟩
          conv => whnf
          rw [← h1, show acs out ++ (List.replicate 1 zeroA).set 0 (Ac.d ⟨who, key, 0, n⟩) = acs (out ++ [⟨who, key, 0, n⟩]) from ea _]
          exact ⟨rfl, rfl⟩
end Go.Proofs.YtmdfpifcghmpfaaDoor
