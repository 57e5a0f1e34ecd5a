/- Ledgers, the model's: an account more. Ledgers: where an account more has its place. Ledgers: an account more, by the program. Ledgers: a twin; an event more. Ledgers: the program's Open. -/
import Derived.Test.YtmdfpifcghmpfaaDoorM3
import Derived.Test.YtmdfpifcghmpfaaDoorIn2
namespace Go.Proofs.YtmdfpifcghmpfaaDoor
open Go.Ab Go.RowKit

def insA : List Ac → Ac → List Ac
  | [], b => [b]
  | a :: l, b => if ordN b.name a.name < 0 then b :: a :: l else a :: insA l b
def openL (l : Lg) (who : ByteArray) (key : List D) (n : Int) : Lg × Int :=
  if rightT who = false then (l, 7) else match look l.accs who with
    | some _ => (l, 13)
    | none => if l.accs.length > 63 then (l, 6) else ({ l with accs := insA l.accs ⟨who, key, 0, n⟩ }, 0)

theorem ropen_c {l : Lg} {who : ByteArray} {key : List D} {n : Int} (hl : l.ok) (hn : ∀ a ∈ l.accs, a.name.size ≤ 200) (hw : who.size ≤ 200) :
    CallR cx 58 [.d l.d, st who, .d (.arr 32 1 key), u64 n] [] fun r S => r = .tup [.d (openL l who key n).1.d, i64 (openL l who key n).2] ∧ S = [] := by
  have rc := rright_c (s := who) (by omega)
  have fd := rfind_c (who := who) hl
  obtain ⟨h, t, g, al, es⟩ := l
  simp only at hn
  have hlen : (acs al).length = al.length := List.length_map _
  unfold openL
  unfold findL at fd
  simp only at fd ⊢
  cases q : rightT who with
  | false =>
    rw [q] at rc
    rw [if_pos rfl]
    refine callR_of (R := R1) cx_ok Tryd.func58 (by kernel_rfl) rfl ?_
    conv => whnf
    refine ⟨_, rc, ?_⟩
    rintro _ _ ⟨rfl, rfl⟩
    conv => whnf
    exact ⟨rfl, rfl⟩
  | true =>
    rw [q] at rc
    rw [if_neg (by decide)]
    cases hx : look al who with
    | some a =>
      rw [hx] at fd
      obtain ⟨nm, ky, nn, cn⟩ := a
      simp only at fd ⊢
      refine callR_of (R := R1) cx_ok Tryd.func58 (by kernel_rfl) rfl ?_
      conv => whnf
      refine ⟨_, rc, ?_⟩
      rintro _ _ ⟨rfl, rfl⟩
      conv => whnf
      refine ⟨_, fd, ?_⟩
      rintro _ _ ⟨rfl, rfl⟩
      conv => whnf
      exact ⟨rfl, rfl⟩
    | none =>
      rw [hx] at fd
      simp only at fd ⊢
      refine callR_of (R := R1) cx_ok Tryd.func58 (by kernel_rfl) rfl ?_
      conv => whnf
      refine ⟨_, rc, ?_⟩
      rintro _ _ ⟨rfl, rfl⟩
      conv => whnf
      refine ⟨_, fd, ?_⟩
      rintro _ _ ⟨rfl, rfl⟩
      conv => whnf
      by_cases c : ((acs al).length : Int) > 63
      · rw [if_pos (by omega)]
        refine brT (decide_eq_true c) ?_
        conv => whnf
        exact ⟨rfl, rfl⟩
      rw [if_neg (by omega)]
      refine brF (decide_eq_false c) ?_
      conv => whnf
      refine .inr ⟨36, 35, ?_⟩
      conv => whnf
      refine .inr ⟨fun m L S => ∃ (j : Nat) (dn : Bool) (out : List Ac), out ++ (if dn then al.drop j else insA (al.drop j) ⟨who, key, 0, n⟩) = insA al ⟨who, key, 0, n⟩ ∧ out.length ≤ 2 * j ∧ j ≤ al.length ∧ m = al.length - j ∧
          L = [(1, st who), (4, .ptr 0 []), (8, .ptr 2 []), (9, i64 0), (12, .ptr 4 []), (13, .row 5), (14, bo dn), (39, .d (.sl 35 (acs al))), (40, i64 (((acs al).length : Nat) : Int)), (41, i64 (j : Int))] ∧
          S = [.var (.d (Lg.d ⟨h, t, g, al, es⟩)), .var (.d (.arr 32 1 key)), .var (.d (.agg [.int .u64 0, .int .u64 0, .int .u64 0, .sl 35 [], .sl 35 []])), .var (.d zeroA), .var (.d (Ac.d ⟨who, key, 0, n⟩)), .row 36 35 (acs out)],
        ⟨_, _, ⟨0, false, [], rfl, by decide, Nat.zero_le _, rfl, rfl, rfl⟩, ⟨rfl, rfl, rfl, rfl, rfl, rfl, rfl, rfl, rfl, rfl, trivial⟩⟩, ?_⟩
      rintro _ _ _ ⟨j, dn, out, h1, h2, hj, rfl, rfl, rfl⟩
      have hlo : (acs out).length = out.length := List.length_map _
      conv => whnf
      refine brec (fun h4 => ?_) (fun h4 => ?_)
      · have h4 := of_decide_eq_true h4
        rw [hlen] at h4
        have hlt : j < al.length := by omega
        conv => whnf
        refine ⟨⟨by omega, by rw [hlen]; omega⟩, ?_⟩
        rw [acs_getD hlt]
        rw [List.drop_eq_getElem_cons hlt, insA] at h1
        have hs := hn _ (List.getElem_mem hlt)
        generalize al[j]'hlt = a at *
        have e3 : IntKind.i64.wrap ((j : Int) + 1) = ((j + 1 : Nat) : Int) := by rw [w64 (by omega)]; omega
        have ea : ∀ x : Ac, acs out ++ [x.d] = acs (out ++ [x]) := fun x => by unfold acs; rw [List.map_append]; rfl
        have ea2 : ∀ x y : Ac, acs out ++ [x.d] ++ [y.d] = acs (out ++ [x, y]) := fun x y => by unfold acs; rw [List.map_append, List.append_assoc]; rfl
        obtain ⟨nm, ky, nn, cn⟩ := a
        simp only at h1 hs
        have oc := rorder_c (a := who) (b := nm) (by omega) (by omega)
        unfold ordN at h1
        generalize ordL (keysAt who 0) (keysAt nm 0) = O at *
        conv => whnf
        cases dn with
        | true =>
          conv => whnf
          refine ⟨⟨Nat.succ_pos _, by show ((acs out).length + 1) * (64 + 1) ≤ _; omega⟩, ?_⟩
          conv => whnf
          refine ⟨al.length - (j + 1), [(1, st who), (4, .ptr 0 []), (8, .ptr 2 []), (9, i64 0), (12, .ptr 4 []), (13, .row 7), (14, bo true), (39, .d (.sl 35 (acs al))), (40, i64 (((acs al).length : Nat) : Int)), (41, i64 ((j + 1 : Nat) : Int))], [0, 1, 2, 3, 4, 7], by omega, ⟨rfl, rfl, rfl, rfl, rfl, rfl, rfl, rfl, rfl, congrArg (fun z => some (i64 z)) e3, trivial⟩, ?_⟩
          conv => whnf
          refine ⟨j + 1, true, out ++ [⟨nm, ky, nn, cn⟩], by rw [if_pos rfl] at h1 ⊢; rw [List.append_assoc]; exact h1, by rw [List.length_append]; first | (show _ + 1 ≤ _; omega) | (show _ + 2 ≤ _; omega), by omega, rfl, rfl, ?_⟩
          exact congrArg (fun z => [Blk.var (.d (Lg.d ⟨h, t, g, al, es⟩)), .var (.d (.arr 32 1 key)), .var (.d (.agg [.int .u64 0, .int .u64 0, .int .u64 0, .sl 35 [], .sl 35 []])), .var (.d zeroA), .var (.d (Ac.d ⟨who, key, 0, n⟩)), .row 36 35 z]) (ea ⟨nm, ky, nn, cn⟩)
        | false =>
          conv => whnf
          refine ⟨_, oc, ?_⟩
          rintro _ _ ⟨rfl, rfl⟩
          conv => whnf
          by_cases c5 : O < 0
          · refine brT (decide_eq_true c5) ?_
            conv => whnf
            refine ⟨⟨Nat.succ_pos _, by show ((acs out).length + 1) * (64 + 1) ≤ _; omega⟩, ?_⟩
            conv => whnf
            refine ⟨⟨Nat.succ_pos _, by show ((acs out ++ [_]).length + 1) * (64 + 1) ≤ _; rw [List.length_append]; show ((acs out).length + 1 + 1) * _ ≤ _; omega⟩, ?_⟩
            conv => whnf
            refine ⟨al.length - (j + 1), [(1, st who), (4, .ptr 0 []), (8, .ptr 2 []), (9, i64 0), (12, .ptr 4 []), (13, .row 8), (14, bo true), (39, .d (.sl 35 (acs al))), (40, i64 (((acs al).length : Nat) : Int)), (41, i64 ((j + 1 : Nat) : Int))], [0, 1, 2, 3, 4, 8], by omega, ⟨rfl, rfl, rfl, rfl, rfl, rfl, rfl, rfl, rfl, congrArg (fun z => some (i64 z)) e3, trivial⟩, ?_⟩
            conv => whnf
            refine ⟨j + 1, true, out ++ [⟨who, key, 0, n⟩, ⟨nm, ky, nn, cn⟩], by rw [if_neg (by decide), if_pos c5] at h1; rw [if_pos rfl, List.append_assoc]; exact h1, by rw [List.length_append]; first | (show _ + 1 ≤ _; omega) | (show _ + 2 ≤ _; omega), by omega, rfl, rfl, ?_⟩
            exact congrArg (fun z => [Blk.var (.d (Lg.d ⟨h, t, g, al, es⟩)), .var (.d (.arr 32 1 key)), .var (.d (.agg [.int .u64 0, .int .u64 0, .int .u64 0, .sl 35 [], .sl 35 []])), .var (.d zeroA), .var (.d (Ac.d ⟨who, key, 0, n⟩)), .row 36 35 z]) (ea2 ⟨who, key, 0, n⟩ ⟨nm, ky, nn, cn⟩)
          · refine brF (decide_eq_false c5) ?_
            conv => whnf
            refine ⟨⟨Nat.succ_pos _, by show ((acs out).length + 1) * (64 + 1) ≤ _; omega⟩, ?_⟩
            conv => whnf
            refine ⟨al.length - (j + 1), [(1, st who), (4, .ptr 0 []), (8, .ptr 2 []), (9, i64 0), (12, .ptr 4 []), (13, .row 7), (14, bo false), (39, .d (.sl 35 (acs al))), (40, i64 (((acs al).length : Nat) : Int)), (41, i64 ((j + 1 : Nat) : Int))], [0, 1, 2, 3, 4, 7], by omega, ⟨rfl, rfl, rfl, rfl, rfl, rfl, rfl, rfl, rfl, congrArg (fun z => some (i64 z)) e3, trivial⟩, ?_⟩
            conv => whnf
            refine ⟨j + 1, false, out ++ [⟨nm, ky, nn, cn⟩], by rw [if_neg (by decide), if_neg c5] at h1; rw [if_neg (by decide), List.append_assoc]; exact h1, by rw [List.length_append]; first | (show _ + 1 ≤ _; omega) | (show _ + 2 ≤ _; omega), by omega, rfl, rfl, ?_⟩
            exact congrArg (fun z => [Blk.var (.d (Lg.d ⟨h, t, g, al, es⟩)), .var (.d (.arr 32 1 key)), .var (.d (.agg [.int .u64 0, .int .u64 0, .int .u64 0, .sl 35 [], .sl 35 []])), .var (.d zeroA), .var (.d (Ac.d ⟨who, key, 0, n⟩)), .row 36 35 z]) (ea ⟨nm, ky, nn, cn⟩)
      · have h4 := of_decide_eq_false h4
        rw [hlen] at h4
        obtain rfl : j = al.length := by omega
        rw [List.drop_length, insA] at h1
        have ea : ∀ x : Ac, acs out ++ [x.d] = acs (out ++ [x]) := fun x => by unfold acs; rw [List.map_append]; rfl
        conv => whnf
        cases dn with
        | true =>
          rw [if_pos rfl, List.append_nil] at h1
          conv => whnf
          rw [← h1]
          exact ⟨rfl, rfl⟩
        | false =>
          rw [if_neg (by decide)] at h1
          conv => whnf
          refine ⟨⟨Nat.succ_pos _, by show ((acs out).length + 1) * (64 + 1) ≤ _; omega⟩, ?_⟩
          conv => whnf
          rw [← h1, show acs out ++ (List.replicate 1 zeroA).set 0 (Ac.d ⟨who, key, 0, n⟩) = acs (out ++ [⟨who, key, 0, n⟩]) from ea _]
          exact ⟨rfl, rfl⟩
end Go.Proofs.YtmdfpifcghmpfaaDoor

namespace Go.Proofs.YtmdfpifcghmpfaaDoor
open Go.Ab Go.RowKit

theorem open1_c {a : Ac} {who : ByteArray} (h1 : a.name.size ≤ 200) (h2 : who.size ≤ 200) : CallR cx 109 [.d a.d, .ptr 0 []] [.var (st who)] fun r S => r = bo (decide (ordN a.name who > 0)) ∧ S = [.var (st who)] := by
  obtain ⟨nm, ky, nn, cn⟩ := a
  simp only at h1
  have oc := order_c (a := nm) (b := who) (by omega) (by omega)
  unfold ordN
  simp only
  generalize ordL (keysAt nm 0) (keysAt who 0) = O at *
  refine callR_of (R := R1) cx_ok Tryd.func109 (by kernel_rfl) rfl ?_
  conv => whnf
  refine ⟨_, oc, ?_⟩
  rintro _ _ ⟨rfl, rfl⟩
  conv => whnf
  exact ⟨rfl, rfl⟩

theorem indexFunc2_c {l : List Ac} {who : ByteArray} (hl : l.length ≤ 100000) (hn : ∀ a ∈ l, a.name.size ≤ 200) (hw : who.size ≤ 200) : CallR cx 108 [.d (.sl 35 (acs l)), .fn 109 [0]] [.var (st who)] fun r S =>
    r = i64 (idxOf (fun a => decide (ordN a.name who > 0)) l 0) ∧ S = [.var (st who)] := by
  have hlen : (acs l).length = l.length := List.length_map _
  refine callR_of (R := R1) cx_ok Tryd.func108 (by kernel_rfl) rfl ?_
  conv => whnf
  refine .inl ⟨fun m L S => ∃ j : Nat, j ≤ l.length ∧ idxOf (fun a => decide (ordN a.name who > 0)) (l.drop j) j = idxOf (fun a => decide (ordN a.name who > 0)) l 0 ∧ m = l.length - j ∧
      L = [(0, .d (.sl 35 (acs l))), (1, .fn 109 [0]), (7, i64 (((acs l).length : Nat) : Int)), (8, i64 (j : Int))] ∧ S = [.var (st who)],
    ⟨_, _, ⟨0, Nat.zero_le _, rfl, rfl, rfl, rfl⟩, ⟨rfl, rfl, rfl, rfl, trivial⟩⟩, ?_⟩
  rintro _ _ _ ⟨j, hj, h1, rfl, rfl, rfl⟩
  conv => whnf
  refine brec (fun h4 => ?_) (fun h4 => ?_)
  · have h4 := of_decide_eq_true h4
    rw [hlen] at h4
    have hlt : j < l.length := by omega
    conv => whnf
    refine ⟨⟨by omega, by rw [hlen]; omega⟩, ?_⟩
    rw [acs_getD hlt]
    rw [List.drop_eq_getElem_cons hlt] at h1
    have hs := hn _ (List.getElem_mem hlt)
    generalize l[j]'hlt = a at *
    conv => whnf
    refine ⟨_, open1_c hs hw, ?_⟩
    rintro _ _ ⟨rfl, rfl⟩
    conv => whnf
    rw [idxOf] at h1
    refine brec (fun h5 => ?_) (fun h5 => ?_)
    · rw [if_pos h5] at h1
      conv => whnf
      rw [h1]
      exact ⟨rfl, rfl⟩
    · rw [if_neg (by rw [h5]; decide)] at h1
      have e3 : IntKind.i64.wrap ((j : Int) + 1) = ((j + 1 : Nat) : Int) := by rw [w64 (by omega)]; omega
      conv => whnf
      exact ⟨_, _, 1, (by omega : l.length - (j + 1) < l.length - j), ⟨j + 1, by omega, h1, rfl, rfl, rfl⟩, ⟨rfl, rfl, rfl, congrArg (fun z => some (i64 z)) e3, trivial⟩, rfl⟩
  · have h4 := of_decide_eq_false h4
    rw [hlen] at h4
    obtain rfl : j = l.length := by omega
    rw [List.drop_length, idxOf] at h1
    conv => whnf
    rw [← h1]
    exact ⟨rfl, rfl⟩

end Go.Proofs.YtmdfpifcghmpfaaDoor

namespace Go.Proofs.YtmdfpifcghmpfaaDoor
open Go.Shelf Go.Ab Go.RowKit

def renI : Go.Shelf.Ren := ⟨fun | 22 => 110 | 29 => 147 | 30 => 148 | n => n, fun | 3 => 3 | 4 => 4 | 9 => 36 | 24 => 23 | n => n, fun n => n⟩

theorem laysI : ∃ z, InsL Tryd.prog renI 35 64 z := by
  obtain ⟨_, info, f1, f2, f3, f4⟩ := cx_ok 36 _ rfl
  obtain ⟨zv, f5, f6⟩ := f4 _ rfl
  exact ⟨zv, {
    mixed := by kernel_rfl
    f22 := ⟨Tryd.f110.name, Tryd.func110.trans (congrArg some (by kernel_rfl))⟩
    ov := fun args w v w' h => by
      rw [run_callFunc_extern (P := Tryd.prog) (f := renI.f 29) Tryd.func147 (by kernel_rfl) (by kernel_rfl) (by kernel_rfl) (e := Extern.SlicesOverlaps.overlaps #[renI.t 24, renI.t 24] #[renI.t 4]) (by kernel_rfl), h]
      rfl
    t3 := Tryd.underlying3
    a3 := Tryd.isAgg3
    z3 := Tryd.sizeOf3
    v3 := Tryd.zeroValue3
    t4 := Tryd.underlying4
    a4 := Tryd.isAgg4
    z4 := Tryd.sizeOf4
    v4 := Tryd.zeroValue4
    t24 := Tryd.underlying23
    a24 := Tryd.isAgg23
    z24 := Tryd.sizeOf23
    v24 := Tryd.zeroValue23
    z9 := Tryd.sizeOf36
    i9 := ⟨info, f1, f5, f2, f3⟩
    zs := (f6 default (fun _ _ => False)).cells_size
    s0 := by decide }⟩

theorem insertA_c {l : List Ac} {b : Ac} {i : Nat} (hi : i ≤ l.length) (h : l.length ≤ 100000) : CallR cx 110 [.row 0, i64 (i : Int), .d (.sl 35 [b.d])] [.own 36 35 (acs l)] fun r S =>
    r = .row 1 ∧ S = [.dead, .own 36 35 (acs (l.take i ++ b :: l.drop i))] := by
  obtain ⟨z, L⟩ := laysI
  have hl : (acs l).length = l.length := List.length_map _
  have := insert_c L (xs := acs l) (x := b.d) (e := 36) (i := i) rfl Tryd.func110 (by kernel_rfl) rfl (by omega) (by rw [hl]; unfold maxLen; omega) (by rw [hl]; omega)
  have e : acs (l.take i ++ b :: l.drop i) = (acs l).take i ++ b.d :: (acs l).drop i := by simp [acs, List.map_take, List.map_drop]
  rw [e]
  exact this
end Go.Proofs.YtmdfpifcghmpfaaDoor

namespace Go.Proofs.YtmdfpifcghmpfaaDoor
open Go.Shelf Go.Ab Go.RowKit

def renE : Go.Shelf.Ren := ⟨fun | 41 => 73 | n => n, fun | 4 => 4 | 22 => 24 | 23 => 47 | n => n, fun n => n⟩
theorem laysE : SlLaysE0.n41 Tryd.prog renE := {
  mixed := by kernel_rfl
  f41 := ⟨Tryd.f73.name, by kernel_rfl, Tryd.func73.trans (congrArg some (by kernel_rfl))⟩
  t4 := Tryd.underlying4
  a4 := Tryd.isAgg4
  z4 := Tryd.sizeOf4
  v4 := Tryd.zeroValue4
  t22 := Tryd.underlying24
  a22 := Tryd.isAgg24
  z22 := Tryd.sizeOf24
  v22 := Tryd.zeroValue24 }

theorem cloneE_c {l : List D} (h : l.length ≤ 100000) : CallR cx 73 [.d (.sl 35 l)] [] fun r S => r = .row 0 ∧ S = [.own 47 35 l] := by
  exact clone_c (ρ := renE) laysE (e := 47) (sz := 35) rfl Tryd.func73 (by kernel_rfl) (by kernel_rfl) rfl rfl rfl rfl (by decide) Tryd.sizeOf47 (by unfold maxLen; omega) (by show l.length * 64 ≤ _; omega)

theorem twin_c {l : Lg} (hl : l.accs.length ≤ 100000) (he : l.evs.length ≤ 100000) : CallR cx 23 [.d l.d] [] fun r S => r = .d l.d ∧ S = [] := by
  have c1 := cloneA_c (l := l.accs) hl
  have c2 := cloneE_c (l := l.evs) he
  obtain ⟨h, t, g, al, es⟩ := l
  simp only at c1 c2
  refine callR_of (R := R1) cx_ok Tryd.func23 (by kernel_rfl) rfl ?_
  conv => whnf
  refine ⟨by kernel_rfl, ?_⟩
  conv => whnf
  refine ⟨_, _, _, c1, ?_⟩
  conv => whnf
  refine ⟨_, _, _, c2, ?_⟩
  conv => whnf
  refine ⟨by kernel_rfl, ?_⟩
  conv => whnf
  exact ⟨rfl, rfl⟩

theorem note_c {l : Lg} {k : Int} {s : ByteArray} {n : Int} {ds : List D} (hel : l.evs.length ≤ 99999) :
    CallR cx 68 [.d l.d, .d (.agg [.int .i64 k, .str s, .int .u64 n, .arr 32 1 ds])] [] fun r S => r = .d (noteL l (.agg [.int .i64 k, .str s, .int .u64 n, .arr 32 1 ds])).d ∧ S = [] := by
  have c2 := cloneE_c (l := l.evs) (by omega)
  obtain ⟨h, t, g, al, es⟩ := l
  simp only at c2 hel
  have hd : ((es ++ [D.agg [.int .i64 k, .str s, .int .u64 n, .arr 32 1 ds]]).drop (es.length - 4095)) = es.drop (es.length - 4095) ++ [D.agg [.int .i64 k, .str s, .int .u64 n, .arr 32 1 ds]] := by
    rw [List.drop_append_of_le_length (by omega)]
  have c3 := cloneE_c (l := es.drop (es.length - 4095) ++ [D.agg [.int .i64 k, .str s, .int .u64 n, .arr 32 1 ds]]) (by simp; omega)
  have hl1 : (es ++ [D.agg [.int .i64 k, .str s, .int .u64 n, .arr 32 1 ds]]).length = es.length + 1 := by simp
  have hm : (if IntKind.i64.wrap (((es ++ [D.agg [.int .i64 k, .str s, .int .u64 n, .arr 32 1 ds]]).length : Int) - 4096) > 0 then IntKind.i64.wrap (((es ++ [D.agg [.int .i64 k, .str s, .int .u64 n, .arr 32 1 ds]]).length : Int) - 4096) else 0) = ((es.length - 4095 : Nat) : Int) := by
    rw [hl1, w64 (by omega)]
    split <;> omega
  have hT : ((es ++ [D.agg [.int .i64 k, .str s, .int .u64 n, .arr 32 1 ds]]).drop ((es.length - 4095 : Nat) : Int).toNat).take ((((es ++ [D.agg [.int .i64 k, .str s, .int .u64 n, .arr 32 1 ds]]).length : Nat) : Int) - ((es.length - 4095 : Nat) : Int)).toNat = es.drop (es.length - 4095) ++ [D.agg [.int .i64 k, .str s, .int .u64 n, .arr 32 1 ds]] := by
    rw [Int.toNat_natCast, hd]
    exact List.take_of_length_le (by simp; omega)
  unfold noteL
  simp only
  refine callR_of (R := R1) cx_ok Tryd.func68 (by kernel_rfl) rfl ?_
  conv => whnf
  refine ⟨by kernel_rfl, ?_⟩
  conv => whnf
  refine ⟨_, _, _, c2, ?_⟩
  conv => whnf
  refine ⟨⟨Nat.zero_lt_one, by show (es.length + 1) * 65 ≤ _; omega⟩, ?_⟩
  conv => whnf
  refine ⟨by kernel_rfl, ?_⟩
  conv => whnf
  rw [show ∀ (z e : D), (List.replicate 1 z).set 0 e = [e] from fun _ _ => rfl, hm]
  refine ⟨⟨by omega, by rw [hl1]; omega, by omega⟩, ?_⟩
  rw [hT]
  conv => whnf
  refine ⟨_, c3, ?_⟩
  rintro _ _ ⟨rfl, rfl⟩
  conv => whnf
  exact ⟨rfl, rfl⟩
end Go.Proofs.YtmdfpifcghmpfaaDoor

namespace Go.Proofs.YtmdfpifcghmpfaaDoor
open Go.Shelf Go.Ab Go.RowKit

/-- Where an account more has its place. -/
theorem idx_ins : ∀ (l : List Ac) (b : Ac) (k : Nat), (idxOf (fun a => decide (ordN a.name b.name > 0)) l k = -1 ∧ insA l b = l ++ [b]) ∨
    ∃ j, j < l.length ∧ idxOf (fun a => decide (ordN a.name b.name > 0)) l k = ((k + j : Nat) : Int) ∧ insA l b = l.take j ++ b :: l.drop j
  | [], b, k => .inl ⟨rfl, rfl⟩
  | a :: l, b, k => by
    have ht : ordN a.name b.name = - ordN b.name a.name := ordL_turn _ _
    by_cases e : ordN a.name b.name > 0
    · refine .inr ⟨0, by simp, by rw [idxOf, if_pos (decide_eq_true e)]; rfl, ?_⟩
      rw [insA, if_pos (by omega)]
      rfl
    · have e1 : idxOf (fun a => decide (ordN a.name b.name > 0)) (a :: l) k = idxOf (fun a => decide (ordN a.name b.name > 0)) l (k + 1) := by rw [idxOf, if_neg (by rw [decide_eq_false e]; decide)]
      have e2 : insA (a :: l) b = a :: insA l b := by rw [insA, if_neg (by omega)]
      rcases idx_ins l b (k + 1) with ⟨h1, h2⟩ | ⟨j, h, h1, h2⟩
      · exact .inl ⟨by rw [e1, h1], by rw [e2, h2]; rfl⟩
      · exact .inr ⟨j + 1, by simpa using h, by rw [e1, h1]; congr 1; omega, by rw [e2, h2]; rfl⟩

theorem open_c {l : Lg} {who : ByteArray} {key : List D} {n : Int} (hl : l.ok) (hn : ∀ a ∈ l.accs, a.name.size ≤ 200) (hw : who.size ≤ 200) :
    CallR cx 51 [.d l.d, st who, .d (.arr 32 1 key), u64 n] [] fun r S => r = .tup [.d (openL l who key n).1.d, i64 (openL l who key n).2] ∧ S = [] := by
  have rc := right_c (s := who) (by omega)
  have at' := at_c (who := who) hl.2.2
  have hix := idx_look l.accs who 0
  have hax := idx_ins l.accs ⟨who, key, 0, n⟩ 0
  have ix := indexFunc2_c (who := who) hl.2.2 hn hw
  have c1 := cloneA_c (l := l.accs) hl.2.2
  have hll := hl.2.2
  obtain ⟨h, t, g, al, es⟩ := l
  simp only at hn hix ix c1 hll hax
  have hlen : (acs al).length = al.length := List.length_map _
  have ins : ∀ i, i ≤ al.length → _ := fun i hi => insertA_c (l := al) (b := ⟨who, key, 0, n⟩) (i := i) hi hll
  unfold openL
  simp only
  unfold atN at at'
  simp only at at'
  cases q : rightT who with
  | false =>
    rw [q] at rc
    rw [if_pos rfl]
    refine callR_of (R := R1) cx_ok Tryd.func51 (by kernel_rfl) rfl ?_
    conv => whnf
    refine ⟨_, rc, ?_⟩
    rintro _ _ ⟨rfl, rfl⟩
    conv => whnf
    exact ⟨rfl, rfl⟩
  | true =>
    rw [q] at rc
    rw [if_neg (by decide)]
    rcases hix with ⟨h1, h2⟩ | ⟨j, hj, h1, h2, h3, h4⟩
    · rw [h1] at at'
      rw [h2]
      simp only
      refine callR_of (R := R1) cx_ok Tryd.func51 (by kernel_rfl) rfl ?_
      conv => whnf
      refine ⟨_, rc, ?_⟩
      rintro _ _ ⟨rfl, rfl⟩
      conv => whnf
      refine ⟨_, at', ?_⟩
      rintro _ _ ⟨rfl, rfl⟩
      conv => whnf
      refine brec (fun h5 => ?_) (fun h5 => ?_)
      · have h5 := of_decide_eq_true h5
        rw [hlen] at h5
        rw [if_pos (by omega)]
        conv => whnf
        exact ⟨rfl, rfl⟩
      · have h5 := of_decide_eq_false h5
        rw [hlen] at h5
        rw [if_neg (by omega)]
        conv => whnf
        refine ⟨_, ix, ?_⟩
        rintro _ _ ⟨rfl, rfl⟩
        rcases hax with ⟨g1, g2⟩ | ⟨j, hj, g1, g2⟩
        · rw [g1, g2]
          have ins0 := ins al.length (Nat.le_refl _)
          rw [List.take_length, List.drop_length] at ins0
          obtain ⟨M, hM⟩ : ∃ M, M = al ++ [(⟨who, key, 0, n⟩ : Ac)] := ⟨_, rfl⟩
          rw [← hM] at ins0 ⊢
          rw [← hlen] at ins0
          conv => whnf
          refine ⟨by kernel_rfl, ?_⟩
          conv => whnf
          refine ⟨_, _, _, c1, ?_⟩
          conv => whnf
          refine ⟨_, _, _, ins0, ?_⟩
          conv => whnf
          refine ⟨by kernel_rfl, ?_⟩
          conv => whnf
          exact ⟨rfl, rfl⟩
        · rw [g1, g2, Nat.zero_add]
          have ins0 := ins j (by omega)
          obtain ⟨M, hM⟩ : ∃ M, M = al.take j ++ (⟨who, key, 0, n⟩ : Ac) :: al.drop j := ⟨_, rfl⟩
          rw [← hM] at ins0 ⊢
          generalize hJ : (j : Int) = J at *
          conv => whnf
          refine brF (decide_eq_false (by omega)) ?_
          conv => whnf
          refine ⟨by kernel_rfl, ?_⟩
          conv => whnf
          refine ⟨_, _, _, c1, ?_⟩
          conv => whnf
          refine ⟨_, _, _, ins0, ?_⟩
          conv => whnf
          refine ⟨by kernel_rfl, ?_⟩
          conv => whnf
          exact ⟨rfl, rfl⟩
    · rw [h1, Nat.zero_add] at at'
      rw [h2]
      simp only
      generalize hJ : (j : Int) = J at *
      refine callR_of (R := R1) cx_ok Tryd.func51 (by kernel_rfl) rfl ?_
      conv => whnf
      refine ⟨_, rc, ?_⟩
      rintro _ _ ⟨rfl, rfl⟩
      conv => whnf
      refine ⟨_, at', ?_⟩
      rintro _ _ ⟨rfl, rfl⟩
      conv => whnf
      refine brT (decide_eq_true (by omega)) ?_
      conv => whnf
      exact ⟨rfl, rfl⟩
end Go.Proofs.YtmdfpifcghmpfaaDoor
