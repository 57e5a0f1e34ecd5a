/- Ledgers: a twin; an event more. -/
import Derived.Test.YtmdfpifcghmpfaaDoorLI
namespace Go.Proofs.YtmdfpifcghmpfaaDoor
open Go.Shelf Go.Ab Go.RowKit

def renE : Go.Shelf.Ren := ⟨fun | 41 => 73 | n => n, fun | 4 => 4 | 22 => 24 | 23 => 47 | n => n, fun n => n⟩
theorem laysE : SlLaysE0.n41 Tryd.prog renE := {
  mixed := by kernel_rfl
  f41 := ⟨Tryd.f73.name, by kernel_rfl, Tryd.func73.trans (congrArg some (by kernel_rfl))⟩
  t4 := Tryd.underlying4
  a4 := Tryd.isAgg4
  z4 := Tryd.sizeOf4
  v4 := Tryd.zeroValue4
  t22 := Tryd.underlying24
  a22 := Tryd.isAgg24
  z22 := Tryd.sizeOf24
  v22 := Tryd.zeroValue24 }

theorem cloneE_c {l : List D} (h : l.length ≤ 100000) : CallR cx 73 [.d (.sl 35 l)] [] fun r S => r = .row 0 ∧ S = [.own 47 35 l] := by
  exact clone_c (ρ := renE) laysE (e := 47) (sz := 35) rfl Tryd.func73 (by kernel_rfl) (by kernel_rfl) rfl rfl rfl rfl (by decide) Tryd.sizeOf47 (by unfold maxLen; omega) (by show l.length * 64 ≤ _; omega)

theorem twin_c {l : Lg} (hl : l.accs.length ≤ 100000) (he : l.evs.length ≤ 100000) : CallR cx 23 [.d l.d] [] fun r S => r = .d l.d ∧ S = [] := by
  have c1 := cloneA_c (l := l.accs) hl
  have c2 := cloneE_c (l := l.evs) he
  obtain ⟨h, t, g, al, es⟩ := l
  simp only at c1 c2
  refine callR_of (R := R1) cx_ok Tryd.func23 (by kernel_rfl) rfl ?_
  conv => whnf
  refine ⟨by kernel_rfl, ?_⟩
  conv => whnf
  refine ⟨_, _, _, c1, ?_⟩
  conv => whnf
  refine ⟨_, _, _, c2, ?_⟩
  conv => whnf
  refine ⟨by kernel_rfl, ?_⟩
  conv => whnf
  exact ⟨rfl, rfl⟩

theorem note_c {l : Lg} {k : Int} {s : ByteArray} {n : Int} {ds : List D} (hel : l.evs.length ≤ 99999) :
    CallR cx 68 [.d l.d, .d (.agg [.int .i64 k, .str s, .int .u64 n, .arr 32 1 ds])] [] fun r S => r = .d (noteL l (.agg [.int .i64 k, .str s, .int .u64 n, .arr 32 1 ds])).d ∧ S = [] := by
  have c2 := cloneE_c (l := l.evs) (by omega)
  obtain ⟨h, t, g, al, es⟩ := l
  simp only at c2 hel
  have hd : ((es ++ [D.agg [.int .i64 k, .str s, .int .u64 n, .arr 32 1 ds]]).drop (es.length - 4095)) = es.drop (es.length - 4095) ++ [D.agg [.int .i64 k, .str s, .int .u64 n, .arr 32 1 ds]] := by
    rw [List.drop_append_of_le_length (by omega)]
  have c3 := cloneE_c (l := es.drop (es.length - 4095) ++ [D.agg [.int .i64 k, .str s, .int .u64 n, .arr 32 1 ds]]) (by simp; omega)
  have hl1 : (es ++ [D.agg [.int .i64 k, .str s, .int .u64 n, .arr 32 1 ds]]).length = es.length + 1 := by simp
  have hm : (if IntKind.i64.wrap (((es ++ [D.agg [.int .i64 k, .str s, .int .u64 n, .arr 32 1 ds]]).length : Int) - 4096) > 0 then IntKind.i64.wrap (((es ++ [D.agg [.int .i64 k, .str s, .int .u64 n, .arr 32 1 ds]]).length : Int) - 4096) else 0) = ((es.length - 4095 : Nat) : Int) := by
    rw [hl1, w64 (by omega)]
    split <;> omega
  have hT : ((es ++ [D.agg [.int .i64 k, .str s, .int .u64 n, .arr 32 1 ds]]).drop ((es.length - 4095 : Nat) : Int).toNat).take ((((es ++ [D.agg [.int .i64 k, .str s, .int .u64 n, .arr 32 1 ds]]).length : Nat) : Int) - ((es.length - 4095 : Nat) : Int)).toNat = es.drop (es.length - 4095) ++ [D.agg [.int .i64 k, .str s, .int .u64 n, .arr 32 1 ds]] := by
    rw [Int.toNat_natCast, hd]
    exact List.take_of_length_le (by simp; omega)
  unfold noteL
  simp only
  refine callR_of (R := R1) cx_ok Tryd.func68 (by kernel_rfl) rfl ?_
  conv => whnf
  refine ⟨by kernel_rfl, ?_⟩
  conv => whnf
  refine ⟨_, _, _, c2, ?_⟩
  conv => whnf
  refine ⟨⟨Nat.zero_lt_one, by show (es.length + 1) * 65 ≤ _; omega⟩, ?_⟩
  conv => whnf
  refine ⟨by kernel_rfl, ?_⟩
  conv => whnf
  rw [show ∀ (z e : D), (List.replicate 1 z).set 0 e = [e] from fun _ _ => rfl, hm]
  refine ⟨⟨by omega, by rw [hl1]; omega, by omega⟩, ?_⟩
  rw [hT]
  conv => whnf
  refine ⟨_, c3, ?_⟩
  rintro _ _ ⟨rfl, rfl⟩
  conv => whnf
  exact ⟨rfl, rfl⟩
end Go.Proofs.YtmdfpifcghmpfaaDoor
