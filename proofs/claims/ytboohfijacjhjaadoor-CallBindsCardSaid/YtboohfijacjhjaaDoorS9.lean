/- Inputs and digests (layer 4): the program's, the document's, of two parts. -/
import Derived.Test.YtboohfijacjhjaaDoorS8
set_option linter.unusedVariables false
namespace Go.Proofs.YtboohfijacjhjaaDoor
open Go.Ab

def one (b : UInt8) : ByteArray := ⟨#[b]⟩
/-- An input of a domain and two parts. -/
def inP (d : UInt8) (a b : ByteArray) : ByteArray := one d ++ textB a ++ textB b
def inX (d : UInt8) (a b : ByteArray) : Nat → ByteArray
  | 0 => one d
  | 1 => one d ++ textB a
  | _ => inP d a b

theorem wbyteB_c {s : ByteArray} {b : UInt8} {p : AV} (hp : p = .d .nilP ∨ p = .ptr 0 []) (hb : s.size ≤ 1000000000) : CallR cx 135 [.ptr 0 [], u8 (b.toNat : Int)] (bd p s) fun r S =>
    r = .d .nilI ∧ S = [.tvar 199 (.agg [.ptr 0 [], .row 2]), .sealed (.sl 1 (D.bytes s)), .row 5 1 (D.bytes (s ++ one b))] := by
  have cc := copyCheck_c (p := p) (s := s) hp
  have hl := bytes_length s
  unfold bd at cc ⊢
  rw [bytes_app]
  have e1 : D.bytes (one b) = [.int .u8 (b.toNat : Int)] := rfl
  rw [e1]
  generalize D.bytes s = xs at *
  rcases hp with rfl | rfl <;>
  · refine callR_of (R := R1) cx_ok Tryd.func135 (by kernel_rfl) rfl ?_
    conv => whnf
    refine ⟨_, cc, ?_⟩
    rintro _ _ ⟨rfl, rfl⟩
    conv => whnf
    refine ⟨⟨Nat.succ_pos _, by show (xs.length + 1) * (1 + 1) ≤ _; omega⟩, ?_⟩
    conv => whnf
    exact ⟨rfl, rfl⟩

theorem pinput_c {d : UInt8} {a b : ByteArray} (ha : a.size ≤ 100000) (hb : b.size ≤ 100000) :
    CallR cx 126 [u8 (d.toNat : Int), .d (.sl 1 [.str a, .str b])] [] fun r S => r = st (inP d a b) ∧ S = [] := by
  have ta := wtext_c (s := a) (by omega)
  have tb := wtext_c (s := b) (by omega)
  have za := textB_size a
  have zb := textB_size b
  have w1 := writeString_c (p := .ptr 0 []) (s := one d) (t := textB a) (.inr rfl) (by show 1 + _ ≤ _; omega)
  have w2 := writeString_c (p := .ptr 0 []) (s := one d ++ textB a) (t := textB b) (.inr rfl) (by rw [ByteArray.size_append]; show 1 + _ + _ ≤ _; omega)
  have sc := string_c (p := .ptr 0 []) (s := inP d a b) (.inr rfl)
  refine callR_of (R := R1) cx_ok Tryd.func126 (by kernel_rfl) rfl ?_
  conv => whnf
  refine ⟨_, wbyteB_c (s := .empty) (b := d) (.inl rfl) (by decide), ?_⟩
  rintro _ _ ⟨rfl, rfl⟩
  conv => whnf
  have e0 : D.bytes (ByteArray.empty ++ one d) = D.bytes (inX d a b 0) := by rw [ByteArray.empty_append]; rfl
  refine .inr ⟨fun m L S => ∃ j : Nat, j ≤ 2 ∧ m = 2 - j ∧
      L = [(5, .ptr 1 []), (10, .d (.sl 1 [.str a, .str b])), (11, i64 2), (12, i64 (j : Int))] ∧
      S = [.sealed (.sl 1 (D.bytes .empty)), .tvar 199 (.agg [.ptr 1 [], .row 2]), .row 5 1 (D.bytes (inX d a b j))],
    ⟨_, _, ⟨0, Nat.zero_le _, rfl, rfl, congrArg (fun z => [Blk.sealed (.sl 1 (D.bytes .empty)), .tvar 199 (.agg [.ptr 1 [], .row 2]), .row 5 1 z]) e0⟩, ⟨rfl, rfl, rfl, rfl, trivial⟩⟩, ?_⟩
  rintro _ _ _ ⟨j, hj, rfl, rfl, rfl⟩
  match j, hj with
  | 0, _ =>
    conv => whnf
    refine ⟨⟨by decide, (by decide : (0 : Int) < 2)⟩, ?_⟩
    conv => whnf
    refine ⟨_, ta, ?_⟩
    rintro _ _ ⟨rfl, rfl⟩
    conv => whnf
    refine ⟨_, w1, ?_⟩
    rintro _ _ ⟨rfl, rfl⟩
    conv => whnf
    refine ⟨2 - 1, [(5, .ptr 1 []), (10, .d (.sl 1 [.str a, .str b])), (11, i64 2), (12, i64 ((1 : Nat) : Int))], [0, 1, 3], by decide, ⟨rfl, rfl, rfl, rfl, trivial⟩, ?_⟩
    conv => whnf
    exact ⟨1, by decide, rfl, rfl, rfl⟩
  | 1, _ =>
    conv => whnf
    refine ⟨⟨by decide, (by decide : (1 : Int) < 2)⟩, ?_⟩
    conv => whnf
    refine ⟨_, tb, ?_⟩
    rintro _ _ ⟨rfl, rfl⟩
    conv => whnf
    refine ⟨_, w2, ?_⟩
    rintro _ _ ⟨rfl, rfl⟩
    conv => whnf
    refine ⟨2 - 2, [(5, .ptr 1 []), (10, .d (.sl 1 [.str a, .str b])), (11, i64 2), (12, i64 ((2 : Nat) : Int))], [0, 1, 3], by decide, ⟨rfl, rfl, rfl, rfl, trivial⟩, ?_⟩
    conv => whnf
    exact ⟨2, by decide, rfl, rfl, rfl⟩
  | 2, _ =>
    conv => whnf
    refine ⟨_, sc, ?_⟩
    rintro _ _ ⟨rfl, rfl⟩
    conv => whnf
    exact ⟨rfl, rfl⟩

theorem rinput_c {d : UInt8} {a b : ByteArray} (ha : a.size ≤ 100000) (hb : b.size ≤ 100000) :
    CallR cx 129 [u8 (d.toNat : Int), .d (.sl 1 [.str a, .str b])] [] fun r S => r = st (inP d a b) ∧ S = [] := by
  have ta := rtext_c (s := a) (by omega)
  have tb := rtext_c (s := b) (by omega)
  have za := textB_size a
  have zb := textB_size b
  refine callR_of (R := R1) cx_ok Tryd.func129 (by kernel_rfl) rfl ?_
  conv => whnf
  refine ⟨one d, rfl, ?_⟩
  conv => whnf
  refine .inl ⟨fun m L S => ∃ j : Nat, j ≤ 2 ∧ m = 2 - j ∧
      L = [(5, st (inX d a b j)), (11, .d (.sl 1 [.str a, .str b])), (12, i64 2), (13, i64 (j : Int))] ∧ S = [],
    ⟨_, _, ⟨0, Nat.zero_le _, rfl, rfl, rfl⟩, ⟨rfl, rfl, rfl, rfl, trivial⟩⟩, ?_⟩
  rintro _ _ _ ⟨j, hj, rfl, rfl, rfl⟩
  match j, hj with
  | 0, _ =>
    conv => whnf
    refine ⟨⟨by decide, (by decide : (0 : Int) < 2)⟩, ?_⟩
    conv => whnf
    refine ⟨_, ta, ?_⟩
    rintro _ _ ⟨rfl, rfl⟩
    conv => whnf
    refine ⟨by show 1 + _ ≤ _; omega, ?_⟩
    conv => whnf
    exact ⟨_, _, 0, (by decide : 2 - 1 < 2 - 0), ⟨1, by decide, rfl, rfl, rfl⟩, ⟨rfl, rfl, rfl, rfl, trivial⟩, rfl⟩
  | 1, _ =>
    conv => whnf
    refine ⟨⟨by decide, (by decide : (1 : Int) < 2)⟩, ?_⟩
    conv => whnf
    refine ⟨_, tb, ?_⟩
    rintro _ _ ⟨rfl, rfl⟩
    conv => whnf
    refine ⟨by show (one d ++ textB a).size + _ ≤ _; rw [ByteArray.size_append]; show 1 + _ + _ ≤ _; omega, ?_⟩
    conv => whnf
    exact ⟨_, _, 0, (by decide : 2 - 2 < 2 - 1), ⟨2, by decide, rfl, rfl, rfl⟩, ⟨rfl, rfl, rfl, rfl, trivial⟩, rfl⟩
  | 2, _ =>
    conv => whnf
    exact ⟨rfl, rfl⟩
end Go.Proofs.YtboohfijacjhjaaDoor
