/- Digests (layer 4) without a log: the program's Of, the document's. -/
import Derived.Test.YtboohfijacjhjaaDoorS9
set_option linter.unusedVariables false
namespace Go.Proofs.YtboohfijacjhjaaDoor
open Go.Ab

/-- The digest of a domain and two parts. -/
def dgP (d : UInt8) (a b : ByteArray) : ByteArray := shaP (inP d a b)
theorem dgP_size (d : UInt8) (a b : ByteArray) : (dgP d a b).size = 32 := shaP_size _
theorem inP_size (d : UInt8) (a b : ByteArray) : (inP d a b).size = 9 + a.size + b.size := by
  have za := textB_size a
  have zb := textB_size b
  unfold inP
  simp only [ByteArray.size_append]
  show 1 + _ + _ = _
  omega

theorem pnote_nil {x : D} {s : ByteArray} : CallR cx 128 [.d .nilP, .d x, st s] [] fun r S => r = .tup [] ∧ S = [] := by
  refine callR_of (R := R1) cx_ok Tryd.func128 (by kernel_rfl) rfl ?_
  conv => whnf
  exact ⟨rfl, rfl⟩
theorem rnote_nil {x : D} {s : ByteArray} : CallR cx 131 [.d .nilP, .d x, st s] [] fun r S => r = .tup [] ∧ S = [] := by
  refine callR_of (R := R1) cx_ok Tryd.func131 (by kernel_rfl) rfl ?_
  conv => whnf
  exact ⟨rfl, rfl⟩

theorem pof_c {d : UInt8} {a b : ByteArray} (ha : a.size ≤ 40000) (hb : b.size ≤ 40000) :
    CallR cx 103 [.d .nilP, u8 (d.toNat : Int), .d (.sl 1 [.str a, .str b])] [] fun r S => r = .d (dgD (dgP d a b)) ∧ S = [] := by
  have hi := pinput_c (d := d) (a := a) (b := b) (by omega) (by omega)
  have hz := inP_size d a b
  have hs := psum_sha (s := inP d a b) (by omega)
  unfold dgP
  generalize inP d a b = I at *
  generalize shaP I = H at *
  refine callR_of (R := R1) cx_ok Tryd.func103 (by kernel_rfl) rfl ?_
  conv => whnf
  refine ⟨_, hi, ?_⟩
  rintro _ _ ⟨rfl, rfl⟩
  conv => whnf
  refine ⟨_, hs, ?_⟩
  rintro _ _ ⟨rfl, rfl⟩
  conv => whnf
  refine ⟨_, pnote_nil, ?_⟩
  rintro _ _ ⟨rfl, rfl⟩
  conv => whnf
  exact ⟨rfl, rfl⟩

theorem rof_c {d : UInt8} {a b : ByteArray} (ha : a.size ≤ 40000) (hb : b.size ≤ 40000) :
    CallR cx 104 [.d .nilP, u8 (d.toNat : Int), .d (.sl 1 [.str a, .str b])] [] fun r S => r = .d (dgD (dgP d a b)) ∧ S = [] := by
  have hi := rinput_c (d := d) (a := a) (b := b) (by omega) (by omega)
  have hz := inP_size d a b
  have hs := rsum_sha (s := inP d a b) (by omega)
  unfold dgP
  generalize inP d a b = I at *
  generalize shaP I = H at *
  refine callR_of (R := R1) cx_ok Tryd.func104 (by kernel_rfl) rfl ?_
  conv => whnf
  refine ⟨_, hi, ?_⟩
  rintro _ _ ⟨rfl, rfl⟩
  conv => whnf
  refine ⟨_, hs, ?_⟩
  rintro _ _ ⟨rfl, rfl⟩
  conv => whnf
  refine ⟨_, rnote_nil, ?_⟩
  rintro _ _ ⟨rfl, rfl⟩
  conv => whnf
  exact ⟨rfl, rfl⟩
end Go.Proofs.YtboohfijacjhjaaDoor
