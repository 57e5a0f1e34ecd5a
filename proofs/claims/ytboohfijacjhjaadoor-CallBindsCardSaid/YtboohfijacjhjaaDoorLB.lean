/- The document's log (layer 4): digests that are noted (printed by gen/cblog.py). -/
import Derived.Test.YtboohfijacjhjaaDoorLA
import Derived.Test.YtboohfijacjhjaaDoorSB
set_option linter.unusedVariables false
namespace Go.Proofs.YtboohfijacjhjaaDoor
open Go.Ab Go.RowKit

theorem logof0_c {d : UInt8} {a b : ByteArray} (ha : a.size ≤ 40000) (hb : b.size ≤ 40000) :
    CallR cx 104 [.ptr 0 [], u8 (d.toNat : Int), .d (.sl 1 [.str a, .str b])] (logS [] [] []) fun r S => r = .d (dgD (dgP d a b)) ∧ S = [.var (.agg [.row 18, .row 2]), .sealed (.sl 1 []), .mapb [dgP d a b] (.agg [.row 15]), .var (.d (dgD (dgP d a b))), .var (.d (dgD (dgP d a b))), .var (.d (dgD (dgP d a b))), .dead, .dead, .dead, .dead, .dead, .dead, .dead, .sealed (.sl 1 []), .dead, .row 9 1 [.str (inP d a b)], .dead, .dead, .row 9 1 [.str (inP d a b)]] := by
  have hi := rinput_c (d := d) (a := a) (b := b) (by omega) (by omega)
  have hz := inP_size d a b
  have hs := rsum_sha (s := inP d a b) (by omega)
  have hq := shaP_size (inP d a b)
  unfold dgP at *
  generalize inP d a b = I at *
  generalize shaP I = H at *
  have hn := lognote0_c (b := H) (s := I) hq
  refine callR_of (R := R1) cx_ok Tryd.func104 (by kernel_rfl) rfl ?_
  conv => whnf
  refine ⟨_, hi, ?_⟩
  rintro _ _ ⟨rfl, rfl⟩
  conv => whnf
  refine ⟨_, hs, ?_⟩
  rintro _ _ ⟨rfl, rfl⟩
  conv => whnf
  refine ⟨_, hn, ?_⟩
  rintro _ _ ⟨rfl, rfl⟩
  conv => whnf
  exact ⟨rfl, rfl⟩

theorem logofS_c {d : UInt8} {a b : ByteArray} (ha : a.size ≤ 40000) (hb : b.size ≤ 40000) :
    CallR cx 104 [.ptr 0 [], u8 (d.toNat : Int), .d (.sl 1 [.str a, .str b])] (logS1 (inP d a b) (dgP d a b)) fun r S => r = .d (dgD (dgP d a b)) ∧ S = logS1 (inP d a b) (dgP d a b) := by
  have hi := rinput_c (d := d) (a := a) (b := b) (by omega) (by omega)
  have hz := inP_size d a b
  have hs := rsum_sha (s := inP d a b) (by omega)
  have hq := shaP_size (inP d a b)
  unfold dgP at *
  generalize inP d a b = I at *
  generalize shaP I = H at *
  have hn := lognoteS_c (b := H) (s := I) hq
  refine callR_of (R := R1) cx_ok Tryd.func104 (by kernel_rfl) rfl ?_
  conv => whnf
  refine ⟨_, hi, ?_⟩
  rintro _ _ ⟨rfl, rfl⟩
  conv => whnf
  refine ⟨_, hs, ?_⟩
  rintro _ _ ⟨rfl, rfl⟩
  conv => whnf
  refine ⟨_, hn, ?_⟩
  rintro _ _ ⟨rfl, rfl⟩
  conv => whnf
  exact ⟨rfl, rfl⟩

theorem logofC_c {d : UInt8} {a b : ByteArray} (ha : a.size ≤ 40000) (hb : b.size ≤ 40000) {I0 : ByteArray} (hI : I0 ≠ inP d a b) :
    CallR cx 104 [.ptr 0 [], u8 (d.toNat : Int), .d (.sl 1 [.str a, .str b])] (logS1 I0 (dgP d a b)) fun r S => r = .d (dgD (dgP d a b)) ∧ S = [.var (.agg [.row 19, .row 2]), .sealed (.sl 1 [.str I0]), .mapb [dgP d a b] (.agg [.row 16]), .sealed (.sl 1 [.str I0]), .var (.d (dgD (dgP d a b))), .var (.d (dgD (dgP d a b))), .var (.d (dgD (dgP d a b))), .dead, .dead, .dead, .dead, .dead, .dead, .dead, .dead, .dead, .row 9 1 [.str I0, .str (inP d a b)], .dead, .dead, .row 9 1 [.str I0, .str (inP d a b)]] := by
  have hi := rinput_c (d := d) (a := a) (b := b) (by omega) (by omega)
  have hz := inP_size d a b
  have hs := rsum_sha (s := inP d a b) (by omega)
  have hq := shaP_size (inP d a b)
  unfold dgP at *
  generalize inP d a b = I at *
  generalize shaP I = H at *
  have hn := lognoteC_c (b := H) (s := I0) (t := I) hq hI
  refine callR_of (R := R1) cx_ok Tryd.func104 (by kernel_rfl) rfl ?_
  conv => whnf
  refine ⟨_, hi, ?_⟩
  rintro _ _ ⟨rfl, rfl⟩
  conv => whnf
  refine ⟨_, hs, ?_⟩
  rintro _ _ ⟨rfl, rfl⟩
  conv => whnf
  refine ⟨_, hn, ?_⟩
  rintro _ _ ⟨rfl, rfl⟩
  conv => whnf
  exact ⟨rfl, rfl⟩

theorem logofD_c {d : UInt8} {a b : ByteArray} (ha : a.size ≤ 40000) (hb : b.size ≤ 40000) {I0 H0 : ByteArray} (h0 : H0.size = 32) (hI : dgP d a b ≠ H0) :
    CallR cx 104 [.ptr 0 [], u8 (d.toNat : Int), .d (.sl 1 [.str a, .str b])] (logS1 I0 H0) fun r S => r = .d (dgD (dgP d a b)) ∧ S = [.var (.agg [.row 19, .row 2]), .sealed (.sl 1 [.str I0]), .mapb [H0, dgP d a b] (.agg [.row 3, .row 16]), .row 9 1 [.str I0], .var (.d (dgD (dgP d a b))), .var (.d (dgD (dgP d a b))), .var (.d (dgD (dgP d a b))), .dead, .dead, .dead, .dead, .dead, .dead, .dead, .sealed (.sl 1 []), .dead, .row 9 1 [.str (inP d a b)], .dead, .dead, .row 9 1 [.str I0, .str (inP d a b)]] := by
  have hi := rinput_c (d := d) (a := a) (b := b) (by omega) (by omega)
  have hz := inP_size d a b
  have hs := rsum_sha (s := inP d a b) (by omega)
  have hq := shaP_size (inP d a b)
  unfold dgP at *
  generalize inP d a b = I at *
  generalize shaP I = H at *
  have hn := lognoteD_c (b := H0) (d := H) (s := I0) (t := I) h0 hq hI
  refine callR_of (R := R1) cx_ok Tryd.func104 (by kernel_rfl) rfl ?_
  conv => whnf
  refine ⟨_, hi, ?_⟩
  rintro _ _ ⟨rfl, rfl⟩
  conv => whnf
  refine ⟨_, hs, ?_⟩
  rintro _ _ ⟨rfl, rfl⟩
  conv => whnf
  refine ⟨_, hn, ?_⟩
  rintro _ _ ⟨rfl, rfl⟩
  conv => whnf
  exact ⟨rfl, rfl⟩

theorem logdig0_c {f : Fd} {ch : Nat} {B : ByteArray} {E : Int} (h : 1 ≤ f.tag ∧ f.tag ≤ 4) (hch : ch < 4294967296) (hB : B.size ≤ 40000)
    (fb : CallR cx 33 [.d (Fd.d { f with sig := sg0 })] [] fun r S => r = .tup [st B, i64 E] ∧ S = []) :
    CallR cx 46 [.d f.d, .ptr 0 [], u32 (ch : Int)] (logS [] [] []) fun r S => ∃ J : D, r = .d (dgD (dgP 8 (bigB ch 4) B)) ∧ S = [.var (.agg [.row 20, .row 2]), .sealed (.sl 1 []), .mapb [dgP 8 (bigB ch 4) B] (.agg [.row 17]), .var (.d J), .var (.d (dgD (dgP 8 (bigB ch 4) B))), .var (.d (dgD (dgP 8 (bigB ch 4) B))), .var (.d (dgD (dgP 8 (bigB ch 4) B))), .var (.d (dgD (dgP 8 (bigB ch 4) B))), .dead, .dead, .dead, .dead, .dead, .dead, .dead, .sealed (.sl 1 []), .dead, .row 9 1 [.str (inP 8 (bigB ch 4) B)], .dead, .dead, .row 9 1 [.str (inP 8 (bigB ch 4) B)]] := by
  have hbz := bigB_size ch 4
  have rb := rbig4_c (n := ch) (by omega)
  have po := logof0_c (d := 8) (a := bigB ch 4) (b := B) (by omega) hB
  generalize dgP 8 (bigB ch 4) B = Q at *
  generalize inP 8 (bigB ch 4) B = I at *
  generalize bigB ch 4 = L at *
  obtain ⟨ft, fA, fB, fC, fo, fn, fk, ⟨si, s1, s2, s3⟩, fu, fv, fp, fl, fi, fbr, fle⟩ := f
  simp only at h fb
  have e64 : IntKind.u64.wrap (ch : Int) = (ch : Int) := by rw [IntKind.wrap_u64]; omega
  refine callR_of (R := R1) cx_ok Tryd.func46 (by kernel_rfl) rfl ?_
  conv => whnf
  refine brF (decide_eq_false (by show ¬ (ft : Int) < (1 : Int); omega)) ?_
  conv => whnf
  refine brF (decide_eq_false (by show ¬ (4 : Int) < (ft : Int); omega)) ?_
  conv => whnf
  refine ⟨_, fb, ?_⟩
  rintro _ _ ⟨rfl, rfl⟩
  conv => whnf
  rw [e64]
  refine ⟨_, rb, ?_⟩
  rintro _ _ ⟨rfl, rfl⟩
  conv => whnf
  refine ⟨_, po, ?_⟩
  rintro _ _ ⟨rfl, rfl⟩
  conv => whnf
  exact ⟨_, rfl, rfl⟩

theorem logdigS_c {f : Fd} {ch : Nat} {B : ByteArray} {E : Int} (h : 1 ≤ f.tag ∧ f.tag ≤ 4) (hch : ch < 4294967296) (hB : B.size ≤ 40000)
    (fb : CallR cx 33 [.d (Fd.d { f with sig := sg0 })] [] fun r S => r = .tup [st B, i64 E] ∧ S = []) :
    CallR cx 46 [.d f.d, .ptr 0 [], u32 (ch : Int)] (logS1 (inP 8 (bigB ch 4) B) (dgP 8 (bigB ch 4) B)) fun r S => ∃ J : D, r = .d (dgD (dgP 8 (bigB ch 4) B)) ∧ S = logS1 (inP 8 (bigB ch 4) B) (dgP 8 (bigB ch 4) B) := by
  have hbz := bigB_size ch 4
  have rb := rbig4_c (n := ch) (by omega)
  have po := logofS_c (d := 8) (a := bigB ch 4) (b := B) (by omega) hB
  generalize dgP 8 (bigB ch 4) B = Q at *
  generalize inP 8 (bigB ch 4) B = I at *
  generalize bigB ch 4 = L at *
  obtain ⟨ft, fA, fB, fC, fo, fn, fk, ⟨si, s1, s2, s3⟩, fu, fv, fp, fl, fi, fbr, fle⟩ := f
  simp only at h fb
  have e64 : IntKind.u64.wrap (ch : Int) = (ch : Int) := by rw [IntKind.wrap_u64]; omega
  refine callR_of (R := R1) cx_ok Tryd.func46 (by kernel_rfl) rfl ?_
  conv => whnf
  refine brF (decide_eq_false (by show ¬ (ft : Int) < (1 : Int); omega)) ?_
  conv => whnf
  refine brF (decide_eq_false (by show ¬ (4 : Int) < (ft : Int); omega)) ?_
  conv => whnf
  refine ⟨_, fb, ?_⟩
  rintro _ _ ⟨rfl, rfl⟩
  conv => whnf
  rw [e64]
  refine ⟨_, rb, ?_⟩
  rintro _ _ ⟨rfl, rfl⟩
  conv => whnf
  refine ⟨_, po, ?_⟩
  rintro _ _ ⟨rfl, rfl⟩
  conv => whnf
  exact ⟨.nilP, rfl, rfl⟩

theorem logdigC_c {f : Fd} {ch : Nat} {B : ByteArray} {E : Int} (h : 1 ≤ f.tag ∧ f.tag ≤ 4) (hch : ch < 4294967296) (hB : B.size ≤ 40000) {I0 : ByteArray} (hI : I0 ≠ inP 8 (bigB ch 4) B)
    (fb : CallR cx 33 [.d (Fd.d { f with sig := sg0 })] [] fun r S => r = .tup [st B, i64 E] ∧ S = []) :
    CallR cx 46 [.d f.d, .ptr 0 [], u32 (ch : Int)] (logS1 I0 (dgP 8 (bigB ch 4) B)) fun r S => ∃ J : D, r = .d (dgD (dgP 8 (bigB ch 4) B)) ∧ S = [.var (.agg [.row 21, .row 2]), .sealed (.sl 1 [.str I0]), .mapb [dgP 8 (bigB ch 4) B] (.agg [.row 18]), .sealed (.sl 1 [.str I0]), .var (.d J), .var (.d (dgD (dgP 8 (bigB ch 4) B))), .var (.d (dgD (dgP 8 (bigB ch 4) B))), .var (.d (dgD (dgP 8 (bigB ch 4) B))), .var (.d (dgD (dgP 8 (bigB ch 4) B))), .dead, .dead, .dead, .dead, .dead, .dead, .dead, .dead, .dead, .row 9 1 [.str I0, .str (inP 8 (bigB ch 4) B)], .dead, .dead, .row 9 1 [.str I0, .str (inP 8 (bigB ch 4) B)]] := by
  have hbz := bigB_size ch 4
  have rb := rbig4_c (n := ch) (by omega)
  have po := logofC_c (d := 8) (a := bigB ch 4) (b := B) (by omega) hB hI
  generalize dgP 8 (bigB ch 4) B = Q at *
  generalize inP 8 (bigB ch 4) B = I at *
  generalize bigB ch 4 = L at *
  obtain ⟨ft, fA, fB, fC, fo, fn, fk, ⟨si, s1, s2, s3⟩, fu, fv, fp, fl, fi, fbr, fle⟩ := f
  simp only at h fb
  have e64 : IntKind.u64.wrap (ch : Int) = (ch : Int) := by rw [IntKind.wrap_u64]; omega
  refine callR_of (R := R1) cx_ok Tryd.func46 (by kernel_rfl) rfl ?_
  conv => whnf
  refine brF (decide_eq_false (by show ¬ (ft : Int) < (1 : Int); omega)) ?_
  conv => whnf
  refine brF (decide_eq_false (by show ¬ (4 : Int) < (ft : Int); omega)) ?_
  conv => whnf
  refine ⟨_, fb, ?_⟩
  rintro _ _ ⟨rfl, rfl⟩
  conv => whnf
  rw [e64]
  refine ⟨_, rb, ?_⟩
  rintro _ _ ⟨rfl, rfl⟩
  conv => whnf
  refine ⟨_, po, ?_⟩
  rintro _ _ ⟨rfl, rfl⟩
  conv => whnf
  exact ⟨_, rfl, rfl⟩

theorem logdigD_c {f : Fd} {ch : Nat} {B : ByteArray} {E : Int} (h : 1 ≤ f.tag ∧ f.tag ≤ 4) (hch : ch < 4294967296) (hB : B.size ≤ 40000) {I0 H0 : ByteArray} (h0 : H0.size = 32) (hI : dgP 8 (bigB ch 4) B ≠ H0)
    (fb : CallR cx 33 [.d (Fd.d { f with sig := sg0 })] [] fun r S => r = .tup [st B, i64 E] ∧ S = []) :
    CallR cx 46 [.d f.d, .ptr 0 [], u32 (ch : Int)] (logS1 I0 H0) fun r S => ∃ J : D, r = .d (dgD (dgP 8 (bigB ch 4) B)) ∧ S = [.var (.agg [.row 21, .row 2]), .sealed (.sl 1 [.str I0]), .mapb [H0, dgP 8 (bigB ch 4) B] (.agg [.row 3, .row 18]), .row 9 1 [.str I0], .var (.d J), .var (.d (dgD (dgP 8 (bigB ch 4) B))), .var (.d (dgD (dgP 8 (bigB ch 4) B))), .var (.d (dgD (dgP 8 (bigB ch 4) B))), .var (.d (dgD (dgP 8 (bigB ch 4) B))), .dead, .dead, .dead, .dead, .dead, .dead, .dead, .sealed (.sl 1 []), .dead, .row 9 1 [.str (inP 8 (bigB ch 4) B)], .dead, .dead, .row 9 1 [.str I0, .str (inP 8 (bigB ch 4) B)]] := by
  have hbz := bigB_size ch 4
  have rb := rbig4_c (n := ch) (by omega)
  have po := logofD_c (d := 8) (a := bigB ch 4) (b := B) (by omega) hB (I0 := I0) h0 hI
  generalize dgP 8 (bigB ch 4) B = Q at *
  generalize inP 8 (bigB ch 4) B = I at *
  generalize bigB ch 4 = L at *
  obtain ⟨ft, fA, fB, fC, fo, fn, fk, ⟨si, s1, s2, s3⟩, fu, fv, fp, fl, fi, fbr, fle⟩ := f
  simp only at h fb
  have e64 : IntKind.u64.wrap (ch : Int) = (ch : Int) := by rw [IntKind.wrap_u64]; omega
  refine callR_of (R := R1) cx_ok Tryd.func46 (by kernel_rfl) rfl ?_
  conv => whnf
  refine brF (decide_eq_false (by show ¬ (ft : Int) < (1 : Int); omega)) ?_
  conv => whnf
  refine brF (decide_eq_false (by show ¬ (4 : Int) < (ft : Int); omega)) ?_
  conv => whnf
  refine ⟨_, fb, ?_⟩
  rintro _ _ ⟨rfl, rfl⟩
  conv => whnf
  rw [e64]
  refine ⟨_, rb, ?_⟩
  rintro _ _ ⟨rfl, rfl⟩
  conv => whnf
  refine ⟨_, po, ?_⟩
  rintro _ _ ⟨rfl, rfl⟩
  conv => whnf
  exact ⟨_, rfl, rfl⟩
end Go.Proofs.YtboohfijacjhjaaDoor
