/- What is signed of a call: the program's, the document's. -/
import Derived.Test.YtboohfijacjhjaaDoorSA
import Derived.Test.YtboohfijacjhjaaDoorT1
set_option linter.unusedVariables false
namespace Go.Proofs.YtboohfijacjhjaaDoor
open Go.Ab

/-- What is signed of a call on a chain. -/
def Cl.dg (ch : Nat) (c : Cl) : ByteArray := if c.isS then dgP 8 (bigB ch 4) (c.withS sg0).cS else z32

theorem withS_fit {c : Cl} {g : Sg} (hc : c.fit) (hg : g.fit) : (c.withS g).fit := by
  cases c with
  | pay a b n k _ => exact ⟨hc.1, hc.2.1, hc.2.2.1, hc.2.2.2.1, hg⟩
  | send a o t b n k _ => exact ⟨hc.1, hc.2.1, hc.2.2.1, hc.2.2.2.1, hc.2.2.2.2.1, hc.2.2.2.2.2.1, hg⟩
  | say a b k _ => exact ⟨hc.1, hc.2.1, hc.2.2.1, hg⟩
  | tell a b k _ => exact ⟨hc.1, hc.2.1, hc.2.2.1, hg⟩
  | _ => exact hc
theorem withS_isS (c : Cl) (g : Sg) : (c.withS g).isS = c.isS := by cases c <;> rfl
theorem withS_withS (c : Cl) (g k : Sg) : (c.withS g).withS k = c.withS k := by cases c <;> rfl
theorem withS_fd {c : Cl} {g : Sg} (h : c.isS = true) : (c.withS g).fd = { c.fd with sig := g } := by
  cases c <;> first | rfl | exact absurd h (by simp [Cl.isS])
theorem withS_no {c : Cl} {g : Sg} (h : c.isS = false) : c.withS g = c := by
  cases c <;> first | rfl | exact absurd h (by simp [Cl.isS])
theorem dg_withS (ch : Nat) (c : Cl) (g : Sg) : (c.withS g).dg ch = c.dg ch := by
  unfold Cl.dg; rw [withS_isS, withS_withS]
theorem isS_tag (c : Cl) : c.isS = true ↔ 1 ≤ c.fd.tag ∧ c.fd.tag ≤ 4 := by
  cases c <;> simp [Cl.isS, Cl.fd, fd0]
theorem dg_size (ch : Nat) (c : Cl) : (c.dg ch).size = 32 := by
  unfold Cl.dg; split
  · exact dgP_size _ _ _
  · exact z32_size

theorem Cl.cS_signed {c : Cl} (h : c.fit) (hs : c.isS = true) : c.cS.size ≤ 40000 := by
  have hx : ∀ {s : ByteArray}, tx s → s.size ≤ 1000 := fun h => h
  unfold Cl.cS
  split
  · cases c with
    | pay a b n k g => obtain ⟨h1, h2, _, _, h3⟩ := h; have := sigB_size h3; have := hx h1; have := hx h2; simp only [Cl.bytes, Cl.tail, ByteArray.size_append, bigB_size, textB_size]; omega
    | send a o t b n k g => obtain ⟨h1, _, h2, h4, _, _, h3⟩ := h; have := sigB_size h3; have := hx h1; have := hx h2; have := hx h4; simp only [Cl.bytes, Cl.tail, ByteArray.size_append, bigB_size, textB_size]; omega
    | say a b k g => obtain ⟨h1, h2, _, h3⟩ := h; have := sigB_size h3; have := hx h1; have := hx h2; simp only [Cl.bytes, Cl.tail, ByteArray.size_append, bigB_size, textB_size]; omega
    | tell a b k g => obtain ⟨h1, h2, _, h3⟩ := h; have := sigB_size h3; have := hx h1; have := hx h2; simp only [Cl.bytes, Cl.tail, ByteArray.size_append, bigB_size, textB_size]; omega
    | _ => exact absurd hs (by simp [Cl.isS])
  · decide

theorem cdigest_c {c : Cl} {ch : Nat} (hf : c.fit) (hch : ch < 4294967296) :
    CallR cx 45 [.d .nilP, u32 (ch : Int), .d c.d] [] fun r S => r = .d (dgD (c.dg ch)) ∧ S = [] := by
  have cs := csigned_c (c := c)
  have cw := cwith_c (c := c) (g := sg0)
  have fw := withS_fit hf sg0_fit
  have cb := cbytes_c fw
  have ww := wword_c (n := ch) hch
  have hz : c.isS = true → (c.withS sg0).cS.size ≤ 40000 := fun h => Cl.cS_signed fw (by rw [withS_isS]; exact h)
  unfold Cl.dg
  generalize c.sg = G at *
  generalize (c.withS sg0).d = W at *
  generalize (c.withS sg0).cS = B at *
  generalize (c.withS sg0).cE = E at *
  generalize c.d = X at *
  generalize c.who = w at *
  generalize c.non = k at *
  generalize c.isS = b at *
  have hbz := bigB_size ch 4
  obtain ⟨gi, g1, g2, g3⟩ := G
  generalize hL : bigB ch 4 = L at *
  cases b with
  | false =>
    refine callR_of (R := R1) cx_ok Tryd.func45 (by kernel_rfl) rfl ?_
    conv => whnf
    refine ⟨_, cs, ?_⟩
    rintro _ _ ⟨rfl, rfl⟩
    conv => whnf
    exact ⟨by kernel_rfl, rfl⟩
  | true =>
    have po := pof_c (d := 8) (a := L) (b := B) (by omega) (hz rfl)
    rw [if_pos rfl]
    generalize dgP 8 L B = Q at *
    refine callR_of (R := R1) cx_ok Tryd.func45 (by kernel_rfl) rfl ?_
    conv => whnf
    refine ⟨_, cs, ?_⟩
    rintro _ _ ⟨rfl, rfl⟩
    conv => whnf
    refine ⟨_, cw, ?_⟩
    rintro _ _ ⟨rfl, rfl⟩
    conv => whnf
    refine ⟨_, cb, ?_⟩
    rintro _ _ ⟨rfl, rfl⟩
    conv => whnf
    refine ⟨_, ww, ?_⟩
    rintro _ _ ⟨rfl, rfl⟩
    conv => whnf
    refine ⟨_, po, ?_⟩
    rintro _ _ ⟨rfl, rfl⟩
    conv => whnf
    exact ⟨rfl, rfl⟩

theorem fdig_no {f : Fd} {ch : Nat} (h : ¬ (1 ≤ f.tag ∧ f.tag ≤ 4)) :
    CallR cx 46 [.d f.d, .d .nilP, u32 (ch : Int)] [] fun r S => r = .d (dgD z32) ∧ S = [] := by
  obtain ⟨ft, fA, fB, fC, fo, fn, fk, ⟨si, s1, s2, s3⟩, fu, fv, fp, fl, fi, fbr, fle⟩ := f
  simp only at h
  refine callR_of (R := R1) cx_ok Tryd.func46 (by kernel_rfl) rfl ?_
  conv => whnf
  refine brec (fun h1 => ?_) (fun h1 => ?_)
  · conv => whnf
    exact ⟨by kernel_rfl, rfl⟩
  · have h1 : ¬ (ft : Int) < 1 := of_decide_eq_false h1
    conv => whnf
    refine brT (decide_eq_true (by show (4 : Int) < (ft : Int); omega)) ?_
    conv => whnf
    exact ⟨by kernel_rfl, rfl⟩

theorem fdig_yes {f : Fd} {ch : Nat} {B : ByteArray} {E : Int} (h : 1 ≤ f.tag ∧ f.tag ≤ 4) (hch : ch < 4294967296) (hB : B.size ≤ 40000)
    (fb : CallR cx 33 [.d (Fd.d { f with sig := sg0 })] [] fun r S => r = .tup [st B, i64 E] ∧ S = []) :
    CallR cx 46 [.d f.d, .d .nilP, u32 (ch : Int)] [] fun r S => r = .d (dgD (dgP 8 (bigB ch 4) B)) ∧ S = [] := by
  have hbz := bigB_size ch 4
  have rb := rbig4_c (n := ch) (by omega)
  have po := rof_c (d := 8) (a := bigB ch 4) (b := B) (by omega) hB
  generalize dgP 8 (bigB ch 4) B = Q at *
  generalize bigB ch 4 = L at *
  obtain ⟨ft, fA, fB, fC, fo, fn, fk, ⟨si, s1, s2, s3⟩, fu, fv, fp, fl, fi, fbr, fle⟩ := f
  simp only at h fb
  have e64 : IntKind.u64.wrap (ch : Int) = (ch : Int) := by rw [IntKind.wrap_u64]; omega
  refine callR_of (R := R1) cx_ok Tryd.func46 (by kernel_rfl) rfl ?_
  conv => whnf
  refine brF (decide_eq_false (by show ¬ (ft : Int) < (1 : Int); omega)) ?_
  conv => whnf
  refine brF (decide_eq_false (by show ¬ (4 : Int) < (ft : Int); omega)) ?_
  conv => whnf
  refine ⟨_, fb, ?_⟩
  rintro _ _ ⟨rfl, rfl⟩
  conv => whnf
  rw [e64]
  refine ⟨_, rb, ?_⟩
  rintro _ _ ⟨rfl, rfl⟩
  conv => whnf
  refine ⟨_, po, ?_⟩
  rintro _ _ ⟨rfl, rfl⟩
  conv => whnf
  exact ⟨rfl, rfl⟩

theorem fdigest_c {c : Cl} {ch : Nat} (hf : c.fit) (hch : ch < 4294967296) :
    CallR cx 46 [.d c.fd.d, .d .nilP, u32 (ch : Int)] [] fun r S => r = .d (dgD (c.dg ch)) ∧ S = [] := by
  unfold Cl.dg
  by_cases h : c.isS = true
  · rw [if_pos h]
    have fw := withS_fit hf sg0_fit
    have fb := fbytes_c fw
    rw [withS_fd h] at fb
    exact fdig_yes ((isS_tag c).1 h) hch (Cl.cS_signed fw (by rw [withS_isS]; exact h)) fb
  · rw [if_neg h]
    exact fdig_no (fun k => h ((isS_tag c).2 k))
end Go.Proofs.YtboohfijacjhjaaDoor
