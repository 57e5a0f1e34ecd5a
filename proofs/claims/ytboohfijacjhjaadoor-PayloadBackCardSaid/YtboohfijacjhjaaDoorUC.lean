/- Payloads: whether one is right by the document; its bytes, the program's and the document's. -/
import Derived.Test.YtboohfijacjhjaaDoorUB
namespace Go.Proofs.YtboohfijacjhjaaDoor
open Go.Ab Go.RowKit

theorem fright_c {p : Pl} (h : p.fit) : CallR cx 31 [.d (fld p)] [] fun r S => r = bo p.right ∧ S = [] := by
  cases p with
  | tr o a b n =>
    have r1 := rright_c (s := a) (by have := h.2.2.1; omega)
    have r2 := rright_c (s := b) (by have := h.2.2.2; omega)
    have hn0 := h.2.1.1
    refine callR_of (R := R1) cx_ok Tryd.func31 (by kernel_rfl) rfl ?_
    conv => whnf
    refine ⟨_, r1, ?_⟩
    rintro _ _ ⟨rfl, rfl⟩
    conv => whnf
    refine brec (fun h1 => ?_) (fun h1 => ?_)
    · conv => whnf
      refine ⟨_, r2, ?_⟩
      rintro _ _ ⟨rfl, rfl⟩
      conv => whnf
      refine brec (fun h2 => ?_) (fun h2 => ?_)
      · conv => whnf
        refine ⟨?_, rfl⟩
        show bo (decide (n > 0)) = bo ((rightT a && rightT b) && decide (n ≠ 0))
        rw [h1, h2, Bool.true_and, Bool.true_and]
        refine congrArg bo ?_
        have e : (n > 0) = (n ≠ 0) := propext ⟨fun h => by omega, fun h => by omega⟩
        simp only [e]
      · conv => whnf
        refine ⟨?_, rfl⟩
        show _ = bo ((rightT a && rightT b) && decide (n ≠ 0))
        rw [h2, Bool.and_false, Bool.false_and]; rfl
    · conv => whnf
      refine ⟨?_, rfl⟩
      show _ = bo ((rightT a && rightT b) && decide (n ≠ 0))
      rw [h1, Bool.false_and, Bool.false_and]; rfl
  | sy a b =>
    have r1 := rright_c (s := a) (by have := h.1; omega)
    have r2 := rsays_c (s := b) (by have := h.2; omega)
    refine callR_of (R := R1) cx_ok Tryd.func31 (by kernel_rfl) rfl ?_
    conv => whnf
    refine ⟨_, r1, ?_⟩
    rintro _ _ ⟨rfl, rfl⟩
    conv => whnf
    refine brec (fun h1 => ?_) (fun h1 => ?_)
    · conv => whnf
      refine ⟨_, r2, ?_⟩
      rintro _ _ ⟨rfl, rfl⟩
      conv => whnf
      refine ⟨?_, rfl⟩
      show _ = bo (rightT a && saysT b)
      rw [h1, Bool.true_and]; rfl
    · conv => whnf
      refine ⟨?_, rfl⟩
      show _ = bo (rightT a && saysT b)
      rw [h1, Bool.false_and]; rfl
  | de o a n =>
    have r1 := rright_c (s := a) (by have := h.2.2; omega)
    refine callR_of (R := R1) cx_ok Tryd.func31 (by kernel_rfl) rfl ?_
    conv => whnf
    refine ⟨_, r1, ?_⟩
    rintro _ _ ⟨rfl, rfl⟩
    conv => whnf
    exact ⟨rfl, rfl⟩
  | _ =>
    refine callR_of (R := R1) cx_ok Tryd.func31 (by kernel_rfl) rfl ?_
    conv => whnf
    exact ⟨rfl, rfl⟩

/-- A payload's bytes. -/
def Pl.bytes : Pl → ByteArray
  | .tr o a b n => bigB 1 1 ++ (((bigB o.toNat 4 ++ textB a) ++ textB b) ++ bigB n.toNat 8)
  | .sy a b => bigB 2 1 ++ (textB a ++ textB b)
  | .de o a n => bigB 3 1 ++ ((bigB o.toNat 4 ++ textB a) ++ bigB n.toNat 8)
  | _ => .empty

/-- What 'Bytes' hands back. -/
def Pl.outS (p : Pl) : ByteArray := if p.right then p.bytes else .empty
def Pl.outE (p : Pl) : Int := if p.kd = 0 then 2 else if p.right then 0 else 4

theorem bytes_c {p : Pl} (h : p.fit) : CallR cx 25 [.d p.d] [] fun r S => r = .tup [st p.outS, i64 p.outE] ∧ S = [] := by
  have pr := pright_c h
  have tg := tag_c (p := p)
  cases p with
  | tr o a b n =>
    obtain ⟨⟨ho, ho'⟩, ⟨hn, hn'⟩, ha, hb⟩ := h
    obtain ⟨O, rfl⟩ := Int.eq_ofNat_of_zero_le ho
    obtain ⟨M, rfl⟩ := Int.eq_ofNat_of_zero_le hn
    have wo := wword_c (n := O) (by omega)
    have wl := wlong_c (n := M)
    have wa := wtext_c (s := a) (by omega)
    have wc := wtext_c (s := b) (by omega)
    have wb : CallR cx 57 [u8 (IntKind.u8.wrap 1)] [] fun r S => r = st (bigB 1 1) ∧ S = [] := by rw [wrap8 (by omega)]; exact wbyte_c (n := 1) (by omega)
    refine callR_of (R := R1) cx_ok Tryd.func25 (by kernel_rfl) rfl ?_
    conv => whnf
    refine ⟨_, tg, ?_⟩
    rintro _ _ ⟨rfl, rfl⟩
    conv => whnf
    refine ⟨_, wb, ?_⟩
    rintro _ _ ⟨rfl, rfl⟩
    conv => whnf
    refine ⟨by kernel_rfl, ?_⟩
    conv => whnf
    refine ⟨_, wo, ?_⟩
    conv => whnf
    refine ⟨_, wa, ?_⟩
    conv => whnf
    refine ⟨by (repeat (first | rw [ByteArray.size_append] | rw [bigB_size] | rw [textB_size])); omega, ?_⟩
    conv => whnf
    refine ⟨_, wc, ?_⟩
    conv => whnf
    refine ⟨by (repeat (first | rw [ByteArray.size_append] | rw [bigB_size] | rw [textB_size])); omega, ?_⟩
    conv => whnf
    refine ⟨_, wl, ?_⟩
    conv => whnf
    refine ⟨by (repeat (first | rw [ByteArray.size_append] | rw [bigB_size] | rw [textB_size])); omega, ?_⟩
    conv => whnf
    refine ⟨by (repeat (first | rw [ByteArray.size_append] | rw [bigB_size] | rw [textB_size])); omega, ?_⟩
    conv => whnf
    refine ⟨by kernel_rfl, ?_⟩
    conv => whnf
    refine ⟨_, pr, ?_⟩
    rintro _ _ ⟨rfl, rfl⟩
    conv => whnf
    refine brec (fun h1 => ?_) (fun h1 => ?_)
    · conv => whnf
      have h1 : Pl.right (Pl.tr (O : Int) a b (M : Int)) = false := by simpa using h1
      refine ⟨?_, rfl⟩
      show _ = AV.tup [st (if Pl.right (Pl.tr (O : Int) a b (M : Int)) then _ else _), i64 (if (1 : Int) = 0 then 2 else if Pl.right (Pl.tr (O : Int) a b (M : Int)) then 0 else 4)]
      rw [h1]
      rfl
    · conv => whnf
      have h1 : Pl.right (Pl.tr (O : Int) a b (M : Int)) = true := by simpa using h1
      refine ⟨?_, rfl⟩
      show _ = AV.tup [st (if Pl.right (Pl.tr (O : Int) a b (M : Int)) then _ else _), i64 (if (1 : Int) = 0 then 2 else if Pl.right (Pl.tr (O : Int) a b (M : Int)) then 0 else 4)]
      rw [h1]
      rfl
  | sy a b =>
    obtain ⟨ha, hb⟩ := h
    have wa := wtext_c (s := a) (by omega)
    have wc := wtext_c (s := b) (by omega)
    have wb : CallR cx 57 [u8 (IntKind.u8.wrap 2)] [] fun r S => r = st (bigB 2 1) ∧ S = [] := by rw [wrap8 (by omega)]; exact wbyte_c (n := 2) (by omega)
    refine callR_of (R := R1) cx_ok Tryd.func25 (by kernel_rfl) rfl ?_
    conv => whnf
    refine ⟨_, tg, ?_⟩
    rintro _ _ ⟨rfl, rfl⟩
    conv => whnf
    refine ⟨_, wb, ?_⟩
    rintro _ _ ⟨rfl, rfl⟩
    conv => whnf
    refine ⟨by kernel_rfl, ?_⟩
    conv => whnf
    refine ⟨_, wa, ?_⟩
    conv => whnf
    refine ⟨_, wc, ?_⟩
    conv => whnf
    refine ⟨by (repeat (first | rw [ByteArray.size_append] | rw [bigB_size] | rw [textB_size])); omega, ?_⟩
    conv => whnf
    refine ⟨by (repeat (first | rw [ByteArray.size_append] | rw [bigB_size] | rw [textB_size])); omega, ?_⟩
    conv => whnf
    refine ⟨by kernel_rfl, ?_⟩
    conv => whnf
    refine ⟨_, pr, ?_⟩
    rintro _ _ ⟨rfl, rfl⟩
    conv => whnf
    refine brec (fun h1 => ?_) (fun h1 => ?_)
    · conv => whnf
      have h1 : Pl.right (Pl.sy a b) = false := by simpa using h1
      refine ⟨?_, rfl⟩
      show _ = AV.tup [st (if Pl.right (Pl.sy a b) then _ else _), i64 (if (2 : Int) = 0 then 2 else if Pl.right (Pl.sy a b) then 0 else 4)]
      rw [h1]
      rfl
    · conv => whnf
      have h1 : Pl.right (Pl.sy a b) = true := by simpa using h1
      refine ⟨?_, rfl⟩
      show _ = AV.tup [st (if Pl.right (Pl.sy a b) then _ else _), i64 (if (2 : Int) = 0 then 2 else if Pl.right (Pl.sy a b) then 0 else 4)]
      rw [h1]
      rfl
  | de o a n =>
    obtain ⟨⟨ho, ho'⟩, ⟨hn, hn'⟩, ha⟩ := h
    obtain ⟨O, rfl⟩ := Int.eq_ofNat_of_zero_le ho
    obtain ⟨M, rfl⟩ := Int.eq_ofNat_of_zero_le hn
    have wo := wword_c (n := O) (by omega)
    have wl := wlong_c (n := M)
    have wa := wtext_c (s := a) (by omega)
    have wb : CallR cx 57 [u8 (IntKind.u8.wrap 3)] [] fun r S => r = st (bigB 3 1) ∧ S = [] := by rw [wrap8 (by omega)]; exact wbyte_c (n := 3) (by omega)
    refine callR_of (R := R1) cx_ok Tryd.func25 (by kernel_rfl) rfl ?_
    conv => whnf
    refine ⟨_, tg, ?_⟩
    rintro _ _ ⟨rfl, rfl⟩
    conv => whnf
    refine ⟨_, wb, ?_⟩
    rintro _ _ ⟨rfl, rfl⟩
    conv => whnf
    refine ⟨by kernel_rfl, ?_⟩
    conv => whnf
    refine ⟨_, wo, ?_⟩
    conv => whnf
    refine ⟨_, wa, ?_⟩
    conv => whnf
    refine ⟨by (repeat (first | rw [ByteArray.size_append] | rw [bigB_size] | rw [textB_size])); omega, ?_⟩
    conv => whnf
    refine ⟨_, wl, ?_⟩
    conv => whnf
    refine ⟨by (repeat (first | rw [ByteArray.size_append] | rw [bigB_size] | rw [textB_size])); omega, ?_⟩
    conv => whnf
    refine ⟨by (repeat (first | rw [ByteArray.size_append] | rw [bigB_size] | rw [textB_size])); omega, ?_⟩
    conv => whnf
    refine ⟨by kernel_rfl, ?_⟩
    conv => whnf
    refine ⟨_, pr, ?_⟩
    rintro _ _ ⟨rfl, rfl⟩
    conv => whnf
    refine brec (fun h1 => ?_) (fun h1 => ?_)
    · conv => whnf
      have h1 : Pl.right (Pl.de (O : Int) a (M : Int)) = false := by simpa using h1
      refine ⟨?_, rfl⟩
      show _ = AV.tup [st (if Pl.right (Pl.de (O : Int) a (M : Int)) then _ else _), i64 (if (3 : Int) = 0 then 2 else if Pl.right (Pl.de (O : Int) a (M : Int)) then 0 else 4)]
      rw [h1]
      rfl
    · conv => whnf
      have h1 : Pl.right (Pl.de (O : Int) a (M : Int)) = true := by simpa using h1
      refine ⟨?_, rfl⟩
      show _ = AV.tup [st (if Pl.right (Pl.de (O : Int) a (M : Int)) then _ else _), i64 (if (3 : Int) = 0 then 2 else if Pl.right (Pl.de (O : Int) a (M : Int)) then 0 else 4)]
      rw [h1]
      rfl
  | _ =>
    have wb : CallR cx 57 [u8 (IntKind.u8.wrap 0)] [] fun r S => r = st (bigB 0 1) ∧ S = [] := by rw [wrap8 (by omega)]; exact wbyte_c (n := 0) (by omega)
    refine callR_of (R := R1) cx_ok Tryd.func25 (by kernel_rfl) rfl ?_
    conv => whnf
    refine ⟨_, tg, ?_⟩
    rintro _ _ ⟨rfl, rfl⟩
    conv => whnf
    refine ⟨_, wb, ?_⟩
    rintro _ _ ⟨rfl, rfl⟩
    conv => whnf
    exact ⟨rfl, rfl⟩

theorem fbytes_c {p : Pl} (h : p.fit) : CallR cx 26 [.d (fld p)] [] fun r S => r = .tup [st p.outS, i64 p.outE] ∧ S = [] := by
  have pr := fright_c h
  cases p with
  | tr o a b n =>
    obtain ⟨⟨ho, ho'⟩, ⟨hn, hn'⟩, ha, hb⟩ := h
    obtain ⟨O, rfl⟩ := Int.eq_ofNat_of_zero_le ho
    obtain ⟨M, rfl⟩ := Int.eq_ofNat_of_zero_le hn
    have wo : CallR cx 61 [u64 (IntKind.u64.wrap (O : Int)), i64 4] [] fun r S => r = st (bigB O 4) ∧ S = [] := by rw [wrapU (by unfold U; omega)]; exact rbig4_c (by omega)
    have wl := rbig8_c (n := M) (by omega)
    have wa := rtext_c (s := a) (by omega)
    have wc := rtext_c (s := b) (by omega)
    have wb : CallR cx 61 [u64 (IntKind.u64.wrap 1), i64 1] [] fun r S => r = st (bigB 1 1) ∧ S = [] := by rw [wrapU (by unfold U; omega)]; exact rbig1_c (n := 1) (by omega)
    refine callR_of (R := R1) cx_ok Tryd.func26 (by kernel_rfl) rfl ?_
    conv => whnf
    refine ⟨_, pr, ?_⟩
    rintro _ _ ⟨rfl, rfl⟩
    conv => whnf
    refine brec (fun h1 => ?_) (fun h1 => ?_)
    · conv => whnf
      have h1 : Pl.right (Pl.tr (O : Int) a b (M : Int)) = false := by simpa using h1
      refine ⟨?_, rfl⟩
      show _ = AV.tup [st (if Pl.right (Pl.tr (O : Int) a b (M : Int)) then _ else _), i64 (if (1 : Int) = 0 then 2 else if Pl.right (Pl.tr (O : Int) a b (M : Int)) then 0 else 4)]
      rw [h1]
      rfl
    have h1 : Pl.right (Pl.tr (O : Int) a b (M : Int)) = true := by simpa using h1
    conv => whnf
    refine ⟨_, wb, ?_⟩
    rintro _ _ ⟨rfl, rfl⟩
    conv => whnf
    refine ⟨_, wo, ?_⟩
    rintro _ _ ⟨rfl, rfl⟩
    conv => whnf
    refine ⟨by (repeat (first | rw [ByteArray.size_append] | rw [bigB_size] | rw [textB_size])); omega, ?_⟩
    conv => whnf
    refine ⟨_, wa, ?_⟩
    rintro _ _ ⟨rfl, rfl⟩
    conv => whnf
    refine ⟨by (repeat (first | rw [ByteArray.size_append] | rw [bigB_size] | rw [textB_size])); omega, ?_⟩
    conv => whnf
    refine ⟨_, wc, ?_⟩
    rintro _ _ ⟨rfl, rfl⟩
    conv => whnf
    refine ⟨by (repeat (first | rw [ByteArray.size_append] | rw [bigB_size] | rw [textB_size])); omega, ?_⟩
    conv => whnf
    refine ⟨_, wl, ?_⟩
    rintro _ _ ⟨rfl, rfl⟩
    conv => whnf
    refine ⟨by (repeat (first | rw [ByteArray.size_append] | rw [bigB_size] | rw [textB_size])); omega, ?_⟩
    conv => whnf
    refine ⟨?_, rfl⟩
    show AV.tup [st _, i64 0] = AV.tup [st (if Pl.right (Pl.tr (O : Int) a b (M : Int)) then _ else _), i64 (if (1 : Int) = 0 then 2 else if Pl.right (Pl.tr (O : Int) a b (M : Int)) then 0 else 4)]
    rw [h1]
    refine congrArg (fun z => AV.tup [st z, i64 0]) ?_
    show _ = Pl.bytes (Pl.tr (O : Int) a b (M : Int))
    simp only [Pl.bytes, ByteArray.append_assoc, Int.toNat_natCast]
  | sy a b =>
    obtain ⟨ha, hb⟩ := h
    have wa := rtext_c (s := a) (by omega)
    have wc := rtext_c (s := b) (by omega)
    have wb : CallR cx 61 [u64 (IntKind.u64.wrap 2), i64 1] [] fun r S => r = st (bigB 2 1) ∧ S = [] := by rw [wrapU (by unfold U; omega)]; exact rbig1_c (n := 2) (by omega)
    refine callR_of (R := R1) cx_ok Tryd.func26 (by kernel_rfl) rfl ?_
    conv => whnf
    refine ⟨_, pr, ?_⟩
    rintro _ _ ⟨rfl, rfl⟩
    conv => whnf
    refine brec (fun h1 => ?_) (fun h1 => ?_)
    · conv => whnf
      have h1 : Pl.right (Pl.sy a b) = false := by simpa using h1
      refine ⟨?_, rfl⟩
      show _ = AV.tup [st (if Pl.right (Pl.sy a b) then _ else _), i64 (if (2 : Int) = 0 then 2 else if Pl.right (Pl.sy a b) then 0 else 4)]
      rw [h1]
      rfl
    have h1 : Pl.right (Pl.sy a b) = true := by simpa using h1
    conv => whnf
    refine ⟨_, wb, ?_⟩
    rintro _ _ ⟨rfl, rfl⟩
    conv => whnf
    refine ⟨_, wa, ?_⟩
    rintro _ _ ⟨rfl, rfl⟩
    conv => whnf
    refine ⟨by (repeat (first | rw [ByteArray.size_append] | rw [bigB_size] | rw [textB_size])); omega, ?_⟩
    conv => whnf
    refine ⟨_, wc, ?_⟩
    rintro _ _ ⟨rfl, rfl⟩
    conv => whnf
    refine ⟨by (repeat (first | rw [ByteArray.size_append] | rw [bigB_size] | rw [textB_size])); omega, ?_⟩
    conv => whnf
    refine ⟨?_, rfl⟩
    show AV.tup [st _, i64 0] = AV.tup [st (if Pl.right (Pl.sy a b) then _ else _), i64 (if (2 : Int) = 0 then 2 else if Pl.right (Pl.sy a b) then 0 else 4)]
    rw [h1]
    refine congrArg (fun z => AV.tup [st z, i64 0]) ?_
    show _ = Pl.bytes (Pl.sy a b)
    simp only [Pl.bytes, ByteArray.append_assoc, Int.toNat_natCast]
  | de o a n =>
    obtain ⟨⟨ho, ho'⟩, ⟨hn, hn'⟩, ha⟩ := h
    obtain ⟨O, rfl⟩ := Int.eq_ofNat_of_zero_le ho
    obtain ⟨M, rfl⟩ := Int.eq_ofNat_of_zero_le hn
    have wo : CallR cx 61 [u64 (IntKind.u64.wrap (O : Int)), i64 4] [] fun r S => r = st (bigB O 4) ∧ S = [] := by rw [wrapU (by unfold U; omega)]; exact rbig4_c (by omega)
    have wl := rbig8_c (n := M) (by omega)
    have wa := rtext_c (s := a) (by omega)
    have wb : CallR cx 61 [u64 (IntKind.u64.wrap 3), i64 1] [] fun r S => r = st (bigB 3 1) ∧ S = [] := by rw [wrapU (by unfold U; omega)]; exact rbig1_c (n := 3) (by omega)
    refine callR_of (R := R1) cx_ok Tryd.func26 (by kernel_rfl) rfl ?_
    conv => whnf
    refine ⟨_, pr, ?_⟩
    rintro _ _ ⟨rfl, rfl⟩
    conv => whnf
    refine brec (fun h1 => ?_) (fun h1 => ?_)
    · conv => whnf
      have h1 : Pl.right (Pl.de (O : Int) a (M : Int)) = false := by simpa using h1
      refine ⟨?_, rfl⟩
      show _ = AV.tup [st (if Pl.right (Pl.de (O : Int) a (M : Int)) then _ else _), i64 (if (3 : Int) = 0 then 2 else if Pl.right (Pl.de (O : Int) a (M : Int)) then 0 else 4)]
      rw [h1]
      rfl
    have h1 : Pl.right (Pl.de (O : Int) a (M : Int)) = true := by simpa using h1
    conv => whnf
    refine ⟨_, wb, ?_⟩
    rintro _ _ ⟨rfl, rfl⟩
    conv => whnf
    refine ⟨_, wo, ?_⟩
    rintro _ _ ⟨rfl, rfl⟩
    conv => whnf
    refine ⟨by (repeat (first | rw [ByteArray.size_append] | rw [bigB_size] | rw [textB_size])); omega, ?_⟩
    conv => whnf
    refine ⟨_, wa, ?_⟩
    rintro _ _ ⟨rfl, rfl⟩
    conv => whnf
    refine ⟨by (repeat (first | rw [ByteArray.size_append] | rw [bigB_size] | rw [textB_size])); omega, ?_⟩
    conv => whnf
    refine ⟨_, wl, ?_⟩
    rintro _ _ ⟨rfl, rfl⟩
    conv => whnf
    refine ⟨by (repeat (first | rw [ByteArray.size_append] | rw [bigB_size] | rw [textB_size])); omega, ?_⟩
    conv => whnf
    refine ⟨?_, rfl⟩
    show AV.tup [st _, i64 0] = AV.tup [st (if Pl.right (Pl.de (O : Int) a (M : Int)) then _ else _), i64 (if (3 : Int) = 0 then 2 else if Pl.right (Pl.de (O : Int) a (M : Int)) then 0 else 4)]
    rw [h1]
    refine congrArg (fun z => AV.tup [st z, i64 0]) ?_
    show _ = Pl.bytes (Pl.de (O : Int) a (M : Int))
    simp only [Pl.bytes, ByteArray.append_assoc, Int.toNat_natCast]
  | _ =>
    refine callR_of (R := R1) cx_ok Tryd.func26 (by kernel_rfl) rfl ?_
    conv => whnf
    exact ⟨rfl, rfl⟩
end Go.Proofs.YtboohfijacjhjaaDoor
