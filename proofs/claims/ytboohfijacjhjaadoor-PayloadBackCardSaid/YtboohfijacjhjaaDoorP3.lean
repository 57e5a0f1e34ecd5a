/- The chapter's example: a text of one byte, 4, is no payload. -/
import Derived.Test.YtboohfijacjhjaaDoorP2
namespace Go.Proofs.YtboohfijacjhjaaDoor
open Go.Ab

abbrev s4 : ByteArray := ⟨#[4]⟩

theorem tkS4 : tkS s4 0 1 = s4 := by
  unfold tkS
  rw [if_pos (by decide)]
  rfl

theorem tkR4 : tkR s4 0 1 = .empty := by
  unfold tkR
  rw [if_pos (by decide)]
  rfl

theorem tkE4 : tkE s4 0 1 = 0 := by decide

theorem byte4_c : CallR cx 65 [.ptr 0 []] [.var (.d (rd s4 0))] fun r S => r = u8 4 ∧ S = [.var (.d (rd .empty 0))] := by
  have h := byte_c (s := s4) (e := 0) (by decide)
  rw [tkS4, tkR4, tkE4] at h
  exact h

theorem body4_c : CallR cx 64 [.ptr 0 [], u8 4] [.var (.d (rd .empty 0))] fun r S => r = .d .nilI ∧ S = [.var (.d (rd .empty 4))] := by
  refine callR_of (R := R1) cx_ok Tryd.func64 (by kernel_rfl) rfl ?_
  conv => whnf
  refine ⟨_, fail_c (s := .empty) (e := 0) (f := 4), ?_⟩
  rintro _ _ ⟨rfl, rfl⟩
  conv => whnf
  exact ⟨rfl, rfl⟩

theorem read4_c : CallR cx 27 [st s4] [] fun r S => r = .tup [.d .nilI, i64 4] ∧ S = [] := by
  refine callR_of (R := R1) cx_ok Tryd.func27 (by kernel_rfl) rfl ?_
  conv => whnf
  refine ⟨_, over_c, ?_⟩
  rintro _ _ ⟨rfl, rfl⟩
  conv => whnf
  refine ⟨_, byte4_c, ?_⟩
  rintro _ _ ⟨rfl, rfl⟩
  conv => whnf
  refine ⟨_, body4_c, ?_⟩
  rintro _ _ ⟨rfl, rfl⟩
  conv => whnf
  refine ⟨_, end_c (s := .empty) (e := 4), ?_⟩
  rintro _ _ ⟨rfl, rfl⟩
  conv => whnf
  exact ⟨rfl, rfl⟩
end Go.Proofs.YtboohfijacjhjaaDoor
