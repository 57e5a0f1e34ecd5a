/- slices.Clone of a slice of whatever elements, in the own logic: a slice of one's own. -/
import Derived.Test.YtghblnkplfajjaaDoorWG
import Derived.Shelf.SlicesE.Clone
namespace Go.Proofs.YtghblnkplfajjaaDoor
open Go.Shelf Go.RowKit Go.Lib Go.Ab

section
variable {P : Program} {ρ : Ren}

set_option maxHeartbeats 2000000 in
set_option maxRecDepth 100000 in
/-- Of nothing, whatever its address. -/
theorem clone_zero (L : SlLaysE0.n41 P ρ) (i0 : TypeInfo) (z : Value) (size bytes : Nat) (hi : P.info? (ρ.t 23) = some i0) (hz0 : i0.zero = some z) (hz1 : i0.size = size) (hz2 : i0.bytes = bytes) (hzs : z.cells.size = size) (hsz : 0 < size)
    (z23 : ∀ w, (Go.sizeOf (ρ.t 23)).run P w = .ok size w) (a : Addr) (c : Nat) (w : World) :
    Calls P (ρ.f 41) #[.slice (some a) 0 c] w fun e w' => ∃ v', e = .returned v' ∧ w'.ownsRow w.heap.size (ρ.t 23) size v' 0 [] ∧ Below w.heap.size w w' := by
  have mixed := L.mixed; have t4 := L.t4; have a4 := L.a4; have z4 := L.z4; have v4 := L.v4; have t22 := L.t22; have a22 := L.a22; have z22 := L.z22; have v22 := L.v22
  have q22 : ∀ (w : World) (a : Option Addr) (n c n' c' : Nat), (binOp .eql (ρ.t 22) (.slice a n c) (.slice none n' c')).run P w = .ok (.bool a.isNone) w := fun w a n c n' c' => Lib.run_eql_slice_nil w _ _ a n c n' c' L.t22
  have u22 : ∀ w, Sem.run P (underlying (ρ.t 22)) w = .ok (TypeDesc.slice (ρ.t 23)) w := run_underlying t22
  obtain ⟨_, _, FG⟩ := L.f41
  go_enter FG, SlBodyN.n41_ntmps ρ
  go_wp2_with (at_builtin; refine wpList_append_own _ rfl _ _ (ρ.t 22) rfl w.heap.size (ρ.t 23) i0 z size bytes t22 hi hz0 hz1 hz2 hzs hsz _ _ _ rfl (World.ownsRow_made w #[] 0 (Nat.le_refl _) (Nat.zero_le _) (by simp)) a 0 c [] rfl (by simp) (by intro j u hj; simp at hj) (by intro u hu; cases hu) (by unfold maxLen; omega) (by omega) (by simp) ?_)
  intro v' w1 hown hgrow hnil
  go_wp2
  go_ret
  refine ⟨v', rfl, by simpa using hown, ?_⟩
  exact ((Below.refl _ w).alloc (Nat.le_refl _) _).grown hgrow (by simp) (by intro k hk; simp [Value.ownBlock] at hk; omega)
end

theorem ownsRow_base {w : World} {b e sz v n xs} (h : w.ownsRow b e sz v n xs) : w.ownsRow 0 e sz v n xs := by
  obtain ⟨h1, h2⟩ := h
  refine ⟨h1, ?_⟩
  rcases h2 with h2 | ⟨g, cap, cur, hv, _, r⟩
  · exact .inl h2
  · exact .inr ⟨g, cap, cur, hv, Nat.zero_le _, r⟩

/-- A slice of one's own in new memory. -/
theorem pushOwn {B : Base} {S μ G w} (st : St B S μ G w) {w' : World} {v : Value} {e sz : Nat} {xs : List D} {cs : List Value} (hb : Below w.heap.size w w') (ho : w'.ownsRow w.heap.size e sz v xs.length cs) (hc : CL w G xs cs) (hs : ∀ x ∈ xs, x.size = sz) :
    St B (S ++ [.own e sz xs]) (upd μ S.length v) G w' := by
  have hn : Go.Ab.Next w w' none := ⟨hb.os, hb.tape, hb.output, hb.size, fun k hk _ => hb.block k hk⟩
  have hbid : ∀ n, bid v = some n → w.heap.size ≤ n := by
    intro n hn
    rcases ho.2 with ⟨q, _⟩ | ⟨g, cap, cur, q, hg, _⟩
    · rw [q] at hn; cases hn
    · rw [q] at hn; cases hn; exact hg
  refine st.push hn (fun _ _ h => h) (fun _ _ h => .inl h) (fun _ => hbid) (fun _ n hm o _ hg => ?_) ⟨cs, ownsRow_base ho, hc.mono (fun _ _ h => h) (hn.cells st.gv (fun k hk => by cases hk)), hs⟩
  have := st.gv n o hg
  have := hbid n hm
  omega

theorem clone_c {ρ : Ren} (L : SlLaysE0.n41 Tryd.prog ρ) {fn : Func} {fi : TI} {z : D} {xs : List D} {e sz : Nat} (he : ρ.t 23 = e) (hf : Tryd.prog.funcs[ρ.f 41]? = some fn) (hname : (fn.name == "runtime.NumGoroutine") = false) (hb : fn.body.isSome = true)
    (hfi : cx.tt e = some fi) (hz : fi.zero = some z) (hzs : z.size = sz) (hsz : fi.size = sz) (h0 : 0 < sz) (z23 : ∀ w, (Go.sizeOf e).run Tryd.prog w = .ok sz w) (hl : xs.length ≤ maxLen) (hbig : xs.length * fi.bytes ≤ 140737488355328) :
    CallR cx (ρ.f 41) [.d (.sl sz xs)] [] fun r S => r = .row 0 ∧ S = [.own e sz xs] := by
  subst he
  refine callR_raw (c := cx) hf hname hb fun μ G w vals st hv => ?_
  obtain ⟨v, rfl, h1⟩ := VS.one hv
  obtain ⟨_, info, f1, f2, f3, f4⟩ := cx_ok (ρ.t 23) fi hfi
  obtain ⟨zv, f5, f6⟩ := f4 z hz
  have fin : ∀ (v' : Value) (w' : World) (cs : List Value), w'.ownsRow w.heap.size (ρ.t 23) sz v' xs.length cs → Below w.heap.size w w' → CL w G xs cs → (∀ x ∈ xs, x.size = sz) →
      ∃ v r S' μ' G', Ending.returned v' = Ending.returned v ∧ (r = AV.row 0 ∧ S' = [Blk.own (ρ.t 23) sz xs]) ∧ St (base cx [] μ G w) S' μ' G' w' ∧ RA μ' S'.length w' G' r v := by
    intro v' w' cs ho hbl hc hs
    refine ⟨v', .row 0, [.own (ρ.t 23) sz xs], upd μ 0 v', G, rfl, ⟨rfl, rfl⟩, pushOwn st hbl ho hc hs, ?_⟩
    have hsl : ∃ a l c, v' = .slice a l c := by
      rcases ho.2 with ⟨q, _⟩ | ⟨_, _, _, q, _⟩
      · exact ⟨_, _, _, q⟩
      · exact ⟨_, _, _, q⟩
    obtain ⟨a, l, c, rfl⟩ := hsl
    exact VA.ra (VA.of_single (.row (by show 0 < 1; omega) (by simp [upd]) .nil) rfl) (fun l e => by cases e)
  have hvd := VA.d_iff.1 h1
  have hzc : zv.cells.size = sz := by rw [(f6 w G).cells_size, hzs]
  rcases hvd.sl_inv with ⟨rfl, rfl⟩ | ⟨a, cap, cs, rfl, c1, c2, c3, c4, c5, c6⟩
  · refine (AnyE.slices_Clone_nil L 0 0 w).mono ?_
    rintro e w' ⟨rfl, rfl⟩
    exact fin _ _ [] ⟨by simp, .inl ⟨rfl, rfl⟩⟩ (Below.refl _ _) .nil (by simp)
  · cases xs with
    | nil =>
      refine (clone_zero L info zv sz fi.bytes f1 f5 (by rw [f2, hsz]) f3 hzc h0 z23 a cap w).mono ?_
      rintro e w' ⟨v', rfl, ho, hbl⟩
      exact fin _ _ [] ho hbl .nil (by simp)
    | cons x xs =>
      have hsp : a.spot = none := c4.resolve_left (by simp)
      obtain ⟨b1, b2, b3⟩ := a
      simp only at hsp c3
      subst hsp
      have hcl := D.eqLen c1 c2
      refine (AnyE.slices_Clone L info zv sz fi.bytes f1 f5 (by rw [f2, hsz]) f3 hzc h0 z23 b1 b2 (x :: xs).length cap cs w hcl hl hbig (fun j u hj => (c3 j u hj).1) c1.oneCell).mono ?_
      rintro e w' ⟨v', rfl, ho, _, hbl⟩
      exact fin _ _ cs ho hbl c1 c2

open Go.Shelf Go.Ab Go.RowKit
def renXG : Go.Shelf.Ren := ⟨fun | 41 => 24 | n => n, fun | 4 => 4 | 22 => 27 | 23 => 23 | n => n, fun n => n⟩
theorem laysXG : SlLaysE0.n41 Tryd.prog renXG := {
  mixed := by kernel_rfl
  f41 := ⟨Tryd.f24.name, by kernel_rfl, Tryd.func24.trans (congrArg some (by kernel_rfl))⟩
  t4 := Tryd.underlying4
  a4 := Tryd.isAgg4
  z4 := Tryd.sizeOf4
  v4 := Tryd.zeroValue4
  t22 := Tryd.underlying27
  a22 := Tryd.isAgg27
  z22 := Tryd.sizeOf27
  v22 := Tryd.zeroValue27 }
theorem cloneG_c {l : List D} (h : l.length ≤ 100000) : CallR cx 24 [.d (.sl 32 l)] [] fun r S => r = .row 0 ∧ S = [.own 23 32 l] :=
  clone_c (ρ := renXG) laysXG (e := 23) (sz := 32) rfl Tryd.func24 (by kernel_rfl) (by kernel_rfl) rfl rfl rfl rfl (by decide) Tryd.sizeOf23 (by unfold maxLen; omega) (by show l.length * 32 ≤ _; omega)

open Go.Shelf Go.Ab Go.RowKit
def renXO : Go.Shelf.Ren := ⟨fun | 41 => 13 | n => n, fun | 4 => 4 | 22 => 30 | 23 => 47 | n => n, fun n => n⟩
theorem laysXO : SlLaysE0.n41 Tryd.prog renXO := {
  mixed := by kernel_rfl
  f41 := ⟨Tryd.f13.name, by kernel_rfl, Tryd.func13.trans (congrArg some (by kernel_rfl))⟩
  t4 := Tryd.underlying4
  a4 := Tryd.isAgg4
  z4 := Tryd.sizeOf4
  v4 := Tryd.zeroValue4
  t22 := Tryd.underlying30
  a22 := Tryd.isAgg30
  z22 := Tryd.sizeOf30
  v22 := Tryd.zeroValue30 }
theorem cloneO_c {l : List D} (h : l.length ≤ 100000) : CallR cx 13 [.d (.sl 3 l)] [] fun r S => r = .row 0 ∧ S = [.own 47 3 l] :=
  clone_c (ρ := renXO) laysXO (e := 47) (sz := 3) rfl Tryd.func13 (by kernel_rfl) (by kernel_rfl) rfl rfl rfl rfl (by decide) Tryd.sizeOf47 (by unfold maxLen; omega) (by show l.length * 32 ≤ _; omega)
end Go.Proofs.YtghblnkplfajjaaDoor
