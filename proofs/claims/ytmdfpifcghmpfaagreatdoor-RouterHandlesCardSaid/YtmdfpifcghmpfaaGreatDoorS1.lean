/- What one statement needs of the texts, by slice.py. -/
import Derived.Test.YtmdfpifcghmpfaaGreatDoorTy
import Derived.Test.YtmdfpifcghmpfaaGreatDoorAbZ
import Derived.Shelf.SlicesE.Clone
import Derived.Shelf.Unicode.DecodeAny
import Derived.Test.YtmdfpifcghmpfaaGreatDoorProg
import Derived.Lib.DecodeN

/- The program's context in the own logic: types, utf8's tables; a builder's bytes are a row of its own. -/
namespace Go.Proofs.YtmdfpifcghmpfaaGreatDoor
open Go.Ab
/-- What math/bits.deBruijn64tab holds. -/
def tzL : List Int := [0, 1, 56, 2, 57, 49, 28, 3, 61, 58, 42, 50, 38, 29, 17, 4, 62, 47, 59, 36, 45, 43, 51, 22, 53, 39, 33, 30, 24, 18, 12, 5, 63, 55, 48, 27, 60, 41, 37, 16, 46, 35, 44, 21, 52, 32, 23, 11, 54, 26, 40, 15, 34, 20, 31, 10, 25, 14, 19, 9, 13, 8, 7, 6]
def tzF (j : Nat) : Int := tzL.getD j 0
def gl (g : Nat) : Option D := match Nat.beq g 0 with
  | true => some (tabD 256 firstF)
  | false => match Nat.beq g 1 with
    | true => some (tabD 32 accF)
    | false => match Nat.beq g 999999 && false with
      | true => some (tabD 64 tzF)
      | false => none
def rwsOf (t : Nat) : Option (List (Option TypeId)) := match Nat.beq t 999999 with
  | true => some [none, some 5]
  | false => none
def rowfOf (f : Nat) : Bool := match Nat.beq f 96 with | true => true | false => match Nat.beq f 93 with | true => true | false => match Nat.beq f 92 with | true => true | false => match Nat.beq f 66 with | true => true | false => match Nat.beq f 33 with | true => true | false => false
def mksOf (f : Nat) : Bool := match Nat.beq f 96 with | true => true | false => match Nat.beq f 92 with | true => true | false => match Nat.beq f 66 with | true => true | false => match Nat.beq f 14 with | true => true | false => match Nat.beq f 13 with | true => true | false => false
noncomputable def cx : Ctx := { P := Tryz.prog, tt := ty.look, glob := gl, rws := rwsOf, rowf := rowfOf, mks := mksOf }
theorem cx_ok : cx.ok := tab_ok ty_fits
theorem laid : laidOutB Tryz.prog = true := by kernel_rfl
abbrev u64 (n : Int) : AV := .d (.int .u64 n)
abbrev i64 (n : Int) : AV := .d (.int .i64 n)
abbrev i32 (n : Int) : AV := .d (.int .i32 n)
abbrev u8 (n : Int) : AV := .d (.int .u8 n)
abbrev bo (b : Bool) : AV := .d (.bool b)
abbrev st (s : ByteArray) : AV := .d (.str s)

/-- A contract out of a run of a function that has a body. -/
theorem callR_raw {c : Ctx} {f : FuncId} {fn : Func} {args : List AV} {S : List Blk} {Post : AV → List Blk → Prop} (hf : c.P.funcs[f]? = some fn) (hname : (fn.name == "runtime.NumGoroutine") = false) (hb : fn.body.isSome = true)
    (h : ∀ (μ : Nat → Value) (G : Nat → Nat → Prop) (w : World) (vals : List Value), St (base c S μ G w) S μ G w → VS μ S.length w G args vals →
      Calls c.P f vals.toArray w fun e w' => ∃ v r S' μ' G', e = .returned v ∧ Post r S' ∧ St (base c S μ G w) S' μ' G' w' ∧ RA μ' S'.length w' G' r v) : CallR c f args S Post := by
  intro μ G w vals st hv
  left
  constructor
  · cases hbb : fn.body with
    | none => rw [hbb] at hb; cases hb
    | some code =>
      simp only [callFunc, Sem.run_bind, run_program, Result.andThen_ok, hf, hname, hbb]
      rfl
  · exact h μ G w vals st hv
end Go.Proofs.YtmdfpifcghmpfaaGreatDoor

/- Numbers of 64 bits: sums and differences. -/
namespace Go.Proofs.YtmdfpifcghmpfaaGreatDoor
open Go.Ab

theorem add64 {S : List Blk} {x y z : Int} (hx : U x) (hy : U y) (hz : 0 ≤ z ∧ z ≤ 1) :
    CallR cx 83 [u64 x, u64 y, u64 z] S fun r S' => r = .tup [u64 ((x + y + z) % 18446744073709551616), u64 ((x + y + z) / 18446744073709551616)] ∧ S' = S :=
  add64_c Tryz.func83 (by kernel_rfl) (by kernel_rfl) (by kernel_rfl) (by kernel_rfl) hx.1 hy.1 hz

theorem add_c {a b : Int} (ha : U a) (hb : U b) : CallR cx 60 [u64 a, u64 b] [] fun r S =>
    r = .tup [u64 (if a + b < 18446744073709551616 then a + b else 0), i64 (if a + b < 18446744073709551616 then 0 else 10)] ∧ S = [] := by
  obtain ⟨ha1, ha2⟩ := ha
  obtain ⟨hb1, hb2⟩ := hb
  refine callR_of (R := R1) cx_ok Tryz.func60 (by kernel_rfl) rfl ?_
  conv => whnf
  refine ⟨_, add64 ⟨ha1, ha2⟩ ⟨hb1, hb2⟩ (by decide), ?_⟩
  rintro _ _ ⟨rfl, rfl⟩
  conv => whnf
  refine brec (fun h => ?_) (fun h => ?_)
  · conv => whnf
    have h := eq_of_beq h
    rw [if_pos (by omega), if_pos (by omega)]
    exact ⟨congrArg (fun z => AV.tup [u64 z, i64 0]) (by omega), rfl⟩
  · conv => whnf
    have h := ne_of_beq_false h
    rw [if_neg (by omega), if_neg (by omega)]
    exact ⟨rfl, rfl⟩

theorem radd_c {a b : Int} (ha : U a) (hb : U b) : CallR cx 42 [u64 a, u64 b] [] fun r S =>
    r = .tup [u64 (if a + b < 18446744073709551616 then a + b else 0), i64 (if a + b < 18446744073709551616 then 0 else 10)] ∧ S = [] := by
  obtain ⟨ha1, ha2⟩ := ha
  obtain ⟨hb1, hb2⟩ := hb
  refine callR_of (R := R1) cx_ok Tryz.func42 (by kernel_rfl) rfl ?_
  conv => whnf
  refine brec (fun h => ?_) (fun h => ?_)
  · conv => whnf
    have h := of_decide_eq_true h
    rw [wrap64] at h
    rw [if_neg (by omega), if_neg (by omega)]
    exact ⟨rfl, rfl⟩
  · conv => whnf
    have h := of_decide_eq_false h
    rw [wrap64] at h
    rw [if_pos (by omega), if_pos (by omega), wrap64]
    exact ⟨congrArg (fun z => AV.tup [u64 z, i64 0]) (by omega), rfl⟩

theorem sub_c {a b : Int} (ha : U a) (hb : U b) : CallR cx 82 [u64 a, u64 b] [] fun r S => r = .tup [u64 (if a < b then 0 else a - b), i64 (if a < b then 11 else 0)] ∧ S = [] := by
  obtain ⟨ha1, ha2⟩ := ha
  obtain ⟨hb1, hb2⟩ := hb
  refine callR_of (R := R1) cx_ok Tryz.func82 (by kernel_rfl) rfl ?_
  conv => whnf
  refine brec (fun h => ?_) (fun h => ?_)
  · conv => whnf
    have h := of_decide_eq_true h
    rw [if_pos h, if_pos h]
    exact ⟨rfl, rfl⟩
  · conv => whnf
    have h := of_decide_eq_false h
    rw [if_neg h, if_neg h, wrap64]
    exact ⟨congrArg (fun z => AV.tup [u64 z, i64 0]) (by omega), rfl⟩

end Go.Proofs.YtmdfpifcghmpfaaGreatDoor

/- Wide numbers: sums. -/
namespace Go.Proofs.YtmdfpifcghmpfaaGreatDoor
open Go.Ab

/-- A wide number: its high and its low half. -/
abbrev wd (h l : Int) : D := .agg [.int .u64 h, .int .u64 l]

end Go.Proofs.YtmdfpifcghmpfaaGreatDoor

/- Wide numbers as the document's four digits: what 'Of', 'Plus', 'Less' compute. -/
namespace Go.Proofs.YtmdfpifcghmpfaaGreatDoor
open Go.Ab

abbrev ui (n : Int) : D := .int .u64 n
abbrev a4 (a b c d : Int) : D := .arr 4 1 [ui a, ui b, ui c, ui d]

def W (v : Int) : Prop := 0 ≤ v ∧ v < 340282366920938463463374607431768211456
end Go.Proofs.YtmdfpifcghmpfaaGreatDoor

/- slices.Clone of a slice of whatever elements, in the own logic: a slice of one's own. -/
namespace Go.Proofs.YtmdfpifcghmpfaaGreatDoor
open Go.Shelf Go.RowKit Go.Lib Go.Ab

section
variable {P : Program} {ρ : Ren}

set_option maxHeartbeats 2000000 in
set_option maxRecDepth 100000 in
/-- Of nothing, whatever its address. -/
theorem clone_zero (L : SlLaysE0.n41 P ρ) (i0 : TypeInfo) (z : Value) (size bytes : Nat) (hi : P.info? (ρ.t 23) = some i0) (hz0 : i0.zero = some z) (hz1 : i0.size = size) (hz2 : i0.bytes = bytes) (hzs : z.cells.size = size) (hsz : 0 < size)
    (z23 : ∀ w, (Go.sizeOf (ρ.t 23)).run P w = .ok size w) (a : Addr) (c : Nat) (w : World) :
    Calls P (ρ.f 41) #[.slice (some a) 0 c] w fun e w' => ∃ v', e = .returned v' ∧ w'.ownsRow w.heap.size (ρ.t 23) size v' 0 [] ∧ Below w.heap.size w w' := by
  have mixed := L.mixed; have t4 := L.t4; have a4 := L.a4; have z4 := L.z4; have v4 := L.v4; have t22 := L.t22; have a22 := L.a22; have z22 := L.z22; have v22 := L.v22
  have q22 : ∀ (w : World) (a : Option Addr) (n c n' c' : Nat), (binOp .eql (ρ.t 22) (.slice a n c) (.slice none n' c')).run P w = .ok (.bool a.isNone) w := fun w a n c n' c' => Lib.run_eql_slice_nil w _ _ a n c n' c' L.t22
  have u22 : ∀ w, Sem.run P (underlying (ρ.t 22)) w = .ok (TypeDesc.slice (ρ.t 23)) w := run_underlying t22
  obtain ⟨_, _, FG⟩ := L.f41
  go_enter FG, SlBodyN.n41_ntmps ρ
  go_wp2_with (at_builtin; refine wpList_append_own _ rfl _ _ (ρ.t 22) rfl w.heap.size (ρ.t 23) i0 z size bytes t22 hi hz0 hz1 hz2 hzs hsz _ _ _ rfl (World.ownsRow_made w #[] 0 (Nat.le_refl _) (Nat.zero_le _) (by simp)) a 0 c [] rfl (by simp) (by intro j u hj; simp at hj) (by intro u hu; cases hu) (by unfold maxLen; omega) (by omega) (by simp) ?_)
  intro v' w1 hown hgrow hnil
  go_wp2
  go_ret
  refine ⟨v', rfl, by simpa using hown, ?_⟩
  exact ((Below.refl _ w).alloc (Nat.le_refl _) _).grown hgrow (by simp) (by intro k hk; simp [Value.ownBlock] at hk; omega)
end

theorem ownsRow_base {w : World} {b e sz v n xs} (h : w.ownsRow b e sz v n xs) : w.ownsRow 0 e sz v n xs := by
  obtain ⟨h1, h2⟩ := h
  refine ⟨h1, ?_⟩
  rcases h2 with h2 | ⟨g, cap, cur, hv, _, r⟩
  · exact .inl h2
  · exact .inr ⟨g, cap, cur, hv, Nat.zero_le _, r⟩

/-- A slice of one's own in new memory. -/
theorem pushOwn {B : Base} {S μ G w} (st : St B S μ G w) {w' : World} {v : Value} {e sz : Nat} {xs : List D} {cs : List Value} (hb : Below w.heap.size w w') (ho : w'.ownsRow w.heap.size e sz v xs.length cs) (hc : CL w G xs cs) (hs : ∀ x ∈ xs, x.size = sz) :
    St B (S ++ [.own e sz xs]) (upd μ S.length v) G w' := by
  have hn : Go.Ab.Next w w' none := ⟨hb.os, hb.tape, hb.output, hb.size, fun k hk _ => hb.block k hk⟩
  have hbid : ∀ n, bid v = some n → w.heap.size ≤ n := by
    intro n hn
    rcases ho.2 with ⟨q, _⟩ | ⟨g, cap, cur, q, hg, _⟩
    · rw [q] at hn; cases hn
    · rw [q] at hn; cases hn; exact hg
  refine st.push hn (fun _ _ h => h) (fun _ _ h => .inl h) (fun _ => hbid) (fun _ n hm o _ hg => ?_) ⟨cs, ownsRow_base ho, hc.mono (fun _ _ h => h) (hn.cells st.gv (fun k hk => by cases hk)), hs⟩
  have := st.gv n o hg
  have := hbid n hm
  omega

theorem clone_c {ρ : Ren} (L : SlLaysE0.n41 Tryz.prog ρ) {fn : Func} {fi : TI} {z : D} {xs : List D} {e sz : Nat} (he : ρ.t 23 = e) (hf : Tryz.prog.funcs[ρ.f 41]? = some fn) (hname : (fn.name == "runtime.NumGoroutine") = false) (hb : fn.body.isSome = true)
    (hfi : cx.tt e = some fi) (hz : fi.zero = some z) (hzs : z.size = sz) (hsz : fi.size = sz) (h0 : 0 < sz) (z23 : ∀ w, (Go.sizeOf e).run Tryz.prog w = .ok sz w) (hl : xs.length ≤ maxLen) (hbig : xs.length * fi.bytes ≤ 140737488355328) :
    CallR cx (ρ.f 41) [.d (.sl sz xs)] [] fun r S => r = .row 0 ∧ S = [.own e sz xs] := by
  subst he
  refine callR_raw (c := cx) hf hname hb fun μ G w vals st hv => ?_
  obtain ⟨v, rfl, h1⟩ := VS.one hv
  obtain ⟨_, info, f1, f2, f3, f4⟩ := cx_ok (ρ.t 23) fi hfi
  obtain ⟨zv, f5, f6⟩ := f4 z hz
  have fin : ∀ (v' : Value) (w' : World) (cs : List Value), w'.ownsRow w.heap.size (ρ.t 23) sz v' xs.length cs → Below w.heap.size w w' → CL w G xs cs → (∀ x ∈ xs, x.size = sz) →
      ∃ v r S' μ' G', Ending.returned v' = Ending.returned v ∧ (r = AV.row 0 ∧ S' = [Blk.own (ρ.t 23) sz xs]) ∧ St (base cx [] μ G w) S' μ' G' w' ∧ RA μ' S'.length w' G' r v := by
    intro v' w' cs ho hbl hc hs
    refine ⟨v', .row 0, [.own (ρ.t 23) sz xs], upd μ 0 v', G, rfl, ⟨rfl, rfl⟩, pushOwn st hbl ho hc hs, ?_⟩
    have hsl : ∃ a l c, v' = .slice a l c := by
      rcases ho.2 with ⟨q, _⟩ | ⟨_, _, _, q, _⟩
      · exact ⟨_, _, _, q⟩
      · exact ⟨_, _, _, q⟩
    obtain ⟨a, l, c, rfl⟩ := hsl
    exact VA.ra (VA.of_single (.row (by show 0 < 1; omega) (by simp [upd]) .nil) rfl) (fun l e => by cases e)
  have hvd := VA.d_iff.1 h1
  have hzc : zv.cells.size = sz := by rw [(f6 w G).cells_size, hzs]
  rcases hvd.sl_inv with ⟨rfl, rfl⟩ | ⟨a, cap, cs, rfl, c1, c2, c3, c4, c5, c6⟩
  · refine (AnyE.slices_Clone_nil L 0 0 w).mono ?_
    rintro e w' ⟨rfl, rfl⟩
    exact fin _ _ [] ⟨by simp, .inl ⟨rfl, rfl⟩⟩ (Below.refl _ _) .nil (by simp)
  · cases xs with
    | nil =>
      refine (clone_zero L info zv sz fi.bytes f1 f5 (by rw [f2, hsz]) f3 hzc h0 z23 a cap w).mono ?_
      rintro e w' ⟨v', rfl, ho, hbl⟩
      exact fin _ _ [] ho hbl .nil (by simp)
    | cons x xs =>
      have hsp : a.spot = none := c4.resolve_left (by simp)
      obtain ⟨b1, b2, b3⟩ := a
      simp only at hsp c3
      subst hsp
      have hcl := D.eqLen c1 c2
      refine (AnyE.slices_Clone L info zv sz fi.bytes f1 f5 (by rw [f2, hsz]) f3 hzc h0 z23 b1 b2 (x :: xs).length cap cs w hcl hl hbig (fun j u hj => (c3 j u hj).1) c1.oneCell).mono ?_
      rintro e w' ⟨v', rfl, ho, _, hbl⟩
      exact fin _ _ cs ho hbl c1 c2
end Go.Proofs.YtmdfpifcghmpfaaGreatDoor

/- The library's contract of utf8.DecodeRuneInString at this program (laid by the kit's own tools, in plain words). -/
namespace Go.Proofs
open Go.Shelf
def Tryz.lays197_ren : Go.Shelf.Ren := ⟨fun | 197 => 90 | 260 => 100 | n => n, fun | 9 => 9 | 21 => 21 | 3 => 3 | 4 => 4 | 5 => 5 | 105 => 144 | 119 => 158 | 0 => 0 | 46 => 134 | 139 => 161 | 138 => 160 | n => n, fun | 3 => 0 | 4 => 1 | n => n⟩
theorem Tryz.lays197 : Go.Proofs.Lays.n197 Tryz.prog Tryz.lays197_ren := {
  mixed := by kernel_rfl
  f197 := Tryz.func90.trans (congrArg some (by kernel_rfl))
  f260 := Tryz.func100.trans (congrArg some (by kernel_rfl))
  t0 := Tryz.underlying0
  a0 := Tryz.isAgg0
  z0 := Tryz.sizeOf0
  v0 := Tryz.zeroValue0
  t3 := Tryz.underlying3
  a3 := Tryz.isAgg3
  z3 := Tryz.sizeOf3
  v3 := Tryz.zeroValue3
  t4 := Tryz.underlying4
  a4 := Tryz.isAgg4
  z4 := Tryz.sizeOf4
  v4 := Tryz.zeroValue4
  t5 := Tryz.underlying5
  a5 := Tryz.isAgg5
  z5 := Tryz.sizeOf5
  v5 := Tryz.zeroValue5
  t9 := Tryz.underlying9
  a9 := Tryz.isAgg9
  z9 := Tryz.sizeOf9
  v9 := Tryz.zeroValue9
  t21 := Tryz.underlying21
  a21 := Tryz.isAgg21
  z21 := Tryz.sizeOf21
  v21 := Tryz.zeroValue21
  t46 := Tryz.underlying134
  a46 := Tryz.isAgg134
  z46 := Tryz.sizeOf134
  v46 := Tryz.zeroValue134
  t105 := Tryz.underlying144
  a105 := Tryz.isAgg144
  z105 := Tryz.sizeOf144
  v105 := Tryz.zeroValue144
  t119 := Tryz.underlying158
  a119 := Tryz.isAgg158
  z119 := Tryz.sizeOf158
  t138 := Tryz.underlying160
  a138 := Tryz.isAgg160
  z138 := Tryz.sizeOf160
  v138 := Tryz.zeroValue160
  t139 := Tryz.underlying161
  a139 := Tryz.isAgg161
  z139 := Tryz.sizeOf161
  v139 := Tryz.zeroValue161
  g3 := by kernel_rfl
  g4 := by kernel_rfl }
open Go.RowKit Go.Lib in
theorem Tryz.utf8_DecodeRuneInString (s : ByteArray) (w : World) (hT : Lib.Utf8Tabs 0 1 w) :
    Calls Tryz.prog 90 #[.string s] w fun e w' => e = .returned (.tuple #[.int .i32 (Lib.decodeGo s).1, .int .i64 (Lib.decodeGo s).2]) ∧ Below w.heap.size w w' := Any.utf8_DecodeRuneInString Tryz.lays197 s w hT
end Go.Proofs

/- The runes of a text by their numbers: plain laws, no program. -/
namespace Go.Proofs.YtmdfpifcghmpfaaGreatDoor
open Go.Ab

theorem getD_get! (s : ByteArray) (k : Nat) : s.data.toList.getD k 0 = s.get! k := by
  cases s with
  | mk d =>
    show d.toList.getD k 0 = d[k]!
    rw [List.getD_eq_getElem?_getD, Array.getElem?_toList, getElem!_def]
    cases d[k]? <;> rfl

theorem byteAt_eq (s : ByteArray) (k : Nat) : byteAt s k = ((s.get! k).toNat : Int) := by
  unfold byteAt
  rw [getD_get!]

/-- The number of the rune at a place, and how many bytes it has; a stray's byte and 2000000, and 1. -/
def keyN (n b0 b1 b2 b3 : Nat) : Nat × Nat := if Lib.decodeN n b0 b1 b2 b3 = (65533, 1) then (b0 + 2000000, 1) else Lib.decodeN n b0 b1 b2 b3
def key (s : ByteArray) (i : Nat) : Nat × Nat := keyN (s.size - i) (s.get! i).toNat (s.get! (i + 1)).toNat (s.get! (i + 2)).toNat (s.get! (i + 3)).toNat

/-- A stray stands here. -/
def stray (s : ByteArray) (i : Nat) : Bool := decide (Utf8.decode s i = (65533, 1))

theorem key_stray {s : ByteArray} {i : Nat} (h : stray s i = true) : key s i = ((s.get! i).toNat + 2000000, 1) ∧ Utf8.decode s i = (65533, 1) := by
  have h := of_decide_eq_true h
  refine ⟨?_, h⟩
  rw [Lib.decode_at] at h
  unfold key keyN
  rw [if_pos h]

theorem key_plain {s : ByteArray} {i : Nat} (h : stray s i = false) : key s i = Utf8.decode s i := by
  have h := of_decide_eq_false h
  rw [Lib.decode_at] at h ⊢
  unfold key keyN
  rw [if_neg h]

theorem decodeN_range (n b0 b1 b2 b3 : Nat) (h0 : b0 < 256) : (Lib.decodeN n b0 b1 b2 b3).1 ≤ 1114111 ∧ 1 ≤ (Lib.decodeN n b0 b1 b2 b3).2 ∧ (Lib.decodeN n b0 b1 b2 b3).2 ≤ 4 := by
  unfold Lib.decodeN
  repeat' split
  all_goals simp only
  all_goals omega

theorem key_two {s : ByteArray} {i : Nat} : (key s i).2 = (Utf8.decode s i).2 := by
  cases h : stray s i with
  | true => obtain ⟨h1, h2⟩ := key_stray h; rw [h1, h2]
  | false => rw [key_plain h]

theorem decode_range (s : ByteArray) (i : Nat) : (Utf8.decode s i).1 ≤ 1114111 ∧ 1 ≤ (Utf8.decode s i).2 ∧ (Utf8.decode s i).2 ≤ 4 := by
  rw [Lib.decode_at]
  exact decodeN_range _ _ _ _ _ (s.get! i).toNat_lt

theorem key_pos (s : ByteArray) (i : Nat) : 1 ≤ (key s i).2 := by rw [key_two]; exact (decode_range s i).2.1
theorem key_four (s : ByteArray) (i : Nat) : (key s i).2 ≤ 4 := by rw [key_two]; exact (decode_range s i).2.2

/-- A text's runes from a place on. -/
def keysAt (s : ByteArray) (i : Nat) : List Nat := if i < s.size then (key s i).1 :: keysAt s (i + (key s i).2) else []
termination_by s.size - i
decreasing_by have := key_pos s i; omega

theorem keysAt_lt {s : ByteArray} {i : Nat} (h : i < s.size) : keysAt s i = (key s i).1 :: keysAt s (i + (key s i).2) := by
  rw [keysAt, if_pos h]
theorem keysAt_ge {s : ByteArray} {i : Nat} (h : ¬ i < s.size) : keysAt s i = [] := by
  rw [keysAt, if_neg h]

theorem keysAt_length (s : ByteArray) : ∀ i, (keysAt s i).length ≤ s.size - i := by
  intro i
  induction h : s.size - i using Nat.strongRecOn generalizing i with
  | _ n ih =>
    by_cases hi : i < s.size
    · rw [keysAt_lt hi]
      have := key_pos s i
      have := ih (s.size - (i + (key s i).2)) (by omega) _ rfl
      simp only [List.length_cons]
      omega
    · rw [keysAt_ge hi]; simp

/-- The slow table's conditions, by classes of the first byte. -/
def smallI (r : Int) : Prop := (97 ≤ r ∧ r ≤ 122) ∨ (945 ≤ r ∧ r ≤ 969)
instance (r : Int) : Decidable (smallI r) := by unfold smallI; infer_instance

/-- Is a rune right at its place? -/
def okR (first : Bool) (k : Int) : Bool := decide (smallI k) || (!first && (decide (48 ≤ k) && decide (k ≤ 57)))

def goR : List Nat → Nat → Bool
  | [], n => decide (1 ≤ n) && decide (n ≤ 12)
  | k :: l, n => okR (n == 0) (k : Int) && goR l (n + 1)

def goS : List Nat → Nat → Bool
  | [], n => decide (n ≤ 64)
  | k :: l, n => !(decide (k < 32) || decide (k = 127) || decide (2000000 ≤ k)) && goS l (n + 1)

def rightT (s : ByteArray) : Bool := goR (keysAt s 0) 0
def saysT (s : ByteArray) : Bool := goS (keysAt s 0) 0
end Go.Proofs.YtmdfpifcghmpfaaGreatDoor

/- The library's decoder of one rune, in this logic. -/
namespace Go.Proofs.YtmdfpifcghmpfaaGreatDoor
open Go.Ab Go.RowKit
theorem gl_reads {w : World} (h : Lib.Utf8Tabs 0 1 w) (hz : false = true → ∀ j, j < 64 → w.cell? ⟨999999, j, none⟩ = some (.int .u8 (tzF j))) : ∀ g x, cx.glob g = some x → VD w (Old w) (.cptr x) (.pointer (some ⟨g, 0, none⟩)) := by
  obtain ⟨h1, h2⟩ := tabs_glob h
  intro g x hx
  change gl g = some x at hx
  unfold gl at hx
  split at hx
  · rename_i e
    obtain rfl := Nat.eq_of_beq_eq_true e
    cases hx
    exact h1
  · split at hx
    · rename_i e
      obtain rfl := Nat.eq_of_beq_eq_true e
      cases hx
      exact h2
    · split at hx
      · rename_i e
        have e := Bool.and_eq_true_iff.1 e
        have hq := hz e.2
        obtain rfl := Nat.eq_of_beq_eq_true e.1
        cases hx
        exact tab_glob hq (fun j hj => World.block_lt_of_cell? w _ (hq j hj))
      · cases hx

theorem decode_c {s : ByteArray} : CallR cx 90 [st s] [] fun r S => r = .tup [i32 (Lib.decodeGo s).1, i64 (Lib.decodeGo s).2] ∧ S = [] := by
  refine callR_below (c := cx) Tryz.func90 (by kernel_rfl) (by kernel_rfl) fun μ G w vals st hv => ?_
  obtain ⟨v, rfl, h1⟩ := VS.one hv
  have := (VA.d_iff.1 h1).str_inv
  subst this
  have hT : Lib.Utf8Tabs 0 1 w := glob_tabs (st.glob 0 _ rfl) (st.glob 1 _ rfl)
  refine (Tryz.utf8_DecodeRuneInString s w hT).mono ?_
  rintro e w' ⟨rfl, hb⟩
  exact ⟨_, rfl, ⟨_, rfl, .cons (VA.d_iff.2 VD.int) (.cons (VA.d_iff.2 VD.int) .nil)⟩, hb⟩

theorem extract_get! (s : ByteArray) (i k : Nat) : (s.extract i s.size).get! k = s.get! (i + k) := by
  rw [← getD_get!, ← getD_get!]
  have e : (s.extract i s.size).data.toList = s.data.toList.drop i := by
    rw [ByteArray.data_extract, Array.toList_extract, List.extract_eq_take_drop]
    refine List.take_of_length_le ?_
    rw [List.length_drop, Array.length_toList]
    exact Nat.le_refl _
  rw [e, List.getD_eq_getElem?_getD, List.getD_eq_getElem?_getD, List.getElem?_drop]

theorem decode_from {s : ByteArray} {i : Nat} (h : i < s.size) : Lib.decodeGo (s.extract i s.size) = Utf8.decode s i := by
  have hs : (s.extract i s.size).size = s.size - i := by rw [ByteArray.size_extract]; omega
  unfold Lib.decodeGo
  rw [if_neg (by omega), Lib.decode_at, Lib.decode_at, hs]
  simp only [extract_get!, Nat.sub_zero, Nat.add_zero, Nat.zero_add]

/-- Is there a stray at a place, where a rune was read? -/
theorem broken_c {s : ByteArray} {i : Nat} (h : i < s.size) : CallR cx 80 [st s, i64 (i : Int), i32 ((Utf8.decode s i).1 : Int)] [] fun r S => r = bo (stray s i) ∧ S = [] := by
  have hd := decode_c (s := s.extract i s.size)
  rw [decode_from h] at hd
  generalize hk : Utf8.decode s i = d at *
  obtain ⟨r, n⟩ := d
  simp only at hd ⊢
  have hst : stray s i = (decide ((r : Int) = 65533) && decide ((n : Int) = 1)) := by
    unfold stray
    rw [hk]
    have e : ((r, n) = ((65533, 1) : Nat × Nat)) = (((r : Int) = 65533) ∧ ((n : Int) = 1)) := by
      refine propext ⟨fun h => ?_, fun h => ?_⟩
      · cases h; exact ⟨rfl, rfl⟩
      · have h1 : r = 65533 := by omega
        have h2 : n = 1 := by omega
        rw [h1, h2]
    simp only [e, Bool.decide_and]
  rw [hst]
  generalize hr : (r : Int) = R at *
  generalize hn : (n : Int) = M at *
  refine callR_of (R := R1) cx_ok Tryz.func80 (by kernel_rfl) rfl ?_
  conv => whnf
  refine brec (fun h1 => ?_) (fun h1 => ?_)
  · have h1 : ¬ R = 65533 := by simpa using h1
    rw [decide_eq_false h1]
    conv => whnf
    exact ⟨rfl, rfl⟩
  · have h1 : R = 65533 := by simpa using h1
    subst h1
    conv => whnf
    refine ⟨⟨by omega, by show (i : Int) ≤ _; omega, Int.le_refl _⟩, ?_⟩
    conv => whnf
    refine ⟨_, hd, ?_⟩
    rintro _ _ ⟨rfl, rfl⟩
    conv => whnf
    exact ⟨rfl, rfl⟩
end Go.Proofs.YtmdfpifcghmpfaaGreatDoor

/- The document's rune at a place: 'within'. -/
namespace Go.Proofs.YtmdfpifcghmpfaaGreatDoor
open Go.Ab Go.RowKit

def win (s : ByteArray) (k : Nat) (lo hi : Int) : Bool := decide (k < s.size) && (decide (lo ≤ byteAt s k) && decide (byteAt s k ≤ hi))

theorem within_c {s : ByteArray} {x lo hi : Int} {k : Nat} (hx : x = (k : Int)) : CallR cx 99 [st s, i64 x, u8 lo, u8 hi] [] fun r S => r = bo (win s k lo hi) ∧ S = [] := by
  unfold win
  have e0 : x.toNat = k := by omega
  have e1 : decide (x < (s.size : Int)) = decide (k < s.size) := by
    have : (x < (s.size : Int)) = (k < s.size) := propext ⟨fun h => by omega, fun h => by omega⟩
    simp only [this]
  refine callR_of (R := R1) cx_ok Tryz.func99 (by kernel_rfl) rfl ?_
  conv => whnf
  refine brec (fun h1 => ?_) (fun h1 => ?_)
  · rw [e1] at h1
    rw [h1]
    conv => whnf
    have h2 := of_decide_eq_true h1
    refine ⟨⟨by omega, by show x < (s.size : Int); omega⟩, ?_⟩
    rw [e0]
    conv => whnf
    refine brec (fun h3 => ?_) (fun h3 => ?_)
    · have h3' := of_decide_eq_true h3
      rw [decide_eq_true (show lo ≤ byteAt s k from h3')]
      conv => whnf
      refine ⟨⟨by omega, by show x < (s.size : Int); omega⟩, ?_⟩
      rw [e0]
      conv => whnf
      exact ⟨rfl, rfl⟩
    · have h3' := of_decide_eq_false h3
      rw [decide_eq_false (show ¬ lo ≤ byteAt s k from h3')]
      conv => whnf
      exact ⟨rfl, rfl⟩
  · rw [e1] at h1
    rw [h1]
    conv => whnf
    exact ⟨rfl, rfl⟩
end Go.Proofs.YtmdfpifcghmpfaaGreatDoor

/- The document's rune at a place: 'One', by the classes of the first byte. -/
namespace Go.Proofs.YtmdfpifcghmpfaaGreatDoor
open Go.Ab Go.RowKit

theorem brT {A B : Prop} {b : Bool} (h : b = true) (x : A) : @Bool.rec (fun _ => Prop) B A b := by subst h; exact x
theorem brF {A B : Prop} {b : Bool} (h : b = false) (x : B) : @Bool.rec (fun _ => Prop) B A b := by subst h; exact x

theorem w64 {n : Int} (h : -9223372036854775808 ≤ n ∧ n < 9223372036854775808) : IntKind.i64.wrap n = n := by rw [IntKind.wrap_i64]; omega

theorem byteAt_range (s : ByteArray) (k : Nat) : 0 ≤ byteAt s k ∧ byteAt s k < 256 := by
  rw [byteAt_eq]; have := (s.get! k).toNat_lt; omega

def acc (s : ByteArray) (i : Nat) (n0 : Int) : Nat → Int
  | 0 => n0
  | j + 1 => acc s i n0 j * 64 + byteAt s (i + (j + 1)) % 64

theorem acc_range {s : ByteArray} {i : Nat} {n0 : Int} (h : 0 ≤ n0 ∧ n0 < 32) : ∀ j, j ≤ 3 → 0 ≤ acc s i n0 j ∧ acc s i n0 j < 8388608 ∧ (j < 3 → acc s i n0 j < 131072) := by
  have h0 : 0 ≤ acc s i n0 0 ∧ acc s i n0 0 < 32 := h
  have h1 : 0 ≤ acc s i n0 1 ∧ acc s i n0 1 < 2048 := by
    have := byteAt_range s (i + 1)
    show 0 ≤ acc s i n0 0 * 64 + byteAt s (i + (0 + 1)) % 64 ∧ acc s i n0 0 * 64 + byteAt s (i + (0 + 1)) % 64 < 2048
    omega
  have h2 : 0 ≤ acc s i n0 2 ∧ acc s i n0 2 < 131072 := by
    show 0 ≤ acc s i n0 1 * 64 + byteAt s (i + (1 + 1)) % 64 ∧ acc s i n0 1 * 64 + byteAt s (i + (1 + 1)) % 64 < 131072
    omega
  have h3 : 0 ≤ acc s i n0 3 ∧ acc s i n0 3 < 8388608 := by
    show 0 ≤ acc s i n0 2 * 64 + byteAt s (i + (2 + 1)) % 64 ∧ acc s i n0 2 * 64 + byteAt s (i + (2 + 1)) % 64 < 8388608
    omega
  intro j hj
  match j, hj with
  | 0, _ => omega
  | 1, _ => omega
  | 2, _ => omega
  | 3, _ => omega

theorem tupI {a b a' b' : Int} (h : a = a') (g : b = b') : AV.tup [i64 a, i64 b] = AV.tup [i64 a', i64 b'] := by rw [h, g]

theorem accStep {s : ByteArray} {i j : Nat} {n0 : Int} (h0 : 0 ≤ acc s i n0 j) (h1 : acc s i n0 j < 131072) :
    IntKind.i64.wrap (IntKind.i64.wrap (acc s i n0 j * 64) + (IntKind.i64.wrap (byteAt s ((i + (j + 1) : Nat) : Int).toNat)).tmod 64) = acc s i n0 (j + 1) := by
  have hb := byteAt_range s (i + (j + 1))
  rw [Int.toNat_natCast, w64 (n := acc s i n0 j * 64) (by omega), w64 (n := byteAt s (i + (j + 1))) (by omega), Int.tmod_eq_emod_of_nonneg hb.1, w64 (by omega)]
  rfl

theorem win_lt {s : ByteArray} {k : Nat} {lo hi : Int} (h : win s k lo hi = true) : k < s.size := by
  unfold win at h
  simp only [Bool.and_eq_true, decide_eq_true_eq] at h
  exact h.1

theorem win_iff {s : ByteArray} {k : Nat} {lo hi : Int} : win s k lo hi = true ↔ k < s.size ∧ lo ≤ ((s.get! k).toNat : Int) ∧ ((s.get! k).toNat : Int) ≤ hi := by
  unfold win
  rw [byteAt_eq]
  simp only [Bool.and_eq_true, decide_eq_true_eq]
end Go.Proofs.YtmdfpifcghmpfaaGreatDoor

/- The document's rune at a place: 'One', by the classes of the first byte (printed by gen/one.py). -/
namespace Go.Proofs.YtmdfpifcghmpfaaGreatDoor
open Go.Ab Go.RowKit

set_option maxHeartbeats 4000000 in
theorem one_A {s : ByteArray} {x : Int} {i : Nat} (hx : x = (i : Int)) (hi : i < s.size) (hm : s.size < 1000000000) (hc : byteAt s i < 128) :
    CallR cx 89 [st s, i64 x] [] fun r S => r = .tup [i64 (byteAt s i), i64 1] ∧ S = [] := by
  have e0 : x.toNat = i := by omega
  have hr := byteAt_range s i
  refine callR_of (R := R1) cx_ok Tryz.func89 (by kernel_rfl) rfl ?_
  conv => whnf
  refine ⟨⟨by omega, by show x < (s.size : Int); omega⟩, ?_⟩
  rw [e0]
  generalize hb : byteAt s i = c at *
  conv => whnf
  refine brT (decide_eq_true (by omega)) ?_
  conv => whnf
  exact ⟨tupI (w64 (by omega)) rfl, rfl⟩

set_option maxHeartbeats 4000000 in
theorem one_X1 {s : ByteArray} {x : Int} {i : Nat} (hx : x = (i : Int)) (hi : i < s.size) (hm : s.size < 1000000000) (hc : 128 ≤ byteAt s i ∧ byteAt s i ≤ 193) :
    CallR cx 89 [st s, i64 x] [] fun r S => r = .tup [i64 (byteAt s i + 2000000), i64 1] ∧ S = [] := by
  have e0 : x.toNat = i := by omega
  have hr := byteAt_range s i
  refine callR_of (R := R1) cx_ok Tryz.func89 (by kernel_rfl) rfl ?_
  conv => whnf
  refine ⟨⟨by omega, by show x < (s.size : Int); omega⟩, ?_⟩
  rw [e0]
  generalize hb : byteAt s i = c at *
  conv => whnf
  refine brF (decide_eq_false (by omega)) ?_
  conv => whnf
  refine brF (decide_eq_false (by omega)) ?_
  conv => whnf
  refine brF (decide_eq_false (by omega)) ?_
  conv => whnf
  refine brF (decide_eq_false (by omega)) ?_
  conv => whnf
  exact ⟨tupI (by rw [w64 (n := c) (by omega), w64 (by omega)]) rfl, rfl⟩

set_option maxHeartbeats 4000000 in
theorem one_X2 {s : ByteArray} {x : Int} {i : Nat} (hx : x = (i : Int)) (hi : i < s.size) (_hm : s.size < 1000000000) (hc : 245 ≤ byteAt s i) :
    CallR cx 89 [st s, i64 x] [] fun r S => r = .tup [i64 (byteAt s i + 2000000), i64 1] ∧ S = [] := by
  have e0 : x.toNat = i := by omega
  have hr := byteAt_range s i
  refine callR_of (R := R1) cx_ok Tryz.func89 (by kernel_rfl) rfl ?_
  conv => whnf
  refine ⟨⟨by omega, by show x < (s.size : Int); omega⟩, ?_⟩
  rw [e0]
  generalize hb : byteAt s i = c at *
  conv => whnf
  refine brF (decide_eq_false (by omega)) ?_
  conv => whnf
  refine brT (decide_eq_true (by omega)) ?_
  conv => whnf
  refine brF (decide_eq_false (by omega)) ?_
  conv => whnf
  refine brT (decide_eq_true (by omega)) ?_
  conv => whnf
  refine brF (decide_eq_false (by omega)) ?_
  conv => whnf
  refine brT (decide_eq_true (by omega)) ?_
  conv => whnf
  refine brF (decide_eq_false (by omega)) ?_
  conv => whnf
  exact ⟨tupI (by rw [w64 (n := c) (by omega), w64 (by omega)]) rfl, rfl⟩

set_option maxHeartbeats 4000000 in
theorem one_C2_0 {s : ByteArray} {x : Int} {i : Nat} (hx : x = (i : Int)) (hi : i < s.size) (hm : s.size < 1000000000) (hc : 194 ≤ byteAt s i ∧ byteAt s i ≤ 223)
    (g1 : win s (i + 1) 128 191 = false) :
    CallR cx 89 [st s, i64 x] [] fun r S => r = .tup [i64 (byteAt s i + 2000000), i64 1] ∧ S = [] := by
  have e0 : x.toNat = i := by omega
  have hr := byteAt_range s i
  have w1 := within_c (s := s) (x := IntKind.i64.wrap (x + 1)) (lo := 128) (hi := 191) (k := i + 1) (by rw [w64 (by omega)]; omega)
  rw [g1] at w1
  refine callR_of (R := R1) cx_ok Tryz.func89 (by kernel_rfl) rfl ?_
  conv => whnf
  refine ⟨⟨by omega, by show x < (s.size : Int); omega⟩, ?_⟩
  rw [e0]
  generalize hb : byteAt s i = c at *
  conv => whnf
  refine brF (decide_eq_false (by omega)) ?_
  conv => whnf
  refine brT (decide_eq_true (by omega)) ?_
  conv => whnf
  refine brT (decide_eq_true (by omega)) ?_
  conv => whnf
  refine ⟨_, w1, ?_⟩
  rintro _ _ ⟨rfl, rfl⟩
  conv => whnf
  exact ⟨tupI (by rw [w64 (n := c) (by omega), w64 (by omega)]) rfl, rfl⟩

set_option maxHeartbeats 4000000 in
theorem one_C2_1 {s : ByteArray} {x : Int} {i : Nat} (hx : x = (i : Int)) (hi : i < s.size) (hm : s.size < 1000000000) (hc : 194 ≤ byteAt s i ∧ byteAt s i ≤ 223)
    (g1 : win s (i + 1) 128 191 = true) :
    CallR cx 89 [st s, i64 x] [] fun r S => r = .tup [i64 (acc s i (byteAt s i % 32) 1), i64 2] ∧ S = [] := by
  have e0 : x.toNat = i := by omega
  have hr := byteAt_range s i
  have w1 := within_c (s := s) (x := IntKind.i64.wrap (x + 1)) (lo := 128) (hi := 191) (k := i + 1) (by rw [w64 (by omega)]; omega)
  rw [g1] at w1
  have hlt : i + 1 < s.size := win_lt g1
  have hac := fun j hj => acc_range (s := s) (i := i) (n0 := byteAt s i % 32) (by omega) j hj
  refine callR_of (R := R1) cx_ok Tryz.func89 (by kernel_rfl) rfl ?_
  conv => whnf
  refine ⟨⟨by omega, by show x < (s.size : Int); omega⟩, ?_⟩
  rw [e0]
  generalize hb : byteAt s i = c at *
  conv => whnf
  refine brF (decide_eq_false (by omega)) ?_
  conv => whnf
  refine brT (decide_eq_true (by omega)) ?_
  conv => whnf
  refine brT (decide_eq_true (by omega)) ?_
  conv => whnf
  refine ⟨_, w1, ?_⟩
  rintro _ _ ⟨rfl, rfl⟩
  conv => whnf
  refine ⟨by decide, ?_⟩
  conv => whnf
  refine .inl ⟨fun k l S => ∃ j : Nat, j ≤ 1 ∧ k = 1 - j ∧ l = [(0, st s), (1, i64 x), (7, i64 1), (10, i64 (acc s i (c % 32) j)), (11, i64 ((j : Int) + 1))] ∧ S = [],
    ⟨_, _, ⟨0, by omega, rfl, rfl, rfl⟩, ⟨rfl, rfl, rfl, congrArg (fun z => some (i64 z)) (show (IntKind.i64.wrap c).tmod 32 = acc s i (c % 32) 0 by rw [w64 (by omega), Int.tmod_eq_emod_of_nonneg (by omega)]; rfl), rfl, trivial⟩⟩, ?_⟩
  rintro _ _ _ ⟨j, hj, rfl, rfl, rfl⟩
  conv => whnf
  refine brec (fun h1 => ?_) (fun h1 => ?_)
  · have h1 := of_decide_eq_true h1
    have e1 : IntKind.i64.wrap (x + ((j : Int) + 1)) = ((i + (j + 1) : Nat) : Int) := by rw [w64 (by omega)]; omega
    conv => whnf
    refine ⟨⟨by rw [e1]; omega, by rw [e1]; show ((i + (j + 1) : Nat) : Int) < (s.size : Int); omega⟩, ?_⟩
    rw [e1]
    conv => whnf
    refine ⟨by decide, ?_⟩
    conv => whnf
    exact ⟨_, _, 0, (by omega : 1 - (j + 1) < 1 - j), ⟨j + 1, by omega, rfl, rfl, rfl⟩,
      ⟨rfl, rfl, rfl, congrArg (fun z => some (i64 z)) (accStep (hac j (by omega)).1 ((hac j (by omega)).2.2 (by omega))), congrArg (fun z => some (i64 z)) (by rw [w64 (by omega)]; omega), trivial⟩, rfl⟩
  · have h1 := of_decide_eq_false h1
    obtain rfl : j = 1 := by omega
    conv => whnf
    exact ⟨rfl, rfl⟩

set_option maxHeartbeats 4000000 in
theorem one_E0_0 {s : ByteArray} {x : Int} {i : Nat} (hx : x = (i : Int)) (hi : i < s.size) (hm : s.size < 1000000000) (hc : byteAt s i = 224)
    (g1 : win s (i + 1) 160 191 = false) :
    CallR cx 89 [st s, i64 x] [] fun r S => r = .tup [i64 (byteAt s i + 2000000), i64 1] ∧ S = [] := by
  have e0 : x.toNat = i := by omega
  have hr := byteAt_range s i
  have w1 := within_c (s := s) (x := IntKind.i64.wrap (x + 1)) (lo := 160) (hi := 191) (k := i + 1) (by rw [w64 (by omega)]; omega)
  rw [g1] at w1
  refine callR_of (R := R1) cx_ok Tryz.func89 (by kernel_rfl) rfl ?_
  conv => whnf
  refine ⟨⟨by omega, by show x < (s.size : Int); omega⟩, ?_⟩
  rw [e0]
  generalize hb : byteAt s i = c at *
  conv => whnf
  refine brF (decide_eq_false (by omega)) ?_
  conv => whnf
  refine brT (decide_eq_true (by omega)) ?_
  conv => whnf
  refine brF (decide_eq_false (by omega)) ?_
  conv => whnf
  refine brT (decide_eq_true (by omega)) ?_
  conv => whnf
  refine brT (decide_eq_true (by omega)) ?_
  conv => whnf
  refine brT (beq_iff_eq.2 (by omega)) ?_
  conv => whnf
  refine brF (beq_eq_false_iff_ne.2 (by omega)) ?_
  conv => whnf
  refine ⟨_, w1, ?_⟩
  rintro _ _ ⟨rfl, rfl⟩
  conv => whnf
  exact ⟨tupI (by rw [w64 (n := c) (by omega), w64 (by omega)]) rfl, rfl⟩

set_option maxHeartbeats 4000000 in
theorem one_E0_1 {s : ByteArray} {x : Int} {i : Nat} (hx : x = (i : Int)) (hi : i < s.size) (hm : s.size < 1000000000) (hc : byteAt s i = 224)
    (g1 : win s (i + 1) 160 191 = true)
    (g2 : win s (i + 2) 128 191 = false) :
    CallR cx 89 [st s, i64 x] [] fun r S => r = .tup [i64 (byteAt s i + 2000000), i64 1] ∧ S = [] := by
  have e0 : x.toNat = i := by omega
  have hr := byteAt_range s i
  have w1 := within_c (s := s) (x := IntKind.i64.wrap (x + 1)) (lo := 160) (hi := 191) (k := i + 1) (by rw [w64 (by omega)]; omega)
  rw [g1] at w1
  have w2 := within_c (s := s) (x := IntKind.i64.wrap (x + 2)) (lo := 128) (hi := 191) (k := i + 2) (by rw [w64 (by omega)]; omega)
  rw [g2] at w2
  refine callR_of (R := R1) cx_ok Tryz.func89 (by kernel_rfl) rfl ?_
  conv => whnf
  refine ⟨⟨by omega, by show x < (s.size : Int); omega⟩, ?_⟩
  rw [e0]
  generalize hb : byteAt s i = c at *
  conv => whnf
  refine brF (decide_eq_false (by omega)) ?_
  conv => whnf
  refine brT (decide_eq_true (by omega)) ?_
  conv => whnf
  refine brF (decide_eq_false (by omega)) ?_
  conv => whnf
  refine brT (decide_eq_true (by omega)) ?_
  conv => whnf
  refine brT (decide_eq_true (by omega)) ?_
  conv => whnf
  refine brT (beq_iff_eq.2 (by omega)) ?_
  conv => whnf
  refine brF (beq_eq_false_iff_ne.2 (by omega)) ?_
  conv => whnf
  refine ⟨_, w1, ?_⟩
  rintro _ _ ⟨rfl, rfl⟩
  conv => whnf
  refine ⟨_, w2, ?_⟩
  rintro _ _ ⟨rfl, rfl⟩
  conv => whnf
  exact ⟨tupI (by rw [w64 (n := c) (by omega), w64 (by omega)]) rfl, rfl⟩

set_option maxHeartbeats 4000000 in
theorem one_E0_2 {s : ByteArray} {x : Int} {i : Nat} (hx : x = (i : Int)) (hi : i < s.size) (hm : s.size < 1000000000) (hc : byteAt s i = 224)
    (g1 : win s (i + 1) 160 191 = true)
    (g2 : win s (i + 2) 128 191 = true) :
    CallR cx 89 [st s, i64 x] [] fun r S => r = .tup [i64 (acc s i (byteAt s i % 16) 2), i64 3] ∧ S = [] := by
  have e0 : x.toNat = i := by omega
  have hr := byteAt_range s i
  have w1 := within_c (s := s) (x := IntKind.i64.wrap (x + 1)) (lo := 160) (hi := 191) (k := i + 1) (by rw [w64 (by omega)]; omega)
  rw [g1] at w1
  have w2 := within_c (s := s) (x := IntKind.i64.wrap (x + 2)) (lo := 128) (hi := 191) (k := i + 2) (by rw [w64 (by omega)]; omega)
  rw [g2] at w2
  have hlt : i + 2 < s.size := win_lt g2
  have hac := fun j hj => acc_range (s := s) (i := i) (n0 := byteAt s i % 16) (by omega) j hj
  refine callR_of (R := R1) cx_ok Tryz.func89 (by kernel_rfl) rfl ?_
  conv => whnf
  refine ⟨⟨by omega, by show x < (s.size : Int); omega⟩, ?_⟩
  rw [e0]
  generalize hb : byteAt s i = c at *
  conv => whnf
  refine brF (decide_eq_false (by omega)) ?_
  conv => whnf
  refine brT (decide_eq_true (by omega)) ?_
  conv => whnf
  refine brF (decide_eq_false (by omega)) ?_
  conv => whnf
  refine brT (decide_eq_true (by omega)) ?_
  conv => whnf
  refine brT (decide_eq_true (by omega)) ?_
  conv => whnf
  refine brT (beq_iff_eq.2 (by omega)) ?_
  conv => whnf
  refine brF (beq_eq_false_iff_ne.2 (by omega)) ?_
  conv => whnf
  refine ⟨_, w1, ?_⟩
  rintro _ _ ⟨rfl, rfl⟩
  conv => whnf
  refine ⟨_, w2, ?_⟩
  rintro _ _ ⟨rfl, rfl⟩
  conv => whnf
  refine ⟨by decide, ?_⟩
  conv => whnf
  refine ⟨by decide, ?_⟩
  conv => whnf
  refine .inl ⟨fun k l S => ∃ j : Nat, j ≤ 2 ∧ k = 2 - j ∧ l = [(0, st s), (1, i64 x), (7, i64 2), (10, i64 (acc s i (c % 16) j)), (11, i64 ((j : Int) + 1))] ∧ S = [],
    ⟨_, _, ⟨0, by omega, rfl, rfl, rfl⟩, ⟨rfl, rfl, rfl, congrArg (fun z => some (i64 z)) (show (IntKind.i64.wrap c).tmod 16 = acc s i (c % 16) 0 by rw [w64 (by omega), Int.tmod_eq_emod_of_nonneg (by omega)]; rfl), rfl, trivial⟩⟩, ?_⟩
  rintro _ _ _ ⟨j, hj, rfl, rfl, rfl⟩
  conv => whnf
  refine brec (fun h1 => ?_) (fun h1 => ?_)
  · have h1 := of_decide_eq_true h1
    have e1 : IntKind.i64.wrap (x + ((j : Int) + 1)) = ((i + (j + 1) : Nat) : Int) := by rw [w64 (by omega)]; omega
    conv => whnf
    refine ⟨⟨by rw [e1]; omega, by rw [e1]; show ((i + (j + 1) : Nat) : Int) < (s.size : Int); omega⟩, ?_⟩
    rw [e1]
    conv => whnf
    refine ⟨by decide, ?_⟩
    conv => whnf
    exact ⟨_, _, 0, (by omega : 2 - (j + 1) < 2 - j), ⟨j + 1, by omega, rfl, rfl, rfl⟩,
      ⟨rfl, rfl, rfl, congrArg (fun z => some (i64 z)) (accStep (hac j (by omega)).1 ((hac j (by omega)).2.2 (by omega))), congrArg (fun z => some (i64 z)) (by rw [w64 (by omega)]; omega), trivial⟩, rfl⟩
  · have h1 := of_decide_eq_false h1
    obtain rfl : j = 2 := by omega
    conv => whnf
    exact ⟨rfl, rfl⟩

set_option maxHeartbeats 4000000 in
theorem one_ED_0 {s : ByteArray} {x : Int} {i : Nat} (hx : x = (i : Int)) (hi : i < s.size) (hm : s.size < 1000000000) (hc : byteAt s i = 237)
    (g1 : win s (i + 1) 128 159 = false) :
    CallR cx 89 [st s, i64 x] [] fun r S => r = .tup [i64 (byteAt s i + 2000000), i64 1] ∧ S = [] := by
  have e0 : x.toNat = i := by omega
  have hr := byteAt_range s i
  have w1 := within_c (s := s) (x := IntKind.i64.wrap (x + 1)) (lo := 128) (hi := 159) (k := i + 1) (by rw [w64 (by omega)]; omega)
  rw [g1] at w1
  refine callR_of (R := R1) cx_ok Tryz.func89 (by kernel_rfl) rfl ?_
  conv => whnf
  refine ⟨⟨by omega, by show x < (s.size : Int); omega⟩, ?_⟩
  rw [e0]
  generalize hb : byteAt s i = c at *
  conv => whnf
  refine brF (decide_eq_false (by omega)) ?_
  conv => whnf
  refine brT (decide_eq_true (by omega)) ?_
  conv => whnf
  refine brF (decide_eq_false (by omega)) ?_
  conv => whnf
  refine brT (decide_eq_true (by omega)) ?_
  conv => whnf
  refine brT (decide_eq_true (by omega)) ?_
  conv => whnf
  refine brF (beq_eq_false_iff_ne.2 (by omega)) ?_
  conv => whnf
  refine brT (beq_iff_eq.2 (by omega)) ?_
  conv => whnf
  refine ⟨_, w1, ?_⟩
  rintro _ _ ⟨rfl, rfl⟩
  conv => whnf
  exact ⟨tupI (by rw [w64 (n := c) (by omega), w64 (by omega)]) rfl, rfl⟩

set_option maxHeartbeats 4000000 in
theorem one_ED_1 {s : ByteArray} {x : Int} {i : Nat} (hx : x = (i : Int)) (hi : i < s.size) (hm : s.size < 1000000000) (hc : byteAt s i = 237)
    (g1 : win s (i + 1) 128 159 = true)
    (g2 : win s (i + 2) 128 191 = false) :
    CallR cx 89 [st s, i64 x] [] fun r S => r = .tup [i64 (byteAt s i + 2000000), i64 1] ∧ S = [] := by
  have e0 : x.toNat = i := by omega
  have hr := byteAt_range s i
  have w1 := within_c (s := s) (x := IntKind.i64.wrap (x + 1)) (lo := 128) (hi := 159) (k := i + 1) (by rw [w64 (by omega)]; omega)
  rw [g1] at w1
  have w2 := within_c (s := s) (x := IntKind.i64.wrap (x + 2)) (lo := 128) (hi := 191) (k := i + 2) (by rw [w64 (by omega)]; omega)
  rw [g2] at w2
  refine callR_of (R := R1) cx_ok Tryz.func89 (by kernel_rfl) rfl ?_
  conv => whnf
  refine ⟨⟨by omega, by show x < (s.size : Int); omega⟩, ?_⟩
  rw [e0]
  generalize hb : byteAt s i = c at *
  conv => whnf
  refine brF (decide_eq_false (by omega)) ?_
  conv => whnf
  refine brT (decide_eq_true (by omega)) ?_
  conv => whnf
  refine brF (decide_eq_false (by omega)) ?_
  conv => whnf
  refine brT (decide_eq_true (by omega)) ?_
  conv => whnf
  refine brT (decide_eq_true (by omega)) ?_
  conv => whnf
  refine brF (beq_eq_false_iff_ne.2 (by omega)) ?_
  conv => whnf
  refine brT (beq_iff_eq.2 (by omega)) ?_
  conv => whnf
  refine ⟨_, w1, ?_⟩
  rintro _ _ ⟨rfl, rfl⟩
  conv => whnf
  refine ⟨_, w2, ?_⟩
  rintro _ _ ⟨rfl, rfl⟩
  conv => whnf
  exact ⟨tupI (by rw [w64 (n := c) (by omega), w64 (by omega)]) rfl, rfl⟩

set_option maxHeartbeats 4000000 in
theorem one_ED_2 {s : ByteArray} {x : Int} {i : Nat} (hx : x = (i : Int)) (hi : i < s.size) (hm : s.size < 1000000000) (hc : byteAt s i = 237)
    (g1 : win s (i + 1) 128 159 = true)
    (g2 : win s (i + 2) 128 191 = true) :
    CallR cx 89 [st s, i64 x] [] fun r S => r = .tup [i64 (acc s i (byteAt s i % 16) 2), i64 3] ∧ S = [] := by
  have e0 : x.toNat = i := by omega
  have hr := byteAt_range s i
  have w1 := within_c (s := s) (x := IntKind.i64.wrap (x + 1)) (lo := 128) (hi := 159) (k := i + 1) (by rw [w64 (by omega)]; omega)
  rw [g1] at w1
  have w2 := within_c (s := s) (x := IntKind.i64.wrap (x + 2)) (lo := 128) (hi := 191) (k := i + 2) (by rw [w64 (by omega)]; omega)
  rw [g2] at w2
  have hlt : i + 2 < s.size := win_lt g2
  have hac := fun j hj => acc_range (s := s) (i := i) (n0 := byteAt s i % 16) (by omega) j hj
  refine callR_of (R := R1) cx_ok Tryz.func89 (by kernel_rfl) rfl ?_
  conv => whnf
  refine ⟨⟨by omega, by show x < (s.size : Int); omega⟩, ?_⟩
  rw [e0]
  generalize hb : byteAt s i = c at *
  conv => whnf
  refine brF (decide_eq_false (by omega)) ?_
  conv => whnf
  refine brT (decide_eq_true (by omega)) ?_
  conv => whnf
  refine brF (decide_eq_false (by omega)) ?_
  conv => whnf
  refine brT (decide_eq_true (by omega)) ?_
  conv => whnf
  refine brT (decide_eq_true (by omega)) ?_
  conv => whnf
  refine brF (beq_eq_false_iff_ne.2 (by omega)) ?_
  conv => whnf
  refine brT (beq_iff_eq.2 (by omega)) ?_
  conv => whnf
  refine ⟨_, w1, ?_⟩
  rintro _ _ ⟨rfl, rfl⟩
  conv => whnf
  refine ⟨_, w2, ?_⟩
  rintro _ _ ⟨rfl, rfl⟩
  conv => whnf
  refine ⟨by decide, ?_⟩
  conv => whnf
  refine ⟨by decide, ?_⟩
  conv => whnf
  refine .inl ⟨fun k l S => ∃ j : Nat, j ≤ 2 ∧ k = 2 - j ∧ l = [(0, st s), (1, i64 x), (7, i64 2), (10, i64 (acc s i (c % 16) j)), (11, i64 ((j : Int) + 1))] ∧ S = [],
    ⟨_, _, ⟨0, by omega, rfl, rfl, rfl⟩, ⟨rfl, rfl, rfl, congrArg (fun z => some (i64 z)) (show (IntKind.i64.wrap c).tmod 16 = acc s i (c % 16) 0 by rw [w64 (by omega), Int.tmod_eq_emod_of_nonneg (by omega)]; rfl), rfl, trivial⟩⟩, ?_⟩
  rintro _ _ _ ⟨j, hj, rfl, rfl, rfl⟩
  conv => whnf
  refine brec (fun h1 => ?_) (fun h1 => ?_)
  · have h1 := of_decide_eq_true h1
    have e1 : IntKind.i64.wrap (x + ((j : Int) + 1)) = ((i + (j + 1) : Nat) : Int) := by rw [w64 (by omega)]; omega
    conv => whnf
    refine ⟨⟨by rw [e1]; omega, by rw [e1]; show ((i + (j + 1) : Nat) : Int) < (s.size : Int); omega⟩, ?_⟩
    rw [e1]
    conv => whnf
    refine ⟨by decide, ?_⟩
    conv => whnf
    exact ⟨_, _, 0, (by omega : 2 - (j + 1) < 2 - j), ⟨j + 1, by omega, rfl, rfl, rfl⟩,
      ⟨rfl, rfl, rfl, congrArg (fun z => some (i64 z)) (accStep (hac j (by omega)).1 ((hac j (by omega)).2.2 (by omega))), congrArg (fun z => some (i64 z)) (by rw [w64 (by omega)]; omega), trivial⟩, rfl⟩
  · have h1 := of_decide_eq_false h1
    obtain rfl : j = 2 := by omega
    conv => whnf
    exact ⟨rfl, rfl⟩

set_option maxHeartbeats 4000000 in
theorem one_EE_0 {s : ByteArray} {x : Int} {i : Nat} (hx : x = (i : Int)) (hi : i < s.size) (hm : s.size < 1000000000) (hc : (225 ≤ byteAt s i ∧ byteAt s i ≤ 236) ∨ (238 ≤ byteAt s i ∧ byteAt s i ≤ 239))
    (g1 : win s (i + 1) 128 191 = false) :
    CallR cx 89 [st s, i64 x] [] fun r S => r = .tup [i64 (byteAt s i + 2000000), i64 1] ∧ S = [] := by
  have e0 : x.toNat = i := by omega
  have hr := byteAt_range s i
  have w1 := within_c (s := s) (x := IntKind.i64.wrap (x + 1)) (lo := 128) (hi := 191) (k := i + 1) (by rw [w64 (by omega)]; omega)
  rw [g1] at w1
  refine callR_of (R := R1) cx_ok Tryz.func89 (by kernel_rfl) rfl ?_
  conv => whnf
  refine ⟨⟨by omega, by show x < (s.size : Int); omega⟩, ?_⟩
  rw [e0]
  generalize hb : byteAt s i = c at *
  conv => whnf
  refine brF (decide_eq_false (by omega)) ?_
  conv => whnf
  refine brT (decide_eq_true (by omega)) ?_
  conv => whnf
  refine brF (decide_eq_false (by omega)) ?_
  conv => whnf
  refine brT (decide_eq_true (by omega)) ?_
  conv => whnf
  refine brT (decide_eq_true (by omega)) ?_
  conv => whnf
  refine brF (beq_eq_false_iff_ne.2 (by omega)) ?_
  conv => whnf
  refine brF (beq_eq_false_iff_ne.2 (by omega)) ?_
  conv => whnf
  refine ⟨_, w1, ?_⟩
  rintro _ _ ⟨rfl, rfl⟩
  conv => whnf
  exact ⟨tupI (by rw [w64 (n := c) (by omega), w64 (by omega)]) rfl, rfl⟩

set_option maxHeartbeats 4000000 in
theorem one_EE_1 {s : ByteArray} {x : Int} {i : Nat} (hx : x = (i : Int)) (hi : i < s.size) (hm : s.size < 1000000000) (hc : (225 ≤ byteAt s i ∧ byteAt s i ≤ 236) ∨ (238 ≤ byteAt s i ∧ byteAt s i ≤ 239))
    (g1 : win s (i + 1) 128 191 = true)
    (g2 : win s (i + 2) 128 191 = false) :
    CallR cx 89 [st s, i64 x] [] fun r S => r = .tup [i64 (byteAt s i + 2000000), i64 1] ∧ S = [] := by
  have e0 : x.toNat = i := by omega
  have hr := byteAt_range s i
  have w1 := within_c (s := s) (x := IntKind.i64.wrap (x + 1)) (lo := 128) (hi := 191) (k := i + 1) (by rw [w64 (by omega)]; omega)
  rw [g1] at w1
  have w2 := within_c (s := s) (x := IntKind.i64.wrap (x + 2)) (lo := 128) (hi := 191) (k := i + 2) (by rw [w64 (by omega)]; omega)
  rw [g2] at w2
  refine callR_of (R := R1) cx_ok Tryz.func89 (by kernel_rfl) rfl ?_
  conv => whnf
  refine ⟨⟨by omega, by show x < (s.size : Int); omega⟩, ?_⟩
  rw [e0]
  generalize hb : byteAt s i = c at *
  conv => whnf
  refine brF (decide_eq_false (by omega)) ?_
  conv => whnf
  refine brT (decide_eq_true (by omega)) ?_
  conv => whnf
  refine brF (decide_eq_false (by omega)) ?_
  conv => whnf
  refine brT (decide_eq_true (by omega)) ?_
  conv => whnf
  refine brT (decide_eq_true (by omega)) ?_
  conv => whnf
  refine brF (beq_eq_false_iff_ne.2 (by omega)) ?_
  conv => whnf
  refine brF (beq_eq_false_iff_ne.2 (by omega)) ?_
  conv => whnf
  refine ⟨_, w1, ?_⟩
  rintro _ _ ⟨rfl, rfl⟩
  conv => whnf
  refine ⟨_, w2, ?_⟩
  rintro _ _ ⟨rfl, rfl⟩
  conv => whnf
  exact ⟨tupI (by rw [w64 (n := c) (by omega), w64 (by omega)]) rfl, rfl⟩

set_option maxHeartbeats 4000000 in
theorem one_EE_2 {s : ByteArray} {x : Int} {i : Nat} (hx : x = (i : Int)) (hi : i < s.size) (hm : s.size < 1000000000) (hc : (225 ≤ byteAt s i ∧ byteAt s i ≤ 236) ∨ (238 ≤ byteAt s i ∧ byteAt s i ≤ 239))
    (g1 : win s (i + 1) 128 191 = true)
    (g2 : win s (i + 2) 128 191 = true) :
    CallR cx 89 [st s, i64 x] [] fun r S => r = .tup [i64 (acc s i (byteAt s i % 16) 2), i64 3] ∧ S = [] := by
  have e0 : x.toNat = i := by omega
  have hr := byteAt_range s i
  have w1 := within_c (s := s) (x := IntKind.i64.wrap (x + 1)) (lo := 128) (hi := 191) (k := i + 1) (by rw [w64 (by omega)]; omega)
  rw [g1] at w1
  have w2 := within_c (s := s) (x := IntKind.i64.wrap (x + 2)) (lo := 128) (hi := 191) (k := i + 2) (by rw [w64 (by omega)]; omega)
  rw [g2] at w2
  have hlt : i + 2 < s.size := win_lt g2
  have hac := fun j hj => acc_range (s := s) (i := i) (n0 := byteAt s i % 16) (by omega) j hj
  refine callR_of (R := R1) cx_ok Tryz.func89 (by kernel_rfl) rfl ?_
  conv => whnf
  refine ⟨⟨by omega, by show x < (s.size : Int); omega⟩, ?_⟩
  rw [e0]
  generalize hb : byteAt s i = c at *
  conv => whnf
  refine brF (decide_eq_false (by omega)) ?_
  conv => whnf
  refine brT (decide_eq_true (by omega)) ?_
  conv => whnf
  refine brF (decide_eq_false (by omega)) ?_
  conv => whnf
  refine brT (decide_eq_true (by omega)) ?_
  conv => whnf
  refine brT (decide_eq_true (by omega)) ?_
  conv => whnf
  refine brF (beq_eq_false_iff_ne.2 (by omega)) ?_
  conv => whnf
  refine brF (beq_eq_false_iff_ne.2 (by omega)) ?_
  conv => whnf
  refine ⟨_, w1, ?_⟩
  rintro _ _ ⟨rfl, rfl⟩
  conv => whnf
  refine ⟨_, w2, ?_⟩
  rintro _ _ ⟨rfl, rfl⟩
  conv => whnf
  refine ⟨by decide, ?_⟩
  conv => whnf
  refine ⟨by decide, ?_⟩
  conv => whnf
  refine .inl ⟨fun k l S => ∃ j : Nat, j ≤ 2 ∧ k = 2 - j ∧ l = [(0, st s), (1, i64 x), (7, i64 2), (10, i64 (acc s i (c % 16) j)), (11, i64 ((j : Int) + 1))] ∧ S = [],
    ⟨_, _, ⟨0, by omega, rfl, rfl, rfl⟩, ⟨rfl, rfl, rfl, congrArg (fun z => some (i64 z)) (show (IntKind.i64.wrap c).tmod 16 = acc s i (c % 16) 0 by rw [w64 (by omega), Int.tmod_eq_emod_of_nonneg (by omega)]; rfl), rfl, trivial⟩⟩, ?_⟩
  rintro _ _ _ ⟨j, hj, rfl, rfl, rfl⟩
  conv => whnf
  refine brec (fun h1 => ?_) (fun h1 => ?_)
  · have h1 := of_decide_eq_true h1
    have e1 : IntKind.i64.wrap (x + ((j : Int) + 1)) = ((i + (j + 1) : Nat) : Int) := by rw [w64 (by omega)]; omega
    conv => whnf
    refine ⟨⟨by rw [e1]; omega, by rw [e1]; show ((i + (j + 1) : Nat) : Int) < (s.size : Int); omega⟩, ?_⟩
    rw [e1]
    conv => whnf
    refine ⟨by decide, ?_⟩
    conv => whnf
    exact ⟨_, _, 0, (by omega : 2 - (j + 1) < 2 - j), ⟨j + 1, by omega, rfl, rfl, rfl⟩,
      ⟨rfl, rfl, rfl, congrArg (fun z => some (i64 z)) (accStep (hac j (by omega)).1 ((hac j (by omega)).2.2 (by omega))), congrArg (fun z => some (i64 z)) (by rw [w64 (by omega)]; omega), trivial⟩, rfl⟩
  · have h1 := of_decide_eq_false h1
    obtain rfl : j = 2 := by omega
    conv => whnf
    exact ⟨rfl, rfl⟩

set_option maxHeartbeats 4000000 in
theorem one_F0_0 {s : ByteArray} {x : Int} {i : Nat} (hx : x = (i : Int)) (hi : i < s.size) (hm : s.size < 1000000000) (hc : byteAt s i = 240)
    (g1 : win s (i + 1) 144 191 = false) :
    CallR cx 89 [st s, i64 x] [] fun r S => r = .tup [i64 (byteAt s i + 2000000), i64 1] ∧ S = [] := by
  have e0 : x.toNat = i := by omega
  have hr := byteAt_range s i
  have w1 := within_c (s := s) (x := IntKind.i64.wrap (x + 1)) (lo := 144) (hi := 191) (k := i + 1) (by rw [w64 (by omega)]; omega)
  rw [g1] at w1
  refine callR_of (R := R1) cx_ok Tryz.func89 (by kernel_rfl) rfl ?_
  conv => whnf
  refine ⟨⟨by omega, by show x < (s.size : Int); omega⟩, ?_⟩
  rw [e0]
  generalize hb : byteAt s i = c at *
  conv => whnf
  refine brF (decide_eq_false (by omega)) ?_
  conv => whnf
  refine brT (decide_eq_true (by omega)) ?_
  conv => whnf
  refine brF (decide_eq_false (by omega)) ?_
  conv => whnf
  refine brT (decide_eq_true (by omega)) ?_
  conv => whnf
  refine brF (decide_eq_false (by omega)) ?_
  conv => whnf
  refine brT (decide_eq_true (by omega)) ?_
  conv => whnf
  refine brT (decide_eq_true (by omega)) ?_
  conv => whnf
  refine brT (beq_iff_eq.2 (by omega)) ?_
  conv => whnf
  refine brF (beq_eq_false_iff_ne.2 (by omega)) ?_
  conv => whnf
  refine ⟨_, w1, ?_⟩
  rintro _ _ ⟨rfl, rfl⟩
  conv => whnf
  exact ⟨tupI (by rw [w64 (n := c) (by omega), w64 (by omega)]) rfl, rfl⟩

set_option maxHeartbeats 4000000 in
theorem one_F0_1 {s : ByteArray} {x : Int} {i : Nat} (hx : x = (i : Int)) (hi : i < s.size) (hm : s.size < 1000000000) (hc : byteAt s i = 240)
    (g1 : win s (i + 1) 144 191 = true)
    (g2 : win s (i + 2) 128 191 = false) :
    CallR cx 89 [st s, i64 x] [] fun r S => r = .tup [i64 (byteAt s i + 2000000), i64 1] ∧ S = [] := by
  have e0 : x.toNat = i := by omega
  have hr := byteAt_range s i
  have w1 := within_c (s := s) (x := IntKind.i64.wrap (x + 1)) (lo := 144) (hi := 191) (k := i + 1) (by rw [w64 (by omega)]; omega)
  rw [g1] at w1
  have w2 := within_c (s := s) (x := IntKind.i64.wrap (x + 2)) (lo := 128) (hi := 191) (k := i + 2) (by rw [w64 (by omega)]; omega)
  rw [g2] at w2
  refine callR_of (R := R1) cx_ok Tryz.func89 (by kernel_rfl) rfl ?_
  conv => whnf
  refine ⟨⟨by omega, by show x < (s.size : Int); omega⟩, ?_⟩
  rw [e0]
  generalize hb : byteAt s i = c at *
  conv => whnf
  refine brF (decide_eq_false (by omega)) ?_
  conv => whnf
  refine brT (decide_eq_true (by omega)) ?_
  conv => whnf
  refine brF (decide_eq_false (by omega)) ?_
  conv => whnf
  refine brT (decide_eq_true (by omega)) ?_
  conv => whnf
  refine brF (decide_eq_false (by omega)) ?_
  conv => whnf
  refine brT (decide_eq_true (by omega)) ?_
  conv => whnf
  refine brT (decide_eq_true (by omega)) ?_
  conv => whnf
  refine brT (beq_iff_eq.2 (by omega)) ?_
  conv => whnf
  refine brF (beq_eq_false_iff_ne.2 (by omega)) ?_
  conv => whnf
  refine ⟨_, w1, ?_⟩
  rintro _ _ ⟨rfl, rfl⟩
  conv => whnf
  refine ⟨_, w2, ?_⟩
  rintro _ _ ⟨rfl, rfl⟩
  conv => whnf
  exact ⟨tupI (by rw [w64 (n := c) (by omega), w64 (by omega)]) rfl, rfl⟩

set_option maxHeartbeats 4000000 in
theorem one_F0_2 {s : ByteArray} {x : Int} {i : Nat} (hx : x = (i : Int)) (hi : i < s.size) (hm : s.size < 1000000000) (hc : byteAt s i = 240)
    (g1 : win s (i + 1) 144 191 = true)
    (g2 : win s (i + 2) 128 191 = true)
    (g3 : win s (i + 3) 128 191 = false) :
    CallR cx 89 [st s, i64 x] [] fun r S => r = .tup [i64 (byteAt s i + 2000000), i64 1] ∧ S = [] := by
  have e0 : x.toNat = i := by omega
  have hr := byteAt_range s i
  have w1 := within_c (s := s) (x := IntKind.i64.wrap (x + 1)) (lo := 144) (hi := 191) (k := i + 1) (by rw [w64 (by omega)]; omega)
  rw [g1] at w1
  have w2 := within_c (s := s) (x := IntKind.i64.wrap (x + 2)) (lo := 128) (hi := 191) (k := i + 2) (by rw [w64 (by omega)]; omega)
  rw [g2] at w2
  have w3 := within_c (s := s) (x := IntKind.i64.wrap (x + 3)) (lo := 128) (hi := 191) (k := i + 3) (by rw [w64 (by omega)]; omega)
  rw [g3] at w3
  refine callR_of (R := R1) cx_ok Tryz.func89 (by kernel_rfl) rfl ?_
  conv => whnf
  refine ⟨⟨by omega, by show x < (s.size : Int); omega⟩, ?_⟩
  rw [e0]
  generalize hb : byteAt s i = c at *
  conv => whnf
  refine brF (decide_eq_false (by omega)) ?_
  conv => whnf
  refine brT (decide_eq_true (by omega)) ?_
  conv => whnf
  refine brF (decide_eq_false (by omega)) ?_
  conv => whnf
  refine brT (decide_eq_true (by omega)) ?_
  conv => whnf
  refine brF (decide_eq_false (by omega)) ?_
  conv => whnf
  refine brT (decide_eq_true (by omega)) ?_
  conv => whnf
  refine brT (decide_eq_true (by omega)) ?_
  conv => whnf
  refine brT (beq_iff_eq.2 (by omega)) ?_
  conv => whnf
  refine brF (beq_eq_false_iff_ne.2 (by omega)) ?_
  conv => whnf
  refine ⟨_, w1, ?_⟩
  rintro _ _ ⟨rfl, rfl⟩
  conv => whnf
  refine ⟨_, w2, ?_⟩
  rintro _ _ ⟨rfl, rfl⟩
  conv => whnf
  refine ⟨_, w3, ?_⟩
  rintro _ _ ⟨rfl, rfl⟩
  conv => whnf
  exact ⟨tupI (by rw [w64 (n := c) (by omega), w64 (by omega)]) rfl, rfl⟩

set_option maxHeartbeats 4000000 in
theorem one_F0_3 {s : ByteArray} {x : Int} {i : Nat} (hx : x = (i : Int)) (hi : i < s.size) (hm : s.size < 1000000000) (hc : byteAt s i = 240)
    (g1 : win s (i + 1) 144 191 = true)
    (g2 : win s (i + 2) 128 191 = true)
    (g3 : win s (i + 3) 128 191 = true) :
    CallR cx 89 [st s, i64 x] [] fun r S => r = .tup [i64 (acc s i (byteAt s i % 8) 3), i64 4] ∧ S = [] := by
  have e0 : x.toNat = i := by omega
  have hr := byteAt_range s i
  have w1 := within_c (s := s) (x := IntKind.i64.wrap (x + 1)) (lo := 144) (hi := 191) (k := i + 1) (by rw [w64 (by omega)]; omega)
  rw [g1] at w1
  have w2 := within_c (s := s) (x := IntKind.i64.wrap (x + 2)) (lo := 128) (hi := 191) (k := i + 2) (by rw [w64 (by omega)]; omega)
  rw [g2] at w2
  have w3 := within_c (s := s) (x := IntKind.i64.wrap (x + 3)) (lo := 128) (hi := 191) (k := i + 3) (by rw [w64 (by omega)]; omega)
  rw [g3] at w3
  have hlt : i + 3 < s.size := win_lt g3
  have hac := fun j hj => acc_range (s := s) (i := i) (n0 := byteAt s i % 8) (by omega) j hj
  refine callR_of (R := R1) cx_ok Tryz.func89 (by kernel_rfl) rfl ?_
  conv => whnf
  refine ⟨⟨by omega, by show x < (s.size : Int); omega⟩, ?_⟩
  rw [e0]
  generalize hb : byteAt s i = c at *
  conv => whnf
  refine brF (decide_eq_false (by omega)) ?_
  conv => whnf
  refine brT (decide_eq_true (by omega)) ?_
  conv => whnf
  refine brF (decide_eq_false (by omega)) ?_
  conv => whnf
  refine brT (decide_eq_true (by omega)) ?_
  conv => whnf
  refine brF (decide_eq_false (by omega)) ?_
  conv => whnf
  refine brT (decide_eq_true (by omega)) ?_
  conv => whnf
  refine brT (decide_eq_true (by omega)) ?_
  conv => whnf
  refine brT (beq_iff_eq.2 (by omega)) ?_
  conv => whnf
  refine brF (beq_eq_false_iff_ne.2 (by omega)) ?_
  conv => whnf
  refine ⟨_, w1, ?_⟩
  rintro _ _ ⟨rfl, rfl⟩
  conv => whnf
  refine ⟨_, w2, ?_⟩
  rintro _ _ ⟨rfl, rfl⟩
  conv => whnf
  refine ⟨_, w3, ?_⟩
  rintro _ _ ⟨rfl, rfl⟩
  conv => whnf
  refine ⟨by decide, ?_⟩
  conv => whnf
  refine ⟨by decide, ?_⟩
  conv => whnf
  refine .inl ⟨fun k l S => ∃ j : Nat, j ≤ 3 ∧ k = 3 - j ∧ l = [(0, st s), (1, i64 x), (7, i64 3), (10, i64 (acc s i (c % 8) j)), (11, i64 ((j : Int) + 1))] ∧ S = [],
    ⟨_, _, ⟨0, by omega, rfl, rfl, rfl⟩, ⟨rfl, rfl, rfl, congrArg (fun z => some (i64 z)) (show (IntKind.i64.wrap c).tmod 8 = acc s i (c % 8) 0 by rw [w64 (by omega), Int.tmod_eq_emod_of_nonneg (by omega)]; rfl), rfl, trivial⟩⟩, ?_⟩
  rintro _ _ _ ⟨j, hj, rfl, rfl, rfl⟩
  conv => whnf
  refine brec (fun h1 => ?_) (fun h1 => ?_)
  · have h1 := of_decide_eq_true h1
    have e1 : IntKind.i64.wrap (x + ((j : Int) + 1)) = ((i + (j + 1) : Nat) : Int) := by rw [w64 (by omega)]; omega
    conv => whnf
    refine ⟨⟨by rw [e1]; omega, by rw [e1]; show ((i + (j + 1) : Nat) : Int) < (s.size : Int); omega⟩, ?_⟩
    rw [e1]
    conv => whnf
    refine ⟨by decide, ?_⟩
    conv => whnf
    exact ⟨_, _, 0, (by omega : 3 - (j + 1) < 3 - j), ⟨j + 1, by omega, rfl, rfl, rfl⟩,
      ⟨rfl, rfl, rfl, congrArg (fun z => some (i64 z)) (accStep (hac j (by omega)).1 ((hac j (by omega)).2.2 (by omega))), congrArg (fun z => some (i64 z)) (by rw [w64 (by omega)]; omega), trivial⟩, rfl⟩
  · have h1 := of_decide_eq_false h1
    obtain rfl : j = 3 := by omega
    conv => whnf
    exact ⟨rfl, rfl⟩

set_option maxHeartbeats 4000000 in
theorem one_F4_0 {s : ByteArray} {x : Int} {i : Nat} (hx : x = (i : Int)) (hi : i < s.size) (hm : s.size < 1000000000) (hc : byteAt s i = 244)
    (g1 : win s (i + 1) 128 143 = false) :
    CallR cx 89 [st s, i64 x] [] fun r S => r = .tup [i64 (byteAt s i + 2000000), i64 1] ∧ S = [] := by
  have e0 : x.toNat = i := by omega
  have hr := byteAt_range s i
  have w1 := within_c (s := s) (x := IntKind.i64.wrap (x + 1)) (lo := 128) (hi := 143) (k := i + 1) (by rw [w64 (by omega)]; omega)
  rw [g1] at w1
  refine callR_of (R := R1) cx_ok Tryz.func89 (by kernel_rfl) rfl ?_
  conv => whnf
  refine ⟨⟨by omega, by show x < (s.size : Int); omega⟩, ?_⟩
  rw [e0]
  generalize hb : byteAt s i = c at *
  conv => whnf
  refine brF (decide_eq_false (by omega)) ?_
  conv => whnf
  refine brT (decide_eq_true (by omega)) ?_
  conv => whnf
  refine brF (decide_eq_false (by omega)) ?_
  conv => whnf
  refine brT (decide_eq_true (by omega)) ?_
  conv => whnf
  refine brF (decide_eq_false (by omega)) ?_
  conv => whnf
  refine brT (decide_eq_true (by omega)) ?_
  conv => whnf
  refine brT (decide_eq_true (by omega)) ?_
  conv => whnf
  refine brF (beq_eq_false_iff_ne.2 (by omega)) ?_
  conv => whnf
  refine brT (beq_iff_eq.2 (by omega)) ?_
  conv => whnf
  refine ⟨_, w1, ?_⟩
  rintro _ _ ⟨rfl, rfl⟩
  conv => whnf
  exact ⟨tupI (by rw [w64 (n := c) (by omega), w64 (by omega)]) rfl, rfl⟩

set_option maxHeartbeats 4000000 in
theorem one_F4_1 {s : ByteArray} {x : Int} {i : Nat} (hx : x = (i : Int)) (hi : i < s.size) (hm : s.size < 1000000000) (hc : byteAt s i = 244)
    (g1 : win s (i + 1) 128 143 = true)
    (g2 : win s (i + 2) 128 191 = false) :
    CallR cx 89 [st s, i64 x] [] fun r S => r = .tup [i64 (byteAt s i + 2000000), i64 1] ∧ S = [] := by
  have e0 : x.toNat = i := by omega
  have hr := byteAt_range s i
  have w1 := within_c (s := s) (x := IntKind.i64.wrap (x + 1)) (lo := 128) (hi := 143) (k := i + 1) (by rw [w64 (by omega)]; omega)
  rw [g1] at w1
  have w2 := within_c (s := s) (x := IntKind.i64.wrap (x + 2)) (lo := 128) (hi := 191) (k := i + 2) (by rw [w64 (by omega)]; omega)
  rw [g2] at w2
  refine callR_of (R := R1) cx_ok Tryz.func89 (by kernel_rfl) rfl ?_
  conv => whnf
  refine ⟨⟨by omega, by show x < (s.size : Int); omega⟩, ?_⟩
  rw [e0]
  generalize hb : byteAt s i = c at *
  conv => whnf
  refine brF (decide_eq_false (by omega)) ?_
  conv => whnf
  refine brT (decide_eq_true (by omega)) ?_
  conv => whnf
  refine brF (decide_eq_false (by omega)) ?_
  conv => whnf
  refine brT (decide_eq_true (by omega)) ?_
  conv => whnf
  refine brF (decide_eq_false (by omega)) ?_
  conv => whnf
  refine brT (decide_eq_true (by omega)) ?_
  conv => whnf
  refine brT (decide_eq_true (by omega)) ?_
  conv => whnf
  refine brF (beq_eq_false_iff_ne.2 (by omega)) ?_
  conv => whnf
  refine brT (beq_iff_eq.2 (by omega)) ?_
  conv => whnf
  refine ⟨_, w1, ?_⟩
  rintro _ _ ⟨rfl, rfl⟩
  conv => whnf
  refine ⟨_, w2, ?_⟩
  rintro _ _ ⟨rfl, rfl⟩
  conv => whnf
  exact ⟨tupI (by rw [w64 (n := c) (by omega), w64 (by omega)]) rfl, rfl⟩

set_option maxHeartbeats 4000000 in
theorem one_F4_2 {s : ByteArray} {x : Int} {i : Nat} (hx : x = (i : Int)) (hi : i < s.size) (hm : s.size < 1000000000) (hc : byteAt s i = 244)
    (g1 : win s (i + 1) 128 143 = true)
    (g2 : win s (i + 2) 128 191 = true)
    (g3 : win s (i + 3) 128 191 = false) :
    CallR cx 89 [st s, i64 x] [] fun r S => r = .tup [i64 (byteAt s i + 2000000), i64 1] ∧ S = [] := by
  have e0 : x.toNat = i := by omega
  have hr := byteAt_range s i
  have w1 := within_c (s := s) (x := IntKind.i64.wrap (x + 1)) (lo := 128) (hi := 143) (k := i + 1) (by rw [w64 (by omega)]; omega)
  rw [g1] at w1
  have w2 := within_c (s := s) (x := IntKind.i64.wrap (x + 2)) (lo := 128) (hi := 191) (k := i + 2) (by rw [w64 (by omega)]; omega)
  rw [g2] at w2
  have w3 := within_c (s := s) (x := IntKind.i64.wrap (x + 3)) (lo := 128) (hi := 191) (k := i + 3) (by rw [w64 (by omega)]; omega)
  rw [g3] at w3
  refine callR_of (R := R1) cx_ok Tryz.func89 (by kernel_rfl) rfl ?_
  conv => whnf
  refine ⟨⟨by omega, by show x < (s.size : Int); omega⟩, ?_⟩
  rw [e0]
  generalize hb : byteAt s i = c at *
  conv => whnf
  refine brF (decide_eq_false (by omega)) ?_
  conv => whnf
  refine brT (decide_eq_true (by omega)) ?_
  conv => whnf
  refine brF (decide_eq_false (by omega)) ?_
  conv => whnf
  refine brT (decide_eq_true (by omega)) ?_
  conv => whnf
  refine brF (decide_eq_false (by omega)) ?_
  conv => whnf
  refine brT (decide_eq_true (by omega)) ?_
  conv => whnf
  refine brT (decide_eq_true (by omega)) ?_
  conv => whnf
  refine brF (beq_eq_false_iff_ne.2 (by omega)) ?_
  conv => whnf
  refine brT (beq_iff_eq.2 (by omega)) ?_
  conv => whnf
  refine ⟨_, w1, ?_⟩
  rintro _ _ ⟨rfl, rfl⟩
  conv => whnf
  refine ⟨_, w2, ?_⟩
  rintro _ _ ⟨rfl, rfl⟩
  conv => whnf
  refine ⟨_, w3, ?_⟩
  rintro _ _ ⟨rfl, rfl⟩
  conv => whnf
  exact ⟨tupI (by rw [w64 (n := c) (by omega), w64 (by omega)]) rfl, rfl⟩

set_option maxHeartbeats 4000000 in
theorem one_F4_3 {s : ByteArray} {x : Int} {i : Nat} (hx : x = (i : Int)) (hi : i < s.size) (hm : s.size < 1000000000) (hc : byteAt s i = 244)
    (g1 : win s (i + 1) 128 143 = true)
    (g2 : win s (i + 2) 128 191 = true)
    (g3 : win s (i + 3) 128 191 = true) :
    CallR cx 89 [st s, i64 x] [] fun r S => r = .tup [i64 (acc s i (byteAt s i % 8) 3), i64 4] ∧ S = [] := by
  have e0 : x.toNat = i := by omega
  have hr := byteAt_range s i
  have w1 := within_c (s := s) (x := IntKind.i64.wrap (x + 1)) (lo := 128) (hi := 143) (k := i + 1) (by rw [w64 (by omega)]; omega)
  rw [g1] at w1
  have w2 := within_c (s := s) (x := IntKind.i64.wrap (x + 2)) (lo := 128) (hi := 191) (k := i + 2) (by rw [w64 (by omega)]; omega)
  rw [g2] at w2
  have w3 := within_c (s := s) (x := IntKind.i64.wrap (x + 3)) (lo := 128) (hi := 191) (k := i + 3) (by rw [w64 (by omega)]; omega)
  rw [g3] at w3
  have hlt : i + 3 < s.size := win_lt g3
  have hac := fun j hj => acc_range (s := s) (i := i) (n0 := byteAt s i % 8) (by omega) j hj
  refine callR_of (R := R1) cx_ok Tryz.func89 (by kernel_rfl) rfl ?_
  conv => whnf
  refine ⟨⟨by omega, by show x < (s.size : Int); omega⟩, ?_⟩
  rw [e0]
  generalize hb : byteAt s i = c at *
  conv => whnf
  refine brF (decide_eq_false (by omega)) ?_
  conv => whnf
  refine brT (decide_eq_true (by omega)) ?_
  conv => whnf
  refine brF (decide_eq_false (by omega)) ?_
  conv => whnf
  refine brT (decide_eq_true (by omega)) ?_
  conv => whnf
  refine brF (decide_eq_false (by omega)) ?_
  conv => whnf
  refine brT (decide_eq_true (by omega)) ?_
  conv => whnf
  refine brT (decide_eq_true (by omega)) ?_
  conv => whnf
  refine brF (beq_eq_false_iff_ne.2 (by omega)) ?_
  conv => whnf
  refine brT (beq_iff_eq.2 (by omega)) ?_
  conv => whnf
  refine ⟨_, w1, ?_⟩
  rintro _ _ ⟨rfl, rfl⟩
  conv => whnf
  refine ⟨_, w2, ?_⟩
  rintro _ _ ⟨rfl, rfl⟩
  conv => whnf
  refine ⟨_, w3, ?_⟩
  rintro _ _ ⟨rfl, rfl⟩
  conv => whnf
  refine ⟨by decide, ?_⟩
  conv => whnf
  refine ⟨by decide, ?_⟩
  conv => whnf
  refine .inl ⟨fun k l S => ∃ j : Nat, j ≤ 3 ∧ k = 3 - j ∧ l = [(0, st s), (1, i64 x), (7, i64 3), (10, i64 (acc s i (c % 8) j)), (11, i64 ((j : Int) + 1))] ∧ S = [],
    ⟨_, _, ⟨0, by omega, rfl, rfl, rfl⟩, ⟨rfl, rfl, rfl, congrArg (fun z => some (i64 z)) (show (IntKind.i64.wrap c).tmod 8 = acc s i (c % 8) 0 by rw [w64 (by omega), Int.tmod_eq_emod_of_nonneg (by omega)]; rfl), rfl, trivial⟩⟩, ?_⟩
  rintro _ _ _ ⟨j, hj, rfl, rfl, rfl⟩
  conv => whnf
  refine brec (fun h1 => ?_) (fun h1 => ?_)
  · have h1 := of_decide_eq_true h1
    have e1 : IntKind.i64.wrap (x + ((j : Int) + 1)) = ((i + (j + 1) : Nat) : Int) := by rw [w64 (by omega)]; omega
    conv => whnf
    refine ⟨⟨by rw [e1]; omega, by rw [e1]; show ((i + (j + 1) : Nat) : Int) < (s.size : Int); omega⟩, ?_⟩
    rw [e1]
    conv => whnf
    refine ⟨by decide, ?_⟩
    conv => whnf
    exact ⟨_, _, 0, (by omega : 3 - (j + 1) < 3 - j), ⟨j + 1, by omega, rfl, rfl, rfl⟩,
      ⟨rfl, rfl, rfl, congrArg (fun z => some (i64 z)) (accStep (hac j (by omega)).1 ((hac j (by omega)).2.2 (by omega))), congrArg (fun z => some (i64 z)) (by rw [w64 (by omega)]; omega), trivial⟩, rfl⟩
  · have h1 := of_decide_eq_false h1
    obtain rfl : j = 3 := by omega
    conv => whnf
    exact ⟨rfl, rfl⟩

set_option maxHeartbeats 4000000 in
theorem one_FF_0 {s : ByteArray} {x : Int} {i : Nat} (hx : x = (i : Int)) (hi : i < s.size) (hm : s.size < 1000000000) (hc : 241 ≤ byteAt s i ∧ byteAt s i ≤ 243)
    (g1 : win s (i + 1) 128 191 = false) :
    CallR cx 89 [st s, i64 x] [] fun r S => r = .tup [i64 (byteAt s i + 2000000), i64 1] ∧ S = [] := by
  have e0 : x.toNat = i := by omega
  have hr := byteAt_range s i
  have w1 := within_c (s := s) (x := IntKind.i64.wrap (x + 1)) (lo := 128) (hi := 191) (k := i + 1) (by rw [w64 (by omega)]; omega)
  rw [g1] at w1
  refine callR_of (R := R1) cx_ok Tryz.func89 (by kernel_rfl) rfl ?_
  conv => whnf
  refine ⟨⟨by omega, by show x < (s.size : Int); omega⟩, ?_⟩
  rw [e0]
  generalize hb : byteAt s i = c at *
  conv => whnf
  refine brF (decide_eq_false (by omega)) ?_
  conv => whnf
  refine brT (decide_eq_true (by omega)) ?_
  conv => whnf
  refine brF (decide_eq_false (by omega)) ?_
  conv => whnf
  refine brT (decide_eq_true (by omega)) ?_
  conv => whnf
  refine brF (decide_eq_false (by omega)) ?_
  conv => whnf
  refine brT (decide_eq_true (by omega)) ?_
  conv => whnf
  refine brT (decide_eq_true (by omega)) ?_
  conv => whnf
  refine brF (beq_eq_false_iff_ne.2 (by omega)) ?_
  conv => whnf
  refine brF (beq_eq_false_iff_ne.2 (by omega)) ?_
  conv => whnf
  refine ⟨_, w1, ?_⟩
  rintro _ _ ⟨rfl, rfl⟩
  conv => whnf
  exact ⟨tupI (by rw [w64 (n := c) (by omega), w64 (by omega)]) rfl, rfl⟩

set_option maxHeartbeats 4000000 in
theorem one_FF_1 {s : ByteArray} {x : Int} {i : Nat} (hx : x = (i : Int)) (hi : i < s.size) (hm : s.size < 1000000000) (hc : 241 ≤ byteAt s i ∧ byteAt s i ≤ 243)
    (g1 : win s (i + 1) 128 191 = true)
    (g2 : win s (i + 2) 128 191 = false) :
    CallR cx 89 [st s, i64 x] [] fun r S => r = .tup [i64 (byteAt s i + 2000000), i64 1] ∧ S = [] := by
  have e0 : x.toNat = i := by omega
  have hr := byteAt_range s i
  have w1 := within_c (s := s) (x := IntKind.i64.wrap (x + 1)) (lo := 128) (hi := 191) (k := i + 1) (by rw [w64 (by omega)]; omega)
  rw [g1] at w1
  have w2 := within_c (s := s) (x := IntKind.i64.wrap (x + 2)) (lo := 128) (hi := 191) (k := i + 2) (by rw [w64 (by omega)]; omega)
  rw [g2] at w2
  refine callR_of (R := R1) cx_ok Tryz.func89 (by kernel_rfl) rfl ?_
  conv => whnf
  refine ⟨⟨by omega, by show x < (s.size : Int); omega⟩, ?_⟩
  rw [e0]
  generalize hb : byteAt s i = c at *
  conv => whnf
  refine brF (decide_eq_false (by omega)) ?_
  conv => whnf
  refine brT (decide_eq_true (by omega)) ?_
  conv => whnf
  refine brF (decide_eq_false (by omega)) ?_
  conv => whnf
  refine brT (decide_eq_true (by omega)) ?_
  conv => whnf
  refine brF (decide_eq_false (by omega)) ?_
  conv => whnf
  refine brT (decide_eq_true (by omega)) ?_
  conv => whnf
  refine brT (decide_eq_true (by omega)) ?_
  conv => whnf
  refine brF (beq_eq_false_iff_ne.2 (by omega)) ?_
  conv => whnf
  refine brF (beq_eq_false_iff_ne.2 (by omega)) ?_
  conv => whnf
  refine ⟨_, w1, ?_⟩
  rintro _ _ ⟨rfl, rfl⟩
  conv => whnf
  refine ⟨_, w2, ?_⟩
  rintro _ _ ⟨rfl, rfl⟩
  conv => whnf
  exact ⟨tupI (by rw [w64 (n := c) (by omega), w64 (by omega)]) rfl, rfl⟩

set_option maxHeartbeats 4000000 in
theorem one_FF_2 {s : ByteArray} {x : Int} {i : Nat} (hx : x = (i : Int)) (hi : i < s.size) (hm : s.size < 1000000000) (hc : 241 ≤ byteAt s i ∧ byteAt s i ≤ 243)
    (g1 : win s (i + 1) 128 191 = true)
    (g2 : win s (i + 2) 128 191 = true)
    (g3 : win s (i + 3) 128 191 = false) :
    CallR cx 89 [st s, i64 x] [] fun r S => r = .tup [i64 (byteAt s i + 2000000), i64 1] ∧ S = [] := by
  have e0 : x.toNat = i := by omega
  have hr := byteAt_range s i
  have w1 := within_c (s := s) (x := IntKind.i64.wrap (x + 1)) (lo := 128) (hi := 191) (k := i + 1) (by rw [w64 (by omega)]; omega)
  rw [g1] at w1
  have w2 := within_c (s := s) (x := IntKind.i64.wrap (x + 2)) (lo := 128) (hi := 191) (k := i + 2) (by rw [w64 (by omega)]; omega)
  rw [g2] at w2
  have w3 := within_c (s := s) (x := IntKind.i64.wrap (x + 3)) (lo := 128) (hi := 191) (k := i + 3) (by rw [w64 (by omega)]; omega)
  rw [g3] at w3
  refine callR_of (R := R1) cx_ok Tryz.func89 (by kernel_rfl) rfl ?_
  conv => whnf
  refine ⟨⟨by omega, by show x < (s.size : Int); omega⟩, ?_⟩
  rw [e0]
  generalize hb : byteAt s i = c at *
  conv => whnf
  refine brF (decide_eq_false (by omega)) ?_
  conv => whnf
  refine brT (decide_eq_true (by omega)) ?_
  conv => whnf
  refine brF (decide_eq_false (by omega)) ?_
  conv => whnf
  refine brT (decide_eq_true (by omega)) ?_
  conv => whnf
  refine brF (decide_eq_false (by omega)) ?_
  conv => whnf
  refine brT (decide_eq_true (by omega)) ?_
  conv => whnf
  refine brT (decide_eq_true (by omega)) ?_
  conv => whnf
  refine brF (beq_eq_false_iff_ne.2 (by omega)) ?_
  conv => whnf
  refine brF (beq_eq_false_iff_ne.2 (by omega)) ?_
  conv => whnf
  refine ⟨_, w1, ?_⟩
  rintro _ _ ⟨rfl, rfl⟩
  conv => whnf
  refine ⟨_, w2, ?_⟩
  rintro _ _ ⟨rfl, rfl⟩
  conv => whnf
  refine ⟨_, w3, ?_⟩
  rintro _ _ ⟨rfl, rfl⟩
  conv => whnf
  exact ⟨tupI (by rw [w64 (n := c) (by omega), w64 (by omega)]) rfl, rfl⟩

set_option maxHeartbeats 4000000 in
theorem one_FF_3 {s : ByteArray} {x : Int} {i : Nat} (hx : x = (i : Int)) (hi : i < s.size) (hm : s.size < 1000000000) (hc : 241 ≤ byteAt s i ∧ byteAt s i ≤ 243)
    (g1 : win s (i + 1) 128 191 = true)
    (g2 : win s (i + 2) 128 191 = true)
    (g3 : win s (i + 3) 128 191 = true) :
    CallR cx 89 [st s, i64 x] [] fun r S => r = .tup [i64 (acc s i (byteAt s i % 8) 3), i64 4] ∧ S = [] := by
  have e0 : x.toNat = i := by omega
  have hr := byteAt_range s i
  have w1 := within_c (s := s) (x := IntKind.i64.wrap (x + 1)) (lo := 128) (hi := 191) (k := i + 1) (by rw [w64 (by omega)]; omega)
  rw [g1] at w1
  have w2 := within_c (s := s) (x := IntKind.i64.wrap (x + 2)) (lo := 128) (hi := 191) (k := i + 2) (by rw [w64 (by omega)]; omega)
  rw [g2] at w2
  have w3 := within_c (s := s) (x := IntKind.i64.wrap (x + 3)) (lo := 128) (hi := 191) (k := i + 3) (by rw [w64 (by omega)]; omega)
  rw [g3] at w3
  have hlt : i + 3 < s.size := win_lt g3
  have hac := fun j hj => acc_range (s := s) (i := i) (n0 := byteAt s i % 8) (by omega) j hj
  refine callR_of (R := R1) cx_ok Tryz.func89 (by kernel_rfl) rfl ?_
  conv => whnf
  refine ⟨⟨by omega, by show x < (s.size : Int); omega⟩, ?_⟩
  rw [e0]
  generalize hb : byteAt s i = c at *
  conv => whnf
  refine brF (decide_eq_false (by omega)) ?_
  conv => whnf
  refine brT (decide_eq_true (by omega)) ?_
  conv => whnf
  refine brF (decide_eq_false (by omega)) ?_
  conv => whnf
  refine brT (decide_eq_true (by omega)) ?_
  conv => whnf
  refine brF (decide_eq_false (by omega)) ?_
  conv => whnf
  refine brT (decide_eq_true (by omega)) ?_
  conv => whnf
  refine brT (decide_eq_true (by omega)) ?_
  conv => whnf
  refine brF (beq_eq_false_iff_ne.2 (by omega)) ?_
  conv => whnf
  refine brF (beq_eq_false_iff_ne.2 (by omega)) ?_
  conv => whnf
  refine ⟨_, w1, ?_⟩
  rintro _ _ ⟨rfl, rfl⟩
  conv => whnf
  refine ⟨_, w2, ?_⟩
  rintro _ _ ⟨rfl, rfl⟩
  conv => whnf
  refine ⟨_, w3, ?_⟩
  rintro _ _ ⟨rfl, rfl⟩
  conv => whnf
  refine ⟨by decide, ?_⟩
  conv => whnf
  refine ⟨by decide, ?_⟩
  conv => whnf
  refine .inl ⟨fun k l S => ∃ j : Nat, j ≤ 3 ∧ k = 3 - j ∧ l = [(0, st s), (1, i64 x), (7, i64 3), (10, i64 (acc s i (c % 8) j)), (11, i64 ((j : Int) + 1))] ∧ S = [],
    ⟨_, _, ⟨0, by omega, rfl, rfl, rfl⟩, ⟨rfl, rfl, rfl, congrArg (fun z => some (i64 z)) (show (IntKind.i64.wrap c).tmod 8 = acc s i (c % 8) 0 by rw [w64 (by omega), Int.tmod_eq_emod_of_nonneg (by omega)]; rfl), rfl, trivial⟩⟩, ?_⟩
  rintro _ _ _ ⟨j, hj, rfl, rfl, rfl⟩
  conv => whnf
  refine brec (fun h1 => ?_) (fun h1 => ?_)
  · have h1 := of_decide_eq_true h1
    have e1 : IntKind.i64.wrap (x + ((j : Int) + 1)) = ((i + (j + 1) : Nat) : Int) := by rw [w64 (by omega)]; omega
    conv => whnf
    refine ⟨⟨by rw [e1]; omega, by rw [e1]; show ((i + (j + 1) : Nat) : Int) < (s.size : Int); omega⟩, ?_⟩
    rw [e1]
    conv => whnf
    refine ⟨by decide, ?_⟩
    conv => whnf
    exact ⟨_, _, 0, (by omega : 3 - (j + 1) < 3 - j), ⟨j + 1, by omega, rfl, rfl, rfl⟩,
      ⟨rfl, rfl, rfl, congrArg (fun z => some (i64 z)) (accStep (hac j (by omega)).1 ((hac j (by omega)).2.2 (by omega))), congrArg (fun z => some (i64 z)) (by rw [w64 (by omega)]; omega), trivial⟩, rfl⟩
  · have h1 := of_decide_eq_false h1
    obtain rfl : j = 3 := by omega
    conv => whnf
    exact ⟨rfl, rfl⟩
end Go.Proofs.YtmdfpifcghmpfaaGreatDoor

/- The document's rune at a place is the number that the text's decoder gives, a stray's its byte and 2000000 (printed by gen/onekey.py). -/
namespace Go.Proofs.YtmdfpifcghmpfaaGreatDoor
open Go.Ab Go.RowKit

theorem keyN_bad {n b0 b1 b2 b3 : Nat} (h : Lib.decodeN n b0 b1 b2 b3 = (65533, 1)) : keyN n b0 b1 b2 b3 = (b0 + 2000000, 1) := by
  unfold keyN; rw [if_pos h]
theorem keyN_good {n b0 b1 b2 b3 a k : Nat} (h : Lib.decodeN n b0 b1 b2 b3 = (a, k)) (hk : 1 < k ∨ a < 65533) : keyN n b0 b1 b2 b3 = (a, k) := by
  unfold keyN; rw [h, if_neg]; intro e; simp only [Prod.mk.injEq] at e; omega

theorem one_of {s : ByteArray} {x : Int} {i a k : Nat} {p q : Int} (h : CallR cx 89 [st s, i64 x] [] fun r S => r = .tup [i64 p, i64 q] ∧ S = []) (hk : key s i = (a, k)) (hp : p = (a : Int)) (hq : q = (k : Int)) :
    CallR cx 89 [st s, i64 x] [] fun r S => r = .tup [i64 ((key s i).1 : Int), i64 ((key s i).2 : Int)] ∧ S = [] := by
  rw [hk, ← hp, ← hq]; exact h

theorem dec_bad {n b0 b1 b2 b3 : Nat} (h0 : b0 < 256) (h1 : b1 < 256) (h2 : b2 < 256) (h3 : b3 < 256)
    (h : (128 ≤ b0 ∧ b0 ≤ 193) ∨ 245 ≤ b0 ∨ (194 ≤ b0 ∧ b0 ≤ 223 ∧ ¬ (1 < n ∧ 128 ≤ b1 ∧ b1 ≤ 191)) ∨
      (224 ≤ b0 ∧ b0 ≤ 239 ∧ (¬ (1 < n ∧ 128 ≤ b1 ∧ b1 ≤ 191) ∨ ¬ (2 < n ∧ 128 ≤ b2 ∧ b2 ≤ 191) ∨ (b0 = 224 ∧ b1 < 160) ∨ (b0 = 237 ∧ 159 < b1))) ∨
      (240 ≤ b0 ∧ b0 ≤ 244 ∧ (¬ (1 < n ∧ 128 ≤ b1 ∧ b1 ≤ 191) ∨ ¬ (2 < n ∧ 128 ≤ b2 ∧ b2 ≤ 191) ∨ ¬ (3 < n ∧ 128 ≤ b3 ∧ b3 ≤ 191) ∨ (b0 = 240 ∧ b1 < 144) ∨ (b0 = 244 ∧ 143 < b1)))) : Lib.decodeN n b0 b1 b2 b3 = (65533, 1) := by
  unfold Lib.decodeN
  repeat' split
  all_goals first | rfl | (exfalso; omega)

theorem dec_1 {n b0 b1 b2 b3 : Nat} (h : b0 < 128) : Lib.decodeN n b0 b1 b2 b3 = (b0, 1) := by
  unfold Lib.decodeN; rw [if_pos h]
theorem dec_2 {n b0 b1 b2 b3 : Nat} (h0 : 194 ≤ b0 ∧ b0 ≤ 223) (h1 : 1 < n ∧ 128 ≤ b1 ∧ b1 ≤ 191) : Lib.decodeN n b0 b1 b2 b3 = (b0 % 32 * 64 + b1 % 64, 2) := by
  unfold Lib.decodeN
  rw [if_neg (by omega), if_pos (by omega), if_pos (by omega)]
theorem dec_3 {n b0 b1 b2 b3 : Nat} (h0 : 224 ≤ b0 ∧ b0 ≤ 239) (h1 : 1 < n ∧ 128 ≤ b1 ∧ b1 ≤ 191) (h2 : 2 < n ∧ 128 ≤ b2 ∧ b2 ≤ 191) (h3 : b0 = 224 → 160 ≤ b1) (h4 : b0 = 237 → b1 ≤ 159) :
    Lib.decodeN n b0 b1 b2 b3 = (b0 % 16 * 4096 + b1 % 64 * 64 + b2 % 64, 3) := by
  unfold Lib.decodeN
  rw [if_neg (by omega), if_neg (by omega), if_pos (by omega), if_pos (by omega)]
theorem dec_4 {n b0 b1 b2 b3 : Nat} (h0 : 240 ≤ b0 ∧ b0 ≤ 244) (h1 : 1 < n ∧ 128 ≤ b1 ∧ b1 ≤ 191) (h2 : 2 < n ∧ 128 ≤ b2 ∧ b2 ≤ 191) (h3 : 3 < n ∧ 128 ≤ b3 ∧ b3 ≤ 191) (h4 : b0 = 240 → 144 ≤ b1) (h5 : b0 = 244 → b1 ≤ 143) :
    Lib.decodeN n b0 b1 b2 b3 = (b0 % 8 * 262144 + b1 % 64 * 4096 + b2 % 64 * 64 + b3 % 64, 4) := by
  unfold Lib.decodeN
  rw [if_neg (by omega), if_neg (by omega), if_neg (by omega), if_pos (by omega), if_pos (by omega)]

set_option maxHeartbeats 4000000 in
theorem one_c {s : ByteArray} {x : Int} {i : Nat} (hx : x = (i : Int)) (hi : i < s.size) (hm : s.size < 1000000000) :
    CallR cx 89 [st s, i64 x] [] fun r S => r = .tup [i64 ((key s i).1 : Int), i64 ((key s i).2 : Int)] ∧ S = [] := by
  have b0 := byteAt_eq s i
  have l0 := (s.get! i).toNat_lt; have l1 := (s.get! (i + 1)).toNat_lt; have l2 := (s.get! (i + 2)).toNat_lt; have l3 := (s.get! (i + 3)).toNat_lt
  have k1 : ∀ lo hi, win s (i + 1) lo hi = true ↔ i + 1 < s.size ∧ lo ≤ ((s.get! (i + 1)).toNat : Int) ∧ ((s.get! (i + 1)).toNat : Int) ≤ hi := fun _ _ => win_iff
  have k2 : ∀ lo hi, win s (i + 2) lo hi = true ↔ i + 2 < s.size ∧ lo ≤ ((s.get! (i + 2)).toNat : Int) ∧ ((s.get! (i + 2)).toNat : Int) ≤ hi := fun _ _ => win_iff
  have k3 : ∀ lo hi, win s (i + 3) lo hi = true ↔ i + 3 < s.size ∧ lo ≤ ((s.get! (i + 3)).toNat : Int) ∧ ((s.get! (i + 3)).toNat : Int) ≤ hi := fun _ _ => win_iff
  have a1 : ∀ n0, acc s i n0 1 = n0 * 64 + ((s.get! (i + 1)).toNat : Int) % 64 := fun n0 => by rw [← byteAt_eq]; rfl
  have a2 : ∀ n0, acc s i n0 2 = (n0 * 64 + ((s.get! (i + 1)).toNat : Int) % 64) * 64 + ((s.get! (i + 2)).toNat : Int) % 64 := fun n0 => by rw [← byteAt_eq, ← byteAt_eq]; rfl
  have a3 : ∀ n0, acc s i n0 3 = ((n0 * 64 + ((s.get! (i + 1)).toNat : Int) % 64) * 64 + ((s.get! (i + 2)).toNat : Int) % 64) * 64 + ((s.get! (i + 3)).toNat : Int) % 64 := fun n0 => by rw [← byteAt_eq, ← byteAt_eq, ← byteAt_eq]; rfl
  have nf : ∀ b : Bool, b = true ∨ b = false := fun b => by cases b <;> simp
  have ff : ∀ (b : Bool) (p : Prop), (b = true ↔ p) → b = false → ¬ p := fun b p h e hp => by rw [h.2 hp] at e; cases e
  by_cases c0 : byteAt s i < 128
  · exact one_of (one_A hx hi hm c0) (keyN_good (dec_1 (by omega)) (by omega)) b0 rfl
  by_cases c1 : byteAt s i ≤ 193
  · exact one_of (one_X1 hx hi hm (by omega)) (keyN_bad (dec_bad l0 l1 l2 l3 (by omega))) (by omega) rfl
  by_cases c2 : 245 ≤ byteAt s i
  · exact one_of (one_X2 hx hi hm c2) (keyN_bad (dec_bad l0 l1 l2 l3 (by omega))) (by omega) rfl
  by_cases dC2 : byteAt s i ≤ 223
  · have f1 := k1 128 191
    rcases nf (win s (i + 1) 128 191) with g1 | g1
    rotate_left
    · have n1 := ff _ _ f1 g1
      exact one_of (one_C2_0 hx hi hm (by omega)  g1) (keyN_bad (dec_bad l0 l1 l2 l3 (by omega))) (by omega) rfl
    have n1 := f1.1 g1
    exact one_of (one_C2_1 hx hi hm (by omega) g1) (keyN_good (dec_2 (by omega) (by omega)) (by omega)) (by rw [a1, b0]; omega) rfl
  by_cases dE0 : byteAt s i = 224
  · have f1 := k1 160 191
    rcases nf (win s (i + 1) 160 191) with g1 | g1
    rotate_left
    · have n1 := ff _ _ f1 g1
      exact one_of (one_E0_0 hx hi hm (by omega)  g1) (keyN_bad (dec_bad l0 l1 l2 l3 (by omega))) (by omega) rfl
    have f2 := k2 128 191
    rcases nf (win s (i + 2) 128 191) with g2 | g2
    rotate_left
    · have n2 := ff _ _ f2 g2
      have n1 := f1.1 g1
      exact one_of (one_E0_1 hx hi hm (by omega) g1 g2) (keyN_bad (dec_bad l0 l1 l2 l3 (by omega))) (by omega) rfl
    have n1 := f1.1 g1
    have n2 := f2.1 g2
    exact one_of (one_E0_2 hx hi hm (by omega) g1 g2) (keyN_good (dec_3 (by omega) (by omega) (by omega) (by omega) (by omega)) (by omega)) (by rw [a2, b0]; omega) rfl
  by_cases dED : byteAt s i = 237
  · have f1 := k1 128 159
    rcases nf (win s (i + 1) 128 159) with g1 | g1
    rotate_left
    · have n1 := ff _ _ f1 g1
      exact one_of (one_ED_0 hx hi hm (by omega)  g1) (keyN_bad (dec_bad l0 l1 l2 l3 (by omega))) (by omega) rfl
    have f2 := k2 128 191
    rcases nf (win s (i + 2) 128 191) with g2 | g2
    rotate_left
    · have n2 := ff _ _ f2 g2
      have n1 := f1.1 g1
      exact one_of (one_ED_1 hx hi hm (by omega) g1 g2) (keyN_bad (dec_bad l0 l1 l2 l3 (by omega))) (by omega) rfl
    have n1 := f1.1 g1
    have n2 := f2.1 g2
    exact one_of (one_ED_2 hx hi hm (by omega) g1 g2) (keyN_good (dec_3 (by omega) (by omega) (by omega) (by omega) (by omega)) (by omega)) (by rw [a2, b0]; omega) rfl
  by_cases dEE : byteAt s i ≤ 239
  · have f1 := k1 128 191
    rcases nf (win s (i + 1) 128 191) with g1 | g1
    rotate_left
    · have n1 := ff _ _ f1 g1
      exact one_of (one_EE_0 hx hi hm (by omega)  g1) (keyN_bad (dec_bad l0 l1 l2 l3 (by omega))) (by omega) rfl
    have f2 := k2 128 191
    rcases nf (win s (i + 2) 128 191) with g2 | g2
    rotate_left
    · have n2 := ff _ _ f2 g2
      have n1 := f1.1 g1
      exact one_of (one_EE_1 hx hi hm (by omega) g1 g2) (keyN_bad (dec_bad l0 l1 l2 l3 (by omega))) (by omega) rfl
    have n1 := f1.1 g1
    have n2 := f2.1 g2
    exact one_of (one_EE_2 hx hi hm (by omega) g1 g2) (keyN_good (dec_3 (by omega) (by omega) (by omega) (by omega) (by omega)) (by omega)) (by rw [a2, b0]; omega) rfl
  by_cases dF0 : byteAt s i = 240
  · have f1 := k1 144 191
    rcases nf (win s (i + 1) 144 191) with g1 | g1
    rotate_left
    · have n1 := ff _ _ f1 g1
      exact one_of (one_F0_0 hx hi hm (by omega)  g1) (keyN_bad (dec_bad l0 l1 l2 l3 (by omega))) (by omega) rfl
    have f2 := k2 128 191
    rcases nf (win s (i + 2) 128 191) with g2 | g2
    rotate_left
    · have n2 := ff _ _ f2 g2
      have n1 := f1.1 g1
      exact one_of (one_F0_1 hx hi hm (by omega) g1 g2) (keyN_bad (dec_bad l0 l1 l2 l3 (by omega))) (by omega) rfl
    have f3 := k3 128 191
    rcases nf (win s (i + 3) 128 191) with g3 | g3
    rotate_left
    · have n3 := ff _ _ f3 g3
      have n1 := f1.1 g1
      have n2 := f2.1 g2
      exact one_of (one_F0_2 hx hi hm (by omega) g1 g2 g3) (keyN_bad (dec_bad l0 l1 l2 l3 (by omega))) (by omega) rfl
    have n1 := f1.1 g1
    have n2 := f2.1 g2
    have n3 := f3.1 g3
    exact one_of (one_F0_3 hx hi hm (by omega) g1 g2 g3) (keyN_good (dec_4 (by omega) (by omega) (by omega) (by omega) (by omega) (by omega)) (by omega)) (by rw [a3, b0]; omega) rfl
  by_cases dF4 : byteAt s i = 244
  · have f1 := k1 128 143
    rcases nf (win s (i + 1) 128 143) with g1 | g1
    rotate_left
    · have n1 := ff _ _ f1 g1
      exact one_of (one_F4_0 hx hi hm (by omega)  g1) (keyN_bad (dec_bad l0 l1 l2 l3 (by omega))) (by omega) rfl
    have f2 := k2 128 191
    rcases nf (win s (i + 2) 128 191) with g2 | g2
    rotate_left
    · have n2 := ff _ _ f2 g2
      have n1 := f1.1 g1
      exact one_of (one_F4_1 hx hi hm (by omega) g1 g2) (keyN_bad (dec_bad l0 l1 l2 l3 (by omega))) (by omega) rfl
    have f3 := k3 128 191
    rcases nf (win s (i + 3) 128 191) with g3 | g3
    rotate_left
    · have n3 := ff _ _ f3 g3
      have n1 := f1.1 g1
      have n2 := f2.1 g2
      exact one_of (one_F4_2 hx hi hm (by omega) g1 g2 g3) (keyN_bad (dec_bad l0 l1 l2 l3 (by omega))) (by omega) rfl
    have n1 := f1.1 g1
    have n2 := f2.1 g2
    have n3 := f3.1 g3
    exact one_of (one_F4_3 hx hi hm (by omega) g1 g2 g3) (keyN_good (dec_4 (by omega) (by omega) (by omega) (by omega) (by omega) (by omega)) (by omega)) (by rw [a3, b0]; omega) rfl
  have f1 := k1 128 191
  rcases nf (win s (i + 1) 128 191) with g1 | g1
  rotate_left
  · have n1 := ff _ _ f1 g1
    exact one_of (one_FF_0 hx hi hm (by omega)  g1) (keyN_bad (dec_bad l0 l1 l2 l3 (by omega))) (by omega) rfl
  have f2 := k2 128 191
  rcases nf (win s (i + 2) 128 191) with g2 | g2
  rotate_left
  · have n2 := ff _ _ f2 g2
    have n1 := f1.1 g1
    exact one_of (one_FF_1 hx hi hm (by omega) g1 g2) (keyN_bad (dec_bad l0 l1 l2 l3 (by omega))) (by omega) rfl
  have f3 := k3 128 191
  rcases nf (win s (i + 3) 128 191) with g3 | g3
  rotate_left
  · have n3 := ff _ _ f3 g3
    have n1 := f1.1 g1
    have n2 := f2.1 g2
    exact one_of (one_FF_2 hx hi hm (by omega) g1 g2 g3) (keyN_bad (dec_bad l0 l1 l2 l3 (by omega))) (by omega) rfl
  have n1 := f1.1 g1
  have n2 := f2.1 g2
  have n3 := f3.1 g3
  exact one_of (one_FF_3 hx hi hm (by omega) g1 g2 g3) (keyN_good (dec_4 (by omega) (by omega) (by omega) (by omega) (by omega) (by omega)) (by omega)) (by rw [a3, b0]; omega) rfl
end Go.Proofs.YtmdfpifcghmpfaaGreatDoor

/- Names: a text's runes as numbers; small letters. -/
namespace Go.Proofs.YtmdfpifcghmpfaaGreatDoor
open Go.Ab Go.RowKit

abbrev ints (l : List Nat) : List D := l.map fun (k : Nat) => D.int .i64 (k : Int)

theorem numbers_c {s : ByteArray} (hm : s.size < 1000000000) : CallR cx 73 [st s] [] fun r S => r = .d (.sl 1 (ints (keysAt s 0))) ∧ S = [] := by
  refine callR_of (R := R1) cx_ok Tryz.func73 (by kernel_rfl) rfl ?_
  conv => whnf
  refine .inl ?_
  conv => whnf
  refine .inr ⟨3, 1, ?_⟩
  conv => whnf
  refine .inr ⟨fun n l S => ∃ (i : Nat) (xs : List Nat), xs ++ keysAt s i = keysAt s 0 ∧ xs.length ≤ i ∧ i ≤ s.size + 3 ∧ n = s.size + 4 - i ∧
      l = [(0, st s), (3, .row 0), (4, i64 (i : Int))] ∧ S = [.row 3 1 (ints xs)],
    ⟨_, _, ⟨0, [], rfl, Nat.le_refl _, by omega, rfl, rfl, rfl⟩, ⟨rfl, rfl, rfl, trivial⟩⟩, ?_⟩
  rintro _ _ _ ⟨i, xs, h1, h2, h3, rfl, rfl, rfl⟩
  conv => whnf
  refine brec (fun h4 => ?_) (fun h4 => ?_)
  · have h4 := of_decide_eq_true h4
    have hi : i < s.size := by omega
    conv => whnf
    refine ⟨_, one_c (s := s) (x := (i : Int)) rfl hi hm, ?_⟩
    rintro _ _ ⟨rfl, rfl⟩
    conv => whnf
    have hp := key_pos s i
    have hf := key_four s i
    refine ⟨⟨Nat.one_pos, by show ((ints xs).length + 1) * (8 + 1) ≤ _; rw [List.length_map]; omega⟩, ?_⟩
    conv => whnf
    refine ⟨s.size + 4 - (i + (key s i).2), [(0, st s), (3, .row 1), (4, i64 ((i + (key s i).2 : Nat) : Int))], [1], by omega,
      ⟨rfl, rfl, congrArg (fun z => some (i64 z)) (by rw [w64 (by omega)]; omega), trivial⟩, ?_⟩
    conv => whnf
    refine ⟨i + (key s i).2, xs ++ [(key s i).1], ?_, ?_, by omega, rfl, rfl, ?_⟩
    · rw [← h1, keysAt_lt hi, List.append_assoc]; rfl
    · rw [List.length_append]; show xs.length + 1 ≤ _; omega
    · show _ = [Blk.row 3 1 (List.map (fun (k : Nat) => D.int .i64 (k : Int)) (xs ++ [(key s i).1]))]
      rw [List.map_append]
      rfl
  · have h4 := of_decide_eq_false h4
    rw [keysAt_ge (by omega), List.append_nil] at h1
    conv => whnf
    rw [h1]
    exact ⟨rfl, rfl⟩
end Go.Proofs.YtmdfpifcghmpfaaGreatDoor

/- Names: small letters; right names; texts that may be said: the program's and the document's. -/
namespace Go.Proofs.YtmdfpifcghmpfaaGreatDoor
open Go.Ab Go.RowKit

theorem small_A {k : Int} (h : k < 97) : CallR cx 79 [i32 k] [] fun r S => r = bo (decide (smallI k)) ∧ S = [] := by
  have hs : ¬ smallI k := by unfold smallI; omega
  refine callR_of (R := R1) cx_ok Tryz.func79 (by kernel_rfl) rfl ?_
  conv => whnf
  refine brF (decide_eq_false (by omega)) ?_
  conv => whnf
  refine brF (decide_eq_false (by omega)) ?_
  conv => whnf
  refine ⟨?_, rfl⟩
  rw [decide_eq_false hs]
  first | rfl | exact congrArg bo (decide_eq_true (by omega)) | exact congrArg bo (decide_eq_false (by omega))

theorem small_B {k : Int} (h : 97 ≤ k ∧ k ≤ 122) : CallR cx 79 [i32 k] [] fun r S => r = bo (decide (smallI k)) ∧ S = [] := by
  have hs : smallI k := by unfold smallI; omega
  refine callR_of (R := R1) cx_ok Tryz.func79 (by kernel_rfl) rfl ?_
  conv => whnf
  refine brT (decide_eq_true (by omega)) ?_
  conv => whnf
  refine brT (decide_eq_true (by omega)) ?_
  conv => whnf
  refine ⟨?_, rfl⟩
  rw [decide_eq_true hs]
  first | rfl | exact congrArg bo (decide_eq_true (by omega)) | exact congrArg bo (decide_eq_false (by omega))

theorem small_C {k : Int} (h : 123 ≤ k ∧ k ≤ 944) : CallR cx 79 [i32 k] [] fun r S => r = bo (decide (smallI k)) ∧ S = [] := by
  have hs : ¬ smallI k := by unfold smallI; omega
  refine callR_of (R := R1) cx_ok Tryz.func79 (by kernel_rfl) rfl ?_
  conv => whnf
  refine brT (decide_eq_true (by omega)) ?_
  conv => whnf
  refine brF (decide_eq_false (by omega)) ?_
  conv => whnf
  refine brF (decide_eq_false (by omega)) ?_
  conv => whnf
  refine ⟨?_, rfl⟩
  rw [decide_eq_false hs]
  first | rfl | exact congrArg bo (decide_eq_true (by omega)) | exact congrArg bo (decide_eq_false (by omega))

theorem small_D {k : Int} (h : 945 ≤ k ∧ k ≤ 969) : CallR cx 79 [i32 k] [] fun r S => r = bo (decide (smallI k)) ∧ S = [] := by
  have hs : smallI k := by unfold smallI; omega
  refine callR_of (R := R1) cx_ok Tryz.func79 (by kernel_rfl) rfl ?_
  conv => whnf
  refine brT (decide_eq_true (by omega)) ?_
  conv => whnf
  refine brF (decide_eq_false (by omega)) ?_
  conv => whnf
  refine brT (decide_eq_true (by omega)) ?_
  conv => whnf
  refine ⟨?_, rfl⟩
  rw [decide_eq_true hs]
  first | rfl | exact congrArg bo (decide_eq_true (by omega)) | exact congrArg bo (decide_eq_false (by omega))

theorem small_E {k : Int} (h : 970 ≤ k) : CallR cx 79 [i32 k] [] fun r S => r = bo (decide (smallI k)) ∧ S = [] := by
  have hs : ¬ smallI k := by unfold smallI; omega
  refine callR_of (R := R1) cx_ok Tryz.func79 (by kernel_rfl) rfl ?_
  conv => whnf
  refine brT (decide_eq_true (by omega)) ?_
  conv => whnf
  refine brF (decide_eq_false (by omega)) ?_
  conv => whnf
  refine brT (decide_eq_true (by omega)) ?_
  conv => whnf
  refine ⟨?_, rfl⟩
  rw [decide_eq_false hs]
  first | rfl | exact congrArg bo (decide_eq_true (by omega)) | exact congrArg bo (decide_eq_false (by omega))

theorem small_c {k : Int} : CallR cx 79 [i32 k] [] fun r S => r = bo (decide (smallI k)) ∧ S = [] := by
  by_cases h1 : k < 97
  · exact small_A h1
  by_cases h2 : k ≤ 122
  · exact small_B (by omega)
  by_cases h3 : k ≤ 944
  · exact small_C (by omega)
  by_cases h4 : k ≤ 969
  · exact small_D (by omega)
  exact small_E (by omega)

theorem rsmall_A {k : Int} (h : k < 97) : CallR cx 74 [i64 k] [] fun r S => r = bo (decide (smallI k)) ∧ S = [] := by
  have hs : ¬ smallI k := by unfold smallI; omega
  refine callR_of (R := R1) cx_ok Tryz.func74 (by kernel_rfl) rfl ?_
  conv => whnf
  refine brF (decide_eq_false (by omega)) ?_
  conv => whnf
  refine brF (decide_eq_false (by omega)) ?_
  conv => whnf
  refine ⟨?_, rfl⟩
  rw [decide_eq_false hs]
  first | rfl | exact congrArg bo (decide_eq_true (by omega)) | exact congrArg bo (decide_eq_false (by omega))

theorem rsmall_B {k : Int} (h : 97 ≤ k ∧ k ≤ 122) : CallR cx 74 [i64 k] [] fun r S => r = bo (decide (smallI k)) ∧ S = [] := by
  have hs : smallI k := by unfold smallI; omega
  refine callR_of (R := R1) cx_ok Tryz.func74 (by kernel_rfl) rfl ?_
  conv => whnf
  refine brT (decide_eq_true (by omega)) ?_
  conv => whnf
  refine brT (decide_eq_true (by omega)) ?_
  conv => whnf
  refine ⟨?_, rfl⟩
  rw [decide_eq_true hs]
  first | rfl | exact congrArg bo (decide_eq_true (by omega)) | exact congrArg bo (decide_eq_false (by omega))

theorem rsmall_C {k : Int} (h : 123 ≤ k ∧ k ≤ 944) : CallR cx 74 [i64 k] [] fun r S => r = bo (decide (smallI k)) ∧ S = [] := by
  have hs : ¬ smallI k := by unfold smallI; omega
  refine callR_of (R := R1) cx_ok Tryz.func74 (by kernel_rfl) rfl ?_
  conv => whnf
  refine brT (decide_eq_true (by omega)) ?_
  conv => whnf
  refine brF (decide_eq_false (by omega)) ?_
  conv => whnf
  refine brF (decide_eq_false (by omega)) ?_
  conv => whnf
  refine ⟨?_, rfl⟩
  rw [decide_eq_false hs]
  first | rfl | exact congrArg bo (decide_eq_true (by omega)) | exact congrArg bo (decide_eq_false (by omega))

theorem rsmall_D {k : Int} (h : 945 ≤ k ∧ k ≤ 969) : CallR cx 74 [i64 k] [] fun r S => r = bo (decide (smallI k)) ∧ S = [] := by
  have hs : smallI k := by unfold smallI; omega
  refine callR_of (R := R1) cx_ok Tryz.func74 (by kernel_rfl) rfl ?_
  conv => whnf
  refine brT (decide_eq_true (by omega)) ?_
  conv => whnf
  refine brF (decide_eq_false (by omega)) ?_
  conv => whnf
  refine brT (decide_eq_true (by omega)) ?_
  conv => whnf
  refine ⟨?_, rfl⟩
  rw [decide_eq_true hs]
  first | rfl | exact congrArg bo (decide_eq_true (by omega)) | exact congrArg bo (decide_eq_false (by omega))

theorem rsmall_E {k : Int} (h : 970 ≤ k) : CallR cx 74 [i64 k] [] fun r S => r = bo (decide (smallI k)) ∧ S = [] := by
  have hs : ¬ smallI k := by unfold smallI; omega
  refine callR_of (R := R1) cx_ok Tryz.func74 (by kernel_rfl) rfl ?_
  conv => whnf
  refine brT (decide_eq_true (by omega)) ?_
  conv => whnf
  refine brF (decide_eq_false (by omega)) ?_
  conv => whnf
  refine brT (decide_eq_true (by omega)) ?_
  conv => whnf
  refine ⟨?_, rfl⟩
  rw [decide_eq_false hs]
  first | rfl | exact congrArg bo (decide_eq_true (by omega)) | exact congrArg bo (decide_eq_false (by omega))

theorem rsmall_c {k : Int} : CallR cx 74 [i64 k] [] fun r S => r = bo (decide (smallI k)) ∧ S = [] := by
  by_cases h1 : k < 97
  · exact rsmall_A h1
  by_cases h2 : k ≤ 122
  · exact rsmall_B (by omega)
  by_cases h3 : k ≤ 944
  · exact rsmall_C (by omega)
  by_cases h4 : k ≤ 969
  · exact rsmall_D (by omega)
  exact rsmall_E (by omega)

end Go.Proofs.YtmdfpifcghmpfaaGreatDoor

/- Names: right names, the program's and the document's. -/
namespace Go.Proofs.YtmdfpifcghmpfaaGreatDoor
open Go.Ab Go.RowKit

theorem okR_key (f : Bool) (s : ByteArray) (i : Nat) : okR f ((key s i).1 : Int) = okR f ((Utf8.decode s i).1 : Int) := by
  cases h : stray s i with
  | false => rw [key_plain h]
  | true =>
    obtain ⟨h1, h2⟩ := key_stray h
    rw [h1, h2]
    have e1 : okR f (((s.get! i).toNat + 2000000 : Nat) : Int) = false := by
      unfold okR
      rw [decide_eq_false (by unfold smallI; omega), decide_eq_false (p := (((s.get! i).toNat + 2000000 : Nat) : Int) ≤ 57) (by omega)]
      simp
    have e2 : okR f ((65533 : Nat) : Int) = false := by
      unfold okR
      rw [decide_eq_false (by unfold smallI; omega), decide_eq_false (p := ((65533 : Nat) : Int) ≤ 57) (by omega)]
      simp
    exact e1.trans e2.symm

theorem goR_cons (k : Nat) (l : List Nat) (n : Nat) : goR (k :: l) n = (okR (n == 0) (k : Int) && goR l (n + 1)) := rfl

theorem ok_small {f : Bool} {k : Int} (h : smallI k) : okR f k = true := by unfold okR; rw [decide_eq_true h]; rfl
theorem ok_first {k : Int} (h : ¬ smallI k) : okR true k = false := by unfold okR; rw [decide_eq_false h]; rfl
theorem ok_low {f : Bool} {k : Int} (h : ¬ smallI k) (g : k < 48) : okR f k = false := by
  unfold okR; rw [decide_eq_false h, decide_eq_false (p := 48 ≤ k) (by omega)]; simp
theorem ok_high {f : Bool} {k : Int} (h : ¬ smallI k) (g : 57 < k) : okR f k = false := by
  unfold okR; rw [decide_eq_false h, decide_eq_false (p := k ≤ 57) (by omega)]; simp
theorem ok_digit {n : Nat} {k : Int} (hn : n ≠ 0) (g : 48 ≤ k) (g' : k ≤ 57) : okR (n == 0) k = true := by
  unfold okR; rw [decide_eq_true g, decide_eq_true g', beq_eq_false_iff_ne.2 hn]; simp

theorem right_c {s : ByteArray} (hm : s.size < 1000000000) : CallR cx 56 [st s] [] fun r S => r = bo (rightT s) ∧ S = [] := by
  refine callR_of (R := R1) cx_ok Tryz.func56 (by kernel_rfl) rfl ?_
  conv => whnf
  refine .inl ⟨fun m l S => ∃ (i n : Nat), goR (keysAt s i) n = rightT s ∧ n ≤ i ∧ i ≤ s.size + 3 ∧ m = s.size + 4 - i ∧
      l = [(0, st s), (3, i64 (n : Int)), (7, .ptr 0 [])] ∧ S = [.iter s i],
    ⟨_, _, ⟨0, 0, rfl, Nat.le_refl _, by omega, rfl, rfl, rfl⟩, ⟨rfl, rfl, rfl, trivial⟩⟩, ?_⟩
  rintro _ _ _ ⟨i, n, h1, h2, h3, rfl, rfl, rfl⟩
  conv => whnf
  refine brec (fun h4 => ?_) (fun h4 => ?_)
  · have hi := of_decide_eq_true h4
    have hd := decode_range s i
    rw [keysAt_lt hi, goR_cons, okR_key, key_two] at h1
    generalize hk : Utf8.decode s i = d at *
    obtain ⟨r, w⟩ := d
    simp only at hd h1
    generalize hr : (r : Int) = R at *
    have e1 : IntKind.i64.wrap ((n : Int) + 1) = ((n + 1 : Nat) : Int) := by rw [w64 (by omega)]; omega
    have sm := small_c (k := R)
    conv => whnf
    by_cases hs : smallI R
    · rw [decide_eq_true hs] at sm
      rw [ok_small hs, Bool.true_and] at h1
      refine ⟨_, sm, ?_⟩
      rintro _ _ ⟨rfl, rfl⟩
      conv => whnf
      exact ⟨_, _, 1, (by omega : s.size + 4 - (i + w) < s.size + 4 - i), ⟨i + w, n + 1, h1, by omega, by omega, rfl, rfl, rfl⟩,
        ⟨rfl, congrArg (fun z => some (i64 z)) e1, rfl, trivial⟩, rfl⟩
    · rw [decide_eq_false hs] at sm
      refine ⟨_, sm, ?_⟩
      rintro _ _ ⟨rfl, rfl⟩
      conv => whnf
      by_cases hn : n = 0
      · refine brT (beq_iff_eq.2 (by rw [e1]; omega)) ?_
        conv => whnf
        subst hn
        rw [show ((0 : Nat) == 0) = true from rfl, ok_first hs, Bool.false_and] at h1
        rw [← h1]
        exact ⟨rfl, rfl⟩
      · refine brF (beq_eq_false_iff_ne.2 (by rw [e1]; omega)) ?_
        conv => whnf
        by_cases hl : R < 48
        · refine brT (decide_eq_true (by omega)) ?_
          conv => whnf
          rw [ok_low hs hl, Bool.false_and] at h1
          rw [← h1]
          exact ⟨rfl, rfl⟩
        · refine brF (decide_eq_false (by omega)) ?_
          conv => whnf
          by_cases hh : 57 < R
          · refine brT (decide_eq_true (by omega)) ?_
            conv => whnf
            rw [ok_high hs hh, Bool.false_and] at h1
            rw [← h1]
            exact ⟨rfl, rfl⟩
          · refine brF (decide_eq_false (by omega)) ?_
            conv => whnf
            rw [ok_digit hn (by omega) (by omega), Bool.true_and] at h1
            exact ⟨_, _, 1, (by omega : s.size + 4 - (i + w) < s.size + 4 - i), ⟨i + w, n + 1, h1, by omega, by omega, rfl, rfl, rfl⟩,
              ⟨rfl, congrArg (fun z => some (i64 z)) e1, rfl, trivial⟩, rfl⟩
  · have h4 := of_decide_eq_false h4
    rw [keysAt_ge (by omega)] at h1
    conv => whnf
    have e0 : rightT s = (decide (0 < (n : Int)) && decide ((n : Int) ≤ 12)) := by
      rw [← h1]
      show (decide (1 ≤ n) && decide (n ≤ 12)) = _
      have a1 : (0 < (n : Int)) = (1 ≤ n) := propext ⟨fun h => by omega, fun h => by omega⟩
      have a2 : ((n : Int) ≤ 12) = (n ≤ 12) := propext ⟨fun h => by omega, fun h => by omega⟩
      simp only [a1, a2]
    rw [e0]
    refine brec (fun h5 => ?_) (fun h5 => ?_)
    · conv => whnf
      rw [show decide (0 < (n : Int)) = true from h5]
      exact ⟨rfl, rfl⟩
    · conv => whnf
      rw [show decide (0 < (n : Int)) = false from h5]
      exact ⟨rfl, rfl⟩
end Go.Proofs.YtmdfpifcghmpfaaGreatDoor

/- Names: the document's right names; texts that may be said, the program's and the document's. -/
namespace Go.Proofs.YtmdfpifcghmpfaaGreatDoor
open Go.Ab Go.RowKit

theorem ints_getD {l : List Nat} {j : Nat} (h : j < l.length) : (ints l).getD (j : Int).toNat .nilP = .int .i64 ((l[j]'h : Nat) : Int) := by
  rw [Int.toNat_natCast, List.getD_eq_getElem?_getD, List.getElem?_map, List.getElem?_eq_getElem h]
  rfl

theorem rright_c {s : ByteArray} (hm : s.size < 1000000000) : CallR cx 45 [st s] [] fun r S => r = bo (rightT s) ∧ S = [] := by
  have nu := numbers_c hm
  have hL := keysAt_length s 0
  unfold rightT
  generalize keysAt s 0 = L at *
  have hlen : (ints L).length = L.length := List.length_map _
  refine callR_of (R := R1) cx_ok Tryz.func45 (by kernel_rfl) rfl ?_
  conv => whnf
  refine ⟨_, nu, ?_⟩
  rintro _ _ ⟨rfl, rfl⟩
  conv => whnf
  refine .inl ⟨fun m l S => ∃ j : Nat, j ≤ L.length ∧ goR (L.drop j) j = goR L 0 ∧ m = L.length - j ∧
      l = [(3, .d (.sl 1 (ints L))), (8, .d (.sl 1 (ints L))), (9, i64 (((ints L).length : Nat) : Int)), (10, i64 (j : Int))] ∧ S = [],
    ⟨_, _, ⟨0, Nat.zero_le _, rfl, rfl, rfl, rfl⟩, ⟨rfl, rfl, rfl, rfl, trivial⟩⟩, ?_⟩
  rintro _ _ _ ⟨j, hj, h1, rfl, rfl, rfl⟩
  conv => whnf
  refine brec (fun h4 => ?_) (fun h4 => ?_)
  · have h4 := of_decide_eq_true h4
    rw [hlen] at h4
    have hlt : j < L.length := by omega
    conv => whnf
    refine ⟨⟨by omega, by rw [hlen]; omega⟩, ?_⟩
    rw [ints_getD hlt]
    rw [List.drop_eq_getElem_cons hlt, goR_cons] at h1
    generalize L[j]'hlt = K at *
    have sm := rsmall_c (k := (K : Int))
    generalize hK : (K : Int) = R at *
    have e1 : IntKind.i64.wrap ((j : Int) + 1) = ((j + 1 : Nat) : Int) := by rw [w64 (by omega)]; omega
    conv => whnf
    by_cases hs : smallI R
    · rw [decide_eq_true hs] at sm
      rw [ok_small hs, Bool.true_and] at h1
      refine ⟨_, sm, ?_⟩
      rintro _ _ ⟨rfl, rfl⟩
      conv => whnf
      exact ⟨_, _, 0, (by omega : L.length - (j + 1) < L.length - j), ⟨j + 1, by omega, h1, rfl, rfl, rfl⟩,
        ⟨rfl, rfl, rfl, congrArg (fun z => some (i64 z)) e1, trivial⟩, rfl⟩
    · rw [decide_eq_false hs] at sm
      refine ⟨_, sm, ?_⟩
      rintro _ _ ⟨rfl, rfl⟩
      conv => whnf
      by_cases hn : j = 0
      · refine brT (beq_iff_eq.2 (by omega)) ?_
        conv => whnf
        subst hn
        rw [show ((0 : Nat) == 0) = true from rfl, ok_first hs, Bool.false_and] at h1
        rw [← h1]
        exact ⟨rfl, rfl⟩
      · refine brF (beq_eq_false_iff_ne.2 (by omega)) ?_
        conv => whnf
        by_cases hl : R < 48
        · refine brT (decide_eq_true (by omega)) ?_
          conv => whnf
          rw [ok_low hs hl, Bool.false_and] at h1
          rw [← h1]
          exact ⟨rfl, rfl⟩
        · refine brF (decide_eq_false (by omega)) ?_
          conv => whnf
          by_cases hh : 57 < R
          · refine brT (decide_eq_true (by omega)) ?_
            conv => whnf
            rw [ok_high hs hh, Bool.false_and] at h1
            rw [← h1]
            exact ⟨rfl, rfl⟩
          · refine brF (decide_eq_false (by omega)) ?_
            conv => whnf
            rw [ok_digit hn (by omega) (by omega), Bool.true_and] at h1
            exact ⟨_, _, 0, (by omega : L.length - (j + 1) < L.length - j), ⟨j + 1, by omega, h1, rfl, rfl, rfl⟩,
              ⟨rfl, rfl, rfl, congrArg (fun z => some (i64 z)) e1, trivial⟩, rfl⟩
  · have h4 := of_decide_eq_false h4
    rw [hlen] at h4
    obtain rfl : j = L.length := by omega
    rw [List.drop_length] at h1
    conv => whnf
    have e0 : goR L 0 = (decide ((((ints L).length : Nat) : Int) ≥ 1) && decide ((((ints L).length : Nat) : Int) ≤ 12)) := by
      rw [← h1, hlen]
      show (decide (1 ≤ L.length) && decide (L.length ≤ 12)) = _
      have a1 : (((L.length : Nat) : Int) ≥ 1) = (1 ≤ L.length) := propext ⟨fun h => by omega, fun h => by omega⟩
      have a2 : (((L.length : Nat) : Int) ≤ 12) = (L.length ≤ 12) := propext ⟨fun h => by omega, fun h => by omega⟩
      simp only [a1, a2]
    rw [e0]
    refine brec (fun h5 => ?_) (fun h5 => ?_)
    · conv => whnf
      rw [show decide ((((ints L).length : Nat) : Int) ≥ 1) = true from h5]
      exact ⟨rfl, rfl⟩
    · conv => whnf
      rw [show decide ((((ints L).length : Nat) : Int) ≥ 1) = false from h5]
      exact ⟨rfl, rfl⟩
end Go.Proofs.YtmdfpifcghmpfaaGreatDoor

/- Texts as runes: what a rune's bytes are, that they are found again, that texts without capitals stay so. Plain laws, no program. -/
namespace Go.Proofs.YtmdfpifcghmpfaaGreatDoor
open Go.Ab

/-- The rune at the front of bytes. -/
def keyL (l : List UInt8) : Nat × Nat := keyN l.length (l.getD 0 0).toNat (l.getD 1 0).toNat (l.getD 2 0).toNat (l.getD 3 0).toNat

theorem key_keyL (s : ByteArray) (i : Nat) : key s i = keyL (s.data.toList.drop i) := by
  have e : ∀ k, (s.data.toList.drop i).getD k 0 = s.get! (i + k) := fun k => by
    rw [← getD_get!, List.getD_eq_getElem?_getD, List.getD_eq_getElem?_getD, List.getElem?_drop]
  have hl : (s.data.toList.drop i).length = s.size - i := by rw [List.length_drop, Array.length_toList]; rfl
  unfold key keyL
  rw [hl, e, e, e, e]
  rfl

/-- A rune's bytes. -/
inductive Val : List UInt8 → Nat → Prop
  | one {b : UInt8} : b.toNat < 128 → Val [b] b.toNat
  | two {b0 b1 : UInt8} : 194 ≤ b0.toNat ∧ b0.toNat ≤ 223 → 128 ≤ b1.toNat ∧ b1.toNat ≤ 191 → Val [b0, b1] (b0.toNat % 32 * 64 + b1.toNat % 64)
  | three {b0 b1 b2 : UInt8} : 224 ≤ b0.toNat ∧ b0.toNat ≤ 239 → 128 ≤ b1.toNat ∧ b1.toNat ≤ 191 → 128 ≤ b2.toNat ∧ b2.toNat ≤ 191 → (b0.toNat = 224 → 160 ≤ b1.toNat) → (b0.toNat = 237 → b1.toNat ≤ 159) →
      Val [b0, b1, b2] (b0.toNat % 16 * 4096 + b1.toNat % 64 * 64 + b2.toNat % 64)
  | four {b0 b1 b2 b3 : UInt8} : 240 ≤ b0.toNat ∧ b0.toNat ≤ 244 → 128 ≤ b1.toNat ∧ b1.toNat ≤ 191 → 128 ≤ b2.toNat ∧ b2.toNat ≤ 191 → 128 ≤ b3.toNat ∧ b3.toNat ≤ 191 → (b0.toNat = 240 → 144 ≤ b1.toNat) → (b0.toNat = 244 → b1.toNat ≤ 143) →
      Val [b0, b1, b2, b3] (b0.toNat % 8 * 262144 + b1.toNat % 64 * 4096 + b2.toNat % 64 * 64 + b3.toNat % 64)

theorem Val.len {u k} (h : Val u k) : 1 ≤ u.length := by cases h <;> simp
theorem Val.lt {u k} (h : Val u k) : k < 1114112 := by cases h <;> omega

/-- Bytes that begin with a rune's. -/
theorem keyL_val {u k} (h : Val u k) (r : List UInt8) : keyL (u ++ r) = (k, u.length) := by
  unfold keyL
  cases h with
  | one h => exact keyN_good (dec_1 h) (.inr (by omega))
  | two h0 h1 => exact keyN_good (dec_2 h0 ⟨by simp, h1⟩) (.inl (by simp))
  | three h0 h1 h2 h3 h4 => exact keyN_good (dec_3 h0 ⟨by simp, h1⟩ ⟨by simp, h2⟩ h3 h4) (.inl (by simp))
  | four h0 h1 h2 h3 h4 h5 => exact keyN_good (dec_4 h0 ⟨by simp, h1⟩ ⟨by simp, h2⟩ ⟨by simp, h3⟩ h4 h5) (.inl (by simp))

/-- Bytes that begin with a stray. -/
theorem keyL_stray {b : UInt8} {t : List UInt8} (h : ∀ u k, Val u k → ¬ u <+: b :: t) : keyL (b :: t) = (b.toNat + 2000000, 1) := by
  unfold keyL
  have hb := b.toNat_lt
  have n1 : ¬ b.toNat < 128 := fun hl => h _ _ (.one hl) ⟨t, rfl⟩
  refine keyN_bad (dec_bad hb (UInt8.toNat_lt _) (UInt8.toNat_lt _) (UInt8.toNat_lt _) ?_)
  show (128 ≤ b.toNat ∧ b.toNat ≤ 193) ∨ _
  match t, h with
  | [], h => simp only [List.length_cons, List.length_nil, List.getD_cons_zero]; omega
  | [b1], h =>
    have n2 : ¬ ((194 ≤ b.toNat ∧ b.toNat ≤ 223) ∧ (128 ≤ b1.toNat ∧ b1.toNat ≤ 191)) := fun ⟨h0, h1⟩ => h _ _ (.two (b0 := b) (b1 := b1) h0 h1) ⟨[], rfl⟩
    simp only [List.length_cons, List.length_nil, List.getD_cons_zero, List.getD_cons_succ]
    omega
  | [b1, b2], h =>
    have n2 : ¬ ((194 ≤ b.toNat ∧ b.toNat ≤ 223) ∧ (128 ≤ b1.toNat ∧ b1.toNat ≤ 191)) := fun ⟨h0, h1⟩ => h _ _ (.two (b0 := b) (b1 := b1) h0 h1) ⟨[b2], rfl⟩
    have n3 : ¬ ((224 ≤ b.toNat ∧ b.toNat ≤ 239) ∧ (128 ≤ b1.toNat ∧ b1.toNat ≤ 191) ∧ (128 ≤ b2.toNat ∧ b2.toNat ≤ 191) ∧ (¬ b.toNat = 224 ∨ 160 ≤ b1.toNat) ∧ (¬ b.toNat = 237 ∨ b1.toNat ≤ 159)) := fun ⟨h0, h1, h2, h3, h4⟩ => h _ _ (.three (b0 := b) (b1 := b1) (b2 := b2) h0 h1 h2 (by omega) (by omega)) ⟨[], rfl⟩
    simp only [List.length_cons, List.length_nil, List.getD_cons_zero, List.getD_cons_succ]
    omega
  | b1 :: b2 :: b3 :: t, h =>
    have n2 : ¬ ((194 ≤ b.toNat ∧ b.toNat ≤ 223) ∧ (128 ≤ b1.toNat ∧ b1.toNat ≤ 191)) := fun ⟨h0, h1⟩ => h _ _ (.two (b0 := b) (b1 := b1) h0 h1) ⟨b2 :: b3 :: t, rfl⟩
    have n3 : ¬ ((224 ≤ b.toNat ∧ b.toNat ≤ 239) ∧ (128 ≤ b1.toNat ∧ b1.toNat ≤ 191) ∧ (128 ≤ b2.toNat ∧ b2.toNat ≤ 191) ∧ (¬ b.toNat = 224 ∨ 160 ≤ b1.toNat) ∧ (¬ b.toNat = 237 ∨ b1.toNat ≤ 159)) := fun ⟨h0, h1, h2, h3, h4⟩ => h _ _ (.three (b0 := b) (b1 := b1) (b2 := b2) h0 h1 h2 (by omega) (by omega)) ⟨b3 :: t, rfl⟩
    have n4 : ¬ ((240 ≤ b.toNat ∧ b.toNat ≤ 244) ∧ (128 ≤ b1.toNat ∧ b1.toNat ≤ 191) ∧ (128 ≤ b2.toNat ∧ b2.toNat ≤ 191) ∧ (128 ≤ b3.toNat ∧ b3.toNat ≤ 191) ∧ (¬ b.toNat = 240 ∨ 144 ≤ b1.toNat) ∧ (¬ b.toNat = 244 ∨ b1.toNat ≤ 143)) := fun ⟨h0, h1, h2, h3, h4, h5⟩ => h _ _ (.four (b0 := b) (b1 := b1) (b2 := b2) (b3 := b3) h0 h1 h2 h3 (by omega) (by omega)) ⟨t, rfl⟩
    simp only [List.length_cons, List.getD_cons_zero, List.getD_cons_succ]
    omega

/-- Bytes begin with a rune's or with a stray. -/
theorem keyL_cases (b : UInt8) (t : List UInt8) : (∃ u k r, Val u k ∧ b :: t = u ++ r ∧ keyL (b :: t) = (k, u.length)) ∨ ((∀ u k, Val u k → ¬ u <+: b :: t) ∧ keyL (b :: t) = (b.toNat + 2000000, 1)) := by
  by_cases h : ∃ u k, Val u k ∧ u <+: b :: t
  · obtain ⟨u, k, h1, r, h2⟩ := h
    exact .inl ⟨u, k, r, h1, h2.symm, by rw [← h2]; exact keyL_val h1 r⟩
  · have h' : ∀ u k, Val u k → ¬ u <+: b :: t := fun u k h1 h2 => h ⟨u, k, h1, h2⟩
    exact .inr ⟨h', keyL_stray h'⟩

theorem keyL_pos {l : List UInt8} (h : l ≠ []) : 1 ≤ (keyL l).2 := by
  cases l with
  | nil => exact absurd rfl h
  | cons b t =>
    rcases keyL_cases b t with ⟨u, k, r, h1, _, h3⟩ | ⟨_, h3⟩
    · rw [h3]; exact h1.len
    · rw [h3]; exact Nat.le_refl _

def keysL (l : List UInt8) : List Nat := if _h : l = [] then [] else (keyL l).1 :: keysL (l.drop (keyL l).2)
termination_by l.length
decreasing_by
  have := keyL_pos _h
  have : 0 < l.length := List.length_pos_iff.2 _h
  rw [List.length_drop]
  omega

theorem keysL_ne {l : List UInt8} (h : l ≠ []) : keysL l = (keyL l).1 :: keysL (l.drop (keyL l).2) := by rw [keysL, dif_neg h]
theorem keysL_nil : keysL [] = [] := by rw [keysL, dif_pos rfl]
theorem keysL_val {u k} (h : Val u k) (r : List UInt8) : keysL (u ++ r) = k :: keysL r := by
  have hl := h.len
  have hne : u ++ r ≠ [] := by intro e; have := congrArg List.length e; rw [List.length_append, List.length_nil] at this; omega
  rw [keysL, dif_neg hne, keyL_val h r]
  simp
theorem keysL_stray {b : UInt8} {t : List UInt8} (h : ∀ u k, Val u k → ¬ u <+: b :: t) : keysL (b :: t) = (b.toNat + 2000000) :: keysL t := by
  rw [keysL, dif_neg (by simp), keyL_stray h]
  simp

theorem keysAt_keysL (s : ByteArray) : ∀ i, keysAt s i = keysL (s.data.toList.drop i) := by
  intro i
  have hl : s.data.toList.length = s.size := Array.length_toList
  induction h : s.size - i using Nat.strongRecOn generalizing i with
  | _ n ih =>
    by_cases hi : i < s.size
    · have hne : s.data.toList.drop i ≠ [] := by intro e; have := congrArg List.length e; rw [List.length_drop, List.length_nil] at this; omega
      have hp := key_pos s i
      rw [keysAt_lt hi, ih (s.size - (i + (key s i).2)) (by omega) _ rfl, keysL_ne hne, ← key_keyL, List.drop_drop]
    · rw [keysAt_ge hi, List.drop_eq_nil_of_le (by omega), keysL_nil]

/-- By the bytes' parts. -/
theorem bytesInd {P : List UInt8 → Prop} (h0 : P []) (h1 : ∀ u k r, Val u k → P r → P (u ++ r)) (h2 : ∀ b t, (∀ u k, Val u k → ¬ u <+: b :: t) → P t → P (b :: t)) : ∀ l, P l := by
  intro l
  induction h : l.length using Nat.strongRecOn generalizing l with
  | _ n ih =>
    cases l with
    | nil => exact h0
    | cons b t =>
      rcases keyL_cases b t with ⟨u, k, r, h3, h4, _⟩ | ⟨h3, _⟩
      · rw [h4]
        have hl := h3.len
        have := congrArg List.length h4
        rw [List.length_append] at this
        exact h1 u k r h3 (ih r.length (by omega) r rfl)
      · exact h2 b t h3 (ih t.length (by rw [← h]; simp) t rfl)

/-- A key's bytes. -/
def encK (k : Nat) : List UInt8 :=
  if 2000000 ≤ k then [UInt8.ofNat (k - 2000000)] else if k < 128 then [UInt8.ofNat k]
  else if k < 2048 then [UInt8.ofNat (192 + k / 64), UInt8.ofNat (128 + k % 64)]
  else if k < 65536 then [UInt8.ofNat (224 + k / 4096), UInt8.ofNat (128 + k / 64 % 64), UInt8.ofNat (128 + k % 64)]
  else [UInt8.ofNat (240 + k / 262144), UInt8.ofNat (128 + k / 4096 % 64), UInt8.ofNat (128 + k / 64 % 64), UInt8.ofNat (128 + k % 64)]

theorem u8_of {b : UInt8} {n : Nat} (h : n % 256 = b.toNat) : UInt8.ofNat n = b := by
  apply UInt8.toNat_inj.1
  rw [UInt8.toNat_ofNat']
  exact h

theorem encK_val {u k} (h : Val u k) : encK k = u := by
  have hk := h.lt
  unfold encK
  rw [if_neg (by omega)]
  cases h with
  | @one b h => rw [if_pos h, u8_of (b := b) (by omega)]
  | @two b0 b1 h0 h1 => rw [if_neg (by omega), if_pos (by omega), u8_of (b := b0) (by omega), u8_of (b := b1) (by omega)]
  | @three b0 b1 b2 h0 h1 h2 h3 h4 => rw [if_neg (by omega), if_neg (by omega), if_pos (by omega), u8_of (b := b0) (by omega), u8_of (b := b1) (by omega), u8_of (b := b2) (by omega)]
  | @four b0 b1 b2 b3 h0 h1 h2 h3 h4 h5 =>
    rw [if_neg (by omega), if_neg (by omega), if_neg (by omega), u8_of (b := b0) (by omega), u8_of (b := b1) (by omega), u8_of (b := b2) (by omega), u8_of (b := b3) (by omega)]

theorem encK_stray (b : UInt8) : encK (b.toNat + 2000000) = [b] := by
  unfold encK
  rw [if_pos (by omega), u8_of (b := b) (by have := b.toNat_lt; omega)]

/-- What is no surrogate and not too great is a rune. -/
def okRune (k : Nat) : Prop := k < 55296 ∨ (57343 < k ∧ k < 1114112)

theorem Val.ok {u k} (h : Val u k) : okRune k := by unfold okRune; cases h <;> omega

def bytesK (ks : List Nat) : List UInt8 := ks.flatMap encK
theorem bytesK_cons (k : Nat) (l : List Nat) : bytesK (k :: l) = encK k ++ bytesK l := by unfold bytesK; rw [List.flatMap_cons]

theorem bytes_keys : ∀ l, bytesK (keysL l) = l := by
  refine bytesInd (by rw [keysL_nil]; rfl) (fun u k r h ih => ?_) (fun b t h ih => ?_)
  · rw [keysL_val h, bytesK_cons, encK_val h, ih]
  · rw [keysL_stray h, bytesK_cons, encK_stray, ih]; rfl

theorem keysL_inj {a b : List UInt8} (h : keysL a = keysL b) : a = b := by rw [← bytes_keys a, h, bytes_keys b]

theorem keysAt_inj {a b : ByteArray} : keysAt a 0 = keysAt b 0 ↔ a = b := by
  refine ⟨fun h => ?_, fun h => by rw [h]⟩
  rw [keysAt_keysL, keysAt_keysL] at h
  have := keysL_inj h
  rw [List.drop_zero, List.drop_zero] at this
  cases a; cases b; congr 1; exact Array.toList_inj.1 this

-- Capitals.
def ordL : List Nat → List Nat → Int
  | [], [] => 0
  | [], _ :: _ => -1
  | _ :: _, [] => 1
  | a :: x, b :: y => if a < b then -1 else if b < a then 1 else ordL x y

theorem ordL_zero : ∀ x y, ordL x y = 0 ↔ x = y
  | [], [] => ⟨fun _ => rfl, fun _ => rfl⟩
  | [], _ :: _ => ⟨fun h => (by cases h), fun h => (by cases h)⟩
  | _ :: _, [] => ⟨fun h => (by cases h), fun h => (by cases h)⟩
  | a :: x, b :: y => by
    simp only [ordL]
    by_cases h1 : a < b
    · rw [if_pos h1]; exact ⟨fun h => (by cases h), fun h => (by cases h; omega)⟩
    · by_cases h2 : b < a
      · rw [if_neg h1, if_pos h2]; exact ⟨fun h => (by cases h), fun h => (by cases h; omega)⟩
      · rw [if_neg h1, if_neg h2, ordL_zero x y]
        have : a = b := by omega
        subst this
        simp

end Go.Proofs.YtmdfpifcghmpfaaGreatDoor
