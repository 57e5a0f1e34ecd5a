/- strings.Repeat of a zero byte, off the library's shelf. -/
import Derived.Test.YtboohfijacjhjaaDoorS5
import Derived.Shelf.Strings.Repeat
set_option linter.unusedVariables false
namespace Go.Proofs.YtboohfijacjhjaaDoor
open Go.Shelf Go.RowKit Go.Lib Go.Ab

def renlaysRep : Go.Shelf.Ren := ⟨fun | 99 => 151 | 105 => 146 | 165 => 152 | 166 => 115 | 169 => 117 | 170 => 153 | 206 => 158 | 212 => 150 | 240 => 134 | 241 => 159 | 263 => 156 | 264 => 157 | 276 => 144 | 277 => 160 | n => n, fun | 0 => 0 | 3 => 3 | 4 => 4 | 5 => 5 | 9 => 9 | 20 => 20 | 37 => 187 | 46 => 75 | 51 => 22 | 53 => 23 | 70 => 197 | 72 => 199 | 75 => 201 | 76 => 202 | 80 => 205 | 109 => 250 | 127 => 220 | 146 => 255 | 148 => 257 | 164 => 237 | n => n, fun | n => n⟩
theorem laysRep : Lays.n105 Tryd.prog renlaysRep := {
  mixed := by kernel_rfl
  f99 := Tryd.func151.trans (congrArg some (by kernel_rfl))
  f105 := Tryd.func146.trans (congrArg some (by kernel_rfl))
  f165 := Tryd.func152.trans (congrArg some (by kernel_rfl))
  f166 := Tryd.func115.trans (congrArg some (by kernel_rfl))
  f169 := Tryd.func117.trans (congrArg some (by kernel_rfl))
  f170 := Tryd.func153.trans (congrArg some (by kernel_rfl))
  f206 := Tryd.func158.trans (congrArg some (by kernel_rfl))
  f212 := Tryd.func150.trans (congrArg some (by kernel_rfl))
  f240 := Tryd.func134.trans (congrArg some (by kernel_rfl))
  f241 := Tryd.func159.trans (congrArg some (by kernel_rfl))
  f263 := Tryd.func156.trans (congrArg some (by kernel_rfl))
  f264 := Tryd.func157.trans (congrArg some (by kernel_rfl))
  f276 := Tryd.func144.trans (congrArg some (by kernel_rfl))
  f277 := Tryd.func160.trans (congrArg some (by kernel_rfl))
  t0 := Tryd.underlying0
  a0 := Tryd.isAgg0
  z0 := Tryd.sizeOf0
  v0 := Tryd.zeroValue0
  t3 := Tryd.underlying3
  a3 := Tryd.isAgg3
  z3 := Tryd.sizeOf3
  v3 := Tryd.zeroValue3
  t4 := Tryd.underlying4
  a4 := Tryd.isAgg4
  z4 := Tryd.sizeOf4
  v4 := Tryd.zeroValue4
  t5 := Tryd.underlying5
  a5 := Tryd.isAgg5
  z5 := Tryd.sizeOf5
  v5 := Tryd.zeroValue5
  t9 := Tryd.underlying9
  a9 := Tryd.isAgg9
  z9 := Tryd.sizeOf9
  v9 := Tryd.zeroValue9
  t20 := Tryd.underlying20
  a20 := Tryd.isAgg20
  z20 := Tryd.sizeOf20
  v20 := Tryd.zeroValue20
  t37 := Tryd.underlying187
  a37 := Tryd.isAgg187
  z37 := Tryd.sizeOf187
  v37 := Tryd.zeroValue187
  t46 := Tryd.underlying75
  a46 := Tryd.isAgg75
  z46 := Tryd.sizeOf75
  v46 := Tryd.zeroValue75
  t51 := Tryd.underlying22
  a51 := Tryd.isAgg22
  z51 := Tryd.sizeOf22
  v51 := Tryd.zeroValue22
  t53 := Tryd.underlying23
  a53 := Tryd.isAgg23
  z53 := Tryd.sizeOf23
  v53 := Tryd.zeroValue23
  t70 := Tryd.underlying197
  a70 := Tryd.isAgg197
  z70 := Tryd.sizeOf197
  v70 := Tryd.zeroValue197
  t72 := Tryd.underlying199
  a72 := Tryd.isAgg199
  z72 := Tryd.sizeOf199
  v72 := Tryd.zeroValue199
  t75 := Tryd.underlying201
  a75 := Tryd.isAgg201
  z75 := Tryd.sizeOf201
  v75 := Tryd.zeroValue201
  t76 := Tryd.underlying202
  a76 := Tryd.isAgg202
  z76 := Tryd.sizeOf202
  v76 := Tryd.zeroValue202
  t109 := Tryd.underlying250
  a109 := Tryd.isAgg250
  z109 := Tryd.sizeOf250
  v109 := Tryd.zeroValue250
  t127 := Tryd.underlying220
  a127 := Tryd.isAgg220
  z127 := Tryd.sizeOf220
  v127 := Tryd.zeroValue220
  t146 := Tryd.underlying255
  a146 := Tryd.isAgg255
  z146 := Tryd.sizeOf255
  v146 := Tryd.zeroValue255
  t148 := Tryd.underlying257
  a148 := Tryd.isAgg257
  z148 := Tryd.sizeOf257
  v148 := Tryd.zeroValue257
  t164 := Tryd.underlying237
  a164 := Tryd.isAgg237
  z164 := Tryd.sizeOf237
  v164 := Tryd.zeroValue237 }

theorem extraRep : Builder.Extra Tryd.prog renlaysRep := {
  sizeBuilder := by kernel_rfl
  liesBuilder := by kernel_rfl
  t5 := Tryd.underlying5
  a5 := Tryd.isAgg5
  z5 := Tryd.sizeOf5
  v5 := Tryd.zeroValue5
  infoByte := by kernel_rfl
  cellsByte := by kernel_rfl
  sizeByte := by kernel_rfl
  neB5 := by decide }

theorem rep_zero : ∀ k, Lib.repeatL [0] k = zeros k
  | 0 => rfl
  | k + 1 => by rw [Lib.repeatL, rep_zero k]; rfl

theorem St.below {B : Base} {S μ G w} (st : St B S μ G w) {w' : World} (hb : RowKit.Below w.heap.size w w') : St B S μ G w' :=
  st.quiet ⟨hb.os, hb.tape, hb.output, hb.size, fun k hk _ => hb.block k hk⟩

theorem repeat_c {k : Nat} (hk : k ≤ 1000) : CallR cx 146 [st ⟨#[0]⟩, i64 ((k : Nat) : Int)] [] fun r S => r = st (ofL8 (zeros k)) ∧ S = [] := by
  refine callR_raw (c := cx) Tryd.func146 (by kernel_rfl) rfl fun μ G w vals st0 hv => ?_
  cases hv with
  | cons h1 h2 =>
  cases h2 with
  | cons h2 h3 =>
  cases h3
  obtain rfl := (VA.d_iff.1 h1).str_inv
  obtain rfl := (VA.d_iff.1 h2).int_inv
  have fin : ∀ (b : ByteArray) (w' : World), b = ofL8 (zeros k) → Below w.heap.size w w' → ∃ v r S' μ' G', Ending.returned (Value.string b) = .returned v ∧ (r = st (ofL8 (zeros k)) ∧ S' = []) ∧ St (base cx [] μ G w) S' μ' G' w' ∧ RA μ' S'.length w' G' r v := by
    rintro b w' rfl hb
    exact ⟨_, st (ofL8 (zeros k)), [], μ, G, rfl, ⟨rfl, rfl⟩, St.below st0 hb, VA.d_iff.2 ⟨.str .nil, rfl⟩⟩
  have hz : (⟨(Lib.repeatL (⟨#[0]⟩ : ByteArray).data.toList k).toArray⟩ : ByteArray) = ofL8 (zeros k) := by
    show (⟨(Lib.repeatL [0] k).toArray⟩ : ByteArray) = _
    rw [rep_zero]; rfl
  match k, hk with
  | 0, _ =>
    refine (Any.strings_Repeat_zero laysRep ⟨#[0]⟩ w).mono ?_
    rintro e w' ⟨rfl, rfl⟩
    exact fin _ _ rfl (Below.refl _ _)
  | 1, _ =>
    refine (Any.strings_Repeat_one laysRep ⟨#[0]⟩ w).mono ?_
    rintro e w' ⟨rfl, rfl⟩
    exact fin _ _ rfl (Below.refl _ _)
  | k + 2, hk =>
    refine (Any.strings_Repeat_main laysRep extraRep ⟨#[0]⟩ (k + 2) w (by omega) (by omega) (by show 1 * (k + 2) ≤ _; omega) (by decide)).mono ?_
    rintro e w' ⟨rfl, hb⟩
    exact fin _ _ hz hb
end Go.Proofs.YtboohfijacjhjaaDoor
