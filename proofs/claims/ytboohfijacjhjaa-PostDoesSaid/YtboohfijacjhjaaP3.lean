/- What one statement needs of the texts, by slice.py. -/
import Derived.Test.YtboohfijacjhjaaP2

/- Calls: what they are, their bytes, and what the bytes tell (plain). -/
set_option linter.unusedVariables false
namespace Go.Proofs.Ytboohfijacjhjaa
open Go.Ab Go.RowKit

/-- A signature. -/
structure Sg where
  ix : Int
  pa : List ByteArray
  ot : List ByteArray
  pt : List ByteArray
/-- An update. -/
structure Up where
  home : Nat
  old : ByteArray
  new : ByteArray
  sig : Sg
/-- A stop. -/
structure Sp where
  home : Nat
  key : ByteArray
  wat : Int
  sig : Sg
/-- A letter. -/
structure Le where
  frm : Nat
  non : Nat
  too : Nat
  snd : ByteArray
  rcv : ByteArray
  bod : ByteArray

def dgD (b : ByteArray) : D := .arr 32 1 (D.bytes b)
def dgs (l : List ByteArray) : List D := l.map dgD
def Sg.d (s : Sg) : D := .agg [.int .i64 s.ix, .sl 32 (dgs s.pa), .sl 32 (dgs s.ot), .sl 32 (dgs s.pt)]
def Up.d (u : Up) : D := .agg [.int .u32 u.home, dgD u.old, dgD u.new, u.sig.d]
def Sp.d (u : Sp) : D := .agg [.int .u32 u.home, dgD u.key, .int .i64 u.wat, u.sig.d]
def Le.d (l : Le) : D := .agg [.int .u32 l.frm, .int .u32 l.non, .int .u32 l.too, .str l.snd, .str l.rcv, .str l.bod]

/-- So many digests, of their size. -/
def dgF (l : List ByteArray) : Prop := l.length ≤ 100 ∧ ∀ b ∈ l, b.size = 32
def tx (s : ByteArray) : Prop := s.size ≤ 1000
def Sg.fit (s : Sg) : Prop := (-9223372036854775808 ≤ s.ix ∧ s.ix < 9223372036854775808) ∧ dgF s.pa ∧ dgF s.ot ∧ dgF s.pt
def Up.fit (u : Up) : Prop := u.home < 4294967296 ∧ u.old.size = 32 ∧ u.new.size = 32 ∧ u.sig.fit
def Sp.fit (u : Sp) : Prop := u.home < 4294967296 ∧ u.key.size = 32 ∧ (-9223372036854775808 ≤ u.wat ∧ u.wat < 9223372036854775808) ∧ u.sig.fit
def Le.fit (l : Le) : Prop := l.frm < 4294967296 ∧ l.non < 4294967296 ∧ l.too < 4294967296 ∧ tx l.snd ∧ tx l.rcv ∧ tx l.bod

def catB : List ByteArray → ByteArray
  | [] => .empty
  | b :: l => b ++ catB l
def dgsB (l : List ByteArray) : ByteArray := bigB l.length 4 ++ catB l
/-- What four bytes tell of a number. -/
def low4 (n : Int) : Nat := (n % 4294967296).toNat
def sigB (s : Sg) : ByteArray := bigB (low4 s.ix) 4 ++ dgsB s.pa ++ dgsB s.ot ++ dgsB s.pt
def upB (u : Up) : ByteArray := bigB u.home 4 ++ u.old ++ u.new ++ sigB u.sig
def spB (u : Sp) : ByteArray := bigB u.home 4 ++ u.key ++ bigB (low4 u.wat) 4 ++ sigB u.sig
def leB (l : Le) : ByteArray := bigB l.frm 4 ++ bigB l.non 4 ++ bigB l.too 4 ++ textB l.snd ++ textB l.rcv ++ textB l.bod

/-- A call, nothing, a text that is none. -/
inductive Cl where
  | pay (a b : ByteArray) (n k : Nat) (g : Sg)
  | send (a : ByteArray) (o : Nat) (t b : ByteArray) (n k : Nat) (g : Sg)
  | say (a b : ByteArray) (k : Nat) (g : Sg)
  | tell (a b : ByteArray) (k : Nat) (g : Sg)
  | submit (u : Up)
  | improp (u : Up) (c : ByteArray)
  | double (u v : Up) (c : ByteArray)
  | accept (u : Up)
  | doubled (u v : Up)
  | halt (s : Sp)
  | prove (l : ByteArray) (i : Nat) (br : List ByteArray)
  | process (l : Le)
  | no
  | word

def Cl.tag : Cl → Nat
  | .pay .. => 1 | .send .. => 2 | .say .. => 3 | .tell .. => 4 | .submit .. => 5 | .improp .. => 6 | .double .. => 7 | .accept .. => 8
  | .doubled .. => 9 | .halt .. => 10 | .prove .. => 11 | .process .. => 12 | .no => 0 | .word => 0

/-- What stands behind the tag. -/
def Cl.tail : Cl → ByteArray
  | .pay a b n k g => textB a ++ textB b ++ bigB n 8 ++ bigB k 8 ++ sigB g
  | .send a o t b n k g => textB a ++ bigB o 4 ++ textB t ++ textB b ++ bigB n 8 ++ bigB k 8 ++ sigB g
  | .say a b k g => textB a ++ textB b ++ bigB k 8 ++ sigB g
  | .tell a b k g => textB a ++ textB b ++ bigB k 8 ++ sigB g
  | .submit u => textB (upB u)
  | .improp u c => textB (upB u) ++ textB c
  | .double u v c => textB (upB u) ++ textB (upB v) ++ textB c
  | .accept u => textB (upB u)
  | .doubled u v => textB (upB u) ++ textB (upB v)
  | .halt s => textB (spB s)
  | .prove l i br => l ++ bigB i 4 ++ dgsB br
  | .process l => textB (leB l)
  | .no => .empty
  | .word => .empty

/-- What is told beside the bytes. -/
def Cl.idx : Cl → Int × Int
  | .pay _ _ _ _ g => (g.ix, 0)
  | .send _ _ _ _ _ _ g => (g.ix, 0)
  | .say _ _ _ g => (g.ix, 0)
  | .tell _ _ _ g => (g.ix, 0)
  | .submit u => (u.sig.ix, 0)
  | .improp u _ => (u.sig.ix, 0)
  | .double u v _ => (u.sig.ix, v.sig.ix)
  | .accept u => (u.sig.ix, 0)
  | .doubled u v => (u.sig.ix, v.sig.ix)
  | .halt s => (s.sig.ix, s.wat)
  | _ => (0, 0)

def Cl.fit : Cl → Prop
  | .pay a b n k g => tx a ∧ tx b ∧ n < 18446744073709551616 ∧ k < 18446744073709551616 ∧ g.fit
  | .send a o t b n k g => tx a ∧ o < 4294967296 ∧ tx t ∧ tx b ∧ n < 18446744073709551616 ∧ k < 18446744073709551616 ∧ g.fit
  | .say a b k g => tx a ∧ tx b ∧ k < 18446744073709551616 ∧ g.fit
  | .tell a b k g => tx a ∧ tx b ∧ k < 18446744073709551616 ∧ g.fit
  | .submit u => u.fit
  | .improp u c => u.fit ∧ tx c
  | .double u v c => u.fit ∧ v.fit ∧ tx c
  | .accept u => u.fit
  | .doubled u v => u.fit ∧ v.fit
  | .halt s => s.fit
  | .prove l i br => l.size = 32 ∧ i < 4294967296 ∧ dgF br
  | .process l => l.fit
  | .no => True
  | .word => True

theorem app_inj {a b x y : ByteArray} (h : a ++ x = b ++ y) (hs : a.size = b.size) : a = b ∧ x = y := by
  have e : a.data.toList ++ x.data.toList = b.data.toList ++ y.data.toList := by
    have := congrArg (fun z => z.data.toList) h
    simpa [ByteArray.data_append] using this
  have hl : a.data.toList.length = b.data.toList.length := by rw [Array.length_toList, Array.length_toList]; exact hs
  obtain ⟨e1, e2⟩ := List.append_inj e hl
  exact ⟨ba_ext e1, ba_ext e2⟩

theorem big_inj {n m k : Nat} {x y : ByteArray} (hk : k ≤ 8) (hn : n < 256 ^ k) (hm : m < 256 ^ k) (h : bigB n k ++ x = bigB m k ++ y) : n = m ∧ x = y := by
  obtain ⟨e1, e2⟩ := app_inj h (by rw [bigB_size, bigB_size])
  have e3 : be (bigB n k).data.toList 0 = be (bigB m k).data.toList 0 := by rw [e1]
  rw [be_bigB hk hn, be_bigB hk hm] at e3
  exact ⟨e3, e2⟩

theorem big8_inj {n m : Nat} {x y : ByteArray} (hn : n < 18446744073709551616) (hm : m < 18446744073709551616) (h : bigB n 8 ++ x = bigB m 8 ++ y) : n = m ∧ x = y := big_inj (k := 8) (by decide) hn hm h
theorem big4_inj {n m : Nat} {x y : ByteArray} (hn : n < 4294967296) (hm : m < 4294967296) (h : bigB n 4 ++ x = bigB m 4 ++ y) : n = m ∧ x = y := big_inj (k := 4) (by decide) hn hm h

theorem text_inj {a b x y : ByteArray} (ha : a.size < 4294967296) (hb : b.size < 4294967296) (h : textB a ++ x = textB b ++ y) : a = b ∧ x = y := by
  unfold textB at h
  rw [ByteArray.append_assoc, ByteArray.append_assoc] at h
  obtain ⟨e1, e2⟩ := big4_inj ha hb h
  exact app_inj e2 e1

theorem cat_inj : ∀ {l m : List ByteArray} {x y : ByteArray}, (∀ b ∈ l, b.size = 32) → (∀ b ∈ m, b.size = 32) → l.length = m.length → catB l ++ x = catB m ++ y → l = m ∧ x = y
  | [], [], x, y, _, _, _, h => by
    unfold catB at h
    exact ⟨rfl, by rwa [ByteArray.empty_append, ByteArray.empty_append] at h⟩
  | a :: l, b :: m, x, y, hl, hm, hs, h => by
    unfold catB at h
    rw [ByteArray.append_assoc, ByteArray.append_assoc] at h
    obtain ⟨e1, e2⟩ := app_inj h (by rw [hl a List.mem_cons_self, hm b List.mem_cons_self])
    obtain ⟨e3, e4⟩ := cat_inj (fun b hb => hl b (List.mem_cons_of_mem _ hb)) (fun b hb => hm b (List.mem_cons_of_mem _ hb)) (by simpa using hs) e2
    exact ⟨by rw [e1, e3], e4⟩

theorem dgs_inj {l m : List ByteArray} {x y : ByteArray} (hl : dgF l) (hm : dgF m) (h : dgsB l ++ x = dgsB m ++ y) : l = m ∧ x = y := by
  unfold dgsB at h
  rw [ByteArray.append_assoc, ByteArray.append_assoc] at h
  obtain ⟨h1, h2⟩ := hl
  obtain ⟨h3, h4⟩ := hm
  obtain ⟨e1, e2⟩ := big4_inj (by omega) (by omega) h
  exact cat_inj h2 h4 e1 e2

theorem low4_lt (n : Int) : low4 n < 4294967296 := by unfold low4; omega

theorem sig_inj {s t : Sg} {x y : ByteArray} (hs : s.fit) (ht : t.fit) (hi : low4 s.ix = low4 t.ix → s.ix = t.ix) (h : sigB s ++ x = sigB t ++ y) : s = t ∧ x = y := by
  obtain ⟨i, p, o, q⟩ := s
  obtain ⟨i', p', o', q'⟩ := t
  obtain ⟨_, h1, h2, h3⟩ := hs
  obtain ⟨_, h4, h5, h6⟩ := ht
  simp only at hi h1 h2 h3 h4 h5 h6
  unfold sigB at h
  simp only [ByteArray.append_assoc] at h
  obtain ⟨e0, k1⟩ := big4_inj (low4_lt _) (low4_lt _) h
  obtain rfl := hi e0
  obtain ⟨e1, k2⟩ := dgs_inj h1 h4 k1
  obtain ⟨e2, k3⟩ := dgs_inj h2 h5 k2
  obtain ⟨e3, k4⟩ := dgs_inj h3 h6 k3
  subst e1 e2 e3
  exact ⟨rfl, k4⟩

theorem up_inj {u v : Up} {x y : ByteArray} (hu : u.fit) (hv : v.fit) (hi : low4 u.sig.ix = low4 v.sig.ix → u.sig.ix = v.sig.ix) (h : upB u ++ x = upB v ++ y) : u = v ∧ x = y := by
  obtain ⟨a, b, c, s⟩ := u
  obtain ⟨a', b', c', s'⟩ := v
  obtain ⟨h1, h2, h3, h4⟩ := hu
  obtain ⟨h5, h6, h7, h8⟩ := hv
  simp only at hi h1 h2 h3 h4 h5 h6 h7 h8
  unfold upB at h
  simp only [ByteArray.append_assoc] at h
  obtain ⟨e1, k1⟩ := big4_inj h1 h5 h
  obtain ⟨e2, k1⟩ := app_inj k1 (by rw [h2, h6])
  obtain ⟨e3, k1⟩ := app_inj k1 (by rw [h3, h7])
  obtain ⟨e4, k2⟩ := sig_inj h4 h8 hi k1
  subst e1 e2 e3 e4
  exact ⟨rfl, k2⟩

theorem up_inj' {u v : Up} (hu : u.fit) (hv : v.fit) (hi : low4 u.sig.ix = low4 v.sig.ix → u.sig.ix = v.sig.ix) (h : upB u = upB v) : u = v :=
  (up_inj (x := .empty) (y := .empty) hu hv hi (by rw [h])).1

theorem sp_inj' {u v : Sp} (hu : u.fit) (hv : v.fit) (hi : low4 u.sig.ix = low4 v.sig.ix → u.sig.ix = v.sig.ix) (hw : low4 u.wat = low4 v.wat → u.wat = v.wat) (h : spB u = spB v) : u = v := by
  have h : spB u ++ .empty = spB v ++ .empty := by rw [h]
  obtain ⟨a, b, c, s⟩ := u
  obtain ⟨a', b', c', s'⟩ := v
  obtain ⟨h1, h2, h3, h4⟩ := hu
  obtain ⟨h5, h6, h7, h8⟩ := hv
  simp only at hi hw h1 h2 h3 h4 h5 h6 h7 h8
  unfold spB at h
  simp only [ByteArray.append_assoc] at h
  obtain ⟨e1, k1⟩ := big4_inj h1 h5 h
  obtain ⟨e2, k1⟩ := app_inj k1 (by rw [h2, h6])
  obtain ⟨e0, k2⟩ := big4_inj (low4_lt _) (low4_lt _) k1
  obtain rfl := hw e0
  obtain ⟨e4, k3⟩ := sig_inj h4 h8 hi k2
  subst e1 e2 e4
  rfl

theorem cat_size : ∀ {l : List ByteArray}, (∀ b ∈ l, b.size = 32) → (catB l).size = 32 * l.length
  | [], _ => rfl
  | a :: l, h => by
    unfold catB
    rw [ByteArray.size_append, h a List.mem_cons_self, cat_size fun b hb => h b (List.mem_cons_of_mem _ hb), List.length_cons]
    omega

theorem dgsB_size {l : List ByteArray} (h : dgF l) : (dgsB l).size ≤ 4 + 3200 := by
  unfold dgsB
  rw [ByteArray.size_append, bigB_size, cat_size h.2]
  have := h.1
  omega

theorem sigB_size {s : Sg} (h : s.fit) : (sigB s).size ≤ 10000 := by
  unfold sigB
  have h1 := dgsB_size h.2.1
  have h2 := dgsB_size h.2.2.1
  have h3 := dgsB_size h.2.2.2
  simp only [ByteArray.size_append, bigB_size]
  omega

theorem upB_size {u : Up} (h : u.fit) : (upB u).size ≤ 20000 := by
  unfold upB
  have h1 := sigB_size h.2.2.2
  have h2 := h.2.1
  have h3 := h.2.2.1
  simp only [ByteArray.size_append, bigB_size]
  omega

theorem spB_size {u : Sp} (h : u.fit) : (spB u).size ≤ 20000 := by
  unfold spB
  have h1 := sigB_size h.2.2.2
  have h2 := h.2.1
  simp only [ByteArray.size_append, bigB_size]
  omega

theorem leB_size {l : Le} (h : l.fit) : (leB l).size ≤ 20000 := by
  unfold leB
  obtain ⟨_, _, _, h1, h2, h3⟩ := h
  unfold tx at h1 h2 h3
  simp only [ByteArray.size_append, bigB_size, textB_size]
  omega

theorem app_e {a b : ByteArray} (h : a = b) : a ++ ByteArray.empty = b ++ ByteArray.empty := by rw [h]

/-- Of one tag, calls of one tail and one index are one (but a letter's). -/
theorem tail_inj {c d : Cl} (hc : c.fit) (hd : d.fit) (ht : c.tag = d.tag) (h0 : 0 < c.tag) (h12 : c.tag < 12) (h : c.tail = d.tail) (hi : (low4 c.idx.1 = low4 d.idx.1 → c.idx.1 = d.idx.1) ∧ (low4 c.idx.2 = low4 d.idx.2 → c.idx.2 = d.idx.2)) : c = d := by
  have hh := app_e h
  have tl : ∀ {s : ByteArray}, tx s → s.size < 4294967296 := fun {s} hs => Nat.lt_of_le_of_lt hs (by decide)
  have ul : ∀ {u : Up}, u.fit → (upB u).size < 4294967296 := fun {u} hs => Nat.lt_of_le_of_lt (upB_size hs) (by decide)
  cases c with
  | no => exact absurd h0 (Nat.lt_irrefl 0)
  | word => exact absurd h0 (Nat.lt_irrefl 0)
  | process l => exact absurd h12 (Nat.lt_irrefl 12)
  | pay a b n k g =>
    cases d <;> first | (simp [Cl.tag] at ht; done) | skip
    rename_i a' b' n' k' g'
    obtain ⟨c1, c2, c3, c4, c5⟩ := hc
    obtain ⟨d1, d2, d3, d4, d5⟩ := hd
    have gi : low4 g.ix = low4 g'.ix → g.ix = g'.ix := hi.1
    simp only [Cl.tail, ByteArray.append_assoc] at hh
    obtain ⟨rfl, k1⟩ := text_inj (tl c1) (tl d1) hh
    obtain ⟨rfl, k2⟩ := text_inj (tl c2) (tl d2) k1
    obtain ⟨rfl, k3⟩ := big8_inj c3 d3 k2
    obtain ⟨rfl, k4⟩ := big8_inj c4 d4 k3
    obtain ⟨rfl, k5⟩ := sig_inj c5 d5 gi k4
    rfl
  | send a o t b n k g =>
    cases d <;> first | (simp [Cl.tag] at ht; done) | skip
    rename_i a' o' t' b' n' k' g'
    obtain ⟨c1, c0, c6, c2, c3, c4, c5⟩ := hc
    obtain ⟨d1, d0, d6, d2, d3, d4, d5⟩ := hd
    have gi : low4 g.ix = low4 g'.ix → g.ix = g'.ix := hi.1
    simp only [Cl.tail, ByteArray.append_assoc] at hh
    obtain ⟨rfl, k1⟩ := text_inj (tl c1) (tl d1) hh
    obtain ⟨rfl, k2⟩ := big4_inj c0 d0 k1
    obtain ⟨rfl, k3⟩ := text_inj (tl c6) (tl d6) k2
    obtain ⟨rfl, k4⟩ := text_inj (tl c2) (tl d2) k3
    obtain ⟨rfl, k5⟩ := big8_inj c3 d3 k4
    obtain ⟨rfl, k6⟩ := big8_inj c4 d4 k5
    obtain ⟨rfl, k7⟩ := sig_inj c5 d5 gi k6
    rfl
  | say a b k g =>
    cases d <;> first | (simp [Cl.tag] at ht; done) | skip
    rename_i a' b' k' g'
    obtain ⟨c1, c2, c4, c5⟩ := hc
    obtain ⟨d1, d2, d4, d5⟩ := hd
    have gi : low4 g.ix = low4 g'.ix → g.ix = g'.ix := hi.1
    simp only [Cl.tail, ByteArray.append_assoc] at hh
    obtain ⟨rfl, k1⟩ := text_inj (tl c1) (tl d1) hh
    obtain ⟨rfl, k2⟩ := text_inj (tl c2) (tl d2) k1
    obtain ⟨rfl, k3⟩ := big8_inj c4 d4 k2
    obtain ⟨rfl, k4⟩ := sig_inj c5 d5 gi k3
    rfl
  | tell a b k g =>
    cases d <;> first | (simp [Cl.tag] at ht; done) | skip
    rename_i a' b' k' g'
    obtain ⟨c1, c2, c4, c5⟩ := hc
    obtain ⟨d1, d2, d4, d5⟩ := hd
    have gi : low4 g.ix = low4 g'.ix → g.ix = g'.ix := hi.1
    simp only [Cl.tail, ByteArray.append_assoc] at hh
    obtain ⟨rfl, k1⟩ := text_inj (tl c1) (tl d1) hh
    obtain ⟨rfl, k2⟩ := text_inj (tl c2) (tl d2) k1
    obtain ⟨rfl, k3⟩ := big8_inj c4 d4 k2
    obtain ⟨rfl, k4⟩ := sig_inj c5 d5 gi k3
    rfl
  | submit u =>
    cases d <;> first | (simp [Cl.tag] at ht; done) | skip
    rename_i u'
    have gi : low4 u.sig.ix = low4 u'.sig.ix → u.sig.ix = u'.sig.ix := hi.1
    simp only [Cl.tail, ByteArray.append_assoc] at hh
    obtain ⟨k1, _⟩ := text_inj (ul hc) (ul hd) hh
    rw [up_inj' hc hd gi k1]
  | improp u x =>
    cases d <;> first | (simp [Cl.tag] at ht; done) | skip
    rename_i u' x'
    have gi : low4 u.sig.ix = low4 u'.sig.ix → u.sig.ix = u'.sig.ix := hi.1
    simp only [Cl.tail, ByteArray.append_assoc] at hh
    obtain ⟨g, k1⟩ := text_inj (ul hc.1) (ul hd.1) hh
    obtain ⟨rfl, _⟩ := text_inj (tl hc.2) (tl hd.2) k1
    rw [up_inj' hc.1 hd.1 gi g]
  | double u v x =>
    cases d <;> first | (simp [Cl.tag] at ht; done) | skip
    rename_i u' v' x'
    have hi2 : low4 v.sig.ix = low4 v'.sig.ix → v.sig.ix = v'.sig.ix := hi.2
    have gi : low4 u.sig.ix = low4 u'.sig.ix → u.sig.ix = u'.sig.ix := hi.1
    simp only [Cl.tail, ByteArray.append_assoc] at hh
    obtain ⟨g, k1⟩ := text_inj (ul hc.1) (ul hd.1) hh
    obtain ⟨g2, k2⟩ := text_inj (ul hc.2.1) (ul hd.2.1) k1
    obtain ⟨rfl, _⟩ := text_inj (tl hc.2.2) (tl hd.2.2) k2
    rw [up_inj' hc.1 hd.1 gi g, up_inj' hc.2.1 hd.2.1 hi2 g2]
  | accept u =>
    cases d <;> first | (simp [Cl.tag] at ht; done) | skip
    rename_i u'
    have gi : low4 u.sig.ix = low4 u'.sig.ix → u.sig.ix = u'.sig.ix := hi.1
    simp only [Cl.tail, ByteArray.append_assoc] at hh
    obtain ⟨k1, _⟩ := text_inj (ul hc) (ul hd) hh
    rw [up_inj' hc hd gi k1]
  | doubled u v =>
    cases d <;> first | (simp [Cl.tag] at ht; done) | skip
    rename_i u' v'
    have hi2 : low4 v.sig.ix = low4 v'.sig.ix → v.sig.ix = v'.sig.ix := hi.2
    have gi : low4 u.sig.ix = low4 u'.sig.ix → u.sig.ix = u'.sig.ix := hi.1
    simp only [Cl.tail, ByteArray.append_assoc] at hh
    obtain ⟨g, k1⟩ := text_inj (ul hc.1) (ul hd.1) hh
    obtain ⟨g2, k2⟩ := text_inj (ul hc.2) (ul hd.2) k1
    rw [up_inj' hc.1 hd.1 gi g, up_inj' hc.2 hd.2 hi2 g2]
  | halt s =>
    cases d <;> first | (simp [Cl.tag] at ht; done) | skip
    rename_i s'
    have hi2 : low4 s.wat = low4 s'.wat → s.wat = s'.wat := hi.2
    have gi : low4 s.sig.ix = low4 s'.sig.ix → s.sig.ix = s'.sig.ix := hi.1
    simp only [Cl.tail, ByteArray.append_assoc] at hh
    obtain ⟨k1, _⟩ := text_inj (Nat.lt_of_le_of_lt (spB_size hc) (by decide)) (Nat.lt_of_le_of_lt (spB_size hd) (by decide)) hh
    rw [sp_inj' hc hd gi hi2 k1]
  | prove l i br =>
    cases d <;> first | (simp [Cl.tag] at ht; done) | skip
    rename_i l' i' br'
    simp only [Cl.tail, ByteArray.append_assoc] at hh
    obtain ⟨rfl, k0⟩ := app_inj hh (by rw [hc.1, hd.1])
    obtain ⟨rfl, k1⟩ := big4_inj hc.2.1 hd.2.1 k0
    obtain ⟨rfl, k2⟩ := dgs_inj hc.2.2 hd.2.2 k1
    rfl
end Go.Proofs.Ytboohfijacjhjaa

/- Calls: their fields, side by side; what a drawn value is (plain). -/
set_option linter.unusedVariables false
namespace Go.Proofs.Ytboohfijacjhjaa
open Go.Ab Go.RowKit

/-- A call's fields, whatever its tag. -/
structure Fd where
  tag : Nat
  A : ByteArray
  B : ByteArray
  C : ByteArray
  org : Nat
  n : Nat
  k : Nat
  sig : Sg
  u : Up
  v : Up
  stop : Sp
  leaf : ByteArray
  ix : Nat
  br : List ByteArray
  let' : Le

def z32 : ByteArray := ⟨Array.replicate 32 0⟩
def sg0 : Sg := ⟨0, [], [], []⟩
def up0 : Up := ⟨0, z32, z32, sg0⟩
def sp0 : Sp := ⟨0, z32, 0, sg0⟩
def le0 : Le := ⟨0, 0, 0, .empty, .empty, .empty⟩
def fd0 : Fd := ⟨0, .empty, .empty, .empty, 0, 0, 0, sg0, up0, up0, sp0, z32, 0, [], le0⟩
def Fd.d (f : Fd) : D := .agg [.int .i64 (f.tag : Int), .str f.A, .str f.B, .str f.C, .int .u32 f.org, .int .u64 f.n, .int .u64 f.k, f.sig.d, f.u.d, f.v.d, f.stop.d, dgD f.leaf, .int .u32 f.ix, .sl 32 (dgs f.br), f.let'.d]

def Cl.fd : Cl → Fd
  | .pay a b n k g => { fd0 with tag := 1, A := a, B := b, n := n, k := k, sig := g }
  | .send a o t b n k g => { fd0 with tag := 2, A := a, org := o, B := t, C := b, n := n, k := k, sig := g }
  | .say a b k g => { fd0 with tag := 3, A := a, B := b, k := k, sig := g }
  | .tell a b k g => { fd0 with tag := 4, A := a, B := b, k := k, sig := g }
  | .submit u => { fd0 with tag := 5, u := u }
  | .improp u c => { fd0 with tag := 6, u := u, C := c }
  | .double u v c => { fd0 with tag := 7, u := u, v := v, C := c }
  | .accept u => { fd0 with tag := 8, u := u }
  | .doubled u v => { fd0 with tag := 9, u := u, v := v }
  | .halt s => { fd0 with tag := 10, stop := s }
  | .prove l i br => { fd0 with tag := 11, leaf := l, ix := i, br := br }
  | .process l => { fd0 with tag := 12, let' := l }
  | .no => fd0
  | .word => fd0

theorem fd_tag (c : Cl) : c.fd.tag = c.tag := by cases c <;> rfl

theorem fd_inj {c d : Cl} (h0 : 0 < c.tag) (h : c.fd = d.fd) : c = d := by
  have ht : c.tag = d.tag := by rw [← fd_tag, ← fd_tag, h]
  cases c <;> first | (exact absurd h0 (Nat.lt_irrefl 0)) | skip
  all_goals
    cases d <;> first | (simp [Cl.tag] at ht; done) | skip
  all_goals
    simp only [Cl.fd, Fd.mk.injEq] at h
    simp_all

/-- A value that the law draws. -/
structure An where
  kind : Int
  A : ByteArray
  B : ByteArray
  C : ByteArray
  org : Nat
  n : Nat
  k : Nat
  sig : Sg
  u : Up
  v : Up
  stop : Sp
  leaf : ByteArray
  ix : Nat
  br : List ByteArray
  let' : Le
def An.d (f : An) : D := .agg [.int .i64 f.kind, .str f.A, .str f.B, .str f.C, .int .u32 f.org, .int .u64 f.n, .int .u64 f.k, f.sig.d, f.u.d, f.v.d, f.stop.d, dgD f.leaf, .int .u32 f.ix, .sl 32 (dgs f.br), f.let'.d]

def An.clN (x : An) : Nat → Cl
  | 0 => .pay x.A x.B x.n x.k x.sig
  | 1 => .send x.A x.org x.B x.C x.n x.k x.sig
  | 2 => .say x.A x.B x.k x.sig
  | 3 => .tell x.A x.B x.k x.sig
  | 4 => .submit x.u
  | 5 => .improp x.u x.C
  | 6 => .double x.u x.v x.C
  | 7 => .accept x.u
  | 8 => .doubled x.u x.v
  | 9 => .halt x.stop
  | 10 => .prove x.leaf x.ix x.br
  | 11 => .process x.let'
  | 12 => .no
  | _ => .word
def An.cl (x : An) : Cl := x.clN (x.kind.tmod 14).natAbs

/-- What the types let in. -/
structure An.wf (x : An) : Prop where
  kind : -9223372036854775808 ≤ x.kind ∧ x.kind < 9223372036854775808
  org : x.org < 4294967296
  n : x.n < 18446744073709551616
  k : x.k < 18446744073709551616
  sig : -9223372036854775808 ≤ x.sig.ix ∧ x.sig.ix < 9223372036854775808
  sigL : (∀ b ∈ x.sig.pa, b.size = 32) ∧ (∀ b ∈ x.sig.ot, b.size = 32) ∧ (∀ b ∈ x.sig.pt, b.size = 32)
  u : x.u.home < 4294967296 ∧ x.u.old.size = 32 ∧ x.u.new.size = 32 ∧ (-9223372036854775808 ≤ x.u.sig.ix ∧ x.u.sig.ix < 9223372036854775808) ∧ (∀ b ∈ x.u.sig.pa, b.size = 32) ∧ (∀ b ∈ x.u.sig.ot, b.size = 32) ∧ (∀ b ∈ x.u.sig.pt, b.size = 32)
  v : x.v.home < 4294967296 ∧ x.v.old.size = 32 ∧ x.v.new.size = 32 ∧ (-9223372036854775808 ≤ x.v.sig.ix ∧ x.v.sig.ix < 9223372036854775808) ∧ (∀ b ∈ x.v.sig.pa, b.size = 32) ∧ (∀ b ∈ x.v.sig.ot, b.size = 32) ∧ (∀ b ∈ x.v.sig.pt, b.size = 32)
  s : x.stop.home < 4294967296 ∧ x.stop.key.size = 32 ∧ (-9223372036854775808 ≤ x.stop.wat ∧ x.stop.wat < 9223372036854775808) ∧ (-9223372036854775808 ≤ x.stop.sig.ix ∧ x.stop.sig.ix < 9223372036854775808) ∧ (∀ b ∈ x.stop.sig.pa, b.size = 32) ∧ (∀ b ∈ x.stop.sig.ot, b.size = 32) ∧ (∀ b ∈ x.stop.sig.pt, b.size = 32)
  leaf : x.leaf.size = 32
  ix : x.ix < 4294967296
  br : ∀ b ∈ x.br, b.size = 32
  lt : x.let'.frm < 4294967296 ∧ x.let'.non < 4294967296 ∧ x.let'.too < 4294967296

def Sg.short (s : Sg) : Prop := s.pa.length ≤ 60 ∧ s.ot.length ≤ 60 ∧ s.pt.length ≤ 60
/-- What the law goes through. -/
structure An.light (x : An) : Prop where
  a : x.A.size ≤ 1000
  b : x.B.size ≤ 1000
  c : x.C.size ≤ 1000
  s : x.let'.snd.size ≤ 1000
  r : x.let'.rcv.size ≤ 1000
  t : x.let'.bod.size ≤ 1000
  br : x.br.length ≤ 100
  sig : x.sig.short
  u : x.u.sig.short
  v : x.v.sig.short
  st : x.stop.sig.short

theorem An.fit {x : An} (h : x.wf) (l : x.light) : x.cl.fit := by
  have fs : x.sig.fit := ⟨h.sig, ⟨Nat.le_trans l.sig.1 (by decide), h.sigL.1⟩, ⟨Nat.le_trans l.sig.2.1 (by decide), h.sigL.2.1⟩, ⟨Nat.le_trans l.sig.2.2 (by decide), h.sigL.2.2⟩⟩
  have fu : x.u.fit := ⟨h.u.1, h.u.2.1, h.u.2.2.1, h.u.2.2.2.1, ⟨Nat.le_trans l.u.1 (by decide), h.u.2.2.2.2.1⟩, ⟨Nat.le_trans l.u.2.1 (by decide), h.u.2.2.2.2.2.1⟩, ⟨Nat.le_trans l.u.2.2 (by decide), h.u.2.2.2.2.2.2⟩⟩
  have fv : x.v.fit := ⟨h.v.1, h.v.2.1, h.v.2.2.1, h.v.2.2.2.1, ⟨Nat.le_trans l.v.1 (by decide), h.v.2.2.2.2.1⟩, ⟨Nat.le_trans l.v.2.1 (by decide), h.v.2.2.2.2.2.1⟩, ⟨Nat.le_trans l.v.2.2 (by decide), h.v.2.2.2.2.2.2⟩⟩
  have fp : x.stop.fit := ⟨h.s.1, h.s.2.1, h.s.2.2.1, h.s.2.2.2.1, ⟨Nat.le_trans l.st.1 (by decide), h.s.2.2.2.2.1⟩, ⟨Nat.le_trans l.st.2.1 (by decide), h.s.2.2.2.2.2.1⟩, ⟨Nat.le_trans l.st.2.2 (by decide), h.s.2.2.2.2.2.2⟩⟩
  have H : ∀ k, (x.clN k).fit := by
    intro k
    match k with
    | 0 => exact ⟨l.a, l.b, h.n, h.k, fs⟩
    | 1 => exact ⟨l.a, h.org, l.b, l.c, h.n, h.k, fs⟩
    | 2 => exact ⟨l.a, l.b, h.k, fs⟩
    | 3 => exact ⟨l.a, l.b, h.k, fs⟩
    | 4 => exact fu
    | 5 => exact ⟨fu, l.c⟩
    | 6 => exact ⟨fu, fv, l.c⟩
    | 7 => exact fu
    | 8 => exact ⟨fu, fv⟩
    | 9 => exact fp
    | 10 => exact ⟨h.leaf, h.ix, l.br, h.br⟩
    | 11 => exact ⟨h.lt.1, h.lt.2.1, h.lt.2.2, l.s, l.r, l.t⟩
    | 12 => trivial
    | k + 13 => trivial
  exact H _
end Go.Proofs.Ytboohfijacjhjaa

/- Calls: read; what was read is written so (plain). -/
set_option linter.unusedVariables false
namespace Go.Proofs.Ytboohfijacjhjaa
open Go.Ab Go.RowKit

/-- A digest of so many bytes as there are. -/
def dgOf (t : ByteArray) : ByteArray := if t.size = 32 then t else z32
def chunkN : Nat → ByteArray → List ByteArray
  | 0, _ => []
  | n + 1, t => t.extract 0 32 :: chunkN n (t.extract 32 t.size)
def chunk (t : ByteArray) : List ByteArray := chunkN (t.size / 32) t

def Rs.dig (r : Rs) : ByteArray := dgOf (r.got 32)
def Rs.dgl (r : Rs) (m : Int) : List ByteArray := chunk ((r.cntR m).got (r.cnt m * 32))
def Rs.dglR (r : Rs) (m : Int) : Rs := (r.cntR m).take (r.cnt m * 32)
/-- A signature's index was read. -/
def Rs.sg1 (r : Rs) : Rs := if (r.num 4 : Int) > 2147483647 then (r.take 4).fail 8 else r.take 4
def Rs.sg2 (r : Rs) : Rs := r.sg1.dglR 32
def Rs.sg3 (r : Rs) : Rs := r.sg2.dglR 32
def Rs.sgR (r : Rs) : Rs := r.sg3.dglR 32
def Rs.sg (r : Rs) : Sg := if r.sgR.e = 0 then ⟨(r.num 4 : Nat), r.sg1.dgl 32, r.sg2.dgl 32, r.sg3.dgl 32⟩ else sg0

def upQ (r : Rs) : Up × Rs := (⟨r.num 4, (r.take 4).dig, ((r.take 4).take 32).dig, (((r.take 4).take 32).take 32).sg⟩, (((r.take 4).take 32).take 32).sgR)
def readU (s : ByteArray) : Up × Int := if (upQ ⟨s, 0⟩).2.out = 0 then ((upQ ⟨s, 0⟩).1, 0) else (up0, (upQ ⟨s, 0⟩).2.out)
def spQ (r : Rs) : Sp × Rs := (⟨r.num 4, (r.take 4).dig, (((r.take 4).take 32).num 4 : Nat), (((r.take 4).take 32).take 4).sg⟩, (((r.take 4).take 32).take 4).sgR)
def readS (s : ByteArray) : Sp × Int := if (spQ ⟨s, 0⟩).2.out = 0 then (if (spQ ⟨s, 0⟩).1.wat > 2147483647 then (sp0, 8) else ((spQ ⟨s, 0⟩).1, 0)) else (sp0, (spQ ⟨s, 0⟩).2.out)
def Le.right (l : Le) : Bool := (rightT l.snd && rightT l.rcv) && decide ((l.bod.size : Int) ≤ 300)
def leQ (r : Rs) : Le × Rs :=
  let r1 := r.take 4; let r2 := r1.take 4; let r3 := r2.take 4; let r4 := r3.txtR 48; let r5 := r4.txtR 48
  (⟨r.num 4, r1.num 4, r2.num 4, r3.txt 48, r4.txt 48, r5.txt 300⟩, r5.txtR 300)
def readL (s : ByteArray) : Le × Int := if (leQ ⟨s, 0⟩).2.out = 0 then (if (leQ ⟨s, 0⟩).1.right then ((leQ ⟨s, 0⟩).1, 0) else (le0, 4)) else (le0, (leQ ⟨s, 0⟩).2.out)

/-- A signed call behind its tag. -/
def sgnQ (t : Nat) (r : Rs) : Cl × Rs :=
  let r1 := r.txtR 48
  match t with
  | 1 => let r2 := r1.txtR 48; let r3 := r2.take 8; let r4 := r3.take 8; (.pay (r.txt 48) (r1.txt 48) (r2.num 8) (r3.num 8) r4.sg, r4.sgR)
  | 2 => let r2 := r1.take 4; let r3 := r2.txtR 48; let r4 := r3.txtR 48; let r5 := r4.take 8; let r6 := r5.take 8
         (.send (r.txt 48) (r1.num 4) (r2.txt 48) (r3.txt 48) (r4.num 8) (r5.num 8) r6.sg, r6.sgR)
  | 3 => let r2 := r1.txtR 256; let r3 := r2.take 8; (.say (r.txt 48) (r1.txt 256) (r2.num 8) r3.sg, r3.sgR)
  | _ => let r2 := r1.txtR 48; let r3 := r2.take 8; (.tell (r.txt 48) (r1.txt 48) (r2.num 8) r3.sg, r3.sgR)

/-- What is told first of two errors. -/
def fst (a b : Int) : Int := if a = 0 then b else a

/-- What a read call is, once all was read. -/
def finC (R : Rs) (c : Cl) (e : Int) : Cl × Int := if R.out = 0 then (if e = 0 then (c, 0) else (.no, e)) else (.no, R.out)

/-- The call that bytes are. -/
def readC (s : ByteArray) : Cl × Int :=
  let t := (Rs.mk s 0).num 1
  let r := (Rs.mk s 0).take 1
  if t = 1 ∨ t = 2 ∨ t = 3 ∨ t = 4 then finC (sgnQ t r).2 (sgnQ t r).1 0
  else if t = 5 then finC (r.txtR 4096) (.submit (readU (r.txt 4096)).1) (readU (r.txt 4096)).2
  else if t = 6 then finC ((r.txtR 4096).txtR 48) (.improp (readU (r.txt 4096)).1 ((r.txtR 4096).txt 48)) (readU (r.txt 4096)).2
  else if t = 7 then finC (((r.txtR 4096).txtR 4096).txtR 48) (.double (readU (r.txt 4096)).1 (readU ((r.txtR 4096).txt 4096)).1 (((r.txtR 4096).txtR 4096).txt 48)) (fst (readU (r.txt 4096)).2 (readU ((r.txtR 4096).txt 4096)).2)
  else if t = 8 then finC (r.txtR 4096) (.accept (readU (r.txt 4096)).1) (readU (r.txt 4096)).2
  else if t = 9 then finC ((r.txtR 4096).txtR 4096) (.doubled (readU (r.txt 4096)).1 (readU ((r.txtR 4096).txt 4096)).1) (fst (readU (r.txt 4096)).2 (readU ((r.txtR 4096).txt 4096)).2)
  else if t = 10 then finC (r.txtR 4096) (.halt (readS (r.txt 4096)).1) (readS (r.txt 4096)).2
  else if t = 11 then finC (((r.take 32).take 4).dglR 64) (.prove r.dig ((r.take 32).num 4) (((r.take 32).take 4).dgl 64)) 0
  else if t = 12 then finC (r.txtR 512) (.process (readL (r.txt 512)).1) (readL (r.txt 512)).2
  else (.no, (r.fail 4).out)

-- What was read is written so.

theorem chunkN_cat : ∀ (n : Nat) (t : ByteArray), t.size = 32 * n → catB (chunkN n t) = t ∧ (chunkN n t).length = n ∧ ∀ b ∈ chunkN n t, b.size = 32
  | 0, t, h => by
    have : t = .empty := size0 (by omega)
    subst this
    exact ⟨rfl, rfl, by simp [chunkN]⟩
  | n + 1, t, h => by
    obtain ⟨h1, h2, h3⟩ := chunkN_cat n (t.extract 32 t.size) (by rw [ByteArray.size_extract]; omega)
    unfold chunkN catB
    refine ⟨?_, by rw [List.length_cons, h2], ?_⟩
    · rw [h1, ByteArray.extract_append_extract, Nat.min_eq_left (by omega), Nat.max_eq_right (by omega)]
      exact ByteArray.extract_zero_size
    · intro b hb
      rcases List.mem_cons.1 hb with rfl | hb
      · rw [ByteArray.size_extract]; omega
      · exact h3 b hb

theorem dig_ok {r : Rs} (h : (r.take 32).e = 0) : r.e = 0 ∧ r.dig.size = 32 ∧ r.s = r.dig ++ (r.take 32).s := by
  obtain ⟨h1, h2, h3⟩ := rd_take_ok (by decide) h
  have e : r.dig = r.got 32 := if_pos (by omega)
  rw [e]
  exact ⟨h1, by omega, h3⟩

theorem dgl_ok {r : Rs} {m : Int} (hm : m ≤ 100) (h0 : 0 ≤ m) (h : (r.dglR m).e = 0) : r.e = 0 ∧ dgF (r.dgl m) ∧ r.s = dgsB (r.dgl m) ++ (r.dglR m).s := by
  unfold Rs.dglR at h
  have hc0 := cnt_nonneg r m
  obtain ⟨h1, h2, h3⟩ := rd_take_ok (by omega) h
  by_cases hc : (r.num 4 : Int) > m
  · have e : r.cntR m = (r.take 4).fail 5 := if_pos hc
    rw [e] at h1
    exact absurd h1 (fail_no (by decide))
  have e : r.cntR m = r.take 4 := if_neg hc
  have e' : r.cnt m = r.num 4 := if_neg hc
  rw [e] at h1
  obtain ⟨g1, g2⟩ := num_ok (k := 4) (by decide) h1
  have hs : ((r.cntR m).got (r.cnt m * 32)).size = 32 * (r.num 4) := by omega
  obtain ⟨c1, c2, c3⟩ := chunkN_cat (r.num 4) _ hs
  have ed : r.dgl m = chunkN (r.num 4) ((r.cntR m).got (r.cnt m * 32)) := by
    unfold Rs.dgl chunk
    rw [hs, Nat.mul_div_cancel_left _ (by decide)]
  refine ⟨g1, ⟨by rw [ed, c2]; omega, by rw [ed]; exact c3⟩, ?_⟩
  unfold dgsB
  rw [ed, c2, c1, ByteArray.append_assoc]
  unfold Rs.dglR
  rw [← h3, e]
  exact g2

theorem sg_ok {r : Rs} (h : r.sgR.e = 0) : r.e = 0 ∧ r.sg.fit ∧ (0 ≤ r.sg.ix ∧ r.sg.ix < 4294967296) ∧ r.s = sigB r.sg ++ r.sgR.s := by
  have e : r.sg = ⟨(r.num 4 : Nat), r.sg1.dgl 32, r.sg2.dgl 32, r.sg3.dgl 32⟩ := if_pos h
  unfold Rs.sgR at h
  obtain ⟨a1, a2, a3⟩ := dgl_ok (by decide) (by decide) h
  unfold Rs.sg3 at a1
  obtain ⟨b1, b2, b3⟩ := dgl_ok (by decide) (by decide) a1
  unfold Rs.sg2 at b1
  obtain ⟨c1, c2, c3⟩ := dgl_ok (by decide) (by decide) b1
  by_cases hc : (r.num 4 : Int) > 2147483647
  · have e : r.sg1 = (r.take 4).fail 8 := if_pos hc
    rw [e] at c1
    exact absurd c1 (fail_no (by decide))
  have e1 : r.sg1 = r.take 4 := if_neg hc
  have c1' := c1
  rw [e1] at c1'
  obtain ⟨d1, d2⟩ := num_ok (k := 4) (by decide) c1'
  have hn := num4_lt r
  refine ⟨d1, ?_, ?_, ?_⟩
  · rw [e]
    exact ⟨⟨by show _ ≤ ((r.num 4 : Nat) : Int); omega, by show ((r.num 4 : Nat) : Int) < _; omega⟩, c2, b2, a2⟩
  · rw [e]
    exact ⟨by show _ ≤ ((r.num 4 : Nat) : Int); omega, by show ((r.num 4 : Nat) : Int) < _; omega⟩
  · rw [e]
    unfold sigB
    simp only
    have : low4 ((r.num 4 : Nat) : Int) = r.num 4 := by unfold low4; omega
    rw [this]
    simp only [ByteArray.append_assoc]
    unfold Rs.sgR
    rw [← a3]
    unfold Rs.sg3
    rw [← b3]
    unfold Rs.sg2
    rw [← c3, e1]
    exact d2

def okI (n : Int) : Prop := 0 ≤ n ∧ n < 4294967296

theorem upQ_ok {r : Rs} (h : (upQ r).2.e = 0) : r.e = 0 ∧ (upQ r).1.fit ∧ okI (upQ r).1.sig.ix ∧ r.s = upB (upQ r).1 ++ (upQ r).2.s := by
  unfold upQ at h ⊢
  simp only at h ⊢
  have n4 := num4_lt r
  obtain ⟨a1, a2, a3, a4⟩ := sg_ok h
  obtain ⟨b1, b2, b3⟩ := dig_ok a1
  obtain ⟨c1, c2, c3⟩ := dig_ok b1
  obtain ⟨d1, d2⟩ := num_ok (r := r) (k := 4) (by decide) c1
  have e4 : ((4 : Nat) : Int) = 4 := rfl
  rw [e4] at d2
  unfold upB Up.fit okI
  simp only [ByteArray.append_assoc]
  generalize r.num 4 = n at *
  generalize r.take 4 = r1 at *
  generalize r1.dig = x1 at *
  generalize r1.take 32 = r2 at *
  generalize r2.dig = x2 at *
  generalize r2.take 32 = r3 at *
  generalize r3.sg = x3 at *
  generalize r3.sgR = r4 at *
  exact ⟨d1, ⟨n4, c2, b2, a2⟩, a3, by rw [d2, c3, b3, a4]⟩

theorem up_ok {s : ByteArray} (h : (readU s).2 = 0) : (readU s).1.fit ∧ okI (readU s).1.sig.ix ∧ upB (readU s).1 = s := by
  have k := upQ_ok (r := ⟨s, 0⟩)
  unfold readU at *
  generalize upQ ⟨s, 0⟩ = q at *
  obtain ⟨u, R⟩ := q
  simp only at *
  by_cases h0 : R.out = 0
  · rw [if_pos h0]
    obtain ⟨g1, g2⟩ := out_ok h0
    obtain ⟨_, k2, k3, k4⟩ := k g1
    rw [g2, ByteArray.append_empty] at k4
    exact ⟨k2, k3, k4.symm⟩
  · rw [if_neg h0] at h
    exact absurd h h0

theorem spQ_ok {r : Rs} (h : (spQ r).2.e = 0) : r.e = 0 ∧ (spQ r).1.fit ∧ okI (spQ r).1.sig.ix ∧ okI (spQ r).1.wat ∧ r.s = spB (spQ r).1 ++ (spQ r).2.s := by
  unfold spQ at h ⊢
  simp only at h ⊢
  have n4 := num4_lt r
  obtain ⟨a1, a2, a3, a4⟩ := sg_ok h
  have m4 := num4_lt ((r.take 4).take 32)
  obtain ⟨b1, b3⟩ := num_ok (r := (r.take 4).take 32) (k := 4) (by decide) a1
  obtain ⟨c1, c2, c3⟩ := dig_ok b1
  obtain ⟨d1, d2⟩ := num_ok (r := r) (k := 4) (by decide) c1
  have e4 : ((4 : Nat) : Int) = 4 := rfl
  rw [e4] at d2 b3
  unfold spB Sp.fit okI
  simp only [ByteArray.append_assoc]
  generalize r.num 4 = n at *
  generalize r.take 4 = r1 at *
  generalize r1.dig = x1 at *
  generalize r1.take 32 = r2 at *
  generalize r2.num 4 = x2 at *
  generalize r2.take 4 = r3 at *
  generalize r3.sg = x3 at *
  generalize r3.sgR = r4 at *
  have hl : low4 (x2 : Int) = x2 := by unfold low4; omega
  exact ⟨d1, ⟨n4, c2, ⟨by omega, by omega⟩, a2⟩, a3, ⟨by omega, by omega⟩, by rw [hl, d2, c3, b3, a4]⟩

theorem sp_ok {s : ByteArray} (h : (readS s).2 = 0) : (readS s).1.fit ∧ okI (readS s).1.sig.ix ∧ okI (readS s).1.wat ∧ spB (readS s).1 = s := by
  have k := spQ_ok (r := ⟨s, 0⟩)
  unfold readS at *
  generalize spQ ⟨s, 0⟩ = q at *
  obtain ⟨u, R⟩ := q
  simp only at *
  by_cases h0 : R.out = 0
  · rw [if_pos h0] at h ⊢
    by_cases hw : u.wat > 2147483647
    · rw [if_pos hw] at h; cases h
    rw [if_neg hw]
    obtain ⟨g1, g2⟩ := out_ok h0
    obtain ⟨_, k2, k3, k5, k4⟩ := k g1
    rw [g2, ByteArray.append_empty] at k4
    exact ⟨k2, k3, k5, k4.symm⟩
  · rw [if_neg h0] at h
    exact absurd h h0

theorem txt_le {r : Rs} {m : Int} (h0 : 0 ≤ m) : ((r.txt m).size : Int) ≤ m := by
  have h1 := got_le (r := r.cntR m) (n := r.cnt m) (cnt_nonneg r m)
  have h2 : r.cnt m ≤ m := by unfold Rs.cnt; split <;> omega
  show (((r.cntR m).got (r.cnt m)).size : Int) ≤ m
  omega

theorem leQ_ok {r : Rs} (h : (leQ r).2.e = 0) : r.e = 0 ∧ (leQ r).1.fit ∧ r.s = leB (leQ r).1 ++ (leQ r).2.s := by
  unfold leQ at h ⊢
  simp only at h ⊢
  have n1 := num4_lt r
  have n2 := num4_lt (r.take 4)
  have n3 := num4_lt ((r.take 4).take 4)
  have t1 := txt_le (r := ((r.take 4).take 4).take 4) (m := 48) (by decide)
  have t2 := txt_le (r := (((r.take 4).take 4).take 4).txtR 48) (m := 48) (by decide)
  have t3 := txt_le (r := ((((r.take 4).take 4).take 4).txtR 48).txtR 48) (m := 300) (by decide)
  obtain ⟨a1, a2⟩ := txt_ok h
  obtain ⟨b1, b2⟩ := txt_ok a1
  obtain ⟨c1, c2⟩ := txt_ok b1
  obtain ⟨d1, d2⟩ := num_ok (r := (r.take 4).take 4) (k := 4) (by decide) c1
  obtain ⟨e1, e2⟩ := num_ok (r := r.take 4) (k := 4) (by decide) d1
  obtain ⟨f1, f2⟩ := num_ok (r := r) (k := 4) (by decide) e1
  have e4 : ((4 : Nat) : Int) = 4 := rfl
  rw [e4] at d2 e2 f2
  unfold leB Le.fit tx
  simp only [ByteArray.append_assoc]
  generalize r.num 4 = x1 at *
  generalize r.take 4 = r1 at *
  generalize r1.num 4 = x2 at *
  generalize r1.take 4 = r2 at *
  generalize r2.num 4 = x3 at *
  generalize r2.take 4 = r3 at *
  generalize r3.txt 48 = y1 at *
  generalize r3.txtR 48 = r4 at *
  generalize r4.txt 48 = y2 at *
  generalize r4.txtR 48 = r5 at *
  generalize r5.txt 300 = y3 at *
  generalize r5.txtR 300 = r6 at *
  exact ⟨f1, ⟨n1, n2, n3, by omega, by omega, by omega⟩, by rw [f2, e2, d2, c2, b2, a2]⟩

theorem le_ok {s : ByteArray} (h : (readL s).2 = 0) : (readL s).1.fit ∧ (readL s).1.right = true ∧ leB (readL s).1 = s := by
  have k := leQ_ok (r := ⟨s, 0⟩)
  unfold readL at *
  generalize leQ ⟨s, 0⟩ = q at *
  obtain ⟨u, R⟩ := q
  simp only at *
  by_cases h0 : R.out = 0
  · rw [if_pos h0] at h ⊢
    by_cases hw : u.right = true
    · rw [if_pos hw]
      obtain ⟨g1, g2⟩ := out_ok h0
      obtain ⟨_, k2, k4⟩ := k g1
      rw [g2, ByteArray.append_empty] at k4
      exact ⟨k2, hw, k4.symm⟩
    · rw [if_neg hw] at h; cases h
  · rw [if_neg h0] at h
    exact absurd h h0

/-- What a call is when it is written: it is right. -/
def Cl.ok (c : Cl) : Prop := match c with
  | .process l => l.right = true
  | .no => False
  | .word => False
  | _ => True
def Cl.bytes (c : Cl) : ByteArray := bigB c.tag 1 ++ c.tail
def Cl.small (c : Cl) : Prop := okI c.idx.1 ∧ okI c.idx.2
end Go.Proofs.Ytboohfijacjhjaa

/- Calls: what was read is written so; what is written binds (plain). -/
set_option linter.unusedVariables false
namespace Go.Proofs.Ytboohfijacjhjaa
open Go.Ab Go.RowKit

theorem fin_ok {R : Rs} {c : Cl} {e : Int} (h : (finC R c e).2 = 0) : R.e = 0 ∧ R.s = .empty ∧ e = 0 ∧ (finC R c e).1 = c := by
  unfold finC at *
  by_cases h0 : R.out = 0
  · rw [if_pos h0] at h ⊢
    by_cases he : e = 0
    · rw [if_pos he]
      obtain ⟨g1, g2⟩ := out_ok h0
      exact ⟨g1, g2, he, rfl⟩
    · rw [if_neg he] at h
      exact absurd h he
  · rw [if_neg h0] at h
    exact absurd h h0

theorem fst_ok {a b : Int} (h : fst a b = 0) : a = 0 ∧ b = 0 := by
  unfold fst at h
  split at h
  · exact ⟨by assumption, h⟩
  · exact absurd h (by assumption)

theorem tx_of {s : ByteArray} {m : Int} (h : (s.size : Int) ≤ m) (hm : m ≤ 1000) : tx s := by unfold tx; omega

theorem okI0 : okI 0 := ⟨by decide, by decide⟩

theorem sgn1_ok {r : Rs} (h : (sgnQ 1 r).2.e = 0) : r.e = 0 ∧ (sgnQ 1 r).1.fit ∧ (sgnQ 1 r).1.ok ∧ (sgnQ 1 r).1.small ∧ (sgnQ 1 r).1.tag = 1 ∧ r.s = (sgnQ 1 r).1.tail ++ (sgnQ 1 r).2.s := by
  unfold sgnQ at h ⊢
  simp only at h ⊢
  have t0 := txt_le (r := r) (m := 48) (by decide)
  have t1 := txt_le (r := (r.txtR 48)) (m := 48) (by decide)
  have t2 := num8_lt ((r.txtR 48).txtR 48)
  have t3 := num8_lt (((r.txtR 48).txtR 48).take 8)
  obtain ⟨z1, zf, zi, z2⟩ := sg_ok h
  obtain ⟨a3, b3⟩ := num_ok (r := (((r.txtR 48).txtR 48).take 8)) (k := 8) (by decide) z1
  obtain ⟨a2, b2⟩ := num_ok (r := ((r.txtR 48).txtR 48)) (k := 8) (by decide) a3
  obtain ⟨a1, b1⟩ := txt_ok (r := (r.txtR 48)) (m := 48) a2
  obtain ⟨a0, b0⟩ := txt_ok (r := r) (m := 48) a1
  have e8 : ((8 : Nat) : Int) = 8 := rfl
  rw [e8] at b2
  rw [e8] at b3
  unfold Cl.tail Cl.small Cl.fit Cl.ok Cl.tag Cl.idx tx
  simp only [ByteArray.append_assoc]
  generalize r.txt 48 = x0 at *
  generalize r.txtR 48 = r0 at *
  generalize r0.txt 48 = x1 at *
  generalize r0.txtR 48 = r1 at *
  generalize r1.num 8 = x2 at *
  generalize r1.take 8 = r2 at *
  generalize r2.num 8 = x3 at *
  generalize r2.take 8 = r3 at *
  generalize r3.sg = g at *
  generalize r3.sgR = rz at *
  exact ⟨a0, ⟨by omega, by omega, by omega, by omega, zf⟩, trivial, ⟨zi, okI0⟩, trivial, by rw [b0, b1, b2, b3, z2]⟩

theorem sgn2_ok {r : Rs} (h : (sgnQ 2 r).2.e = 0) : r.e = 0 ∧ (sgnQ 2 r).1.fit ∧ (sgnQ 2 r).1.ok ∧ (sgnQ 2 r).1.small ∧ (sgnQ 2 r).1.tag = 2 ∧ r.s = (sgnQ 2 r).1.tail ++ (sgnQ 2 r).2.s := by
  unfold sgnQ at h ⊢
  simp only at h ⊢
  have t0 := txt_le (r := r) (m := 48) (by decide)
  have t1 := num4_lt (r.txtR 48)
  have t2 := txt_le (r := ((r.txtR 48).take 4)) (m := 48) (by decide)
  have t3 := txt_le (r := (((r.txtR 48).take 4).txtR 48)) (m := 48) (by decide)
  have t4 := num8_lt ((((r.txtR 48).take 4).txtR 48).txtR 48)
  have t5 := num8_lt (((((r.txtR 48).take 4).txtR 48).txtR 48).take 8)
  obtain ⟨z1, zf, zi, z2⟩ := sg_ok h
  obtain ⟨a5, b5⟩ := num_ok (r := (((((r.txtR 48).take 4).txtR 48).txtR 48).take 8)) (k := 8) (by decide) z1
  obtain ⟨a4, b4⟩ := num_ok (r := ((((r.txtR 48).take 4).txtR 48).txtR 48)) (k := 8) (by decide) a5
  obtain ⟨a3, b3⟩ := txt_ok (r := (((r.txtR 48).take 4).txtR 48)) (m := 48) a4
  obtain ⟨a2, b2⟩ := txt_ok (r := ((r.txtR 48).take 4)) (m := 48) a3
  obtain ⟨a1, b1⟩ := num_ok (r := (r.txtR 48)) (k := 4) (by decide) a2
  obtain ⟨a0, b0⟩ := txt_ok (r := r) (m := 48) a1
  have e4 : ((4 : Nat) : Int) = 4 := rfl
  have e8 : ((8 : Nat) : Int) = 8 := rfl
  rw [e4] at b1
  rw [e8] at b4
  rw [e8] at b5
  unfold Cl.tail Cl.small Cl.fit Cl.ok Cl.tag Cl.idx tx
  simp only [ByteArray.append_assoc]
  generalize r.txt 48 = x0 at *
  generalize r.txtR 48 = r0 at *
  generalize r0.num 4 = x1 at *
  generalize r0.take 4 = r1 at *
  generalize r1.txt 48 = x2 at *
  generalize r1.txtR 48 = r2 at *
  generalize r2.txt 48 = x3 at *
  generalize r2.txtR 48 = r3 at *
  generalize r3.num 8 = x4 at *
  generalize r3.take 8 = r4 at *
  generalize r4.num 8 = x5 at *
  generalize r4.take 8 = r5 at *
  generalize r5.sg = g at *
  generalize r5.sgR = rz at *
  exact ⟨a0, ⟨by omega, by omega, by omega, by omega, by omega, by omega, zf⟩, trivial, ⟨zi, okI0⟩, trivial, by rw [b0, b1, b2, b3, b4, b5, z2]⟩

theorem sgn3_ok {r : Rs} (h : (sgnQ 3 r).2.e = 0) : r.e = 0 ∧ (sgnQ 3 r).1.fit ∧ (sgnQ 3 r).1.ok ∧ (sgnQ 3 r).1.small ∧ (sgnQ 3 r).1.tag = 3 ∧ r.s = (sgnQ 3 r).1.tail ++ (sgnQ 3 r).2.s := by
  unfold sgnQ at h ⊢
  simp only at h ⊢
  have t0 := txt_le (r := r) (m := 48) (by decide)
  have t1 := txt_le (r := (r.txtR 48)) (m := 256) (by decide)
  have t2 := num8_lt ((r.txtR 48).txtR 256)
  obtain ⟨z1, zf, zi, z2⟩ := sg_ok h
  obtain ⟨a2, b2⟩ := num_ok (r := ((r.txtR 48).txtR 256)) (k := 8) (by decide) z1
  obtain ⟨a1, b1⟩ := txt_ok (r := (r.txtR 48)) (m := 256) a2
  obtain ⟨a0, b0⟩ := txt_ok (r := r) (m := 48) a1
  have e8 : ((8 : Nat) : Int) = 8 := rfl
  rw [e8] at b2
  unfold Cl.tail Cl.small Cl.fit Cl.ok Cl.tag Cl.idx tx
  simp only [ByteArray.append_assoc]
  generalize r.txt 48 = x0 at *
  generalize r.txtR 48 = r0 at *
  generalize r0.txt 256 = x1 at *
  generalize r0.txtR 256 = r1 at *
  generalize r1.num 8 = x2 at *
  generalize r1.take 8 = r2 at *
  generalize r2.sg = g at *
  generalize r2.sgR = rz at *
  exact ⟨a0, ⟨by omega, by omega, by omega, zf⟩, trivial, ⟨zi, okI0⟩, trivial, by rw [b0, b1, b2, z2]⟩

theorem sgn4_ok {r : Rs} (h : (sgnQ 4 r).2.e = 0) : r.e = 0 ∧ (sgnQ 4 r).1.fit ∧ (sgnQ 4 r).1.ok ∧ (sgnQ 4 r).1.small ∧ (sgnQ 4 r).1.tag = 4 ∧ r.s = (sgnQ 4 r).1.tail ++ (sgnQ 4 r).2.s := by
  unfold sgnQ at h ⊢
  simp only at h ⊢
  have t0 := txt_le (r := r) (m := 48) (by decide)
  have t1 := txt_le (r := (r.txtR 48)) (m := 48) (by decide)
  have t2 := num8_lt ((r.txtR 48).txtR 48)
  obtain ⟨z1, zf, zi, z2⟩ := sg_ok h
  obtain ⟨a2, b2⟩ := num_ok (r := ((r.txtR 48).txtR 48)) (k := 8) (by decide) z1
  obtain ⟨a1, b1⟩ := txt_ok (r := (r.txtR 48)) (m := 48) a2
  obtain ⟨a0, b0⟩ := txt_ok (r := r) (m := 48) a1
  have e8 : ((8 : Nat) : Int) = 8 := rfl
  rw [e8] at b2
  unfold Cl.tail Cl.small Cl.fit Cl.ok Cl.tag Cl.idx tx
  simp only [ByteArray.append_assoc]
  generalize r.txt 48 = x0 at *
  generalize r.txtR 48 = r0 at *
  generalize r0.txt 48 = x1 at *
  generalize r0.txtR 48 = r1 at *
  generalize r1.num 8 = x2 at *
  generalize r1.take 8 = r2 at *
  generalize r2.sg = g at *
  generalize r2.sgR = rz at *
  exact ⟨a0, ⟨by omega, by omega, by omega, zf⟩, trivial, ⟨zi, okI0⟩, trivial, by rw [b0, b1, b2, z2]⟩

/-- A call that was read is right, and written so. -/
def good (c : Cl) (s : ByteArray) : Prop := c.fit ∧ c.ok ∧ c.small ∧ c.bytes = s

theorem readC_ok {s : ByteArray} (h : (readC s).2 = 0) : good (readC s).1 s := by
  have h1 : ∀ {c : Cl} {t : Nat}, ((Rs.mk s 0).take 1).e = 0 → (Rs.mk s 0).num 1 = t → c.tag = t → c.tail = ((Rs.mk s 0).take 1).s → c.bytes = s := by
    intro c t g1 g2 g3 g4
    obtain ⟨_, d2⟩ := num_ok (r := Rs.mk s 0) (k := 1) (by decide) g1
    unfold Cl.bytes
    rw [g3, ← g2, g4]
    exact d2.symm
  unfold readC at *
  simp only at *
  generalize (Rs.mk s 0).num 1 = t at *
  generalize (Rs.mk s 0).take 1 = r at *
  by_cases c0 : t = 1 ∨ t = 2 ∨ t = 3 ∨ t = 4
  · rw [if_pos c0] at h ⊢
    obtain ⟨f1, f2, _, f4⟩ := fin_ok h
    rw [f4]
    rcases c0 with rfl | rfl | rfl | rfl
    · obtain ⟨k1, k2, k3, k4, k5, k6⟩ := sgn1_ok f1
      rw [f2, ByteArray.append_empty] at k6
      exact ⟨k2, k3, k4, h1 k1 rfl k5 k6.symm⟩
    · obtain ⟨k1, k2, k3, k4, k5, k6⟩ := sgn2_ok f1
      rw [f2, ByteArray.append_empty] at k6
      exact ⟨k2, k3, k4, h1 k1 rfl k5 k6.symm⟩
    · obtain ⟨k1, k2, k3, k4, k5, k6⟩ := sgn3_ok f1
      rw [f2, ByteArray.append_empty] at k6
      exact ⟨k2, k3, k4, h1 k1 rfl k5 k6.symm⟩
    · obtain ⟨k1, k2, k3, k4, k5, k6⟩ := sgn4_ok f1
      rw [f2, ByteArray.append_empty] at k6
      exact ⟨k2, k3, k4, h1 k1 rfl k5 k6.symm⟩
  rw [if_neg c0] at h ⊢
  by_cases c5 : t = 5
  · rw [if_pos c5] at h ⊢
    obtain ⟨f1, f2, f3, f4⟩ := fin_ok h
    rw [f4]
    clear f4 h
    obtain ⟨a1, a2⟩ := txt_ok (r := r) (m := 4096) f1
    obtain ⟨u1, u2, u3⟩ := up_ok f3
    generalize (readU (r.txt 4096)).1 = U at *
    rw [f2, ByteArray.append_empty] at a2
    refine ⟨u1, trivial, ⟨u2, okI0⟩, h1 a1 c5 rfl ?_⟩
    unfold Cl.tail
    simp only [ByteArray.append_assoc]
    rw [u3]
    exact a2.symm
  rw [if_neg c5] at h ⊢
  by_cases c6 : t = 6
  · rw [if_pos c6] at h ⊢
    obtain ⟨f1, f2, f3, f4⟩ := fin_ok h
    rw [f4]
    clear f4 h
    have t48 := txt_le (r := (r.txtR 4096)) (m := 48) (by decide)
    obtain ⟨b1, b2⟩ := txt_ok (r := (r.txtR 4096)) (m := 48) f1
    obtain ⟨a1, a2⟩ := txt_ok (r := r) (m := 4096) b1
    obtain ⟨u1, u2, u3⟩ := up_ok f3
    generalize (readU (r.txt 4096)).1 = U at *
    generalize (r.txtR 4096).txt 48 = x at *
    rw [f2, ByteArray.append_empty] at b2
    refine ⟨⟨u1, tx_of t48 (by decide)⟩, trivial, ⟨u2, okI0⟩, h1 a1 c6 rfl ?_⟩
    unfold Cl.tail
    simp only [ByteArray.append_assoc]
    rw [u3, ← b2]
    exact a2.symm
  rw [if_neg c6] at h ⊢
  by_cases c7 : t = 7
  · rw [if_pos c7] at h ⊢
    obtain ⟨f1, f2, f3, f4⟩ := fin_ok h
    rw [f4]
    clear f4 h
    have t48 := txt_le (r := ((r.txtR 4096).txtR 4096)) (m := 48) (by decide)
    obtain ⟨d1, d2⟩ := txt_ok (r := ((r.txtR 4096).txtR 4096)) (m := 48) f1
    obtain ⟨b1, b2⟩ := txt_ok (r := (r.txtR 4096)) (m := 4096) d1
    obtain ⟨a1, a2⟩ := txt_ok (r := r) (m := 4096) b1
    obtain ⟨f3, f3b⟩ := fst_ok f3
    obtain ⟨u1, u2, u3⟩ := up_ok f3
    obtain ⟨v1, v2, v3⟩ := up_ok f3b
    generalize (readU (r.txt 4096)).1 = U at *
    generalize (readU ((r.txtR 4096).txt 4096)).1 = V at *
    generalize ((r.txtR 4096).txtR 4096).txt 48 = x at *
    rw [f2, ByteArray.append_empty] at d2
    refine ⟨⟨u1, v1, tx_of t48 (by decide)⟩, trivial, ⟨u2, v2⟩, h1 a1 c7 rfl ?_⟩
    unfold Cl.tail
    simp only [ByteArray.append_assoc]
    rw [u3, v3, ← d2, ← b2]
    exact a2.symm
  rw [if_neg c7] at h ⊢
  by_cases c8 : t = 8
  · rw [if_pos c8] at h ⊢
    obtain ⟨f1, f2, f3, f4⟩ := fin_ok h
    rw [f4]
    clear f4 h
    obtain ⟨a1, a2⟩ := txt_ok (r := r) (m := 4096) f1
    obtain ⟨u1, u2, u3⟩ := up_ok f3
    generalize (readU (r.txt 4096)).1 = U at *
    rw [f2, ByteArray.append_empty] at a2
    refine ⟨u1, trivial, ⟨u2, okI0⟩, h1 a1 c8 rfl ?_⟩
    unfold Cl.tail
    simp only [ByteArray.append_assoc]
    rw [u3]
    exact a2.symm
  rw [if_neg c8] at h ⊢
  by_cases c9 : t = 9
  · rw [if_pos c9] at h ⊢
    obtain ⟨f1, f2, f3, f4⟩ := fin_ok h
    rw [f4]
    clear f4 h
    obtain ⟨b1, b2⟩ := txt_ok (r := (r.txtR 4096)) (m := 4096) f1
    obtain ⟨a1, a2⟩ := txt_ok (r := r) (m := 4096) b1
    obtain ⟨f3, f3b⟩ := fst_ok f3
    obtain ⟨u1, u2, u3⟩ := up_ok f3
    obtain ⟨v1, v2, v3⟩ := up_ok f3b
    generalize (readU (r.txt 4096)).1 = U at *
    generalize (readU ((r.txtR 4096).txt 4096)).1 = V at *
    rw [f2, ByteArray.append_empty] at b2
    refine ⟨⟨u1, v1⟩, trivial, ⟨u2, v2⟩, h1 a1 c9 rfl ?_⟩
    unfold Cl.tail
    simp only [ByteArray.append_assoc]
    rw [u3, v3, ← b2]
    exact a2.symm
  rw [if_neg c9] at h ⊢
  by_cases c10 : t = 10
  · rw [if_pos c10] at h ⊢
    obtain ⟨f1, f2, f3, f4⟩ := fin_ok h
    rw [f4]
    clear f4 h
    obtain ⟨a1, a2⟩ := txt_ok (r := r) (m := 4096) f1
    obtain ⟨u1, u2, u3, u4⟩ := sp_ok f3
    generalize (readS (r.txt 4096)).1 = U at *
    rw [f2, ByteArray.append_empty] at a2
    refine ⟨u1, trivial, ⟨u2, u3⟩, h1 a1 c10 rfl ?_⟩
    unfold Cl.tail
    simp only [ByteArray.append_assoc]
    rw [u4]
    exact a2.symm
  rw [if_neg c10] at h ⊢
  by_cases c11 : t = 11
  · rw [if_pos c11] at h ⊢
    obtain ⟨f1, f2, f3, f4⟩ := fin_ok h
    rw [f4]
    clear f4 h
    have t4 := num4_lt (r.take 32)
    obtain ⟨b1, bf, b2⟩ := dgl_ok (r := ((r.take 32).take 4)) (m := 64) (by decide) (by decide) f1
    obtain ⟨a1, a2⟩ := num_ok (r := (r.take 32)) (k := 4) (by decide) b1
    rw [show ((4 : Nat) : Int) = 4 from rfl] at a2
    obtain ⟨d1, df, d2⟩ := dig_ok (r := r) a1
    generalize r.dig = x at *
    generalize (r.take 32).num 4 = y at *
    generalize ((r.take 32).take 4).dgl 64 = z at *
    rw [f2, ByteArray.append_empty] at b2
    refine ⟨⟨df, t4, bf⟩, trivial, ⟨okI0, okI0⟩, h1 d1 c11 rfl ?_⟩
    unfold Cl.tail
    simp only [ByteArray.append_assoc]
    rw [← b2, ← a2]
    exact d2.symm
  rw [if_neg c11] at h ⊢
  by_cases c12 : t = 12
  · rw [if_pos c12] at h ⊢
    obtain ⟨f1, f2, f3, f4⟩ := fin_ok h
    rw [f4]
    clear f4 h
    obtain ⟨a1, a2⟩ := txt_ok (r := r) (m := 512) f1
    obtain ⟨u1, u2, u3⟩ := le_ok f3
    generalize (readL (r.txt 512)).1 = U at *
    rw [f2, ByteArray.append_empty] at a2
    refine ⟨u1, u2, ⟨okI0, okI0⟩, h1 a1 c12 rfl ?_⟩
    unfold Cl.tail
    simp only [ByteArray.append_assoc]
    rw [u3]
    exact a2.symm
  rw [if_neg c12] at h ⊢
  exfalso
  have : (r.fail 4).e ≠ 0 := fail_no (by decide)
  unfold Rs.out at h
  rw [if_neg this] at h
  exact this h

theorem le_inj' {l m : Le} (hl : l.fit) (hm : m.fit) (h : leB l = leB m) : l = m := by
  have hh : leB l ++ .empty = leB m ++ .empty := by rw [h]
  obtain ⟨a, b, c, x, y, z⟩ := l
  obtain ⟨a', b', c', x', y', z'⟩ := m
  obtain ⟨h1, h2, h3, h4, h5, h6⟩ := hl
  obtain ⟨g1, g2, g3, g4, g5, g6⟩ := hm
  simp only at h1 h2 h3 h4 h5 h6 g1 g2 g3 g4 g5 g6
  unfold tx at h4 h5 h6 g4 g5 g6
  unfold leB at hh
  simp only [ByteArray.append_assoc] at hh
  obtain ⟨rfl, k1⟩ := big4_inj h1 g1 hh
  obtain ⟨rfl, k2⟩ := big4_inj h2 g2 k1
  obtain ⟨rfl, k3⟩ := big4_inj h3 g3 k2
  obtain ⟨rfl, k4⟩ := text_inj (by omega) (by omega) k3
  obtain ⟨rfl, k5⟩ := text_inj (by omega) (by omega) k4
  obtain ⟨rfl, k6⟩ := text_inj (by omega) (by omega) k5
  rfl

/-- Calls of the same bytes and index are one. -/
theorem bytes_inj {c d : Cl} (hc : c.fit) (hd : d.fit) (h0 : 0 < c.tag) (h : c.bytes = d.bytes) (hi : (low4 c.idx.1 = low4 d.idx.1 → c.idx.1 = d.idx.1) ∧ (low4 c.idx.2 = low4 d.idx.2 → c.idx.2 = d.idx.2)) : c = d := by
  unfold Cl.bytes at h
  have t256 : ∀ c : Cl, c.tag < 256 := fun c => by cases c <;> (unfold Cl.tag; simp only; decide)
  obtain ⟨ht, hb⟩ := big_inj (k := 1) (by decide) (t256 c) (t256 d) h
  by_cases h12 : c.tag < 12
  · exact tail_inj hc hd ht h0 h12 hb hi
  · cases c <;> first | (exact absurd (show (_ : Nat) < 12 by unfold Cl.tag; simp only; decide) h12) | skip
    cases d <;> first | (simp [Cl.tag] at ht; done) | skip
    rename_i l m
    have hb : textB (leB l) ++ .empty = textB (leB m) ++ .empty := app_e hb
    obtain ⟨hb, _⟩ := text_inj (Nat.lt_of_le_of_lt (leB_size hc) (by decide)) (Nat.lt_of_le_of_lt (leB_size hd) (by decide)) hb
    rw [le_inj' hc hd hb]

theorem low4_inj {a b : Int} (ha : okI a) (hb : okI b) (h : low4 a = low4 b) : a = b := by
  unfold okI low4 at *; omega

theorem bytes_small {c d : Cl} (hc : c.fit) (hd : d.fit) (h0 : 0 < c.tag) (h : c.bytes = d.bytes) (h1 : c.small) (h2 : d.small) : c = d :=
  bytes_inj hc hd h0 h ⟨low4_inj h1.1 h2.1, low4_inj h1.2 h2.2⟩
end Go.Proofs.Ytboohfijacjhjaa

/- Digests, signatures, updates, stops, letters: their bytes, the program's and the document's (printed by gen/cbytes.py). -/
set_option linter.unusedVariables false
namespace Go.Proofs.Ytboohfijacjhjaa
open Go.Ab Go.RowKit

theorem wrapLow (n : Int) : IntKind.u32.wrap n = ((low4 n : Nat) : Int) := by
  unfold low4
  simp [IntKind.wrap, IntKind.bits, IntKind.signed]
  omega

theorem bigB_mod (n : Nat) : bigB n 4 = bigB (n % 4294967296) 4 := by
  have e : ∀ n : Nat, bigB n 4 = ⟨#[UInt8.ofNat (n / 16777216), UInt8.ofNat (n / 65536), UInt8.ofNat (n / 256), UInt8.ofNat (n / 1)]⟩ := fun n => rfl
  have q : ∀ a b : Nat, a % 256 = b % 256 → UInt8.ofNat a = UInt8.ofNat b := fun a b h => UInt8.toNat_inj.1 (by rw [UInt8.toNat_ofNat', UInt8.toNat_ofNat']; exact h)
  rw [e n, e (n % 4294967296), q (n / 16777216) (n % 4294967296 / 16777216) (by omega), q (n / 65536) (n % 4294967296 / 65536) (by omega), q (n / 256) (n % 4294967296 / 256) (by omega), q (n / 1) (n % 4294967296 / 1) (by omega)]

theorem rbigLow {i : Int} : CallR cx 66 [u64 (IntKind.u64.wrap i), i64 4] [] fun r S => r = st (bigB (low4 i) 4) ∧ S = [] := by
  have e : IntKind.u64.wrap i = (((i % 18446744073709551616).toNat : Nat) : Int) := by rw [Ab.wrap64]; omega
  have h := rbig4_c (n := (i % 18446744073709551616).toNat) (by omega)
  rw [e]
  rw [bigB_mod] at h
  have e2 : (i % 18446744073709551616).toNat % 4294967296 = low4 i := by unfold low4; omega
  rw [e2] at h
  exact h

theorem bytes32 {b : ByteArray} (h : b.size = 32) : ((D.bytes b).drop 0).take 32 = D.bytes b := by
  rw [List.drop_zero]
  exact List.take_of_length_le (by rw [bytes_length]; omega)

theorem wdig_c {b : ByteArray} (hb : b.size = 32) : CallR cx 63 [.d (dgD b)] [] fun r S => r = st b ∧ S = [] := by
  have e := bytes32 hb
  unfold dgD
  generalize hq : D.bytes b = q at *
  refine callR_of (R := R1) cx_ok Try.func63 (by kernel_rfl) rfl ?_
  conv => whnf
  refine ⟨by decide, ?_⟩
  conv => whnf
  refine ⟨b, ⟨by rw [hq]; exact e, by rw [hb]; rfl⟩, ?_⟩
  conv => whnf
  exact ⟨rfl, rfl⟩

theorem rdig_c {b : ByteArray} (hb : b.size = 32) : CallR cx 70 [.d (dgD b)] [] fun r S => r = st b ∧ S = [] := by
  have e := bytes32 hb
  unfold dgD
  generalize hq : D.bytes b = q at *
  refine callR_of (R := R1) cx_ok Try.func70 (by kernel_rfl) rfl ?_
  conv => whnf
  refine ⟨by decide, ?_⟩
  conv => whnf
  refine ⟨b, ⟨by rw [hq]; exact e, by rw [hb]; rfl⟩, ?_⟩
  conv => whnf
  exact ⟨rfl, rfl⟩

theorem write_c {p : AV} {s b : ByteArray} (hp : p = .d .nilP ∨ p = .ptr 0 []) (hb : b.size = 32) (hs : s.size ≤ 1000000000) : CallR cx 95 [.ptr 0 [], .d (.sl 1 (((D.bytes b).drop 0).take 32))] (bd p s) fun r S =>
    r = .tup [.d (.int .i64 32), .d .nilI] ∧ S = [.tvar 186 (.agg [.ptr 0 [], .row 2]), .sealed (.sl 1 (D.bytes s)), .row 5 1 (D.bytes (s ++ b))] := by
  have cc := copyCheck_c (p := p) (s := s) hp
  rw [bytes32 hb]
  have hl := bytes_length s
  have hl2 := bytes_length b
  unfold bd at cc ⊢
  rw [bytes_append]
  rw [hb] at hl2
  generalize D.bytes s = xs at *
  generalize D.bytes b = ys at *
  have go : ∀ q : AV, CallR cx 109 [.ptr 0 []] [.tvar 186 (.agg [q, .row 1]), .row 5 1 xs] (fun r S => r = .tup [] ∧ S = [.tvar 186 (.agg [.ptr 0 [], .row 1]), .row 5 1 xs]) →
      (q = .d .nilP ∨ q = .ptr 0 []) → CallR cx 95 [.ptr 0 [], .d (.sl 1 ys)] [.tvar 186 (.agg [q, .row 1]), .row 5 1 xs] fun r S =>
    r = .tup [.d (.int .i64 32), .d .nilI] ∧ S = [.tvar 186 (.agg [.ptr 0 [], .row 2]), .sealed (.sl 1 xs), .row 5 1 (xs ++ ys)] := by
    rintro q cc (rfl | rfl) <;>
    · refine callR_of (R := R1) cx_ok Try.func95 (by kernel_rfl) rfl ?_
      conv => whnf
      refine ⟨_, cc, ?_⟩
      rintro _ _ ⟨rfl, rfl⟩
      conv => whnf
      refine ⟨⟨by omega, by show (xs.length + ys.length) * (1 + 1) ≤ _; omega⟩, ?_⟩
      conv => whnf
      refine ⟨?_, rfl⟩
      rw [hl2]; rfl
  exact go p cc hp

theorem dgs_getD {l : List ByteArray} {j : Nat} (h : j < l.length) : (dgs l).getD (j : Int).toNat .nilP = dgD (l[j]'h) := by
  unfold dgs
  rw [Int.toNat_natCast, List.getD_eq_getElem?_getD, List.getElem?_map, List.getElem?_eq_getElem h]
  rfl

theorem cat_snoc (l : List ByteArray) (b : ByteArray) : catB (l ++ [b]) = catB l ++ b := by
  induction l with
  | nil => show b ++ .empty = .empty ++ b; rw [ByteArray.append_empty, ByteArray.empty_append]
  | cons a l ih => show a ++ catB (l ++ [b]) = a ++ catB l ++ b; rw [ih, ByteArray.append_assoc]

theorem cat_take {l : List ByteArray} {j : Nat} (h : j < l.length) : catB (l.take (j + 1)) = catB (l.take j) ++ l[j]'h := by
  rw [List.take_add_one, List.getElem?_eq_getElem h]
  exact cat_snoc _ _

theorem rdgs_c {l : List ByteArray} (hl : dgF l) : CallR cx 71 [.d (.sl 32 (dgs l))] [] fun r S => r = st (dgsB l) ∧ S = [] := by
  obtain ⟨h1, h2⟩ := hl
  have hlen : (dgs l).length = l.length := List.length_map _
  have bc : CallR cx 66 [u64 (IntKind.u64.wrap (((dgs l).length : Nat) : Int)), i64 4] [] fun r S => r = st (bigB l.length 4) ∧ S = [] := by
    rw [hlen, wrapN (by omega)]; exact rbig4_c (by omega)
  unfold dgsB
  generalize hB : bigB l.length 4 = B at *
  have hBs : B.size = 4 := by rw [← hB, bigB_size]
  refine callR_of (R := R1) cx_ok Try.func71 (by kernel_rfl) rfl ?_
  conv => whnf
  refine ⟨_, bc, ?_⟩
  rintro _ _ ⟨rfl, rfl⟩
  conv => whnf
  refine .inl ⟨fun m L S => ∃ j : Nat, j ≤ l.length ∧ m = l.length - j ∧
      L = [(3, st (B ++ catB (l.take j))), (10, .d (.sl 32 (dgs l))), (11, i64 (((dgs l).length : Nat) : Int)), (12, i64 (j : Int))] ∧ S = [],
    ⟨_, _, ⟨0, Nat.zero_le _, rfl, rfl, rfl⟩, ⟨congrArg (fun z => some (st z)) (show B = B ++ .empty by rw [ByteArray.append_empty]), rfl, rfl, rfl, trivial⟩⟩, ?_⟩
  rintro _ _ _ ⟨j, hj, rfl, rfl, rfl⟩
  have hc := cat_size (l := l.take j) (fun b hb => h2 b (List.mem_of_mem_take hb))
  rw [List.length_take] at hc
  conv => whnf
  refine brec (fun h4 => ?_) (fun h4 => ?_)
  · have h4 := of_decide_eq_true h4
    rw [hlen] at h4
    have hlt : j < l.length := by omega
    conv => whnf
    refine ⟨⟨by omega, by rw [hlen]; omega⟩, ?_⟩
    rw [dgs_getD hlt]
    have hct := cat_take hlt
    have hsz := h2 _ (List.getElem_mem hlt)
    generalize l[j]'hlt = b at *
    have dc := rdig_c hsz
    have e3 : IntKind.i64.wrap ((j : Int) + 1) = ((j + 1 : Nat) : Int) := by rw [w64 (by omega)]; omega
    generalize catB (l.take j) = C at *
    conv => whnf
    refine ⟨_, dc, ?_⟩
    rintro _ _ ⟨rfl, rfl⟩
    conv => whnf
    refine ⟨by simp only [ByteArray.size_append]; omega, ?_⟩
    conv => whnf
    exact ⟨_, _, 0, (by omega : l.length - (j + 1) < l.length - j), ⟨j + 1, by omega, rfl, rfl, rfl⟩,
      ⟨congrArg (fun z => some (st z)) (by rw [hct, ByteArray.append_assoc]), rfl, rfl, congrArg (fun z => some (i64 z)) e3, trivial⟩, rfl⟩
  · have h4 := of_decide_eq_false h4
    rw [hlen] at h4
    obtain rfl : j = l.length := by omega
    conv => whnf
    rw [List.take_length]
    exact ⟨rfl, rfl⟩

theorem wdgs_c {l : List ByteArray} (hl : dgF l) : CallR cx 64 [.d (.sl 32 (dgs l))] [] fun r S => r = st (dgsB l) ∧ S = [] := by
  obtain ⟨h1, h2⟩ := hl
  have hlen : (dgs l).length = l.length := List.length_map _
  have bc : CallR cx 60 [u32 (IntKind.u32.wrap (((dgs l).length : Nat) : Int))] [] fun r S => r = st (bigB l.length 4) ∧ S = [] := by
    rw [hlen, wrap32 (by omega)]; exact wword_c (by omega)
  unfold dgsB
  generalize hB : bigB l.length 4 = B at *
  have hBs : B.size = 4 := by rw [← hB, bigB_size]
  refine callR_of (R := R1) cx_ok Try.func64 (by kernel_rfl) rfl ?_
  conv => whnf
  refine ⟨_, bc, ?_⟩
  rintro _ _ ⟨rfl, rfl⟩
  conv => whnf
  refine ⟨_, writeString_c (s := .empty) (.inl rfl) (by rw [hBs]; decide), ?_⟩
  rintro _ _ ⟨rfl, rfl⟩
  conv => whnf
  have e0 : D.bytes (ByteArray.empty ++ B) = D.bytes (B ++ catB (l.take 0)) := by rw [ByteArray.empty_append]; show _ = D.bytes (B ++ .empty); rw [ByteArray.append_empty]
  refine .inr ⟨fun m L S => ∃ j : Nat, j ≤ l.length ∧ m = l.length - j ∧
      L = [(3, .ptr 1 []), (11, .d (.sl 32 (dgs l))), (12, i64 (((dgs l).length : Nat) : Int)), (13, i64 (j : Int))] ∧
      S = [.sealed (.sl 1 (D.bytes .empty)), .tvar 186 (.agg [.ptr 1 [], .row 2]), .row 5 1 (D.bytes (B ++ catB (l.take j)))],
    ⟨_, _, ⟨0, Nat.zero_le _, rfl, rfl, congrArg (fun z => [Blk.sealed (.sl 1 (D.bytes .empty)), .tvar 186 (.agg [.ptr 1 [], .row 2]), .row 5 1 z]) e0⟩, ⟨rfl, rfl, rfl, rfl, trivial⟩⟩, ?_⟩
  rintro _ _ _ ⟨j, hj, rfl, rfl, rfl⟩
  have hc := cat_size (l := l.take j) (fun b hb => h2 b (List.mem_of_mem_take hb))
  rw [List.length_take] at hc
  conv => whnf
  refine brec (fun h4 => ?_) (fun h4 => ?_)
  · have h4 := of_decide_eq_true h4
    rw [hlen] at h4
    have hlt : j < l.length := by omega
    conv => whnf
    refine ⟨⟨by omega, by rw [hlen]; omega⟩, ?_⟩
    rw [dgs_getD hlt]
    have hct := cat_take hlt
    have hsz := h2 _ (List.getElem_mem hlt)
    generalize l[j]'hlt = b at *
    have e3 : IntKind.i64.wrap ((j : Int) + 1) = ((j + 1 : Nat) : Int) := by rw [w64 (by omega)]; omega
    generalize catB (l.take j) = C at *
    have wc := write_c (p := .ptr 0 []) (s := B ++ C) (b := b) (.inr rfl) hsz (by simp only [ByteArray.size_append]; omega)
    conv => whnf
    refine ⟨by decide, ?_⟩
    conv => whnf
    refine ⟨_, wc, ?_⟩
    rintro _ _ ⟨rfl, rfl⟩
    conv => whnf
    refine ⟨l.length - (j + 1), [(3, .ptr 1 []), (11, .d (.sl 32 (dgs l))), (12, i64 (((dgs l).length : Nat) : Int)), (13, i64 ((j + 1 : Nat) : Int))], [0, 1, 4], by omega, ⟨rfl, rfl, rfl, congrArg (fun z => some (i64 z)) e3, trivial⟩, ?_⟩
    conv => whnf
    refine ⟨j + 1, by omega, rfl, rfl, ?_⟩
    rw [hct, ← ByteArray.append_assoc]
  · have h4 := of_decide_eq_false h4
    rw [hlen] at h4
    obtain rfl : j = l.length := by omega
    rw [List.take_length]
    conv => whnf
    refine ⟨_, string_c (.inr rfl), ?_⟩
    rintro _ _ ⟨rfl, rfl⟩
    conv => whnf
    exact ⟨rfl, rfl⟩
theorem wsig_c {s : Sg} (hs : s.fit) : CallR cx 59 [.d s.d] [] fun r S => r = st (sigB s) ∧ S = [] := by
  obtain ⟨_, h1, h2, h3⟩ := hs
  obtain ⟨i, pa, ot, pt⟩ := s
  simp only at h1 h2 h3
  have d1 := wdgs_c h1
  have d2 := wdgs_c h2
  have d3 := wdgs_c h3
  have s1 := dgsB_size h1
  have s2 := dgsB_size h2
  have s3 := dgsB_size h3
  unfold sigB Sg.d
  have wo : CallR cx 60 [u32 (IntKind.u32.wrap i)] [] fun r S => r = st (bigB (low4 i) 4) ∧ S = [] := by
    rw [wrapLow]; exact wword_c (low4_lt i)
  generalize dgs pa = l1 at *
  generalize dgs ot = l2 at *
  generalize dgs pt = l3 at *
  simp only
  generalize dgsB pa = P at *
  generalize dgsB ot = O at *
  generalize dgsB pt = Q at *
  generalize low4 i = k at *
  refine callR_of (R := R1) cx_ok Try.func59 (by kernel_rfl) rfl ?_
  conv => whnf
  refine ⟨by kernel_rfl, ?_⟩
  conv => whnf
  refine ⟨_, wo, ?_⟩
  conv => whnf
  refine ⟨_, d1, ?_⟩
  conv => whnf
  refine ⟨by (repeat (first | rw [ByteArray.size_append] | rw [bigB_size])); omega, ?_⟩
  conv => whnf
  refine ⟨_, d2, ?_⟩
  conv => whnf
  refine ⟨by (repeat (first | rw [ByteArray.size_append] | rw [bigB_size])); omega, ?_⟩
  conv => whnf
  refine ⟨_, d3, ?_⟩
  conv => whnf
  refine ⟨by (repeat (first | rw [ByteArray.size_append] | rw [bigB_size])); omega, ?_⟩
  conv => whnf
  refine ⟨by kernel_rfl, ?_⟩
  conv => whnf
  exact ⟨rfl, rfl⟩

theorem rsig_c {s : Sg} (hs : s.fit) : CallR cx 74 [.d s.d] [] fun r S => r = st (sigB s) ∧ S = [] := by
  obtain ⟨_, h1, h2, h3⟩ := hs
  obtain ⟨i, pa, ot, pt⟩ := s
  simp only at h1 h2 h3
  have d1 := rdgs_c h1
  have d2 := rdgs_c h2
  have d3 := rdgs_c h3
  have s1 := dgsB_size h1
  have s2 := dgsB_size h2
  have s3 := dgsB_size h3
  unfold sigB Sg.d
  have wo : CallR cx 66 [u64 ((IntKind.u64.wrap i).tmod 4294967296), i64 4] [] fun r S => r = st (bigB (low4 i) 4) ∧ S = [] := by
    have e : (IntKind.u64.wrap i).tmod 4294967296 = ((low4 i : Nat) : Int) := by
      rw [Ab.wrap64, Int.tmod_eq_emod_of_nonneg (by omega)]; unfold low4; omega
    rw [e]; exact rbig4_c (by have := low4_lt i; omega)
  generalize dgs pa = l1 at *
  generalize dgs ot = l2 at *
  generalize dgs pt = l3 at *
  simp only
  generalize dgsB pa = P at *
  generalize dgsB ot = O at *
  generalize dgsB pt = Q at *
  generalize low4 i = k at *
  refine callR_of (R := R1) cx_ok Try.func74 (by kernel_rfl) rfl ?_
  conv => whnf
  refine ⟨by kernel_rfl, ?_⟩
  conv => whnf
  refine ⟨by decide, ?_⟩
  conv => whnf
  refine ⟨_, wo, ?_⟩
  conv => whnf
  refine ⟨_, d1, ?_⟩
  conv => whnf
  refine ⟨by (repeat (first | rw [ByteArray.size_append] | rw [bigB_size])); omega, ?_⟩
  conv => whnf
  refine ⟨_, d2, ?_⟩
  conv => whnf
  refine ⟨by (repeat (first | rw [ByteArray.size_append] | rw [bigB_size])); omega, ?_⟩
  conv => whnf
  refine ⟨_, d3, ?_⟩
  conv => whnf
  refine ⟨by (repeat (first | rw [ByteArray.size_append] | rw [bigB_size])); omega, ?_⟩
  conv => whnf
  refine ⟨by kernel_rfl, ?_⟩
  conv => whnf
  exact ⟨rfl, rfl⟩

theorem wup_c {u : Up} (hu : u.fit) : CallR cx 93 [.d u.d] [] fun r S => r = st (upB u) ∧ S = [] := by
  obtain ⟨h1, h2, h3, h4⟩ := hu
  obtain ⟨n, a, b, s⟩ := u
  simp only at h1 h2 h3 h4
  have wo := wword_c (n := n) h1
  have d1 := wdig_c h2
  have d2 := wdig_c h3
  have d3 := wsig_c h4
  have s3 := sigB_size h4
  unfold upB Up.d
  simp only
  generalize sigB s = Q at *
  obtain ⟨si, sa, sb, sc⟩ := s
  unfold Sg.d at *
  simp only at *
  generalize dgs sa = la at *
  generalize dgs sb = lb at *
  generalize dgs sc = lc at *
  unfold dgD at *
  generalize D.bytes a = ad at *
  generalize D.bytes b = bd at *
  refine callR_of (R := R1) cx_ok Try.func93 (by kernel_rfl) rfl ?_
  conv => whnf
  refine ⟨by kernel_rfl, ?_⟩
  conv => whnf
  refine ⟨_, wo, ?_⟩
  conv => whnf
  refine ⟨_, d1, ?_⟩
  conv => whnf
  refine ⟨by (repeat (first | rw [ByteArray.size_append] | rw [bigB_size])); omega, ?_⟩
  conv => whnf
  refine ⟨_, d2, ?_⟩
  conv => whnf
  refine ⟨by (repeat (first | rw [ByteArray.size_append] | rw [bigB_size])); omega, ?_⟩
  conv => whnf
  refine ⟨_, d3, ?_⟩
  conv => whnf
  refine ⟨by (repeat (first | rw [ByteArray.size_append] | rw [bigB_size])); omega, ?_⟩
  conv => whnf
  refine ⟨by kernel_rfl, ?_⟩
  conv => whnf
  exact ⟨rfl, rfl⟩

theorem rup_c {u : Up} (hu : u.fit) : CallR cx 68 [.d u.d] [] fun r S => r = st (upB u) ∧ S = [] := by
  obtain ⟨h1, h2, h3, h4⟩ := hu
  obtain ⟨n, a, b, s⟩ := u
  simp only at h1 h2 h3 h4
  have wo : CallR cx 66 [u64 (IntKind.u64.wrap (n : Int)), i64 4] [] fun r S => r = st (bigB n 4) ∧ S = [] := by rw [wrapN (by omega)]; exact rbig4_c (by omega)
  have d1 := rdig_c h2
  have d2 := rdig_c h3
  have d3 := rsig_c h4
  have s3 := sigB_size h4
  unfold upB Up.d
  simp only
  generalize sigB s = Q at *
  obtain ⟨si, sa, sb, sc⟩ := s
  unfold Sg.d at *
  simp only at *
  generalize dgs sa = la at *
  generalize dgs sb = lb at *
  generalize dgs sc = lc at *
  unfold dgD at *
  generalize D.bytes a = ad at *
  generalize D.bytes b = bd at *
  refine callR_of (R := R1) cx_ok Try.func68 (by kernel_rfl) rfl ?_
  conv => whnf
  refine ⟨by kernel_rfl, ?_⟩
  conv => whnf
  refine ⟨_, wo, ?_⟩
  conv => whnf
  refine ⟨_, d1, ?_⟩
  conv => whnf
  refine ⟨by (repeat (first | rw [ByteArray.size_append] | rw [bigB_size])); omega, ?_⟩
  conv => whnf
  refine ⟨_, d2, ?_⟩
  conv => whnf
  refine ⟨by (repeat (first | rw [ByteArray.size_append] | rw [bigB_size])); omega, ?_⟩
  conv => whnf
  refine ⟨_, d3, ?_⟩
  conv => whnf
  refine ⟨by (repeat (first | rw [ByteArray.size_append] | rw [bigB_size])); omega, ?_⟩
  conv => whnf
  refine ⟨by kernel_rfl, ?_⟩
  conv => whnf
  exact ⟨rfl, rfl⟩

theorem wsp_c {u : Sp} (hu : u.fit) : CallR cx 62 [.d u.d] [] fun r S => r = st (spB u) ∧ S = [] := by
  obtain ⟨h1, h2, _, h4⟩ := hu
  obtain ⟨n, a, i, s⟩ := u
  simp only at h1 h2 h4
  have wo := wword_c (n := n) h1
  have w2 : CallR cx 60 [u32 (IntKind.u32.wrap i)] [] fun r S => r = st (bigB (low4 i) 4) ∧ S = [] := by
    rw [wrapLow]; exact wword_c (low4_lt i)
  have d1 := wdig_c h2
  have d3 := wsig_c h4
  have s3 := sigB_size h4
  unfold spB Sp.d
  simp only
  generalize sigB s = Q at *
  obtain ⟨si, sa, sb, sc⟩ := s
  unfold Sg.d at *
  simp only at *
  generalize dgs sa = la at *
  generalize dgs sb = lb at *
  generalize dgs sc = lc at *
  unfold dgD at *
  generalize D.bytes a = ad at *
  generalize low4 i = k at *
  refine callR_of (R := R1) cx_ok Try.func62 (by kernel_rfl) rfl ?_
  conv => whnf
  refine ⟨by kernel_rfl, ?_⟩
  conv => whnf
  refine ⟨_, wo, ?_⟩
  conv => whnf
  refine ⟨_, d1, ?_⟩
  conv => whnf
  refine ⟨by (repeat (first | rw [ByteArray.size_append] | rw [bigB_size])); omega, ?_⟩
  conv => whnf
  refine ⟨_, w2, ?_⟩
  conv => whnf
  refine ⟨by (repeat (first | rw [ByteArray.size_append] | rw [bigB_size])); omega, ?_⟩
  conv => whnf
  refine ⟨_, d3, ?_⟩
  conv => whnf
  refine ⟨by (repeat (first | rw [ByteArray.size_append] | rw [bigB_size])); omega, ?_⟩
  conv => whnf
  refine ⟨by kernel_rfl, ?_⟩
  conv => whnf
  exact ⟨rfl, rfl⟩

theorem rsp_c {u : Sp} (hu : u.fit) : CallR cx 69 [.d u.d] [] fun r S => r = st (spB u) ∧ S = [] := by
  obtain ⟨h1, h2, _, h4⟩ := hu
  obtain ⟨n, a, i, s⟩ := u
  simp only at h1 h2 h4
  have wo : CallR cx 66 [u64 (IntKind.u64.wrap (n : Int)), i64 4] [] fun r S => r = st (bigB n 4) ∧ S = [] := by rw [wrapN (by omega)]; exact rbig4_c (by omega)
  have w2 := rbigLow (i := i)
  have d1 := rdig_c h2
  have d3 := rsig_c h4
  have s3 := sigB_size h4
  unfold spB Sp.d
  simp only
  generalize sigB s = Q at *
  obtain ⟨si, sa, sb, sc⟩ := s
  unfold Sg.d at *
  simp only at *
  generalize dgs sa = la at *
  generalize dgs sb = lb at *
  generalize dgs sc = lc at *
  unfold dgD at *
  generalize D.bytes a = ad at *
  generalize low4 i = k at *
  refine callR_of (R := R1) cx_ok Try.func69 (by kernel_rfl) rfl ?_
  conv => whnf
  refine ⟨by kernel_rfl, ?_⟩
  conv => whnf
  refine ⟨_, wo, ?_⟩
  conv => whnf
  refine ⟨_, d1, ?_⟩
  conv => whnf
  refine ⟨by (repeat (first | rw [ByteArray.size_append] | rw [bigB_size])); omega, ?_⟩
  conv => whnf
  refine ⟨_, w2, ?_⟩
  conv => whnf
  refine ⟨by (repeat (first | rw [ByteArray.size_append] | rw [bigB_size])); omega, ?_⟩
  conv => whnf
  refine ⟨_, d3, ?_⟩
  conv => whnf
  refine ⟨by (repeat (first | rw [ByteArray.size_append] | rw [bigB_size])); omega, ?_⟩
  conv => whnf
  refine ⟨by kernel_rfl, ?_⟩
  conv => whnf
  exact ⟨rfl, rfl⟩

theorem ctext_c {u : Up} (hu : u.fit) : CallR cx 61 [.d u.d] [] fun r S => r = st (textB (upB u)) ∧ S = [] := by
  have c1 := wup_c hu
  have c2 := wtext_c (s := upB u) (Nat.lt_of_le_of_lt (upB_size hu) (by decide))
  generalize upB u = b at *
  obtain ⟨n, a, c, ⟨si, sa, sb, sc⟩⟩ := u
  unfold Up.d Sg.d dgD at *
  simp only at *
  generalize dgs sa = la at *
  generalize dgs sb = lb at *
  generalize dgs sc = lc at *
  generalize D.bytes a = ad at *
  generalize D.bytes c = cd at *
  refine callR_of (R := R1) cx_ok Try.func61 (by kernel_rfl) rfl ?_
  conv => whnf
  refine ⟨_, c1, ?_⟩
  rintro _ _ ⟨rfl, rfl⟩
  conv => whnf
  refine ⟨_, c2, ?_⟩
  rintro _ _ ⟨rfl, rfl⟩
  conv => whnf
  exact ⟨rfl, rfl⟩

theorem wle_c {l : Le} (hl : l.fit) : CallR cx 98 [.d l.d] [] fun r S => r = st (leB l) ∧ S = [] := by
  obtain ⟨h1, h2, h3, h4, h5, h6⟩ := hl
  obtain ⟨f, n, t, a, b, c⟩ := l
  simp only at h1 h2 h3 h4 h5 h6
  unfold tx at h4 h5 h6
  have w1 := wword_c (n := f) h1
  have w2 := wword_c (n := n) h2
  have w3 := wword_c (n := t) h3
  have t1 := wtext_c (s := a) (by omega)
  have t2 := wtext_c (s := b) (by omega)
  have t3 := wtext_c (s := c) (by omega)
  have s1 := textB_size a
  have s2 := textB_size b
  have s3 := textB_size c
  unfold leB Le.d
  simp only
  generalize textB a = A at *
  generalize textB b = B at *
  generalize textB c = C at *
  refine callR_of (R := R1) cx_ok Try.func98 (by kernel_rfl) rfl ?_
  conv => whnf
  refine ⟨by kernel_rfl, ?_⟩
  conv => whnf
  refine ⟨_, w1, ?_⟩
  conv => whnf
  refine ⟨_, w2, ?_⟩
  conv => whnf
  refine ⟨by (repeat (first | rw [ByteArray.size_append] | rw [bigB_size])); omega, ?_⟩
  conv => whnf
  refine ⟨_, w3, ?_⟩
  conv => whnf
  refine ⟨by (repeat (first | rw [ByteArray.size_append] | rw [bigB_size])); omega, ?_⟩
  conv => whnf
  refine ⟨_, t1, ?_⟩
  conv => whnf
  refine ⟨by (repeat (first | rw [ByteArray.size_append] | rw [bigB_size])); omega, ?_⟩
  conv => whnf
  refine ⟨_, t2, ?_⟩
  conv => whnf
  refine ⟨by (repeat (first | rw [ByteArray.size_append] | rw [bigB_size])); omega, ?_⟩
  conv => whnf
  refine ⟨_, t3, ?_⟩
  conv => whnf
  refine ⟨by (repeat (first | rw [ByteArray.size_append] | rw [bigB_size])); omega, ?_⟩
  conv => whnf
  refine ⟨by kernel_rfl, ?_⟩
  conv => whnf
  exact ⟨rfl, rfl⟩

theorem rle_c {l : Le} (hl : l.fit) : CallR cx 73 [.d l.d] [] fun r S => r = st (leB l) ∧ S = [] := by
  obtain ⟨h1, h2, h3, h4, h5, h6⟩ := hl
  obtain ⟨f, n, t, a, b, c⟩ := l
  simp only at h1 h2 h3 h4 h5 h6
  unfold tx at h4 h5 h6
  have w1 : CallR cx 66 [u64 (IntKind.u64.wrap (f : Int)), i64 4] [] fun r S => r = st (bigB f 4) ∧ S = [] := by rw [wrapN (by omega)]; exact rbig4_c (by omega)
  have w2 : CallR cx 66 [u64 (IntKind.u64.wrap (n : Int)), i64 4] [] fun r S => r = st (bigB n 4) ∧ S = [] := by rw [wrapN (by omega)]; exact rbig4_c (by omega)
  have w3 : CallR cx 66 [u64 (IntKind.u64.wrap (t : Int)), i64 4] [] fun r S => r = st (bigB t 4) ∧ S = [] := by rw [wrapN (by omega)]; exact rbig4_c (by omega)
  have t1 := rtext_c (s := a) (by omega)
  have t2 := rtext_c (s := b) (by omega)
  have t3 := rtext_c (s := c) (by omega)
  have s1 := textB_size a
  have s2 := textB_size b
  have s3 := textB_size c
  unfold leB Le.d
  simp only
  generalize textB a = A at *
  generalize textB b = B at *
  generalize textB c = C at *
  refine callR_of (R := R1) cx_ok Try.func73 (by kernel_rfl) rfl ?_
  conv => whnf
  refine ⟨_, w1, ?_⟩
  rintro _ _ ⟨rfl, rfl⟩
  conv => whnf
  refine ⟨_, w2, ?_⟩
  rintro _ _ ⟨rfl, rfl⟩
  conv => whnf
  refine ⟨by (repeat (first | rw [ByteArray.size_append] | rw [bigB_size])); omega, ?_⟩
  conv => whnf
  refine ⟨_, w3, ?_⟩
  rintro _ _ ⟨rfl, rfl⟩
  conv => whnf
  refine ⟨by (repeat (first | rw [ByteArray.size_append] | rw [bigB_size])); omega, ?_⟩
  conv => whnf
  refine ⟨by kernel_rfl, ?_⟩
  conv => whnf
  refine ⟨_, t1, ?_⟩
  conv => whnf
  refine ⟨by (repeat (first | rw [ByteArray.size_append] | rw [bigB_size])); omega, ?_⟩
  conv => whnf
  refine ⟨_, t2, ?_⟩
  conv => whnf
  refine ⟨by (repeat (first | rw [ByteArray.size_append] | rw [bigB_size])); omega, ?_⟩
  conv => whnf
  refine ⟨_, t3, ?_⟩
  conv => whnf
  refine ⟨by (repeat (first | rw [ByteArray.size_append] | rw [bigB_size])); omega, ?_⟩
  conv => whnf
  refine ⟨by kernel_rfl, ?_⟩
  conv => whnf
  exact ⟨rfl, rfl⟩

theorem wleR_c {l : Le} (hl : l.fit) : CallR cx 97 [.d l.d] [] fun r S => r = bo l.right ∧ S = [] := by
  obtain ⟨h1, h2, h3, h4, h5, h6⟩ := hl
  obtain ⟨f, n, t, a, b, c⟩ := l
  simp only at h1 h2 h3 h4 h5 h6
  unfold tx at h4 h5 h6
  have c1 := right_c (s := a) (by omega)
  have c2 := right_c (s := b) (by omega)
  unfold Le.right Le.d
  simp only
  generalize rightT a = A at *
  generalize rightT b = B at *
  refine callR_of (R := R1) cx_ok Try.func97 (by kernel_rfl) rfl ?_
  conv => whnf
  refine ⟨_, c1, ?_⟩
  rintro _ _ ⟨rfl, rfl⟩
  conv => whnf
  cases A with
  | false =>
    conv => whnf
    exact ⟨rfl, rfl⟩
  | true =>
  conv => whnf
  refine ⟨_, c2, ?_⟩
  rintro _ _ ⟨rfl, rfl⟩
  conv => whnf
  cases B with
  | false =>
    conv => whnf
    exact ⟨rfl, rfl⟩
  | true =>
  conv => whnf
  exact ⟨rfl, rfl⟩

theorem rleR_c {l : Le} (hl : l.fit) : CallR cx 72 [.d l.d] [] fun r S => r = bo l.right ∧ S = [] := by
  obtain ⟨h1, h2, h3, h4, h5, h6⟩ := hl
  obtain ⟨f, n, t, a, b, c⟩ := l
  simp only at h1 h2 h3 h4 h5 h6
  unfold tx at h4 h5 h6
  have c1 := rright_c (s := a) (by omega)
  have c2 := rright_c (s := b) (by omega)
  unfold Le.right Le.d
  simp only
  generalize rightT a = A at *
  generalize rightT b = B at *
  refine callR_of (R := R1) cx_ok Try.func72 (by kernel_rfl) rfl ?_
  conv => whnf
  refine ⟨_, c1, ?_⟩
  rintro _ _ ⟨rfl, rfl⟩
  conv => whnf
  cases A with
  | false =>
    conv => whnf
    exact ⟨rfl, rfl⟩
  | true =>
  conv => whnf
  refine ⟨_, c2, ?_⟩
  rintro _ _ ⟨rfl, rfl⟩
  conv => whnf
  cases B with
  | false =>
    conv => whnf
    exact ⟨rfl, rfl⟩
  | true =>
  conv => whnf
  exact ⟨rfl, rfl⟩

theorem leBytes_c {l : Le} (hl : l.fit) : CallR cx 65 [.d l.d] [] fun r S => r = (if l.right = true then .tup [st (leB l), i64 0] else .tup [st .empty, i64 4]) ∧ S = [] := by
  have c1 := wleR_c hl
  have c2 := wle_c hl
  generalize leB l = b at *
  generalize l.right = R at *
  obtain ⟨f, n, t, x, y, z⟩ := l
  unfold Le.d at *
  simp only at *
  refine callR_of (R := R1) cx_ok Try.func65 (by kernel_rfl) rfl ?_
  conv => whnf
  refine ⟨_, c1, ?_⟩
  rintro _ _ ⟨rfl, rfl⟩
  conv => whnf
  cases R with
  | false =>
    conv => whnf
    exact ⟨rfl, rfl⟩
  | true =>
  conv => whnf
  refine ⟨_, c2, ?_⟩
  rintro _ _ ⟨rfl, rfl⟩
  conv => whnf
  exact ⟨rfl, rfl⟩

end Go.Proofs.Ytboohfijacjhjaa

/- Calls: which one, its bytes, its signature's index (printed by gen/ccall.py). -/
set_option linter.unusedVariables false
namespace Go.Proofs.Ytboohfijacjhjaa
open Go.Ab Go.RowKit

def pay3 : ByteArray := ⟨#[112, 97, 121]⟩
def Cl.d : Cl → D
  | .pay a b n k g => .iface 87 (.agg [.str a, .str b, .int .u64 n, .int .u64 k, g.d])
  | .send a o t b n k g => .iface 89 (.agg [.str a, .int .u32 o, .str t, .str b, .int .u64 n, .int .u64 k, g.d])
  | .say a b k g => .iface 91 (.agg [.str a, .str b, .int .u64 k, g.d])
  | .tell a b k g => .iface 93 (.agg [.str a, .str b, .int .u64 k, g.d])
  | .submit u => .iface 95 (.agg [u.d])
  | .improp u c => .iface 97 (.agg [u.d, .str c])
  | .double u v c => .iface 99 (.agg [u.d, v.d, .str c])
  | .accept u => .iface 100 (.agg [u.d])
  | .doubled u v => .iface 102 (.agg [u.d, v.d])
  | .halt s => .iface 104 (.agg [s.d])
  | .prove l i br => .iface 84 (.agg [dgD l, .int .u32 i, .sl 32 (dgs br)])
  | .process l => .iface 106 (.agg [l.d])
  | .no => .nilI
  | .word => .iface 9 (.str pay3)

theorem ctag_c {c : Cl} : CallR cx 52 [.d c.d] [] fun r S => r = i64 (c.tag : Int) ∧ S = [] := by
  cases c <;>
  · refine callR_of (R := R1) cx_ok Try.func52 (by kernel_rfl) rfl ?_
    conv => whnf
    exact ⟨rfl, rfl⟩

def Cl.cE : Cl → Int
  | .process l => if l.right = true then 0 else 4
  | .no => 2
  | .word => 2
  | _ => 0
def Cl.cS (c : Cl) : ByteArray := if c.cE = 0 then c.bytes else .empty

theorem cb_pay {a : ByteArray} {b : ByteArray} {n : Nat} {k : Nat} {g : Sg} (h : (Cl.pay a b n k g).fit) : CallR cx 30 [.d (Cl.pay a b n k g).d] [] fun r S => r = .tup [st (Cl.pay a b n k g).cS, i64 (Cl.pay a b n k g).cE] ∧ S = [] := by
  have tg := ctag_c (c := Cl.pay a b n k g)
  obtain ⟨h0, h1, h2, h3, h4⟩ := h
  have wb : CallR cx 56 [u8 (IntKind.u8.wrap (1 : Int))] [] fun r S => r = st (bigB 1 1) ∧ S = [] := by rw [wrap8 (by omega)]; exact wbyte_c (n := 1) (by omega)
  unfold tx at h0
  have c_a := wtext_c (s := a) (by omega)
  have z_a := textB_size a
  unfold tx at h1
  have c_b := wtext_c (s := b) (by omega)
  have z_b := textB_size b
  have c_n := wlong_c (n := n)
  have c_k := wlong_c (n := k)
  have c_g := wsig_c h4
  have z_g := sigB_size h4
  unfold Cl.cS Cl.cE Cl.bytes Cl.tail Cl.tag Cl.d at *
  simp only at *
  rw [if_pos trivial]
  generalize textB a = B_a at *
  generalize textB b = B_b at *
  generalize sigB g = B_g at *
  obtain ⟨gi, g1, g2, g3⟩ := g
  unfold Sg.d at *
  try simp only at *
  generalize dgs g1 = gA at *
  generalize dgs g2 = gB at *
  generalize dgs g3 = gC at *
  refine callR_of (R := R1) cx_ok Try.func30 (by kernel_rfl) rfl ?_
  conv => whnf
  refine ⟨_, tg, ?_⟩
  rintro _ _ ⟨rfl, rfl⟩
  conv => whnf
  refine ⟨_, wb, ?_⟩
  rintro _ _ ⟨rfl, rfl⟩
  conv => whnf
  refine ⟨by kernel_rfl, ?_⟩
  conv => whnf
  refine ⟨_, c_a, ?_⟩
  conv => whnf
  refine ⟨_, c_b, ?_⟩
  conv => whnf
  refine ⟨by (repeat (first | rw [ByteArray.size_append] | rw [bigB_size])); omega, ?_⟩
  conv => whnf
  refine ⟨_, c_n, ?_⟩
  conv => whnf
  refine ⟨by (repeat (first | rw [ByteArray.size_append] | rw [bigB_size])); omega, ?_⟩
  conv => whnf
  refine ⟨_, c_k, ?_⟩
  conv => whnf
  refine ⟨by (repeat (first | rw [ByteArray.size_append] | rw [bigB_size])); omega, ?_⟩
  conv => whnf
  refine ⟨_, c_g, ?_⟩
  conv => whnf
  refine ⟨by (repeat (first | rw [ByteArray.size_append] | rw [bigB_size])); omega, ?_⟩
  conv => whnf
  refine ⟨by (repeat (first | rw [ByteArray.size_append] | rw [bigB_size])); omega, ?_⟩
  conv => whnf
  refine ⟨by kernel_rfl, ?_⟩
  conv => whnf
  exact ⟨rfl, rfl⟩

theorem cb_send {a : ByteArray} {o : Nat} {t : ByteArray} {b : ByteArray} {n : Nat} {k : Nat} {g : Sg} (h : (Cl.send a o t b n k g).fit) : CallR cx 30 [.d (Cl.send a o t b n k g).d] [] fun r S => r = .tup [st (Cl.send a o t b n k g).cS, i64 (Cl.send a o t b n k g).cE] ∧ S = [] := by
  have tg := ctag_c (c := Cl.send a o t b n k g)
  obtain ⟨h0, h1, h2, h3, h4, h5, h6⟩ := h
  have wb : CallR cx 56 [u8 (IntKind.u8.wrap (2 : Int))] [] fun r S => r = st (bigB 2 1) ∧ S = [] := by rw [wrap8 (by omega)]; exact wbyte_c (n := 2) (by omega)
  unfold tx at h0
  have c_a := wtext_c (s := a) (by omega)
  have z_a := textB_size a
  have c_o := wword_c (n := o) h1
  unfold tx at h2
  have c_t := wtext_c (s := t) (by omega)
  have z_t := textB_size t
  unfold tx at h3
  have c_b := wtext_c (s := b) (by omega)
  have z_b := textB_size b
  have c_n := wlong_c (n := n)
  have c_k := wlong_c (n := k)
  have c_g := wsig_c h6
  have z_g := sigB_size h6
  unfold Cl.cS Cl.cE Cl.bytes Cl.tail Cl.tag Cl.d at *
  simp only at *
  rw [if_pos trivial]
  generalize textB a = B_a at *
  generalize textB t = B_t at *
  generalize textB b = B_b at *
  generalize sigB g = B_g at *
  obtain ⟨gi, g1, g2, g3⟩ := g
  unfold Sg.d at *
  try simp only at *
  generalize dgs g1 = gA at *
  generalize dgs g2 = gB at *
  generalize dgs g3 = gC at *
  refine callR_of (R := R1) cx_ok Try.func30 (by kernel_rfl) rfl ?_
  conv => whnf
  refine ⟨_, tg, ?_⟩
  rintro _ _ ⟨rfl, rfl⟩
  conv => whnf
  refine ⟨_, wb, ?_⟩
  rintro _ _ ⟨rfl, rfl⟩
  conv => whnf
  refine ⟨by kernel_rfl, ?_⟩
  conv => whnf
  refine ⟨_, c_a, ?_⟩
  conv => whnf
  refine ⟨_, c_o, ?_⟩
  conv => whnf
  refine ⟨by (repeat (first | rw [ByteArray.size_append] | rw [bigB_size])); omega, ?_⟩
  conv => whnf
  refine ⟨_, c_t, ?_⟩
  conv => whnf
  refine ⟨by (repeat (first | rw [ByteArray.size_append] | rw [bigB_size])); omega, ?_⟩
  conv => whnf
  refine ⟨_, c_b, ?_⟩
  conv => whnf
  refine ⟨by (repeat (first | rw [ByteArray.size_append] | rw [bigB_size])); omega, ?_⟩
  conv => whnf
  refine ⟨_, c_n, ?_⟩
  conv => whnf
  refine ⟨by (repeat (first | rw [ByteArray.size_append] | rw [bigB_size])); omega, ?_⟩
  conv => whnf
  refine ⟨_, c_k, ?_⟩
  conv => whnf
  refine ⟨by (repeat (first | rw [ByteArray.size_append] | rw [bigB_size])); omega, ?_⟩
  conv => whnf
  refine ⟨_, c_g, ?_⟩
  conv => whnf
  refine ⟨by (repeat (first | rw [ByteArray.size_append] | rw [bigB_size])); omega, ?_⟩
  conv => whnf
  refine ⟨by (repeat (first | rw [ByteArray.size_append] | rw [bigB_size])); omega, ?_⟩
  conv => whnf
  refine ⟨by kernel_rfl, ?_⟩
  conv => whnf
  exact ⟨rfl, rfl⟩

theorem cb_say {a : ByteArray} {b : ByteArray} {k : Nat} {g : Sg} (h : (Cl.say a b k g).fit) : CallR cx 30 [.d (Cl.say a b k g).d] [] fun r S => r = .tup [st (Cl.say a b k g).cS, i64 (Cl.say a b k g).cE] ∧ S = [] := by
  have tg := ctag_c (c := Cl.say a b k g)
  obtain ⟨h0, h1, h2, h3⟩ := h
  have wb : CallR cx 56 [u8 (IntKind.u8.wrap (3 : Int))] [] fun r S => r = st (bigB 3 1) ∧ S = [] := by rw [wrap8 (by omega)]; exact wbyte_c (n := 3) (by omega)
  unfold tx at h0
  have c_a := wtext_c (s := a) (by omega)
  have z_a := textB_size a
  unfold tx at h1
  have c_b := wtext_c (s := b) (by omega)
  have z_b := textB_size b
  have c_k := wlong_c (n := k)
  have c_g := wsig_c h3
  have z_g := sigB_size h3
  unfold Cl.cS Cl.cE Cl.bytes Cl.tail Cl.tag Cl.d at *
  simp only at *
  rw [if_pos trivial]
  generalize textB a = B_a at *
  generalize textB b = B_b at *
  generalize sigB g = B_g at *
  obtain ⟨gi, g1, g2, g3⟩ := g
  unfold Sg.d at *
  try simp only at *
  generalize dgs g1 = gA at *
  generalize dgs g2 = gB at *
  generalize dgs g3 = gC at *
  refine callR_of (R := R1) cx_ok Try.func30 (by kernel_rfl) rfl ?_
  conv => whnf
  refine ⟨_, tg, ?_⟩
  rintro _ _ ⟨rfl, rfl⟩
  conv => whnf
  refine ⟨_, wb, ?_⟩
  rintro _ _ ⟨rfl, rfl⟩
  conv => whnf
  refine ⟨by kernel_rfl, ?_⟩
  conv => whnf
  refine ⟨_, c_a, ?_⟩
  conv => whnf
  refine ⟨_, c_b, ?_⟩
  conv => whnf
  refine ⟨by (repeat (first | rw [ByteArray.size_append] | rw [bigB_size])); omega, ?_⟩
  conv => whnf
  refine ⟨_, c_k, ?_⟩
  conv => whnf
  refine ⟨by (repeat (first | rw [ByteArray.size_append] | rw [bigB_size])); omega, ?_⟩
  conv => whnf
  refine ⟨_, c_g, ?_⟩
  conv => whnf
  refine ⟨by (repeat (first | rw [ByteArray.size_append] | rw [bigB_size])); omega, ?_⟩
  conv => whnf
  refine ⟨by (repeat (first | rw [ByteArray.size_append] | rw [bigB_size])); omega, ?_⟩
  conv => whnf
  refine ⟨by kernel_rfl, ?_⟩
  conv => whnf
  exact ⟨rfl, rfl⟩

theorem cb_tell {a : ByteArray} {b : ByteArray} {k : Nat} {g : Sg} (h : (Cl.tell a b k g).fit) : CallR cx 30 [.d (Cl.tell a b k g).d] [] fun r S => r = .tup [st (Cl.tell a b k g).cS, i64 (Cl.tell a b k g).cE] ∧ S = [] := by
  have tg := ctag_c (c := Cl.tell a b k g)
  obtain ⟨h0, h1, h2, h3⟩ := h
  have wb : CallR cx 56 [u8 (IntKind.u8.wrap (4 : Int))] [] fun r S => r = st (bigB 4 1) ∧ S = [] := by rw [wrap8 (by omega)]; exact wbyte_c (n := 4) (by omega)
  unfold tx at h0
  have c_a := wtext_c (s := a) (by omega)
  have z_a := textB_size a
  unfold tx at h1
  have c_b := wtext_c (s := b) (by omega)
  have z_b := textB_size b
  have c_k := wlong_c (n := k)
  have c_g := wsig_c h3
  have z_g := sigB_size h3
  unfold Cl.cS Cl.cE Cl.bytes Cl.tail Cl.tag Cl.d at *
  simp only at *
  rw [if_pos trivial]
  generalize textB a = B_a at *
  generalize textB b = B_b at *
  generalize sigB g = B_g at *
  obtain ⟨gi, g1, g2, g3⟩ := g
  unfold Sg.d at *
  try simp only at *
  generalize dgs g1 = gA at *
  generalize dgs g2 = gB at *
  generalize dgs g3 = gC at *
  refine callR_of (R := R1) cx_ok Try.func30 (by kernel_rfl) rfl ?_
  conv => whnf
  refine ⟨_, tg, ?_⟩
  rintro _ _ ⟨rfl, rfl⟩
  conv => whnf
  refine ⟨_, wb, ?_⟩
  rintro _ _ ⟨rfl, rfl⟩
  conv => whnf
  refine ⟨by kernel_rfl, ?_⟩
  conv => whnf
  refine ⟨_, c_a, ?_⟩
  conv => whnf
  refine ⟨_, c_b, ?_⟩
  conv => whnf
  refine ⟨by (repeat (first | rw [ByteArray.size_append] | rw [bigB_size])); omega, ?_⟩
  conv => whnf
  refine ⟨_, c_k, ?_⟩
  conv => whnf
  refine ⟨by (repeat (first | rw [ByteArray.size_append] | rw [bigB_size])); omega, ?_⟩
  conv => whnf
  refine ⟨_, c_g, ?_⟩
  conv => whnf
  refine ⟨by (repeat (first | rw [ByteArray.size_append] | rw [bigB_size])); omega, ?_⟩
  conv => whnf
  refine ⟨by (repeat (first | rw [ByteArray.size_append] | rw [bigB_size])); omega, ?_⟩
  conv => whnf
  refine ⟨by kernel_rfl, ?_⟩
  conv => whnf
  exact ⟨rfl, rfl⟩

theorem cb_submit {u : Up} (h : (Cl.submit u).fit) : CallR cx 30 [.d (Cl.submit u).d] [] fun r S => r = .tup [st (Cl.submit u).cS, i64 (Cl.submit u).cE] ∧ S = [] := by
  have tg := ctag_c (c := Cl.submit u)
  have h0 := h
  have wb : CallR cx 56 [u8 (IntKind.u8.wrap (5 : Int))] [] fun r S => r = st (bigB 5 1) ∧ S = [] := by rw [wrap8 (by omega)]; exact wbyte_c (n := 5) (by omega)
  have c_u := ctext_c h0
  have z_u := upB_size h0
  rw [← Nat.add_le_add_iff_left (n := 4), ← textB_size] at z_u
  unfold Cl.cS Cl.cE Cl.bytes Cl.tail Cl.tag Cl.d at *
  simp only at *
  rw [if_pos trivial]
  generalize textB (upB u) = B_u at *
  obtain ⟨uh, uo, un, ⟨ui, u1, u2, u3⟩⟩ := u
  unfold Up.d Sg.d dgD at *
  try simp only at *
  generalize dgs u1 = uA at *
  generalize dgs u2 = uB at *
  generalize dgs u3 = uC at *
  generalize D.bytes uo = uD at *
  generalize D.bytes un = uE at *
  refine callR_of (R := R1) cx_ok Try.func30 (by kernel_rfl) rfl ?_
  conv => whnf
  refine ⟨_, tg, ?_⟩
  rintro _ _ ⟨rfl, rfl⟩
  conv => whnf
  refine ⟨_, wb, ?_⟩
  rintro _ _ ⟨rfl, rfl⟩
  conv => whnf
  refine ⟨_, c_u, ?_⟩
  rintro _ _ ⟨rfl, rfl⟩
  conv => whnf
  refine ⟨by (repeat (first | rw [ByteArray.size_append] | rw [bigB_size])); omega, ?_⟩
  conv => whnf
  exact ⟨rfl, rfl⟩

theorem cb_improp {u : Up} {c : ByteArray} (h : (Cl.improp u c).fit) : CallR cx 30 [.d (Cl.improp u c).d] [] fun r S => r = .tup [st (Cl.improp u c).cS, i64 (Cl.improp u c).cE] ∧ S = [] := by
  have tg := ctag_c (c := Cl.improp u c)
  obtain ⟨h0, h1⟩ := h
  have wb : CallR cx 56 [u8 (IntKind.u8.wrap (6 : Int))] [] fun r S => r = st (bigB 6 1) ∧ S = [] := by rw [wrap8 (by omega)]; exact wbyte_c (n := 6) (by omega)
  have c_u := ctext_c h0
  have z_u := upB_size h0
  rw [← Nat.add_le_add_iff_left (n := 4), ← textB_size] at z_u
  unfold tx at h1
  have c_c := wtext_c (s := c) (by omega)
  have z_c := textB_size c
  unfold Cl.cS Cl.cE Cl.bytes Cl.tail Cl.tag Cl.d at *
  simp only at *
  rw [if_pos trivial]
  generalize textB (upB u) = B_u at *
  generalize textB c = B_c at *
  obtain ⟨uh, uo, un, ⟨ui, u1, u2, u3⟩⟩ := u
  unfold Up.d Sg.d dgD at *
  try simp only at *
  generalize dgs u1 = uA at *
  generalize dgs u2 = uB at *
  generalize dgs u3 = uC at *
  generalize D.bytes uo = uD at *
  generalize D.bytes un = uE at *
  refine callR_of (R := R1) cx_ok Try.func30 (by kernel_rfl) rfl ?_
  conv => whnf
  refine ⟨_, tg, ?_⟩
  rintro _ _ ⟨rfl, rfl⟩
  conv => whnf
  refine ⟨_, wb, ?_⟩
  rintro _ _ ⟨rfl, rfl⟩
  conv => whnf
  refine ⟨by kernel_rfl, ?_⟩
  conv => whnf
  refine ⟨_, c_u, ?_⟩
  conv => whnf
  refine ⟨_, c_c, ?_⟩
  conv => whnf
  refine ⟨by (repeat (first | rw [ByteArray.size_append] | rw [bigB_size])); omega, ?_⟩
  conv => whnf
  refine ⟨by (repeat (first | rw [ByteArray.size_append] | rw [bigB_size])); omega, ?_⟩
  conv => whnf
  refine ⟨by kernel_rfl, ?_⟩
  conv => whnf
  exact ⟨rfl, rfl⟩

theorem cb_double {u : Up} {v : Up} {c : ByteArray} (h : (Cl.double u v c).fit) : CallR cx 30 [.d (Cl.double u v c).d] [] fun r S => r = .tup [st (Cl.double u v c).cS, i64 (Cl.double u v c).cE] ∧ S = [] := by
  have tg := ctag_c (c := Cl.double u v c)
  obtain ⟨h0, h1, h2⟩ := h
  have wb : CallR cx 56 [u8 (IntKind.u8.wrap (7 : Int))] [] fun r S => r = st (bigB 7 1) ∧ S = [] := by rw [wrap8 (by omega)]; exact wbyte_c (n := 7) (by omega)
  have c_u := ctext_c h0
  have z_u := upB_size h0
  rw [← Nat.add_le_add_iff_left (n := 4), ← textB_size] at z_u
  have c_v := ctext_c h1
  have z_v := upB_size h1
  rw [← Nat.add_le_add_iff_left (n := 4), ← textB_size] at z_v
  unfold tx at h2
  have c_c := wtext_c (s := c) (by omega)
  have z_c := textB_size c
  unfold Cl.cS Cl.cE Cl.bytes Cl.tail Cl.tag Cl.d at *
  simp only at *
  rw [if_pos trivial]
  generalize textB (upB u) = B_u at *
  generalize textB (upB v) = B_v at *
  generalize textB c = B_c at *
  obtain ⟨uh, uo, un, ⟨ui, u1, u2, u3⟩⟩ := u
  obtain ⟨vh, vo, vn, ⟨vi, v1, v2, v3⟩⟩ := v
  unfold Up.d Sg.d dgD at *
  try simp only at *
  generalize dgs u1 = uA at *
  generalize dgs u2 = uB at *
  generalize dgs u3 = uC at *
  generalize D.bytes uo = uD at *
  generalize D.bytes un = uE at *
  generalize dgs v1 = vA at *
  generalize dgs v2 = vB at *
  generalize dgs v3 = vC at *
  generalize D.bytes vo = vD at *
  generalize D.bytes vn = vE at *
  refine callR_of (R := R1) cx_ok Try.func30 (by kernel_rfl) rfl ?_
  conv => whnf
  refine ⟨_, tg, ?_⟩
  rintro _ _ ⟨rfl, rfl⟩
  conv => whnf
  refine ⟨_, wb, ?_⟩
  rintro _ _ ⟨rfl, rfl⟩
  conv => whnf
  refine ⟨by kernel_rfl, ?_⟩
  conv => whnf
  refine ⟨_, c_u, ?_⟩
  conv => whnf
  refine ⟨_, c_v, ?_⟩
  conv => whnf
  refine ⟨by (repeat (first | rw [ByteArray.size_append] | rw [bigB_size])); omega, ?_⟩
  conv => whnf
  refine ⟨_, c_c, ?_⟩
  conv => whnf
  refine ⟨by (repeat (first | rw [ByteArray.size_append] | rw [bigB_size])); omega, ?_⟩
  conv => whnf
  refine ⟨by (repeat (first | rw [ByteArray.size_append] | rw [bigB_size])); omega, ?_⟩
  conv => whnf
  refine ⟨by kernel_rfl, ?_⟩
  conv => whnf
  exact ⟨rfl, rfl⟩

theorem cb_accept {u : Up} (h : (Cl.accept u).fit) : CallR cx 30 [.d (Cl.accept u).d] [] fun r S => r = .tup [st (Cl.accept u).cS, i64 (Cl.accept u).cE] ∧ S = [] := by
  have tg := ctag_c (c := Cl.accept u)
  have h0 := h
  have wb : CallR cx 56 [u8 (IntKind.u8.wrap (8 : Int))] [] fun r S => r = st (bigB 8 1) ∧ S = [] := by rw [wrap8 (by omega)]; exact wbyte_c (n := 8) (by omega)
  have c_u := ctext_c h0
  have z_u := upB_size h0
  rw [← Nat.add_le_add_iff_left (n := 4), ← textB_size] at z_u
  unfold Cl.cS Cl.cE Cl.bytes Cl.tail Cl.tag Cl.d at *
  simp only at *
  rw [if_pos trivial]
  generalize textB (upB u) = B_u at *
  obtain ⟨uh, uo, un, ⟨ui, u1, u2, u3⟩⟩ := u
  unfold Up.d Sg.d dgD at *
  try simp only at *
  generalize dgs u1 = uA at *
  generalize dgs u2 = uB at *
  generalize dgs u3 = uC at *
  generalize D.bytes uo = uD at *
  generalize D.bytes un = uE at *
  refine callR_of (R := R1) cx_ok Try.func30 (by kernel_rfl) rfl ?_
  conv => whnf
  refine ⟨_, tg, ?_⟩
  rintro _ _ ⟨rfl, rfl⟩
  conv => whnf
  refine ⟨_, wb, ?_⟩
  rintro _ _ ⟨rfl, rfl⟩
  conv => whnf
  refine ⟨_, c_u, ?_⟩
  rintro _ _ ⟨rfl, rfl⟩
  conv => whnf
  refine ⟨by (repeat (first | rw [ByteArray.size_append] | rw [bigB_size])); omega, ?_⟩
  conv => whnf
  exact ⟨rfl, rfl⟩

theorem cb_doubled {u : Up} {v : Up} (h : (Cl.doubled u v).fit) : CallR cx 30 [.d (Cl.doubled u v).d] [] fun r S => r = .tup [st (Cl.doubled u v).cS, i64 (Cl.doubled u v).cE] ∧ S = [] := by
  have tg := ctag_c (c := Cl.doubled u v)
  obtain ⟨h0, h1⟩ := h
  have wb : CallR cx 56 [u8 (IntKind.u8.wrap (9 : Int))] [] fun r S => r = st (bigB 9 1) ∧ S = [] := by rw [wrap8 (by omega)]; exact wbyte_c (n := 9) (by omega)
  have c_u := ctext_c h0
  have z_u := upB_size h0
  rw [← Nat.add_le_add_iff_left (n := 4), ← textB_size] at z_u
  have c_v := ctext_c h1
  have z_v := upB_size h1
  rw [← Nat.add_le_add_iff_left (n := 4), ← textB_size] at z_v
  unfold Cl.cS Cl.cE Cl.bytes Cl.tail Cl.tag Cl.d at *
  simp only at *
  rw [if_pos trivial]
  generalize textB (upB u) = B_u at *
  generalize textB (upB v) = B_v at *
  obtain ⟨uh, uo, un, ⟨ui, u1, u2, u3⟩⟩ := u
  obtain ⟨vh, vo, vn, ⟨vi, v1, v2, v3⟩⟩ := v
  unfold Up.d Sg.d dgD at *
  try simp only at *
  generalize dgs u1 = uA at *
  generalize dgs u2 = uB at *
  generalize dgs u3 = uC at *
  generalize D.bytes uo = uD at *
  generalize D.bytes un = uE at *
  generalize dgs v1 = vA at *
  generalize dgs v2 = vB at *
  generalize dgs v3 = vC at *
  generalize D.bytes vo = vD at *
  generalize D.bytes vn = vE at *
  refine callR_of (R := R1) cx_ok Try.func30 (by kernel_rfl) rfl ?_
  conv => whnf
  refine ⟨_, tg, ?_⟩
  rintro _ _ ⟨rfl, rfl⟩
  conv => whnf
  refine ⟨_, wb, ?_⟩
  rintro _ _ ⟨rfl, rfl⟩
  conv => whnf
  refine ⟨by kernel_rfl, ?_⟩
  conv => whnf
  refine ⟨_, c_u, ?_⟩
  conv => whnf
  refine ⟨_, c_v, ?_⟩
  conv => whnf
  refine ⟨by (repeat (first | rw [ByteArray.size_append] | rw [bigB_size])); omega, ?_⟩
  conv => whnf
  refine ⟨by (repeat (first | rw [ByteArray.size_append] | rw [bigB_size])); omega, ?_⟩
  conv => whnf
  refine ⟨by kernel_rfl, ?_⟩
  conv => whnf
  exact ⟨rfl, rfl⟩

theorem cb_halt {s : Sp} (h : (Cl.halt s).fit) : CallR cx 30 [.d (Cl.halt s).d] [] fun r S => r = .tup [st (Cl.halt s).cS, i64 (Cl.halt s).cE] ∧ S = [] := by
  have tg := ctag_c (c := Cl.halt s)
  have h0 := h
  have wb : CallR cx 56 [u8 (IntKind.u8.wrap (10 : Int))] [] fun r S => r = st (bigB 10 1) ∧ S = [] := by rw [wrap8 (by omega)]; exact wbyte_c (n := 10) (by omega)
  have c_s := wsp_c h0
  have e_s := wtext_c (s := spB s) (Nat.lt_of_le_of_lt (spB_size h0) (by decide))
  have z_s := spB_size h0
  have y_s := textB_size (spB s)
  unfold Cl.cS Cl.cE Cl.bytes Cl.tail Cl.tag Cl.d at *
  simp only at *
  rw [if_pos trivial]
  generalize textB (spB s) = B_s at *
  generalize spB s = P_s at *
  obtain ⟨sh, so, sw, ⟨si, s1, s2, s3⟩⟩ := s
  unfold Sp.d Sg.d dgD at *
  try simp only at *
  generalize dgs s1 = sA at *
  generalize dgs s2 = sB at *
  generalize dgs s3 = sC at *
  generalize D.bytes so = sD at *
  refine callR_of (R := R1) cx_ok Try.func30 (by kernel_rfl) rfl ?_
  conv => whnf
  refine ⟨_, tg, ?_⟩
  rintro _ _ ⟨rfl, rfl⟩
  conv => whnf
  refine ⟨_, wb, ?_⟩
  rintro _ _ ⟨rfl, rfl⟩
  conv => whnf
  refine ⟨_, c_s, ?_⟩
  rintro _ _ ⟨rfl, rfl⟩
  conv => whnf
  refine ⟨_, e_s, ?_⟩
  rintro _ _ ⟨rfl, rfl⟩
  conv => whnf
  refine ⟨by (repeat (first | rw [ByteArray.size_append] | rw [bigB_size])); omega, ?_⟩
  conv => whnf
  exact ⟨rfl, rfl⟩

theorem cb_prove {l : ByteArray} {i : Nat} {br : List ByteArray} (h : (Cl.prove l i br).fit) : CallR cx 30 [.d (Cl.prove l i br).d] [] fun r S => r = .tup [st (Cl.prove l i br).cS, i64 (Cl.prove l i br).cE] ∧ S = [] := by
  have tg := ctag_c (c := Cl.prove l i br)
  obtain ⟨h0, h1, h2⟩ := h
  have wb : CallR cx 56 [u8 (IntKind.u8.wrap (11 : Int))] [] fun r S => r = st (bigB 11 1) ∧ S = [] := by rw [wrap8 (by omega)]; exact wbyte_c (n := 11) (by omega)
  have c_l := wdig_c h0
  have c_i := wword_c (n := i) h1
  have c_br := wdgs_c h2
  have z_br := dgsB_size h2
  unfold Cl.cS Cl.cE Cl.bytes Cl.tail Cl.tag Cl.d at *
  simp only at *
  rw [if_pos trivial]
  generalize dgsB br = B_br at *
  unfold dgD at *
  try simp only at *
  generalize D.bytes l = lD at *
  generalize dgs br = brA at *
  refine callR_of (R := R1) cx_ok Try.func30 (by kernel_rfl) rfl ?_
  conv => whnf
  refine ⟨_, tg, ?_⟩
  rintro _ _ ⟨rfl, rfl⟩
  conv => whnf
  refine ⟨_, wb, ?_⟩
  rintro _ _ ⟨rfl, rfl⟩
  conv => whnf
  refine ⟨by kernel_rfl, ?_⟩
  conv => whnf
  refine ⟨_, c_l, ?_⟩
  conv => whnf
  refine ⟨_, c_i, ?_⟩
  conv => whnf
  refine ⟨by (repeat (first | rw [ByteArray.size_append] | rw [bigB_size])); omega, ?_⟩
  conv => whnf
  refine ⟨_, c_br, ?_⟩
  conv => whnf
  refine ⟨by (repeat (first | rw [ByteArray.size_append] | rw [bigB_size])); omega, ?_⟩
  conv => whnf
  refine ⟨by (repeat (first | rw [ByteArray.size_append] | rw [bigB_size])); omega, ?_⟩
  conv => whnf
  refine ⟨by kernel_rfl, ?_⟩
  conv => whnf
  exact ⟨rfl, rfl⟩

theorem cb_process {l : Le} (h : (Cl.process l).fit) : CallR cx 30 [.d (Cl.process l).d] [] fun r S => r = .tup [st (Cl.process l).cS, i64 (Cl.process l).cE] ∧ S = [] := by
  have tg := ctag_c (c := Cl.process l)
  have h0 := h
  have wb : CallR cx 56 [u8 (IntKind.u8.wrap (12 : Int))] [] fun r S => r = st (bigB 12 1) ∧ S = [] := by rw [wrap8 (by omega)]; exact wbyte_c (n := 12) (by omega)
  have c_l := leBytes_c h0
  have e_l := wtext_c (s := leB l) (Nat.lt_of_le_of_lt (leB_size h0) (by decide))
  have z_l := leB_size h0
  have y_l := textB_size (leB l)
  unfold Cl.cS Cl.cE Cl.bytes Cl.tail Cl.tag Cl.d at *
  simp only at *
  generalize textB (leB l) = B_l at *
  generalize leB l = P_l at *
  generalize l.right = R at *
  obtain ⟨la, lb, lc, lx, ly, lz⟩ := l
  unfold Le.d at *
  try simp only at *
  refine callR_of (R := R1) cx_ok Try.func30 (by kernel_rfl) rfl ?_
  conv => whnf
  refine ⟨_, tg, ?_⟩
  rintro _ _ ⟨rfl, rfl⟩
  conv => whnf
  refine ⟨_, wb, ?_⟩
  rintro _ _ ⟨rfl, rfl⟩
  conv => whnf
  cases R with
  | false =>
    rw [if_neg (by decide)] at c_l
    rw [if_neg (by decide : ¬ (false = true)), if_neg (by decide)]
    refine ⟨_, c_l, ?_⟩
    rintro _ _ ⟨rfl, rfl⟩
    conv => whnf
    exact ⟨rfl, rfl⟩
  | true =>
  rw [if_pos rfl] at c_l
  rw [if_pos (rfl : true = true), if_pos rfl]
  refine ⟨_, c_l, ?_⟩
  rintro _ _ ⟨rfl, rfl⟩
  conv => whnf
  refine ⟨_, e_l, ?_⟩
  rintro _ _ ⟨rfl, rfl⟩
  conv => whnf
  refine ⟨by (repeat (first | rw [ByteArray.size_append] | rw [bigB_size])); omega, ?_⟩
  conv => whnf
  exact ⟨rfl, rfl⟩

theorem cb_no : CallR cx 30 [.d Cl.no.d] [] fun r S => r = .tup [st Cl.no.cS, i64 Cl.no.cE] ∧ S = [] := by
  have tg := ctag_c (c := Cl.no)
  have wb : CallR cx 56 [u8 (IntKind.u8.wrap (0 : Int))] [] fun r S => r = st (bigB 0 1) ∧ S = [] := by rw [wrap8 (by omega)]; exact wbyte_c (n := 0) (by omega)
  refine callR_of (R := R1) cx_ok Try.func30 (by kernel_rfl) rfl ?_
  conv => whnf
  refine ⟨_, tg, ?_⟩
  rintro _ _ ⟨rfl, rfl⟩
  conv => whnf
  refine ⟨_, wb, ?_⟩
  rintro _ _ ⟨rfl, rfl⟩
  conv => whnf
  exact ⟨rfl, rfl⟩

theorem cb_word : CallR cx 30 [.d Cl.word.d] [] fun r S => r = .tup [st Cl.word.cS, i64 Cl.word.cE] ∧ S = [] := by
  have tg := ctag_c (c := Cl.word)
  have wb : CallR cx 56 [u8 (IntKind.u8.wrap (0 : Int))] [] fun r S => r = st (bigB 0 1) ∧ S = [] := by rw [wrap8 (by omega)]; exact wbyte_c (n := 0) (by omega)
  refine callR_of (R := R1) cx_ok Try.func30 (by kernel_rfl) rfl ?_
  conv => whnf
  refine ⟨_, tg, ?_⟩
  rintro _ _ ⟨rfl, rfl⟩
  conv => whnf
  refine ⟨_, wb, ?_⟩
  rintro _ _ ⟨rfl, rfl⟩
  conv => whnf
  exact ⟨rfl, rfl⟩

theorem cbytes_n {c : Cl} (h : c.fit) (h12 : c.tag ≠ 12) : CallR cx 30 [.d c.d] [] fun r S => r = .tup [st c.cS, i64 c.cE] ∧ S = [] := by
  cases c with
  | pay a b n k g => exact cb_pay h
  | send a o t b n k g => exact cb_send h
  | say a b k g => exact cb_say h
  | tell a b k g => exact cb_tell h
  | submit u => exact cb_submit h
  | improp u c => exact cb_improp h
  | double u v c => exact cb_double h
  | accept u => exact cb_accept h
  | doubled u v => exact cb_doubled h
  | halt s => exact cb_halt h
  | prove l i br => exact cb_prove h
  | process l => exact absurd rfl h12
  | no => exact cb_no
  | word => exact cb_word

theorem cbytes_c {c : Cl} (h : c.fit) : CallR cx 30 [.d c.d] [] fun r S => r = .tup [st c.cS, i64 c.cE] ∧ S = [] := by
  cases c with
  | process l => exact cb_process h
  | _ => exact cbytes_n h (by unfold Cl.tag; simp only; decide)
end Go.Proofs.Ytboohfijacjhjaa

/- Calls: who signs, the index, whether two are one (printed by gen/csame.py). -/
set_option linter.unusedVariables false
namespace Go.Proofs.Ytboohfijacjhjaa
open Go.Ab Go.RowKit

def Cl.who : Cl → ByteArray
  | .pay a _ _ _ _ => a
  | .send a _ _ _ _ _ _ => a
  | .say a _ _ _ => a
  | .tell a _ _ _ => a
  | _ => .empty
def Cl.non : Cl → Nat
  | .pay _ _ _ k _ => k
  | .send _ _ _ _ _ k _ => k
  | .say _ _ k _ => k
  | .tell _ _ k _ => k
  | _ => 0
def Cl.sg : Cl → Sg
  | .pay _ _ _ _ g => g
  | .send _ _ _ _ _ _ g => g
  | .say _ _ _ g => g
  | .tell _ _ _ g => g
  | _ => sg0
def Cl.isS : Cl → Bool
  | .pay .. => true
  | .send .. => true
  | .say .. => true
  | .tell .. => true
  | _ => false

theorem csigned_c {c : Cl} : CallR cx 91 [.d c.d] [] fun r S => r = .tup [st c.who, u64 (c.non : Int), .d c.sg.d, bo c.isS] ∧ S = [] := by
  cases c with
  | pay a b n k g =>
    obtain ⟨gi, g1, g2, g3⟩ := g
    unfold Cl.d Cl.who Cl.non Cl.sg Cl.isS Sg.d
    simp only
    generalize dgs g1 = gA at *
    generalize dgs g2 = gB at *
    generalize dgs g3 = gC at *
    refine callR_of (R := R1) cx_ok Try.func91 (by kernel_rfl) rfl ?_
    conv => whnf
    refine ⟨by kernel_rfl, ?_⟩
    conv => whnf
    refine ⟨by kernel_rfl, ?_⟩
    conv => whnf
    exact ⟨rfl, rfl⟩
  | send a o t b n k g =>
    obtain ⟨gi, g1, g2, g3⟩ := g
    unfold Cl.d Cl.who Cl.non Cl.sg Cl.isS Sg.d
    simp only
    generalize dgs g1 = gA at *
    generalize dgs g2 = gB at *
    generalize dgs g3 = gC at *
    refine callR_of (R := R1) cx_ok Try.func91 (by kernel_rfl) rfl ?_
    conv => whnf
    refine ⟨by kernel_rfl, ?_⟩
    conv => whnf
    refine ⟨by kernel_rfl, ?_⟩
    conv => whnf
    exact ⟨rfl, rfl⟩
  | say a b k g =>
    obtain ⟨gi, g1, g2, g3⟩ := g
    unfold Cl.d Cl.who Cl.non Cl.sg Cl.isS Sg.d
    simp only
    generalize dgs g1 = gA at *
    generalize dgs g2 = gB at *
    generalize dgs g3 = gC at *
    refine callR_of (R := R1) cx_ok Try.func91 (by kernel_rfl) rfl ?_
    conv => whnf
    refine ⟨by kernel_rfl, ?_⟩
    conv => whnf
    refine ⟨by kernel_rfl, ?_⟩
    conv => whnf
    exact ⟨rfl, rfl⟩
  | tell a b k g =>
    obtain ⟨gi, g1, g2, g3⟩ := g
    unfold Cl.d Cl.who Cl.non Cl.sg Cl.isS Sg.d
    simp only
    generalize dgs g1 = gA at *
    generalize dgs g2 = gB at *
    generalize dgs g3 = gC at *
    refine callR_of (R := R1) cx_ok Try.func91 (by kernel_rfl) rfl ?_
    conv => whnf
    refine ⟨by kernel_rfl, ?_⟩
    conv => whnf
    refine ⟨by kernel_rfl, ?_⟩
    conv => whnf
    exact ⟨rfl, rfl⟩
  | submit u =>
    refine callR_of (R := R1) cx_ok Try.func91 (by kernel_rfl) rfl ?_
    conv => whnf
    exact ⟨rfl, rfl⟩
  | improp u c =>
    refine callR_of (R := R1) cx_ok Try.func91 (by kernel_rfl) rfl ?_
    conv => whnf
    exact ⟨rfl, rfl⟩
  | double u v c =>
    refine callR_of (R := R1) cx_ok Try.func91 (by kernel_rfl) rfl ?_
    conv => whnf
    exact ⟨rfl, rfl⟩
  | accept u =>
    refine callR_of (R := R1) cx_ok Try.func91 (by kernel_rfl) rfl ?_
    conv => whnf
    exact ⟨rfl, rfl⟩
  | doubled u v =>
    refine callR_of (R := R1) cx_ok Try.func91 (by kernel_rfl) rfl ?_
    conv => whnf
    exact ⟨rfl, rfl⟩
  | halt s =>
    refine callR_of (R := R1) cx_ok Try.func91 (by kernel_rfl) rfl ?_
    conv => whnf
    exact ⟨rfl, rfl⟩
  | prove l i br =>
    refine callR_of (R := R1) cx_ok Try.func91 (by kernel_rfl) rfl ?_
    conv => whnf
    exact ⟨rfl, rfl⟩
  | process l =>
    refine callR_of (R := R1) cx_ok Try.func91 (by kernel_rfl) rfl ?_
    conv => whnf
    exact ⟨rfl, rfl⟩
  | no =>
    refine callR_of (R := R1) cx_ok Try.func91 (by kernel_rfl) rfl ?_
    conv => whnf
    exact ⟨rfl, rfl⟩
  | word =>
    refine callR_of (R := R1) cx_ok Try.func91 (by kernel_rfl) rfl ?_
    conv => whnf
    exact ⟨rfl, rfl⟩

def idxD (x : Int × Int) : D := .arr 3 1 [.int .i64 x.1, .int .i64 x.2, .int .i64 0]

theorem cindex_c {c : Cl} : CallR cx 55 [.d c.d] [] fun r S => r = .d (idxD c.idx) ∧ S = [] := by
  have sc := csigned_c (c := c)
  cases c with
  | pay a b n k g =>
    obtain ⟨gi, g1, g2, g3⟩ := g
    refine callR_of (R := R1) cx_ok Try.func55 (by kernel_rfl) rfl ?_
    conv => whnf
    refine ⟨_, sc, ?_⟩
    rintro _ _ ⟨rfl, rfl⟩
    conv => whnf
    exact ⟨rfl, rfl⟩
  | send a o t b n k g =>
    obtain ⟨gi, g1, g2, g3⟩ := g
    refine callR_of (R := R1) cx_ok Try.func55 (by kernel_rfl) rfl ?_
    conv => whnf
    refine ⟨_, sc, ?_⟩
    rintro _ _ ⟨rfl, rfl⟩
    conv => whnf
    exact ⟨rfl, rfl⟩
  | say a b k g =>
    obtain ⟨gi, g1, g2, g3⟩ := g
    refine callR_of (R := R1) cx_ok Try.func55 (by kernel_rfl) rfl ?_
    conv => whnf
    refine ⟨_, sc, ?_⟩
    rintro _ _ ⟨rfl, rfl⟩
    conv => whnf
    exact ⟨rfl, rfl⟩
  | tell a b k g =>
    obtain ⟨gi, g1, g2, g3⟩ := g
    refine callR_of (R := R1) cx_ok Try.func55 (by kernel_rfl) rfl ?_
    conv => whnf
    refine ⟨_, sc, ?_⟩
    rintro _ _ ⟨rfl, rfl⟩
    conv => whnf
    exact ⟨rfl, rfl⟩
  | submit u =>
    obtain ⟨uh, uo, un, ⟨ui, u1, u2, u3⟩⟩ := u
    refine callR_of (R := R1) cx_ok Try.func55 (by kernel_rfl) rfl ?_
    conv => whnf
    refine ⟨_, sc, ?_⟩
    rintro _ _ ⟨rfl, rfl⟩
    conv => whnf
    exact ⟨rfl, rfl⟩
  | improp u c =>
    obtain ⟨uh, uo, un, ⟨ui, u1, u2, u3⟩⟩ := u
    refine callR_of (R := R1) cx_ok Try.func55 (by kernel_rfl) rfl ?_
    conv => whnf
    refine ⟨_, sc, ?_⟩
    rintro _ _ ⟨rfl, rfl⟩
    conv => whnf
    exact ⟨rfl, rfl⟩
  | double u v c =>
    obtain ⟨uh, uo, un, ⟨ui, u1, u2, u3⟩⟩ := u
    obtain ⟨vh, vo, vn, ⟨vi, v1, v2, v3⟩⟩ := v
    refine callR_of (R := R1) cx_ok Try.func55 (by kernel_rfl) rfl ?_
    conv => whnf
    refine ⟨_, sc, ?_⟩
    rintro _ _ ⟨rfl, rfl⟩
    conv => whnf
    exact ⟨rfl, rfl⟩
  | accept u =>
    obtain ⟨uh, uo, un, ⟨ui, u1, u2, u3⟩⟩ := u
    refine callR_of (R := R1) cx_ok Try.func55 (by kernel_rfl) rfl ?_
    conv => whnf
    refine ⟨_, sc, ?_⟩
    rintro _ _ ⟨rfl, rfl⟩
    conv => whnf
    exact ⟨rfl, rfl⟩
  | doubled u v =>
    obtain ⟨uh, uo, un, ⟨ui, u1, u2, u3⟩⟩ := u
    obtain ⟨vh, vo, vn, ⟨vi, v1, v2, v3⟩⟩ := v
    refine callR_of (R := R1) cx_ok Try.func55 (by kernel_rfl) rfl ?_
    conv => whnf
    refine ⟨_, sc, ?_⟩
    rintro _ _ ⟨rfl, rfl⟩
    conv => whnf
    exact ⟨rfl, rfl⟩
  | halt s =>
    obtain ⟨sh, so, sw, ⟨si, s1, s2, s3⟩⟩ := s
    refine callR_of (R := R1) cx_ok Try.func55 (by kernel_rfl) rfl ?_
    conv => whnf
    refine ⟨_, sc, ?_⟩
    rintro _ _ ⟨rfl, rfl⟩
    conv => whnf
    exact ⟨rfl, rfl⟩
  | prove l i br =>
    refine callR_of (R := R1) cx_ok Try.func55 (by kernel_rfl) rfl ?_
    conv => whnf
    refine ⟨_, sc, ?_⟩
    rintro _ _ ⟨rfl, rfl⟩
    conv => whnf
    exact ⟨rfl, rfl⟩
  | process l =>
    obtain ⟨la, lb, lc, lx, ly, lz⟩ := l
    refine callR_of (R := R1) cx_ok Try.func55 (by kernel_rfl) rfl ?_
    conv => whnf
    refine ⟨_, sc, ?_⟩
    rintro _ _ ⟨rfl, rfl⟩
    conv => whnf
    exact ⟨rfl, rfl⟩
  | no =>
    refine callR_of (R := R1) cx_ok Try.func55 (by kernel_rfl) rfl ?_
    conv => whnf
    refine ⟨_, sc, ?_⟩
    rintro _ _ ⟨rfl, rfl⟩
    conv => whnf
    exact ⟨rfl, rfl⟩
  | word =>
    refine callR_of (R := R1) cx_ok Try.func55 (by kernel_rfl) rfl ?_
    conv => whnf
    refine ⟨_, sc, ?_⟩
    rintro _ _ ⟨rfl, rfl⟩
    conv => whnf
    exact ⟨rfl, rfl⟩

theorem cwhole_c {c : Cl} (h : c.fit) (h12 : c.tag ≠ 12) : CallR cx 54 [.d c.d] [] fun r S => r = .tup [st c.cS, i64 c.cE] ∧ S = [] := by
  have cb := cbytes_n h h12
  generalize c.cS = s at *
  generalize c.cE = e at *
  generalize c.d = x at *
  refine callR_of (R := R1) cx_ok Try.func54 (by kernel_rfl) rfl ?_
  conv => whnf
  refine ⟨_, cb, ?_⟩
  rintro _ _ ⟨rfl, rfl⟩
  conv => whnf
  exact ⟨rfl, rfl⟩

theorem deq_iff {x y : D} {P : Prop} [Decidable P] (h : x = y ↔ P) : deq x y = decide P := by
  by_cases g : P
  · rw [decide_eq_true g]; exact deq_true.2 (h.2 g)
  · rw [decide_eq_false g]; exact deq_false.2 (fun e => g (h.1 e))

theorem idxD_inj {I J : Int × Int} : idxD I = idxD J ↔ I = J := by
  constructor
  · intro h
    unfold idxD at h
    injection h with _ _ h
    simp only [List.cons.injEq, D.int.injEq] at h
    exact Prod.ext h.1.2 h.2.1.2
  · rintro rfl; rfl

theorem sideI {I J : Int × Int} : ∃ T : Ty, T.fitE cx.tt 150 = true ∧ Nat.blt T.depth 9999 = true ∧ T.is (idxD I) ∧ T.is (idxD J) :=
  ⟨.arr 3 1 (.int .i64), by kernel_rfl, by kernel_rfl,
    ⟨_, rfl, rfl, fun y hy => by simp only [List.mem_cons, List.not_mem_nil, or_false] at hy; rcases hy with rfl | rfl | rfl <;> exact ⟨_, rfl⟩⟩,
    ⟨_, rfl, rfl, fun y hy => by simp only [List.mem_cons, List.not_mem_nil, or_false] at hy; rcases hy with rfl | rfl | rfl <;> exact ⟨_, rfl⟩⟩⟩

theorem same_0 {x y : D} (tg : CallR cx 52 [.d x] [] fun r S => r = i64 0 ∧ S = []) :
    CallR cx 28 [.d x, .d y] [] fun r S => r = bo false ∧ S = [] := by
  refine callR_of (R := R1) cx_ok Try.func28 (by kernel_rfl) rfl ?_
  conv => whnf
  refine ⟨_, tg, ?_⟩
  rintro _ _ ⟨rfl, rfl⟩
  conv => whnf
  exact ⟨rfl, rfl⟩

theorem same_ne {x y : D} {t u : Int} (h0 : t ≠ 0) (h : t ≠ u) (tg : CallR cx 52 [.d x] [] fun r S => r = i64 t ∧ S = [])
    (tg2 : CallR cx 52 [.d y] [] fun r S => r = i64 u ∧ S = []) :
    CallR cx 28 [.d x, .d y] [] fun r S => r = bo false ∧ S = [] := by
  refine callR_of (R := R1) cx_ok Try.func28 (by kernel_rfl) rfl ?_
  conv => whnf
  refine ⟨_, tg, ?_⟩
  rintro _ _ ⟨rfl, rfl⟩
  conv => whnf
  refine brF (beq_eq_false_iff_ne.2 h0) ?_
  conv => whnf
  refine ⟨_, tg, ?_⟩
  rintro _ _ ⟨rfl, rfl⟩
  conv => whnf
  refine ⟨_, tg2, ?_⟩
  rintro _ _ ⟨rfl, rfl⟩
  conv => whnf
  refine brT (bne_iff_ne.2 h) ?_
  conv => whnf
  exact ⟨rfl, rfl⟩

theorem same_b {c : Cl} {y : D} {t e e2 : Int} {s s2 : ByteArray} {I J : Int × Int} (h0 : t ≠ 0) (h12 : c.tag ≠ 12) (tg : CallR cx 52 [.d c.d] [] fun r S => r = i64 t ∧ S = [])
    (tg2 : CallR cx 52 [.d y] [] fun r S => r = i64 t ∧ S = [])
    (wc : CallR cx 54 [.d c.d] [] fun r S => r = .tup [st s, i64 e] ∧ S = [])
    (wd : CallR cx 54 [.d y] [] fun r S => r = .tup [st s2, i64 e2] ∧ S = [])
    (ic : CallR cx 55 [.d c.d] [] fun r S => r = .d (idxD I) ∧ S = [])
    (jc : CallR cx 55 [.d y] [] fun r S => r = .d (idxD J) ∧ S = []) :
    CallR cx 28 [.d c.d, .d y] [] fun r S => r = bo (decide (s = s2) && decide (I = J)) ∧ S = [] := by
  have hI := deq_iff (idxD_inj (I := I) (J := J))
  have sd := sideI (I := I) (J := J)
  unfold idxD at hI sd ic jc
  cases c with
  | process l => exact absurd rfl h12
  | _ =>
    refine callR_of (R := R1) cx_ok Try.func28 (by kernel_rfl) rfl ?_
    conv => whnf
    refine ⟨_, tg, ?_⟩
    rintro _ _ ⟨rfl, rfl⟩
    conv => whnf
    refine brF (beq_eq_false_iff_ne.2 h0) ?_
    conv => whnf
    refine ⟨_, tg, ?_⟩
    rintro _ _ ⟨rfl, rfl⟩
    conv => whnf
    refine ⟨_, tg2, ?_⟩
    rintro _ _ ⟨rfl, rfl⟩
    conv => whnf
    refine brF (bne_eq_false_iff_eq.2 rfl) ?_
    conv => whnf
    refine ⟨_, wc, ?_⟩
    rintro _ _ ⟨rfl, rfl⟩
    conv => whnf
    refine ⟨_, wd, ?_⟩
    rintro _ _ ⟨rfl, rfl⟩
    conv => whnf
    by_cases hs : s = s2
    · rw [decide_eq_true hs]
      conv => whnf
      refine ⟨_, ic, ?_⟩
      rintro _ _ ⟨rfl, rfl⟩
      conv => whnf
      refine ⟨_, jc, ?_⟩
      rintro _ _ ⟨rfl, rfl⟩
      conv => whnf
      refine ⟨sd, ?_⟩
      conv => whnf
      refine ⟨?_, rfl⟩
      rw [hI, Bool.true_and]
      rfl
    · rw [decide_eq_false hs]
      conv => whnf
      exact ⟨rfl, rfl⟩


theorem leD_inj {l m : Le} : l.d = m.d ↔ l = m := by
  constructor
  · intro h
    obtain ⟨a, b, c, x, y, z⟩ := l
    obtain ⟨a', b', c', x', y', z'⟩ := m
    unfold Le.d at h
    injection h with h
    simp only [List.cons.injEq, D.int.injEq, D.str.injEq, true_and, and_true, Int.ofNat_inj] at h
    obtain ⟨rfl, rfl, rfl, rfl, rfl, rfl⟩ := h
    rfl
  · rintro rfl; rfl

theorem sideL {l m : Le} : ∃ T : Ty, T.fitE cx.tt 37 = true ∧ Nat.blt T.depth 9999 = true ∧ T.is l.d ∧ T.is m.d :=
  ⟨.st [.int .u32, .int .u32, .int .u32, .str, .str, .str], by kernel_rfl, by kernel_rfl,
    ⟨_, rfl, _, _, rfl, ⟨_, rfl⟩, _, _, rfl, ⟨_, rfl⟩, _, _, rfl, ⟨_, rfl⟩, _, _, rfl, ⟨_, rfl⟩, _, _, rfl, ⟨_, rfl⟩, _, _, rfl, ⟨_, rfl⟩, rfl⟩,
    ⟨_, rfl, _, _, rfl, ⟨_, rfl⟩, _, _, rfl, ⟨_, rfl⟩, _, _, rfl, ⟨_, rfl⟩, _, _, rfl, ⟨_, rfl⟩, _, _, rfl, ⟨_, rfl⟩, _, _, rfl, ⟨_, rfl⟩, rfl⟩⟩

noncomputable instance decLe : DecidableEq Le := fun a b => Classical.propDecidable _

theorem lsame_c {l m : Le} : CallR cx 53 [.d l.d, .d m.d] [] fun r S => r = bo (decide (l = m)) ∧ S = [] := by
  have h := deq_iff (leD_inj (l := l) (m := m))
  have sd := sideL (l := l) (m := m)
  obtain ⟨a, b, c, x, y, z⟩ := l
  obtain ⟨a', b', c', x', y', z'⟩ := m
  refine callR_of (R := R1) cx_ok Try.func53 (by kernel_rfl) rfl ?_
  conv => whnf
  refine ⟨sd, ?_⟩
  conv => whnf
  refine ⟨?_, rfl⟩
  rw [← h]
  rfl

theorem same_p {l m : Le} : CallR cx 28 [.d (Cl.process l).d, .d (Cl.process m).d] [] fun r S => r = bo (decide (l = m)) ∧ S = [] := by
  have tg := ctag_c (c := .process l)
  have tg2 := ctag_c (c := .process m)
  have ls := lsame_c (l := l) (m := m)
  generalize decide (l = m) = q at *
  obtain ⟨a, b, c, x, y, z⟩ := l
  obtain ⟨a', b', c', x', y', z'⟩ := m
  refine callR_of (R := R1) cx_ok Try.func28 (by kernel_rfl) rfl ?_
  conv => whnf
  refine ⟨_, tg, ?_⟩
  rintro _ _ ⟨rfl, rfl⟩
  conv => whnf
  refine ⟨_, tg, ?_⟩
  rintro _ _ ⟨rfl, rfl⟩
  conv => whnf
  refine ⟨_, tg2, ?_⟩
  rintro _ _ ⟨rfl, rfl⟩
  conv => whnf
  refine ⟨by kernel_rfl, ?_⟩
  conv => whnf
  refine ⟨_, ls, ?_⟩
  conv => whnf
  refine ⟨by kernel_rfl, ?_⟩
  conv => whnf
  exact ⟨rfl, rfl⟩

noncomputable instance decCl : DecidableEq Cl := fun a b => Classical.propDecidable _

theorem csame_c {c d : Cl} (hc : c.fit) (hd : d.fit) : CallR cx 28 [.d c.d, .d d.d] [] fun r S => r = bo (decide (0 < c.tag) && decide (c = d)) ∧ S = [] := by
  have tg := ctag_c (c := c)
  have tg2 := ctag_c (c := d)
  by_cases h0 : c.tag = 0
  · rw [h0] at tg ⊢
    exact same_0 tg
  have h0' : 0 < c.tag := by omega
  rw [decide_eq_true h0', Bool.true_and]
  by_cases ht : c.tag = d.tag
  case neg =>
    have hne : c ≠ d := fun e => ht (by rw [e])
    rw [decide_eq_false hne]
    exact same_ne (by omega) (by omega) tg tg2
  by_cases h12 : c.tag = 12
  · cases c <;> first | (simp [Cl.tag] at h12; done) | skip
    cases d <;> first | (simp [Cl.tag] at ht; done) | skip
    rename_i l m
    have e : (decide (Cl.process l = Cl.process m)) = decide (l = m) := by
      by_cases q : l = m
      · subst q; rw [decide_eq_true rfl, decide_eq_true rfl]
      · rw [decide_eq_false q, decide_eq_false (fun z => q (by injection z))]
    rw [e]
    exact same_p
  have wc := cwhole_c hc h12
  have wd := cwhole_c hd (by rw [← ht]; exact h12)
  have ic := cindex_c (c := c)
  have jc := cindex_c (c := d)
  rw [← ht] at tg2
  refine (same_b (by omega) h12 tg tg2 wc wd ic jc).mono fun r S ⟨g1, g2⟩ => ⟨?_, g2⟩
  rw [g1]
  refine congrArg bo ?_
  have hE : ∀ {c : Cl}, c.tag ≠ 0 → c.tag ≠ 12 → c.cS = c.bytes := by
    intro c a b
    unfold Cl.cS
    refine if_pos ?_
    cases c <;> first | rfl | (exact absurd rfl a) | (exact absurd rfl b)
  rw [hE h0 h12, hE (by omega) (by omega)]
  by_cases hcd : c = d
  · subst hcd
    rw [decide_eq_true rfl, decide_eq_true rfl, decide_eq_true rfl]; rfl
  · rw [decide_eq_false hcd]
    by_cases hb : c.bytes = d.bytes
    · by_cases hi : c.idx = d.idx
      · exact absurd (bytes_inj hc hd h0' hb ⟨fun _ => by rw [hi], fun _ => by rw [hi]⟩) hcd
      · rw [decide_eq_false hi, Bool.and_false]
    · rw [decide_eq_false hb, Bool.false_and]
end Go.Proofs.Ytboohfijacjhjaa

/- The document's Same: lists of digests, signatures, updates, stops, letters, fields (printed by gen/cref.py). -/
set_option linter.unusedVariables false
namespace Go.Proofs.Ytboohfijacjhjaa
open Go.Ab Go.RowKit

theorem bytes_inj_D {a b : ByteArray} (h : D.bytes a = D.bytes b) : a = b := by
  apply ba_ext
  unfold D.bytes at h
  have q : ∀ {l m : List UInt8}, l.map (fun b => D.int .u8 b.toNat) = m.map (fun b => D.int .u8 b.toNat) → l = m := by
    intro l
    induction l with
    | nil => intro m h; cases m with | nil => rfl | cons _ _ => cases h
    | cons x l ih =>
      intro m h
      cases m with
      | nil => cases h
      | cons y m =>
        simp only [List.map_cons, List.cons.injEq, D.int.injEq, true_and, Int.ofNat_inj] at h
        rw [UInt8.toNat_inj.1 h.1, ih h.2]
  exact q h

theorem dgD_inj {a b : ByteArray} : dgD a = dgD b ↔ a = b := by
  constructor
  · intro h
    unfold dgD at h
    injection h with _ _ h
    exact bytes_inj_D h
  · rintro rfl; rfl

theorem sideD {a b : ByteArray} (ha : a.size = 32) (hb : b.size = 32) : ∃ T : Ty, T.fitE cx.tt 31 = true ∧ Nat.blt T.depth 9999 = true ∧ T.is (dgD a) ∧ T.is (dgD b) := by
  have q : ∀ {a : ByteArray}, a.size = 32 → (Ty.arr 32 1 (.int .u8)).is (dgD a) := fun {a} h =>
    ⟨_, rfl, by rw [bytes_length]; exact h, fun y hy => by unfold D.bytes at hy; obtain ⟨b, _, rfl⟩ := List.mem_map.1 hy; exact ⟨_, rfl⟩⟩
  exact ⟨.arr 32 1 (.int .u8), by kernel_rfl, by kernel_rfl, q ha, q hb⟩

theorem slist_c {a b : List ByteArray} (ha : dgF a) (hb : dgF b) : CallR cx 50 [.d (.sl 32 (dgs a)), .d (.sl 32 (dgs b))] [] fun r S => r = bo (decide (a = b)) ∧ S = [] := by
  have la : (dgs a).length = a.length := List.length_map _
  have lb : (dgs b).length = b.length := List.length_map _
  have h1 := ha.1
  refine callR_of (R := R1) cx_ok Try.func50 (by kernel_rfl) rfl ?_
  conv => whnf
  by_cases hl : a.length = b.length
  case neg =>
    have e : a ≠ b := fun z => hl (by rw [z])
    rw [decide_eq_false e]
    refine brT (bne_iff_ne.2 (by rw [la, lb]; omega)) ?_
    conv => whnf
    exact ⟨rfl, rfl⟩
  refine brF (bne_eq_false_iff_eq.2 (by rw [la, lb, hl])) ?_
  conv => whnf
  refine .inl ⟨fun m L S => ∃ j : Nat, j ≤ a.length ∧ a.take j = b.take j ∧ m = a.length - j ∧
      L = [(0, .d (.sl 32 (dgs a))), (1, .d (.sl 32 (dgs b))), (12, i64 (((dgs a).length : Nat) : Int)), (13, i64 (j : Int))] ∧ S = [],
    ⟨_, _, ⟨0, Nat.zero_le _, rfl, rfl, rfl, rfl⟩, ⟨rfl, rfl, rfl, rfl, trivial⟩⟩, ?_⟩
  rintro _ _ _ ⟨j, hj, ht, rfl, rfl, rfl⟩
  conv => whnf
  refine brec (fun h4 => ?_) (fun h4 => ?_)
  · have h4 := of_decide_eq_true h4
    rw [la] at h4
    have hlt : j < a.length := by omega
    have hlt2 : j < b.length := by omega
    conv => whnf
    refine ⟨by kernel_rfl, ?_⟩
    conv => whnf
    refine ⟨⟨by omega, by rw [la]; omega⟩, ?_⟩
    rw [dgs_getD hlt]
    conv => whnf
    refine ⟨⟨by omega, by rw [lb]; omega⟩, ?_⟩
    rw [dgs_getD hlt2]
    have sd := sideD (ha.2 _ (List.getElem_mem hlt)) (hb.2 _ (List.getElem_mem hlt2))
    have hq := deq_iff (dgD_inj (a := a[j]'hlt) (b := b[j]'hlt2))
    have e3 : IntKind.i64.wrap ((j : Int) + 1) = ((j + 1 : Nat) : Int) := by rw [w64 (by omega)]; omega
    have hta : a.take (j + 1) = a.take j ++ [a[j]'hlt] := by rw [List.take_add_one, List.getElem?_eq_getElem hlt]; rfl
    have htb : b.take (j + 1) = b.take j ++ [b[j]'hlt2] := by rw [List.take_add_one, List.getElem?_eq_getElem hlt2]; rfl
    have hne : a[j]'hlt ≠ b[j]'hlt2 → a ≠ b := fun h z => h (by subst z; rfl)
    generalize a[j]'hlt = x at *
    generalize b[j]'hlt2 = y at *
    unfold dgD at *
    conv => whnf
    refine ⟨sd, ?_⟩
    conv => whnf
    refine ⟨by kernel_rfl, ?_⟩
    conv => whnf
    by_cases hxy : x = y
    · rw [decide_eq_true hxy] at hq
      refine brF ?_ ?_
      · rw [hq]; rfl
      conv => whnf
      exact ⟨_, _, 0, (by omega : a.length - (j + 1) < a.length - j), ⟨j + 1, by omega, by rw [hta, htb, ht, hxy], rfl, rfl, rfl⟩,
        ⟨rfl, rfl, rfl, congrArg (fun z => some (i64 z)) e3, trivial⟩, rfl⟩
    · rw [decide_eq_false hxy] at hq
      refine brT ?_ ?_
      · rw [hq]; rfl
      conv => whnf
      rw [decide_eq_false (hne hxy)]
      exact ⟨rfl, rfl⟩
  · have h4 := of_decide_eq_false h4
    rw [la] at h4
    obtain rfl : j = a.length := by omega
    have e : a = b := by
      rw [List.take_length] at ht
      rw [ht, hl, List.take_length]
    rw [decide_eq_true e]
    conv => whnf
    exact ⟨rfl, rfl⟩

theorem dec_iff {P Q : Prop} [Decidable P] [Decidable Q] (h : P ↔ Q) : decide P = decide Q := decide_eq_decide.2 h
noncomputable instance decSg : DecidableEq Sg := fun a b => Classical.propDecidable _
noncomputable instance decUp : DecidableEq Up := fun a b => Classical.propDecidable _
noncomputable instance decSp : DecidableEq Sp := fun a b => Classical.propDecidable _
noncomputable instance decFd : DecidableEq Fd := fun a b => Classical.propDecidable _

theorem ssig_c {s t : Sg} (hs : s.fit) (ht : t.fit) : CallR cx 47 [.d s.d, .d t.d] [] fun r S => r = bo (decide (s = t)) ∧ S = [] := by
  obtain ⟨_, h1, h2, h3⟩ := hs
  obtain ⟨_, g1, g2, g3⟩ := ht
  obtain ⟨si, s1, s2, s3⟩ := s
  obtain ⟨ti, t1, t2, t3⟩ := t
  simp only at h1 h2 h3 g1 g2 g3
  have c1 := slist_c h1 g1
  have c2 := slist_c h2 g2
  have c3 := slist_c h3 g3
  have e : decide (Sg.mk si s1 s2 s3 = Sg.mk ti t1 t2 t3) = (decide (si = ti) && (decide (s1 = t1) && (decide (s2 = t2) && decide (s3 = t3)))) := by
    rw [dec_iff (Q := si = ti ∧ s1 = t1 ∧ s2 = t2 ∧ s3 = t3) (by rw [Sg.mk.injEq]), Bool.decide_and, Bool.decide_and, Bool.decide_and]
  rw [e]
  clear e
  unfold Sg.d
  simp only
  generalize decide (s1 = t1) = b1 at *
  generalize decide (s2 = t2) = b2 at *
  generalize decide (s3 = t3) = b3 at *
  generalize dgs s1 = x1 at *
  generalize dgs s2 = x2 at *
  generalize dgs s3 = x3 at *
  generalize dgs t1 = y1 at *
  generalize dgs t2 = y2 at *
  generalize dgs t3 = y3 at *
  refine callR_of (R := R1) cx_ok Try.func47 (by kernel_rfl) rfl ?_
  conv => whnf
  by_cases q0 : si = ti
  case neg =>
    rw [decide_eq_false q0]
    refine brF (beq_eq_false_iff_ne.2 q0) ?_
    conv => whnf
    exact ⟨rfl, rfl⟩
  rw [decide_eq_true q0]
  refine brT (beq_iff_eq.2 q0) ?_
  conv => whnf
  refine ⟨_, c1, ?_⟩
  rintro _ _ ⟨rfl, rfl⟩
  conv => whnf
  cases b1 with
  | false =>
    conv => whnf
    exact ⟨rfl, rfl⟩
  | true =>
  conv => whnf
  refine ⟨_, c2, ?_⟩
  rintro _ _ ⟨rfl, rfl⟩
  conv => whnf
  cases b2 with
  | false =>
    conv => whnf
    exact ⟨rfl, rfl⟩
  | true =>
  conv => whnf
  refine ⟨_, c3, ?_⟩
  rintro _ _ ⟨rfl, rfl⟩
  conv => whnf
  exact ⟨rfl, rfl⟩

theorem sup_c {u v : Up} (hu : u.fit) (hv : v.fit) : CallR cx 48 [.d u.d, .d v.d] [] fun r S => r = bo (decide (u = v)) ∧ S = [] := by
  obtain ⟨_, h1, h2, h3⟩ := hu
  obtain ⟨_, g1, g2, g3⟩ := hv
  obtain ⟨uh, uo, un, us⟩ := u
  obtain ⟨vh, vo, vn, vs⟩ := v
  simp only at h1 h2 h3 g1 g2 g3
  have c3 := ssig_c h3 g3
  have sd1 := sideD h1 g1
  have hq1 := deq_iff (dgD_inj (a := uo) (b := vo))
  have sd2 := sideD h2 g2
  have hq2 := deq_iff (dgD_inj (a := un) (b := vn))
  have e : decide (Up.mk uh uo un us = Up.mk vh vo vn vs) = (decide ((uh : Int) = (vh : Int)) && (decide (uo = vo) && (decide (un = vn) && decide (us = vs)))) := by
    rw [dec_iff (Q := (uh : Int) = (vh : Int) ∧ uo = vo ∧ un = vn ∧ us = vs) (by rw [Up.mk.injEq, Int.ofNat_inj]), Bool.decide_and, Bool.decide_and, Bool.decide_and]
  rw [e]
  clear e
  unfold Up.d
  simp only
  generalize (uh : Int) = U at *
  generalize (vh : Int) = V at *
  generalize decide (us = vs) = b3 at *
  obtain ⟨usi, us1, us2, us3⟩ := us
  obtain ⟨vsi, vs1, vs2, vs3⟩ := vs
  unfold Sg.d dgD at *
  simp only at *
  generalize dgs us1 = usx1 at *
  generalize dgs us2 = usx2 at *
  generalize dgs us3 = usx3 at *
  generalize dgs vs1 = vsx1 at *
  generalize dgs vs2 = vsx2 at *
  generalize dgs vs3 = vsx3 at *
  refine callR_of (R := R1) cx_ok Try.func48 (by kernel_rfl) rfl ?_
  conv => whnf
  by_cases q0 : U = V
  case neg =>
    rw [decide_eq_false q0]
    refine brF (beq_eq_false_iff_ne.2 q0) ?_
    conv => whnf
    exact ⟨rfl, rfl⟩
  rw [decide_eq_true q0]
  refine brT (beq_iff_eq.2 q0) ?_
  conv => whnf
  refine ⟨sd1, ?_⟩
  conv => whnf
  by_cases q1 : uo = vo
  case neg =>
    rw [decide_eq_false q1] at hq1 ⊢
    refine brF hq1 ?_
    conv => whnf
    exact ⟨rfl, rfl⟩
  rw [decide_eq_true q1] at hq1 ⊢
  refine brT hq1 ?_
  conv => whnf
  refine ⟨sd2, ?_⟩
  conv => whnf
  by_cases q2 : un = vn
  case neg =>
    rw [decide_eq_false q2] at hq2 ⊢
    refine brF hq2 ?_
    conv => whnf
    exact ⟨rfl, rfl⟩
  rw [decide_eq_true q2] at hq2 ⊢
  refine brT hq2 ?_
  conv => whnf
  refine ⟨_, c3, ?_⟩
  rintro _ _ ⟨rfl, rfl⟩
  conv => whnf
  exact ⟨rfl, rfl⟩

theorem ssp_c {u v : Sp} (hu : u.fit) (hv : v.fit) : CallR cx 49 [.d u.d, .d v.d] [] fun r S => r = bo (decide (u = v)) ∧ S = [] := by
  obtain ⟨_, h1, h2, h3⟩ := hu
  obtain ⟨_, g1, g2, g3⟩ := hv
  obtain ⟨uh, uo, un, us⟩ := u
  obtain ⟨vh, vo, vn, vs⟩ := v
  simp only at h1 h3 g1 g3
  have c3 := ssig_c h3 g3
  have sd1 := sideD h1 g1
  have hq1 := deq_iff (dgD_inj (a := uo) (b := vo))
  have e : decide (Sp.mk uh uo un us = Sp.mk vh vo vn vs) = (decide ((uh : Int) = (vh : Int)) && (decide (uo = vo) && (decide (un = vn) && decide (us = vs)))) := by
    rw [dec_iff (Q := (uh : Int) = (vh : Int) ∧ uo = vo ∧ un = vn ∧ us = vs) (by rw [Sp.mk.injEq, Int.ofNat_inj]), Bool.decide_and, Bool.decide_and, Bool.decide_and]
  rw [e]
  clear e
  unfold Sp.d
  simp only
  generalize (uh : Int) = U at *
  generalize (vh : Int) = V at *
  generalize decide (us = vs) = b3 at *
  obtain ⟨usi, us1, us2, us3⟩ := us
  obtain ⟨vsi, vs1, vs2, vs3⟩ := vs
  unfold Sg.d dgD at *
  simp only at *
  generalize dgs us1 = usx1 at *
  generalize dgs us2 = usx2 at *
  generalize dgs us3 = usx3 at *
  generalize dgs vs1 = vsx1 at *
  generalize dgs vs2 = vsx2 at *
  generalize dgs vs3 = vsx3 at *
  refine callR_of (R := R1) cx_ok Try.func49 (by kernel_rfl) rfl ?_
  conv => whnf
  by_cases q0 : U = V
  case neg =>
    rw [decide_eq_false q0]
    refine brF (beq_eq_false_iff_ne.2 q0) ?_
    conv => whnf
    exact ⟨rfl, rfl⟩
  rw [decide_eq_true q0]
  refine brT (beq_iff_eq.2 q0) ?_
  conv => whnf
  refine ⟨sd1, ?_⟩
  conv => whnf
  by_cases q1 : uo = vo
  case neg =>
    rw [decide_eq_false q1] at hq1 ⊢
    refine brF hq1 ?_
    conv => whnf
    exact ⟨rfl, rfl⟩
  rw [decide_eq_true q1] at hq1 ⊢
  refine brT hq1 ?_
  conv => whnf
  by_cases q2 : un = vn
  case neg =>
    rw [decide_eq_false q2]
    refine brF (beq_eq_false_iff_ne.2 q2) ?_
    conv => whnf
    exact ⟨rfl, rfl⟩
  rw [decide_eq_true q2]
  refine brT (beq_iff_eq.2 q2) ?_
  conv => whnf
  refine ⟨_, c3, ?_⟩
  rintro _ _ ⟨rfl, rfl⟩
  conv => whnf
  exact ⟨rfl, rfl⟩

theorem sle_c {l m : Le} : CallR cx 51 [.d l.d, .d m.d] [] fun r S => r = bo (decide (l = m)) ∧ S = [] := by
  obtain ⟨a, b, c, x, y, z⟩ := l
  obtain ⟨a', b', c', x', y', z'⟩ := m
  have e : decide (Le.mk a b c x y z = Le.mk a' b' c' x' y' z') = (decide ((a : Int) = (a' : Int)) && (decide ((b : Int) = (b' : Int)) && (decide ((c : Int) = (c' : Int)) && (decide (x = x') && (decide (y = y') && decide (z = z')))))) := by
    rw [dec_iff (Q := (a : Int) = (a' : Int) ∧ (b : Int) = (b' : Int) ∧ (c : Int) = (c' : Int) ∧ x = x' ∧ y = y' ∧ z = z') (by rw [Le.mk.injEq, Int.ofNat_inj, Int.ofNat_inj, Int.ofNat_inj]), Bool.decide_and, Bool.decide_and, Bool.decide_and, Bool.decide_and, Bool.decide_and]
  rw [e]
  clear e
  unfold Le.d
  simp only
  generalize (a : Int) = A at *
  generalize (a' : Int) = A' at *
  generalize (b : Int) = B at *
  generalize (b' : Int) = B' at *
  generalize (c : Int) = C at *
  generalize (c' : Int) = C' at *
  refine callR_of (R := R1) cx_ok Try.func51 (by kernel_rfl) rfl ?_
  conv => whnf
  by_cases q0 : A = A'
  case neg =>
    rw [decide_eq_false q0]
    refine brF (beq_eq_false_iff_ne.2 q0) ?_
    conv => whnf
    exact ⟨rfl, rfl⟩
  rw [decide_eq_true q0]
  refine brT (beq_iff_eq.2 q0) ?_
  conv => whnf
  by_cases q1 : B = B'
  case neg =>
    rw [decide_eq_false q1]
    refine brF (beq_eq_false_iff_ne.2 q1) ?_
    conv => whnf
    exact ⟨rfl, rfl⟩
  rw [decide_eq_true q1]
  refine brT (beq_iff_eq.2 q1) ?_
  conv => whnf
  by_cases q2 : C = C'
  case neg =>
    rw [decide_eq_false q2]
    refine brF (beq_eq_false_iff_ne.2 q2) ?_
    conv => whnf
    exact ⟨rfl, rfl⟩
  rw [decide_eq_true q2]
  refine brT (beq_iff_eq.2 q2) ?_
  conv => whnf
  by_cases q3 : x = x'
  case neg =>
    refine brF (decide_eq_false q3) ?_
    rw [decide_eq_false q3]
    conv => whnf
    exact ⟨rfl, rfl⟩
  refine brT (decide_eq_true q3) ?_
  rw [decide_eq_true q3]
  conv => whnf
  by_cases q4 : y = y'
  case neg =>
    refine brF (decide_eq_false q4) ?_
    rw [decide_eq_false q4]
    conv => whnf
    exact ⟨rfl, rfl⟩
  refine brT (decide_eq_true q4) ?_
  rw [decide_eq_true q4]
  conv => whnf
  exact ⟨rfl, rfl⟩

def Fd.fit (f : Fd) : Prop := f.sig.fit ∧ f.u.fit ∧ f.v.fit ∧ f.stop.fit ∧ f.leaf.size = 32 ∧ dgF f.br

set_option maxHeartbeats 8000000 in
theorem fsame_c {f g : Fd} (hf : f.fit) (hg : g.fit) : CallR cx 27 [.d f.d, .d g.d] [] fun r S => r = bo (decide (f = g)) ∧ S = [] := by
  obtain ⟨h1, h2, h3, h4, h5, h6⟩ := hf
  obtain ⟨g1, g2, g3, g4, g5, g6⟩ := hg
  obtain ⟨ftag, fA, fB, fC, forg, fn, fk, fsig, fu, fv, fstop, fleaf, fix, fbr, flt⟩ := f
  obtain ⟨gtag, gA, gB, gC, gorg, gn, gk, gsig, gu, gv, gstop, gleaf, gix, gbr, glt⟩ := g
  simp only at h1 h2 h3 h4 h5 h6 g1 g2 g3 g4 g5 g6
  have c1 := ssig_c h1 g1
  have c2 := sup_c h2 g2
  have c3 := sup_c h3 g3
  have c4 := ssp_c h4 g4
  have sd := sideD h5 g5
  have hq := deq_iff (dgD_inj (a := fleaf) (b := gleaf))
  have c6 := slist_c h6 g6
  have c7 := sle_c (l := flt) (m := glt)
  have e : decide (Fd.mk ftag fA fB fC forg fn fk fsig fu fv fstop fleaf fix fbr flt = Fd.mk gtag gA gB gC gorg gn gk gsig gu gv gstop gleaf gix gbr glt) = (decide ((ftag : Int) = (gtag : Int)) && (decide (fA = gA) && (decide (fB = gB) && (decide (fC = gC) && (decide ((forg : Int) = (gorg : Int)) && (decide ((fn : Int) = (gn : Int)) && (decide ((fk : Int) = (gk : Int)) && (decide (fsig = gsig) && (decide (fu = gu) && (decide (fv = gv) && (decide (fstop = gstop) && (decide (fleaf = gleaf) && (decide ((fix : Int) = (gix : Int)) && (decide (fbr = gbr) && (decide (flt = glt)))))))))))))))) := by
    rw [dec_iff (Q := (ftag : Int) = (gtag : Int) ∧ fA = gA ∧ fB = gB ∧ fC = gC ∧ (forg : Int) = (gorg : Int) ∧ (fn : Int) = (gn : Int) ∧ (fk : Int) = (gk : Int) ∧ fsig = gsig ∧ fu = gu ∧ fv = gv ∧ fstop = gstop ∧ fleaf = gleaf ∧ (fix : Int) = (gix : Int) ∧ fbr = gbr ∧ flt = glt) (by rw [Fd.mk.injEq, Int.ofNat_inj, Int.ofNat_inj, Int.ofNat_inj, Int.ofNat_inj, Int.ofNat_inj])]
    simp only [Bool.decide_and]
  rw [e]
  clear e h1 h2 h3 h4 h5 h6 g1 g2 g3 g4 g5 g6
  unfold Fd.d
  simp only
  generalize (ftag : Int) = Ftag at *
  generalize (gtag : Int) = Gtag at *
  generalize (forg : Int) = Forg at *
  generalize (gorg : Int) = Gorg at *
  generalize (fn : Int) = Fn at *
  generalize (gn : Int) = Gn at *
  generalize (fk : Int) = Fk at *
  generalize (gk : Int) = Gk at *
  generalize (fix : Int) = Fix at *
  generalize (gix : Int) = Gix at *
  generalize decide (fsig = gsig) = bsig at *
  generalize decide (fu = gu) = bu at *
  generalize decide (fv = gv) = bv at *
  generalize decide (fstop = gstop) = bstop at *
  generalize decide (fbr = gbr) = bbr at *
  generalize decide (flt = glt) = blt at *
  obtain ⟨fxsi, fxs1, fxs2, fxs3⟩ := fsig
  obtain ⟨fxuh, fxuo, fxun, ⟨fxui, fxu1, fxu2, fxu3⟩⟩ := fu
  obtain ⟨fxvh, fxvo, fxvn, ⟨fxvi, fxv1, fxv2, fxv3⟩⟩ := fv
  obtain ⟨fxph, fxpo, fxpw, ⟨fxpi, fxp1, fxp2, fxp3⟩⟩ := fstop
  obtain ⟨fxla, fxlb, fxlc, fxlx, fxly, fxlz⟩ := flt
  obtain ⟨gxsi, gxs1, gxs2, gxs3⟩ := gsig
  obtain ⟨gxuh, gxuo, gxun, ⟨gxui, gxu1, gxu2, gxu3⟩⟩ := gu
  obtain ⟨gxvh, gxvo, gxvn, ⟨gxvi, gxv1, gxv2, gxv3⟩⟩ := gv
  obtain ⟨gxph, gxpo, gxpw, ⟨gxpi, gxp1, gxp2, gxp3⟩⟩ := gstop
  obtain ⟨gxla, gxlb, gxlc, gxlx, gxly, gxlz⟩ := glt
  unfold Sp.d Up.d Sg.d Le.d dgD at *
  simp only at *
  generalize dgs fxs1 = xfxs1 at *
  generalize dgs fxs2 = xfxs2 at *
  generalize dgs fxs3 = xfxs3 at *
  generalize dgs fxu1 = xfxu1 at *
  generalize dgs fxu2 = xfxu2 at *
  generalize dgs fxu3 = xfxu3 at *
  generalize dgs fxv1 = xfxv1 at *
  generalize dgs fxv2 = xfxv2 at *
  generalize dgs fxv3 = xfxv3 at *
  generalize dgs fxp1 = xfxp1 at *
  generalize dgs fxp2 = xfxp2 at *
  generalize dgs fxp3 = xfxp3 at *
  generalize D.bytes fxuo = yfxuo at *
  generalize D.bytes fxun = yfxun at *
  generalize D.bytes fxvo = yfxvo at *
  generalize D.bytes fxvn = yfxvn at *
  generalize D.bytes fxpo = yfxpo at *
  generalize dgs fbr = xfxbr at *
  generalize dgs gxs1 = xgxs1 at *
  generalize dgs gxs2 = xgxs2 at *
  generalize dgs gxs3 = xgxs3 at *
  generalize dgs gxu1 = xgxu1 at *
  generalize dgs gxu2 = xgxu2 at *
  generalize dgs gxu3 = xgxu3 at *
  generalize dgs gxv1 = xgxv1 at *
  generalize dgs gxv2 = xgxv2 at *
  generalize dgs gxv3 = xgxv3 at *
  generalize dgs gxp1 = xgxp1 at *
  generalize dgs gxp2 = xgxp2 at *
  generalize dgs gxp3 = xgxp3 at *
  generalize D.bytes gxuo = ygxuo at *
  generalize D.bytes gxun = ygxun at *
  generalize D.bytes gxvo = ygxvo at *
  generalize D.bytes gxvn = ygxvn at *
  generalize D.bytes gxpo = ygxpo at *
  generalize dgs gbr = xgxbr at *
  refine callR_of (R := R1) cx_ok Try.func27 (by kernel_rfl) rfl ?_
  conv => whnf
  by_cases q0 : Ftag = Gtag
  case neg =>
    rw [decide_eq_false q0]
    refine brF (beq_eq_false_iff_ne.2 q0) ?_
    conv => whnf
    exact ⟨rfl, rfl⟩
  rw [decide_eq_true q0]
  refine brT (beq_iff_eq.2 q0) ?_
  conv => whnf
  by_cases q1 : fA = gA
  case neg =>
    refine brF (decide_eq_false q1) ?_
    rw [decide_eq_false q1]
    conv => whnf
    exact ⟨rfl, rfl⟩
  refine brT (decide_eq_true q1) ?_
  rw [decide_eq_true q1]
  conv => whnf
  by_cases q2 : fB = gB
  case neg =>
    refine brF (decide_eq_false q2) ?_
    rw [decide_eq_false q2]
    conv => whnf
    exact ⟨rfl, rfl⟩
  refine brT (decide_eq_true q2) ?_
  rw [decide_eq_true q2]
  conv => whnf
  by_cases q3 : fC = gC
  case neg =>
    refine brF (decide_eq_false q3) ?_
    rw [decide_eq_false q3]
    conv => whnf
    exact ⟨rfl, rfl⟩
  refine brT (decide_eq_true q3) ?_
  rw [decide_eq_true q3]
  conv => whnf
  by_cases q4 : Forg = Gorg
  case neg =>
    rw [decide_eq_false q4]
    refine brF (beq_eq_false_iff_ne.2 q4) ?_
    conv => whnf
    exact ⟨rfl, rfl⟩
  rw [decide_eq_true q4]
  refine brT (beq_iff_eq.2 q4) ?_
  conv => whnf
  by_cases q5 : Fn = Gn
  case neg =>
    rw [decide_eq_false q5]
    refine brF (beq_eq_false_iff_ne.2 q5) ?_
    conv => whnf
    exact ⟨rfl, rfl⟩
  rw [decide_eq_true q5]
  refine brT (beq_iff_eq.2 q5) ?_
  conv => whnf
  by_cases q6 : Fk = Gk
  case neg =>
    rw [decide_eq_false q6]
    refine brF (beq_eq_false_iff_ne.2 q6) ?_
    conv => whnf
    exact ⟨rfl, rfl⟩
  rw [decide_eq_true q6]
  refine brT (beq_iff_eq.2 q6) ?_
  conv => whnf
  refine ⟨_, c1, ?_⟩
  rintro _ _ ⟨rfl, rfl⟩
  conv => whnf
  cases bsig with
  | false =>
    conv => whnf
    exact ⟨rfl, rfl⟩
  | true =>
  conv => whnf
  refine ⟨_, c2, ?_⟩
  rintro _ _ ⟨rfl, rfl⟩
  conv => whnf
  cases bu with
  | false =>
    conv => whnf
    exact ⟨rfl, rfl⟩
  | true =>
  conv => whnf
  refine ⟨_, c3, ?_⟩
  rintro _ _ ⟨rfl, rfl⟩
  conv => whnf
  cases bv with
  | false =>
    conv => whnf
    exact ⟨rfl, rfl⟩
  | true =>
  conv => whnf
  refine ⟨_, c4, ?_⟩
  rintro _ _ ⟨rfl, rfl⟩
  conv => whnf
  cases bstop with
  | false =>
    conv => whnf
    exact ⟨rfl, rfl⟩
  | true =>
  conv => whnf
  refine ⟨sd, ?_⟩
  conv => whnf
  by_cases q11 : fleaf = gleaf
  case neg =>
    rw [decide_eq_false q11] at hq ⊢
    refine brF hq ?_
    conv => whnf
    exact ⟨rfl, rfl⟩
  rw [decide_eq_true q11] at hq ⊢
  refine brT hq ?_
  conv => whnf
  by_cases q12 : Fix = Gix
  case neg =>
    rw [decide_eq_false q12]
    refine brF (beq_eq_false_iff_ne.2 q12) ?_
    conv => whnf
    exact ⟨rfl, rfl⟩
  rw [decide_eq_true q12]
  refine brT (beq_iff_eq.2 q12) ?_
  conv => whnf
  refine ⟨_, c6, ?_⟩
  rintro _ _ ⟨rfl, rfl⟩
  conv => whnf
  cases bbr with
  | false =>
    conv => whnf
    exact ⟨rfl, rfl⟩
  | true =>
  conv => whnf
  refine ⟨_, c7, ?_⟩
  rintro _ _ ⟨rfl, rfl⟩
  conv => whnf
  exact ⟨rfl, rfl⟩

theorem z32_size : z32.size = 32 := by decide
theorem sg0_fit : sg0.fit := ⟨by decide, ⟨by decide, by simp [sg0]⟩, ⟨by decide, by simp [sg0]⟩, ⟨by decide, by simp [sg0]⟩⟩
theorem up0_fit : up0.fit := ⟨by decide, z32_size, z32_size, sg0_fit⟩
theorem sp0_fit : sp0.fit := ⟨by decide, z32_size, by decide, sg0_fit⟩

theorem fd_fit {c : Cl} (h : c.fit) : c.fd.fit := by
  have hb : dgF ([] : List ByteArray) := ⟨by decide, by simp⟩
  cases c with
  | pay a b n k g => exact ⟨h.2.2.2.2, up0_fit, up0_fit, sp0_fit, z32_size, hb⟩
  | send a o t b n k g => exact ⟨h.2.2.2.2.2.2, up0_fit, up0_fit, sp0_fit, z32_size, hb⟩
  | say a b k g => exact ⟨h.2.2.2, up0_fit, up0_fit, sp0_fit, z32_size, hb⟩
  | tell a b k g => exact ⟨h.2.2.2, up0_fit, up0_fit, sp0_fit, z32_size, hb⟩
  | submit u => exact ⟨sg0_fit, h, up0_fit, sp0_fit, z32_size, hb⟩
  | improp u c => exact ⟨sg0_fit, h.1, up0_fit, sp0_fit, z32_size, hb⟩
  | double u v c => exact ⟨sg0_fit, h.1, h.2.1, sp0_fit, z32_size, hb⟩
  | accept u => exact ⟨sg0_fit, h, up0_fit, sp0_fit, z32_size, hb⟩
  | doubled u v => exact ⟨sg0_fit, h.1, h.2, sp0_fit, z32_size, hb⟩
  | halt s => exact ⟨sg0_fit, up0_fit, up0_fit, h, z32_size, hb⟩
  | prove l i br => exact ⟨sg0_fit, up0_fit, up0_fit, sp0_fit, h.1, h.2.2⟩
  | process l => exact ⟨sg0_fit, up0_fit, up0_fit, sp0_fit, z32_size, hb⟩
  | no => exact ⟨sg0_fit, up0_fit, up0_fit, sp0_fit, z32_size, hb⟩
  | word => exact ⟨sg0_fit, up0_fit, up0_fit, sp0_fit, z32_size, hb⟩

end Go.Proofs.Ytboohfijacjhjaa
