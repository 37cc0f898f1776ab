/- Plain laws: the document's next symbol is the lookups'. What an unpacker does, plain: a machine over bytes and a bound; what is alike for a beginning of the bytes and for a lower bound. No program. What an unpacker does, plain: the laws of cut bytes, of bytes behind, of a lower bound. No program. -/
import Derived.Test.YtgjcnembeebjfaaHufW5
import Derived.Test.YtgjcnembeebjfaaHufW4
import Derived.Test.YtgjcnembeebjfaaGBr
import Derived.Test.YtgjcnembeebjfaaGFb

namespace Go.Proofs.Ytgjcnembeebjfaa

theorem peek_bit (s : ByteArray) (k n j : Nat) (hj : j < n) : (peekNum s k n).testBit j = strBit s (k + j) := by
  unfold peekNum strBit
  rw [num_bit]
  simp only [List.getD]
  rw [List.getElem?_take_of_lt hj, List.getElem?_drop]

/-- the first j bits at a place are a code's -/
def PM (s : ByteArray) (k n c j : Nat) : Prop := ∀ i, i < j → strBit s (k + i) = c.testBit (n - 1 - i)

theorem PM_all (s : ByteArray) (k n c : Nat) (hn : n ≤ 15) : PM s k n c n ↔ peekNum s k 15 % 2 ^ n = flipN n c := by
  constructor
  · intro h
    apply Nat.eq_of_testBit_eq
    intro i
    rw [Nat.testBit_mod_two_pow, flip_bit]
    by_cases hi : i < n
    · rw [decide_eq_true hi, peek_bit s k 15 i (by omega), h i hi]
    · rw [decide_eq_false hi]; simp
  · intro h i hi
    have h1 : (peekNum s k 15 % 2 ^ n).testBit i = (flipN n c).testBit i := by rw [h]
    rw [Nat.testBit_mod_two_pow, flip_bit, decide_eq_true hi, peek_bit s k 15 i (by omega)] at h1
    simpa using h1

theorem PM.less {s : ByteArray} {k n c j j' : Nat} (h : PM s k n c j) (hj : j' ≤ j) : PM s k n c j' := fun i hi => h i (by omega)

/-- a symbol's code lies at a place; the bits that are left begin it -/
def mtAt (ls : List Nat) (s : ByteArray) (k left i : Nat) : Prop := 1 ≤ lenAt ls i ∧ lenAt ls i ≤ left ∧ PM s k (lenAt ls i) (codeOf ls i) (lenAt ls i)
def bgAt (ls : List Nat) (s : ByteArray) (k left i : Nat) : Prop := 1 ≤ lenAt ls i ∧ left < lenAt ls i ∧ PM s k (lenAt ls i) (codeOf ls i) left

/-- lengths that make a table -/
structure Good (ls : List Nat) : Prop where
  h15 : ∀ n ∈ ls, n ≤ 15
  fits : room ls ≤ 32768
  full : room ls = 32768 ∨ usedOf ls = 0 ∨ (usedOf ls = 1 ∧ longOf ls = 1)

theorem hit_iff (ls : List Nat) (s : ByteArray) (k i : Nat) (h15 : ∀ n ∈ ls, n ≤ 15) (hi : i < ls.length) : hit ls (peekNum s k 15) i = true ↔ 1 ≤ lenAt ls i ∧ PM s k (lenAt ls i) (codeOf ls i) (lenAt ls i) := by
  unfold hit
  rw [Bool.and_eq_true, decide_eq_true_eq, decide_eq_true_eq, PM_all s k _ _ (h15 _ (lenAt_mem ls i hi))]

theorem next_hit (ls : List Nat) (hg : Good ls) (s : ByteArray) (k left i : Nat) (hi : i < ls.length) (hm : mtAt ls s k left i) : nextRes ls (peekNum s k 15) (min 15 left) = (i, lenAt ls i, 0) := by
  have h1 : hit ls (peekNum s k 15) i = true := (hit_iff ls s k i hg.h15 hi).2 ⟨hm.1, hm.2.2⟩
  have h2 := hg.h15 _ (lenAt_mem ls i hi)
  unfold nextRes found
  rw [symTo_is ls hg.h15 hg.fits ls.length _ i (Nat.le_refl _) hi h1]
  simp only
  rw [if_pos ⟨hm.1, by have := hm.2.1; omega⟩]

theorem long_some (ls : List Nat) (h : 0 < longOf ls) : ∃ i, i < ls.length ∧ lenAt ls i = longOf ls := by
  have key : ∀ k, k ≤ ls.length → 0 < longOf (ls.take k) → ∃ i, i < k ∧ lenAt ls i = longOf (ls.take k) := by
    intro k
    induction k with
    | zero => intro _ h; simp [longOf] at h
    | succ k ih =>
      intro hk h
      rw [take_lenAt ls k (by omega), long_snoc] at h ⊢
      by_cases hc : lenAt ls k ≤ longOf (ls.take k)
      · rw [Nat.max_eq_left hc] at h ⊢
        obtain ⟨i, h1, h2⟩ := ih (by omega) h
        exact ⟨i, by omega, h2⟩
      · rw [Nat.max_eq_right (by omega)]
        exact ⟨k, by omega, rfl⟩
  have := key ls.length (Nat.le_refl _)
  rw [List.take_length] at this
  exact this h

theorem used_take' (ls : List Nat) : ∀ k, k ≤ ls.length → usedOf (ls.take k) = 0 → longOf (ls.take k) = 0 := by
  intro k
  induction k with
  | zero => intro _ _; rfl
  | succ k ih =>
    intro hk h
    rw [take_lenAt ls k (by omega), used_snoc] at h
    rw [take_lenAt ls k (by omega), long_snoc]
    by_cases hz : lenAt ls k = 0
    · rw [hz] at h ⊢
      rw [ih (by omega) (by simpa using h)]
      rfl
    · rw [if_pos (by omega)] at h
      omega

theorem long_used (ls : List Nat) (h : usedOf ls = 0) : longOf ls = 0 := by
  have := (used_take' ls ls.length (Nat.le_refl _))
  rw [List.take_length] at this
  exact this h

theorem next_miss (ls : List Nat) (hg : Good ls) (s : ByteArray) (k left : Nat) (hm : ∀ i, i < ls.length → ¬ mtAt ls s k left i) (b : Bool) (hb : b = true ↔ ∃ i, i < ls.length ∧ bgAt ls s k left i) :
    nextRes ls (peekNum s k 15) (min 15 left) = if b = true then (0, 0, 3) else (0, 0, 5) := by
  have hv : peekNum s k 15 < 32768 := peek_lt s k 15
  have hnot : ¬ (0 < (found ls ls.length (peekNum s k 15)).2 ∧ (found ls ls.length (peekNum s k 15)).2 ≤ min 15 left) := by
    rintro ⟨h1, h2⟩
    unfold found at h1 h2
    rcases e : symTo ls ls.length (peekNum s k 15) with _ | i
    · rw [e] at h1; exact absurd h1 (Nat.lt_irrefl 0)
    · rw [e] at h1 h2
      obtain ⟨q1, q2⟩ := symTo_some ls _ _ _ e
      have q3 := (hit_iff ls s k i hg.h15 q1).1 q2
      simp only at h2
      exact hm i q1 ⟨q3.1, by omega, q3.2⟩
  have hbeg : begOf (longOf ls) (min 15 left) = b := by
    have hl15 := long_le ls hg.h15
    by_cases h0 : longOf ls = 0
    · have : b = false := by
        by_cases hbt : b = true
        · obtain ⟨i, hi, h1, _⟩ := hb.1 hbt
          have := longOf_ge ls _ (lenAt_mem ls i hi)
          omega
        · simpa using hbt
      rw [this, h0]; simp [begOf]
    · by_cases h1 : longOf ls ≤ min 15 left
      · have : b = false := by
          by_cases hbt : b = true
          · obtain ⟨i, hi, _, h2, _⟩ := hb.1 hbt
            have := longOf_ge ls _ (lenAt_mem ls i hi)
            omega
          · simpa using hbt
        rw [this]
        unfold begOf
        rw [if_neg h0, if_pos h1]
      · have hbt : b = true := by
          apply hb.2
          by_cases h2 : longOf ls = 1
          · obtain ⟨i, hi, he⟩ := long_some ls (by omega)
            refine ⟨i, hi, by omega, by omega, fun j hj => by omega⟩
          · have hroom : room ls = 32768 := by
              rcases hg.full with h | h | h
              · exact h
              · have := long_used ls h; omega
              · omega
            obtain ⟨i, hi, hn, h3, h4⟩ := cover ls hg.h15 (flipN 15 (peekNum s k 15)) (by rw [hroom]; exact flip_lt 15 _)
            have h5 := (hit_iff ls s k i hg.h15 hi).1 (hit_of ls hg.h15 hg.fits _ i hi hn h3 h4)
            by_cases h6 : lenAt ls i ≤ left
            · exact absurd ⟨h5.1, h6, h5.2⟩ (hm i hi)
            · exact ⟨i, hi, h5.1, by omega, h5.2.less (by omega)⟩
        rw [hbt]
        unfold begOf
        rw [if_neg h0, if_neg h1]
        by_cases h2 : longOf ls = 1
        · rw [if_pos h2, decide_eq_true (by omega)]
        · rw [if_neg h2]
  unfold nextRes
  simp only
  rw [if_neg hnot, hbeg]

end Go.Proofs.Ytgjcnembeebjfaa

namespace Go.Proofs.Ytgjcnembeebjfaa
open Go.RowKit
set_option linter.unusedVariables false

/-- the bits taken, what came, the error -/
structure US where
  t : Nat
  out : List Nat
  er : Nat

/-- over bytes and a bound: an answer, and the new state -/
def UM (α : Type) := ByteArray → Nat → US → α × US

namespace UM
def ret {α : Type} (v : α) : UM α := fun _ _ st => (v, st)
def bind {α β : Type} (f : UM α) (g : α → UM β) : UM β := fun s m st => g (f s m st).1 s m (f s m st).2
end UM

def takeU (n : Nat) : UM Nat := fun s _ st =>
  if st.er ≠ 0 then (0, st) else if st.t + n ≤ 8 * s.size then (peekNum s st.t n, ⟨st.t + n, st.out, 0⟩) else (0, ⟨st.t, st.out, 3⟩)
def nextU (ls : List Nat) : UM Nat := fun s _ st =>
  if st.er ≠ 0 then (0, st) else
    ((nextRes ls (peekNum s st.t 15) (min 15 (8 * s.size - st.t))).1, ⟨st.t + (nextRes ls (peekNum s st.t 15) (min 15 (8 * s.size - st.t))).2.1, st.out, (nextRes ls (peekNum s st.t 15) (min 15 (8 * s.size - st.t))).2.2⟩)
def failU (bad : Bool) (k : Nat) : UM Bool := fun _ _ st => if st.er ≠ 0 then (true, st) else if bad = true then (true, ⟨st.t, st.out, k⟩) else (false, st)
def farU (far : Nat) : UM Bool := fun s m st => failU (decide (st.out.length < far)) 9 s m st
def longU (n : Nat) : UM Bool := fun s m st => failU (decide (m < st.out.length + n)) 2 s m st
def errU : UM Bool := fun _ _ st => (decide (st.er ≠ 0), st)
/-- so many bytes, each as the one so far back -/
def copyN (out : List Nat) (far : Nat) : Nat → List Nat
  | 0 => out
  | n + 1 => copyN out far n ++ [(copyN out far n).getD ((copyN out far n).length - far) 0]
def copyU (far n : Nat) : UM Unit := fun _ _ st => if st.er ≠ 0 then ((), st) else ((), ⟨st.t, copyN st.out far n, 0⟩)
def pushU (l : List Nat) : UM Unit := fun _ _ st => if st.er ≠ 0 then ((), st) else ((), ⟨st.t, st.out ++ l, 0⟩)
def bytesU (n : Nat) : UM (List Nat) := fun s _ st =>
  if st.er ≠ 0 then ([], st) else if (st.t + 7) / 8 + n ≤ s.size then (((bytesOf s).drop ((st.t + 7) / 8)).take n, ⟨8 * ((st.t + 7) / 8 + n), st.out, 0⟩) else ([], ⟨st.t, st.out, 3⟩)

def le16 (l : List Nat) : Nat := l.getD 0 0 + 256 * l.getD 1 0

def storedU : UM Unit :=
  (bytesU 2).bind fun h => (bytesU 2).bind fun o => (failU (decide (le16 h ^^^ le16 o ≠ 65535)) 11).bind fun b => if b = true then UM.ret () else
    (longU (le16 h)).bind fun b => if b = true then UM.ret () else (bytesU (le16 h)).bind pushU

def tableU (xs : List Int) : UM (List Nat) := fun _ _ st =>
  if st.er ≠ 0 then ([], st) else if newErr xs = 0 then (lensOf xs, st) else ([], ⟨st.t, st.out, newErr xs⟩)

def copiedU (sym : Nat) (d : List Nat) : UM Unit :=
  if 257 ≤ sym ∧ sym ≤ 285 then
    (takeU (lenR sym).2).bind fun x => (nextU d).bind fun y =>
      if y ≤ 29 then (takeU (distR y).2).bind fun z => (farU ((distR y).1 + z)).bind fun b => if b = true then UM.ret () else
        (longU ((lenR sym).1 + x)).bind fun b => if b = true then UM.ret () else copyU ((distR y).1 + z) ((lenR sym).1 + x)
      else (failU true 5).bind fun _ => UM.ret ()
  else (failU true 5).bind fun _ => UM.ret ()

def symbolU (sym : Nat) (d : List Nat) : UM Unit :=
  if 256 < sym then copiedU sym d else (longU 1).bind fun b => if b = true then UM.ret () else pushU [sym]

def symbolsU (l d : List Nat) : Nat → UM Unit
  | 0 => UM.ret ()
  | k + 1 => (nextU l).bind fun sym => errU.bind fun e => if (e || decide (sym = 256)) = true then UM.ret () else
      (symbolU sym d).bind fun _ => errU.bind fun e => if e = true then UM.ret () else symbolsU l d k

/-- how often, and what: of a symbol of the lengths' code -/
def againU (sym : Nat) (l : List Nat) : UM (Nat × Nat) :=
  if sym = 16 then (failU (decide (l.length = 0)) 5).bind fun b => if b = true then UM.ret (0, 0) else (takeU 2).bind fun x => UM.ret (3 + x, l.getD (l.length - 1) 0)
  else if sym = 17 then (takeU 3).bind fun x => UM.ret (3 + x, 0)
  else if sym = 18 then (takeU 7).bind fun x => UM.ret (11 + x, 0)
  else UM.ret (1, sym)

def lengthsU (t : List Nat) (n : Nat) : Nat → List Nat → UM (List Nat)
  | 0, l => UM.ret l
  | k + 1, l => errU.bind fun e => if (e || decide (n ≤ l.length)) = true then UM.ret l else
      (nextU t).bind fun sym => (againU sym l).bind fun p => (failU (decide (n - l.length < p.1)) 5).bind fun b => if b = true then UM.ret [] else
        lengthsU t n k (l ++ List.replicate p.1 p.2)

def orderU : List Nat := [16, 17, 18, 0, 8, 7, 9, 6, 10, 5, 11, 4, 12, 3, 13, 2, 14, 1, 15]

/-- so many numbers of three bits, laid by the order -/
def shortU : Nat → UM (List Nat)
  | 0 => UM.ret (List.replicate 19 0)
  | k + 1 => (shortU k).bind fun l => (takeU 3).bind fun x => UM.ret (l.set (orderU.getD k 0) x)

def toI (l : List Nat) : List Int := l.map fun n : Nat => (n : Int)

def toldU : UM (List Nat × List Nat) :=
  (takeU 5).bind fun nl => (takeU 5).bind fun nd => (takeU 4).bind fun nc => (failU (decide (29 < nl) || decide (29 < nd)) 5).bind fun b => if b = true then UM.ret ([], []) else
    (shortU (nc + 4)).bind fun sh => (tableU (toI sh)).bind fun t => (lengthsU t (nl + 257 + nd + 1) 400 []).bind fun l =>
      (failU (decide (l.getD 256 0 = 0)) 5).bind fun b => if b = true then UM.ret ([], []) else
        (tableU (toI (l.take (nl + 257)))).bind fun x => (tableU (toI (l.drop (nl + 257)))).bind fun y => UM.ret (x, y)

def fixedL : List Nat := List.replicate 144 8 ++ List.replicate 112 9 ++ List.replicate 24 7 ++ List.replicate 8 8
def fixedD : List Nat := List.replicate 32 5

def blockU (F : Nat) : UM Bool :=
  (takeU 1).bind fun last => (takeU 2).bind fun kind => errU.bind fun e => if e = true then UM.ret true else
    (if kind = 0 then storedU else if kind = 1 then symbolsU fixedL fixedD F
     else if kind = 2 then toldU.bind fun p => errU.bind fun e => if e = true then UM.ret () else symbolsU p.1 p.2 F
     else (failU true 8).bind fun _ => UM.ret ()).bind fun _ => errU.bind fun e => UM.ret (decide (last = 1) || e)

def unpackU (F : Nat) : Nat → UM Unit
  | 0 => UM.ret ()
  | k + 1 => (blockU F).bind fun stop => if stop = true then UM.ret () else unpackU F k

/-! what is alike -/
/-- bytes that begin others -/
def Pre (a b : ByteArray) : Prop := ∃ r, bytesOf b = bytesOf a ++ r

structure Nice {α : Type} (f : UM α) : Prop where
  sticky : ∀ s m st, st.er ≠ 0 → (f s m st).2 = st
  inside : ∀ s m st, st.t ≤ 8 * s.size → (f s m st).2.t ≤ 8 * s.size
  fwd : ∀ s m st, st.t ≤ (f s m st).2.t
  grow : ∀ s m st, ∃ l, (f s m st).2.out = st.out ++ l
  most : ∀ s m st, st.out.length ≤ m → (f s m st).2.out.length ≤ m
  cut : ∀ a b m st, Pre a b → st.t ≤ 8 * a.size → f a m st = f b m st ∨ (f a m st).2.er = 3
  bound : ∀ s k m st, k ≤ m → f s k st = f s m st ∨ ((f s k st).2.er = 2 ∧ ((f s m st).2.er = 0 → k < (f s m st).2.out.length))

theorem Nice.ret {α : Type} (v : α) : Nice (UM.ret v) :=
  ⟨fun _ _ _ _ => rfl, fun _ _ _ h => h, fun _ _ _ => Nat.le_refl _, fun _ _ _ => ⟨[], by simp [UM.ret]⟩, fun _ _ _ h => h, fun _ _ _ _ _ _ => .inl rfl, fun _ _ _ _ _ => .inl rfl⟩

theorem Nice.bindP {α β : Type} {f : UM α} {g : α → UM β} (P : α → Prop) (hf : Nice f) (hp : ∀ s m st, P (f s m st).1) (hg : ∀ v, P v → Nice (g v)) : Nice (f.bind g) where
  sticky s m st h := by
    have h1 := hf.sticky s m st h
    show (g (f s m st).1 s m (f s m st).2).2 = st
    rw [h1]
    exact (hg _ (hp s m st)).sticky s m st h
  inside s m st h := (hg _ (hp s m st)).inside s m _ (hf.inside s m st h)
  fwd s m st := Nat.le_trans (hf.fwd s m st) ((hg _ (hp s m st)).fwd s m _)
  grow s m st := by
    obtain ⟨l, h1⟩ := hf.grow s m st
    obtain ⟨l', h2⟩ := (hg _ (hp s m st)).grow s m (f s m st).2
    exact ⟨l ++ l', by show (g (f s m st).1 s m (f s m st).2).2.out = _; rw [h2, h1, List.append_assoc]⟩
  most s m st h := (hg _ (hp s m st)).most s m _ (hf.most s m st h)
  cut a b m st hp' ht := by
    show g (f a m st).1 a m (f a m st).2 = g (f b m st).1 b m (f b m st).2 ∨ (g (f a m st).1 a m (f a m st).2).2.er = 3
    have hi := hf.inside a m st ht
    rcases hf.cut a b m st hp' ht with h | h
    · rw [← h]
      exact (hg _ (hp a m st)).cut a b m _ hp' hi
    · right
      rw [(hg _ (hp a m st)).sticky a m _ (by rw [h]; decide)]
      exact h
  bound s k m st hk := by
    show g (f s k st).1 s k (f s k st).2 = g (f s m st).1 s m (f s m st).2 ∨ ((g (f s k st).1 s k (f s k st).2).2.er = 2 ∧ ((g (f s m st).1 s m (f s m st).2).2.er = 0 → k < (g (f s m st).1 s m (f s m st).2).2.out.length))
    rcases hf.bound s k m st hk with h | ⟨h1, h2⟩
    · rw [h]
      exact (hg _ (hp s m st)).bound s k m _ hk
    · right
      have hs := (hg _ (hp s k st)).sticky s k (f s k st).2 (by rw [h1]; decide)
      rw [hs]
      refine ⟨h1, fun h3 => ?_⟩
      have h4 : (f s m st).2.er = 0 := by
        by_cases h5 : (f s m st).2.er = 0
        · exact h5
        · rw [(hg _ (hp s m st)).sticky s m _ h5] at h3
          exact h3
      obtain ⟨l, e⟩ := (hg _ (hp s m st)).grow s m (f s m st).2
      have := h2 h4
      rw [e, List.length_append]
      omega

theorem Nice.bind {α β : Type} {f : UM α} {g : α → UM β} (hf : Nice f) (hg : ∀ v, Nice (g v)) : Nice (f.bind g) := hf.bindP (fun _ => True) (fun _ _ _ => trivial) (fun v _ => hg v)

theorem Nice.ite {α : Type} {f g : UM α} {p : Prop} [Decidable p] (hf : Nice f) (hg : Nice g) : Nice (if p then f else g) := by
  split
  · exact hf
  · exact hg

theorem Pre.size {a b : ByteArray} (h : Pre a b) : a.size ≤ b.size := by
  obtain ⟨r, h⟩ := h
  have := congrArg List.length h
  rw [List.length_append, bytesOf_length, bytesOf_length] at this
  omega

theorem Pre.bits {a b : ByteArray} (h : Pre a b) : ∃ r, strBits b = strBits a ++ r := by
  obtain ⟨r, h⟩ := h
  exact ⟨bytesBits r, by rw [strBits, h, bytesBits_append]; rfl⟩

theorem Pre.bit {a b : ByteArray} (h : Pre a b) (k : Nat) (hk : k < 8 * a.size) : strBit b k = strBit a k := by
  obtain ⟨r, h⟩ := h.bits
  unfold strBit
  rw [h]
  simp only [List.getD]
  rw [List.getElem?_append_left (by rw [strBits_length]; exact hk)]

theorem Pre.peek {a b : ByteArray} (h : Pre a b) (t n : Nat) (hk : t + n ≤ 8 * a.size) : peekNum b t n = peekNum a t n := by
  obtain ⟨r, h⟩ := h.bits
  unfold peekNum
  rw [h, List.drop_append_of_le_length (by rw [strBits_length]; omega), List.take_append_of_le_length (by rw [List.length_drop, strBits_length]; omega)]

theorem Pre.bytes {a b : ByteArray} (h : Pre a b) (t n : Nat) (hk : t + n ≤ a.size) : ((bytesOf b).drop t).take n = ((bytesOf a).drop t).take n := by
  obtain ⟨r, h⟩ := h
  rw [h, List.drop_append_of_le_length (by rw [bytesOf_length]; omega), List.take_append_of_le_length (by rw [List.length_drop, bytesOf_length]; omega)]

theorem take_nice (n : Nat) : Nice (takeU n) where
  sticky s m st h := by simp [takeU, h]
  inside s m st h := by unfold takeU; split; exact h; split <;> simp <;> omega
  fwd s m st := by unfold takeU; split; simp; split <;> simp
  grow s m st := ⟨[], by unfold takeU; split; simp; split <;> simp⟩
  most s m st h := by unfold takeU; split; exact h; split <;> exact h
  cut a b m st hp ht := by
    have := hp.size
    unfold takeU
    by_cases he : st.er ≠ 0
    · left; rw [if_pos he, if_pos he]
    · rw [if_neg he, if_neg he]
      by_cases h1 : st.t + n ≤ 8 * a.size
      · left; rw [if_pos h1, if_pos (by omega), hp.peek _ _ h1]
      · right; rw [if_neg h1]
  bound s k m st hk := .inl rfl

theorem fail_nice (bad : Bool) (k : Nat) : Nice (failU bad k) where
  sticky s m st h := by simp [failU, h]
  inside s m st h := by unfold failU; split; exact h; split <;> exact h
  fwd s m st := by unfold failU; split; simp; split <;> simp
  grow s m st := ⟨[], by unfold failU; split; simp; split <;> simp⟩
  most s m st h := by unfold failU; split; exact h; split <;> exact h
  cut a b m st hp ht := .inl rfl
  bound s k m st hk := .inl rfl

theorem far_nice (n : Nat) : Nice (farU n) where
  sticky s m st h := (fail_nice _ _).sticky s m st h
  inside s m st h := (fail_nice _ _).inside s m st h
  fwd s m st := (fail_nice _ _).fwd s m st
  grow s m st := (fail_nice _ _).grow s m st
  most s m st h := (fail_nice _ _).most s m st h
  cut a b m st hp ht := .inl rfl
  bound s k m st hk := .inl rfl

theorem err_nice : Nice errU :=
  ⟨fun _ _ _ _ => rfl, fun _ _ _ h => h, fun _ _ _ => Nat.le_refl _, fun _ _ _ => ⟨[], by simp [errU]⟩, fun _ _ _ h => h, fun _ _ _ _ _ _ => .inl rfl, fun _ _ _ _ _ => .inl rfl⟩

/-- a check of the bound, and then what adds just so many -/
theorem long_nice {α : Type} (n : Nat) (v : α) (g : UM α) (hs : ∀ s m st, st.er ≠ 0 → (g s m st).2 = st) (hi : ∀ s m st, st.t ≤ 8 * s.size → (g s m st).2.t ≤ 8 * s.size) (hf : ∀ s m st, st.t ≤ (g s m st).2.t)
    (hg : ∀ s m st, ∃ l, (g s m st).2.out = st.out ++ l ∧ l.length ≤ n ∧ ((g s m st).2.er = 0 → st.er = 0 → l.length = n)) (hc : ∀ a b m st, Pre a b → st.t ≤ 8 * a.size → g a m st = g b m st ∨ (g a m st).2.er = 3) (hb : ∀ s k m st, g s k st = g s m st) :
    Nice ((longU n).bind fun b => if b = true then UM.ret v else g) := by
  have key : ∀ s m st, ((longU n).bind fun b => if b = true then UM.ret v else g) s m st = if st.er ≠ 0 then (v, st) else if m < st.out.length + n then (v, ⟨st.t, st.out, 2⟩) else g s m st := by
    intro s m st
    unfold UM.bind longU failU
    by_cases he : st.er ≠ 0
    · simp [he, UM.ret]
    · by_cases h1 : m < st.out.length + n
      · simp [he, h1, UM.ret]
      · simp [he, h1]
  constructor
  · intro s m st h
    rw [key, if_pos h]
  · intro s m st h
    rw [key]
    split
    · exact h
    · split
      · exact h
      · exact hi s m st h
  · intro s m st
    rw [key]
    split
    · simp
    · split
      · simp
      · exact hf s m st
  · intro s m st
    rw [key]
    split
    · exact ⟨[], by simp⟩
    · split
      · exact ⟨[], by simp⟩
      · obtain ⟨l, h1, _⟩ := hg s m st
        exact ⟨l, h1⟩
  · intro s m st h
    rw [key]
    split
    · exact h
    · split
      · exact h
      · rename_i h1
        obtain ⟨l, e, h2, _⟩ := hg s m st
        rw [e, List.length_append]
        omega
  · intro a b m st hp ht
    rw [key, key]
    by_cases he : st.er ≠ 0
    · left; rw [if_pos he, if_pos he]
    · rw [if_neg he, if_neg he]
      by_cases h1 : m < st.out.length + n
      · left; rw [if_pos h1, if_pos h1]
      · rw [if_neg h1, if_neg h1]
        exact hc a b m st hp ht
  · intro s k m st hk
    rw [key, key]
    by_cases he : st.er ≠ 0
    · left; rw [if_pos he, if_pos he]
    · rw [if_neg he, if_neg he]
      by_cases h1 : m < st.out.length + n
      · left; rw [if_pos (by omega), if_pos h1]
      · rw [if_neg h1]
        by_cases h2 : k < st.out.length + n
        · right
          rw [if_pos h2]
          refine ⟨rfl, fun h3 => ?_⟩
          obtain ⟨l, e, _, h4⟩ := hg s m st
          have h5 := h4 h3 (by simpa using he)
          rw [e, List.length_append]
          omega
        · left; rw [if_neg h2]; exact hb s k m st

theorem copyN_len (out : List Nat) (far n : Nat) : ∃ l, copyN out far n = out ++ l ∧ l.length = n := by
  induction n with
  | zero => exact ⟨[], by simp [copyN]⟩
  | succ n ih =>
    obtain ⟨l, e, h⟩ := ih
    exact ⟨l ++ [(copyN out far n).getD ((copyN out far n).length - far) 0], by rw [copyN, e, List.append_assoc], by simp [h]⟩

theorem next_pre (ls : List Nat) (hg : Good ls) (a b : ByteArray) (t : Nat) (hp : Pre a b) (ht : t ≤ 8 * a.size) :
    nextRes ls (peekNum a t 15) (min 15 (8 * a.size - t)) = nextRes ls (peekNum b t 15) (min 15 (8 * b.size - t)) ∨ (nextRes ls (peekNum a t 15) (min 15 (8 * a.size - t))).2.2 = 3 := by
  have hsz := hp.size
  by_cases hm : ∃ i, i < ls.length ∧ mtAt ls a t (8 * a.size - t) i
  · obtain ⟨i, hi, hm⟩ := hm
    left
    rw [next_hit ls hg a t _ i hi hm, next_hit ls hg b t _ i hi ⟨hm.1, by have := hm.2.1; omega, fun j hj => by rw [hp.bit _ (by have := hm.2.1; omega)]; exact hm.2.2 j hj⟩]
  · have hm' : ∀ i, i < ls.length → ¬ mtAt ls a t (8 * a.size - t) i := fun i hi h => hm ⟨i, hi, h⟩
    by_cases hb : ∃ i, i < ls.length ∧ bgAt ls a t (8 * a.size - t) i
    · right
      rw [next_miss ls hg a t _ hm' true (by simpa using hb)]
      rfl
    · left
      have hn : ∀ i, i < ls.length → ¬ mtAt ls b t (8 * b.size - t) i := by
        intro i hi h
        by_cases h1 : lenAt ls i ≤ 8 * a.size - t
        · exact hm' i hi ⟨h.1, h1, fun j hj => by rw [← hp.bit _ (by omega)]; exact h.2.2 j hj⟩
        · exact hb ⟨i, hi, h.1, by omega, fun j hj => by rw [← hp.bit _ (by omega)]; exact h.2.2 j (by omega)⟩
      have hc : ¬ ∃ i, i < ls.length ∧ bgAt ls b t (8 * b.size - t) i := by
        rintro ⟨i, hi, h⟩
        have h2 := h.2.1
        exact hb ⟨i, hi, h.1, by omega, fun j hj => by rw [← hp.bit _ (by omega)]; exact h.2.2 j (by omega)⟩
      rw [next_miss ls hg a t _ hm' false (by simpa using hb), next_miss ls hg b t _ hn false (by simpa using hc)]

theorem nextRes_in (ls : List Nat) (v th : Nat) : (nextRes ls v th).2.1 ≤ th := by
  unfold nextRes
  simp only
  split
  · rename_i h; exact h.2
  · split <;> simp

theorem next_nice (ls : List Nat) (hg : Good ls) : Nice (nextU ls) where
  sticky s m st h := by simp [nextU, h]
  inside s m st h := by
    unfold nextU
    split
    · exact h
    · have := nextRes_in ls (peekNum s st.t 15) (min 15 (8 * s.size - st.t))
      simp only
      omega
  fwd s m st := by unfold nextU; split <;> simp
  grow s m st := ⟨[], by unfold nextU; split <;> simp⟩
  most s m st h := by unfold nextU; split <;> exact h
  cut a b m st hp ht := by
    unfold nextU
    by_cases he : st.er ≠ 0
    · left; rw [if_pos he, if_pos he]
    · rw [if_neg he, if_neg he]
      rcases next_pre ls hg a b st.t hp ht with h | h
      · left; rw [h]
      · right; exact h
  bound s k m st hk := .inl rfl

theorem bytes_len (n : Nat) (s : ByteArray) (m : Nat) (st : US) : (bytesU n s m st).1.length ≤ n ∧ (st.er = 0 → (bytesU n s m st).2.er = 0 → (bytesU n s m st).1.length = n) := by
  unfold bytesU
  split
  · exact ⟨by simp, fun h => by contradiction⟩
  · split
    · rename_i h
      have : (((bytesOf s).drop ((st.t + 7) / 8)).take n).length = n := by rw [List.length_take, List.length_drop, bytesOf_length]; omega
      exact ⟨Nat.le_of_eq this, fun _ _ => this⟩
    · exact ⟨by simp, fun _ h => by simp at h⟩

theorem bytes_nice (n : Nat) : Nice (bytesU n) where
  sticky s m st h := by simp [bytesU, h]
  inside s m st h := by unfold bytesU; split; exact h; split <;> simp <;> omega
  fwd s m st := by unfold bytesU; split; simp; split <;> simp <;> omega
  grow s m st := ⟨[], by unfold bytesU; split; simp; split <;> simp⟩
  most s m st h := by unfold bytesU; split; exact h; split <;> exact h
  cut a b m st hp ht := by
    have := hp.size
    unfold bytesU
    by_cases he : st.er ≠ 0
    · left; rw [if_pos he, if_pos he]
    · rw [if_neg he, if_neg he]
      by_cases h1 : (st.t + 7) / 8 + n ≤ a.size
      · left; rw [if_pos h1, if_pos (by omega), hp.bytes _ _ h1]
      · right; rw [if_neg h1]
  bound s k m st hk := .inl rfl

theorem stored_nice : Nice storedU := by
  refine (bytes_nice 2).bind fun h => (bytes_nice 2).bind fun o => (fail_nice _ _).bind fun b => Nice.ite (Nice.ret _) ?_
  have hb := bytes_nice (le16 h)
  have e : ∀ s m st, ((bytesU (le16 h)).bind pushU) s m st = ((), if st.er ≠ 0 ∨ (bytesU (le16 h) s m st).2.er ≠ 0 then (bytesU (le16 h) s m st).2 else ⟨(bytesU (le16 h) s m st).2.t, st.out ++ (bytesU (le16 h) s m st).1, 0⟩) := by
    intro s m st
    unfold UM.bind pushU
    by_cases he : st.er ≠ 0
    · have h1 := hb.sticky s m st he
      rw [h1]
      simp [he]
    · obtain ⟨l, hl⟩ := hb.grow s m st
      have hout : (bytesU (le16 h) s m st).2.out = st.out := by
        unfold bytesU
        rw [if_neg he]
        split <;> rfl
      by_cases h2 : (bytesU (le16 h) s m st).2.er ≠ 0
      · simp [h2]
      · simp [he, h2, hout]
  have hlen : ∀ s m st, (bytesU (le16 h) s m st).2.out = st.out := by
    intro s m st
    unfold bytesU
    split
    · rfl
    · split <;> rfl
  refine long_nice (le16 h) () _ ?_ ?_ ?_ ?_ ?_ ?_
  · intro s m st h1
    rw [e, if_pos (.inl h1)]
    exact hb.sticky s m st h1
  · intro s m st h1
    have := hb.inside s m st h1
    rw [e]
    simp only
    split <;> exact this
  · intro s m st
    have := hb.fwd s m st
    rw [e]
    simp only
    split <;> exact this
  · intro s m st
    rw [e]
    simp only
    split
    · rename_i h1
      refine ⟨[], by rw [hlen]; simp, by simp, fun h2 h3 => ?_⟩
      rcases h1 with h1 | h1
      · exact absurd h3 h1
      · exact absurd h2 h1
    · rename_i h1
      have := bytes_len (le16 h) s m st
      refine ⟨_, rfl, this.1, fun _ h3 => this.2 h3 (by simp only [not_or, ne_eq, Classical.not_not] at h1; exact h1.2)⟩
  · intro a b m st hp ht
    rw [e, e]
    rcases hb.cut a b m st hp ht with h1 | h1
    · left; rw [h1]
    · right
      simp only
      rw [if_pos (.inr (by rw [h1]; decide))]
      exact h1
  · intro s k m st
    rfl

theorem Nice.congr {α : Type} {f g : UM α} (h : Nice f) (e : f = g) : Nice g := e ▸ h

theorem copied_nice (sym : Nat) (d : List Nat) (hd : Good d) : Nice (copiedU sym d) := by
  unfold copiedU
  refine Nice.ite ((take_nice _).bind fun x => (next_nice d hd).bind fun y => Nice.ite ((take_nice _).bind fun z => (far_nice _).bind fun b => Nice.ite (Nice.ret _) ?_) ((fail_nice _ _).bind fun _ => Nice.ret _)) ((fail_nice _ _).bind fun _ => Nice.ret _)
  refine long_nice _ () _ ?_ ?_ ?_ ?_ ?_ ?_
  · intro s m st h; simp [copyU, h]
  · intro s m st h; unfold copyU; split <;> exact h
  · intro s m st; unfold copyU; split <;> simp
  · intro s m st
    unfold copyU
    split
    · rename_i h
      exact ⟨[], by simp, by simp, fun _ h2 => absurd h2 h⟩
    · obtain ⟨l, e1, e2⟩ := copyN_len st.out ((distR y).1 + z) ((lenR sym).1 + x)
      exact ⟨l, e1, by omega, fun _ _ => e2⟩
  · intro a b m st _ _; exact .inl rfl
  · intro s k m st; rfl

theorem symbol_nice (sym : Nat) (d : List Nat) (hd : Good d) : Nice (symbolU sym d) := by
  unfold symbolU
  refine Nice.ite (copied_nice sym d hd) (long_nice 1 () _ ?_ ?_ ?_ ?_ ?_ ?_)
  · intro s m st h; simp [pushU, h]
  · intro s m st h; unfold pushU; split <;> exact h
  · intro s m st; unfold pushU; split <;> simp
  · intro s m st
    unfold pushU
    split
    · rename_i h
      exact ⟨[], by simp, by simp, fun _ h2 => absurd h2 h⟩
    · exact ⟨[sym], rfl, by simp, fun _ _ => rfl⟩
  · intro a b m st _ _; exact .inl rfl
  · intro s k m st; rfl

theorem symbols_nice (l d : List Nat) (hl : Good l) (hd : Good d) (k : Nat) : Nice (symbolsU l d k) := by
  induction k with
  | zero => exact Nice.ret _
  | succ k ih => exact (next_nice l hl).bind fun sym => err_nice.bind fun e => Nice.ite (Nice.ret _) ((symbol_nice sym d hd).bind fun _ => err_nice.bind fun e => Nice.ite (Nice.ret _) ih)

theorem again_nice (sym : Nat) (l : List Nat) : Nice (againU sym l) := by
  unfold againU
  exact Nice.ite ((fail_nice _ _).bind fun b => Nice.ite (Nice.ret _) ((take_nice _).bind fun x => Nice.ret _)) (Nice.ite ((take_nice _).bind fun x => Nice.ret _) (Nice.ite ((take_nice _).bind fun x => Nice.ret _) (Nice.ret _)))

theorem lengths_nice (t : List Nat) (ht : Good t) (n k : Nat) : ∀ l, Nice (lengthsU t n k l) := by
  induction k with
  | zero => intro l; exact Nice.ret _
  | succ k ih => intro l; exact err_nice.bind fun e => Nice.ite (Nice.ret _) ((next_nice t ht).bind fun sym => (again_nice sym l).bind fun p => (fail_nice _ _).bind fun b => Nice.ite (Nice.ret _) (ih _))

theorem short_nice (k : Nat) : Nice (shortU k) := by
  induction k with
  | zero => exact Nice.ret _
  | succ k ih => exact ih.bind fun l => (take_nice _).bind fun x => Nice.ret _

theorem good_nil : Good [] := ⟨by simp, by decide, .inr (.inl rfl)⟩

theorem good_new (xs : List Int) (h : newErr xs = 0) : Good (lensOf xs) := by
  unfold newErr at h
  by_cases h1 : 1024 < xs.length
  · rw [if_pos h1] at h; cases h
  rw [if_neg h1] at h
  by_cases h2 : okLens xs = false
  · rw [if_pos h2] at h; cases h
  rw [if_neg h2] at h
  by_cases h3 : 32768 < room (lensOf xs)
  · rw [if_pos h3] at h; cases h
  rw [if_neg h3] at h
  by_cases h4 : room (lensOf xs) < 32768 ∧ 0 < usedOf (lensOf xs) ∧ ¬ (usedOf (lensOf xs) = 1 ∧ longOf (lensOf xs) = 1)
  · rw [if_pos h4] at h; cases h
  refine ⟨(lens_ok xs (by simpa using h2)).1, by omega, ?_⟩
  by_cases h5 : room (lensOf xs) = 32768
  · exact .inl h5
  · by_cases h6 : usedOf (lensOf xs) = 0
    · exact .inr (.inl h6)
    · right; right
      apply Classical.byContradiction
      intro h7
      exact h4 ⟨by omega, by omega, h7⟩

theorem table_good (xs : List Int) (s : ByteArray) (m : Nat) (st : US) : Good (tableU xs s m st).1 := by
  unfold tableU
  split
  · exact good_nil
  · split
    · rename_i h; exact good_new xs h
    · exact good_nil

theorem table_nice (xs : List Int) : Nice (tableU xs) where
  sticky s m st h := by simp [tableU, h]
  inside s m st h := by unfold tableU; split; exact h; split <;> exact h
  fwd s m st := by unfold tableU; split; simp; split <;> simp
  grow s m st := ⟨[], by unfold tableU; split; simp; split <;> simp⟩
  most s m st h := by unfold tableU; split; exact h; split <;> exact h
  cut a b m st hp ht := .inl rfl
  bound s k m st hk := .inl rfl

/-- an answer that is so -/
def Ans {α : Type} (P : α → Prop) (f : UM α) : Prop := ∀ s m st, P (f s m st).1
theorem Ans.bind {α β : Type} {P : β → Prop} {f : UM α} {g : α → UM β} (h : ∀ v, Ans P (g v)) : Ans P (f.bind g) := fun s m st => h _ s m _
theorem Ans.bindP {α β : Type} {P : β → Prop} {Q : α → Prop} {f : UM α} {g : α → UM β} (hf : Ans Q f) (h : ∀ v, Q v → Ans P (g v)) : Ans P (f.bind g) := fun s m st => h _ (hf s m st) s m _
theorem Ans.ret {α : Type} {P : α → Prop} {v : α} (h : P v) : Ans P (UM.ret v) := fun _ _ _ => h
theorem Ans.ite {α : Type} {P : α → Prop} {f g : UM α} {p : Prop} [Decidable p] (hf : Ans P f) (hg : Ans P g) : Ans P (if p then f else g) := by
  split
  · exact hf
  · exact hg

theorem told_good : Ans (fun p : List Nat × List Nat => Good p.1 ∧ Good p.2) toldU :=
  Ans.bind fun nl => Ans.bind fun nd => Ans.bind fun nc => Ans.bind fun b => Ans.ite (Ans.ret ⟨good_nil, good_nil⟩) (Ans.bind fun sh => Ans.bind fun t => Ans.bind fun l => Ans.bind fun b => Ans.ite (Ans.ret ⟨good_nil, good_nil⟩)
    (Ans.bindP (Q := Good) (table_good _) fun x hx => Ans.bindP (Q := Good) (table_good _) fun y hy => Ans.ret ⟨hx, hy⟩))

theorem told_nice : Nice toldU :=
  (take_nice _).bind fun nl => (take_nice _).bind fun nd => (take_nice _).bind fun nc => (fail_nice _ _).bind fun b => Nice.ite (Nice.ret _) ((short_nice _).bind fun sh => (table_nice _).bindP Good (table_good _) fun t ht =>
    (lengths_nice t ht _ _ _).bind fun l => (fail_nice _ _).bind fun b => Nice.ite (Nice.ret _) ((table_nice _).bind fun x => (table_nice _).bind fun y => Nice.ret _))

theorem fixedL_good : Good fixedL := ⟨by decide +kernel, by decide +kernel, .inl (by decide +kernel)⟩
theorem fixedD_good : Good fixedD := ⟨by decide +kernel, by decide +kernel, .inl (by decide +kernel)⟩

theorem kind2_nice (F : Nat) : Nice (toldU.bind fun p => errU.bind fun e => if e = true then UM.ret () else symbolsU p.1 p.2 F) :=
  told_nice.bindP (fun p : List Nat × List Nat => Good p.1 ∧ Good p.2) told_good fun p hp => err_nice.bind fun e => Nice.ite (Nice.ret _) (symbols_nice _ _ hp.1 hp.2 F)

theorem block_nice (F : Nat) : Nice (blockU F) := by
  unfold blockU
  refine (take_nice _).bind fun last => (take_nice _).bind fun kind => err_nice.bind fun e => Nice.ite (Nice.ret _) (Nice.bind ?_ fun _ => err_nice.bind fun e => Nice.ret _)
  exact Nice.ite stored_nice (Nice.ite (symbols_nice _ _ fixedL_good fixedD_good F) (Nice.ite (kind2_nice F) ((fail_nice _ _).bind fun _ => Nice.ret _)))

theorem unpack_nice (F K : Nat) : Nice (unpackU F K) := by
  induction K with
  | zero => exact Nice.ret _
  | succ k ih => exact (block_nice F).bind fun stop => Nice.ite (Nice.ret _) ih

end Go.Proofs.Ytgjcnembeebjfaa

namespace Go.Proofs.Ytgjcnembeebjfaa
open Go.RowKit
set_option linter.unusedVariables false

def st0 : US := ⟨0, [], 0⟩
/-- what unpacking comes to -/
def runU (F : Nat) (s : ByteArray) (m : Nat) : US := (unpackU F F s m st0).2

theorem run_inside (F : Nat) (s : ByteArray) (m : Nat) : (runU F s m).t ≤ 8 * s.size := (unpack_nice F F).inside s m st0 (Nat.zero_le _)
theorem run_most (F : Nat) (s : ByteArray) (m : Nat) : (runU F s m).out.length ≤ m := (unpack_nice F F).most s m st0 (Nat.zero_le _)

theorem run_cut (F : Nat) (a b : ByteArray) (m : Nat) (h : Pre a b) : runU F a m = runU F b m ∨ (runU F a m).er = 3 := by
  rcases (unpack_nice F F).cut a b m st0 h (Nat.zero_le _) with e | e
  · left; unfold runU; rw [e]
  · exact .inr e

theorem run_more (F : Nat) (a b : ByteArray) (m : Nat) (h : Pre a b) (h0 : (runU F a m).er = 0) : runU F b m = runU F a m := by
  rcases run_cut F a b m h with e | e
  · exact e.symm
  · rw [h0] at e; cases e

theorem run_bound (F : Nat) (s : ByteArray) (k m : Nat) (hk : k ≤ m) (h0 : (runU F s m).er = 0) (h : (runU F s m).out.length ≤ k) : runU F s k = runU F s m := by
  rcases (unpack_nice F F).bound s k m st0 hk with e | ⟨e1, e2⟩
  · unfold runU; rw [e]
  · have := e2 h0
    unfold runU at h
    omega

theorem run_less (F : Nat) (s : ByteArray) (k m : Nat) (hk : k < (runU F s m).out.length) : (runU F s k).er = 2 := by
  have hm := run_most F s m
  rcases (unpack_nice F F).bound s k m st0 (by omega) with e | ⟨e1, e2⟩
  · exfalso
    have h1 : runU F s k = runU F s m := by unfold runU; rw [e]
    have h2 := run_most F s k
    rw [h1] at h2
    omega
  · exact e1

theorem pre_append (a b : ByteArray) : Pre a (a ++ b) := ⟨bytesOf b, by rw [bytesOf_append]⟩
theorem pre_extract (s : ByteArray) (n : Nat) : Pre (s.extract 0 n) s := by
  refine ⟨(bytesOf s).drop n, ?_⟩
  rw [bytesOf_extract]
  simp

theorem run_empty (F : Nat) (s : ByteArray) (m : Nat) (hs : s.size = 0) : runU (F + 1) s m = ⟨0, [], 3⟩ := by
  unfold runU
  rw [unpackU]
  simp [UM.bind, blockU, takeU, st0, hs, errU, UM.ret]

end Go.Proofs.Ytgjcnembeebjfaa
