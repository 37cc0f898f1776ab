/- Plain laws: the document's next symbol is the lookups'. -/
import Derived.Test.YtcdoamaljgjojaaHufW5
import Derived.Test.YtcdoamaljgjojaaHufW4
import Derived.Test.YtcdoamaljgjojaaBitsB
namespace Go.Proofs.Ytcdoamaljgjojaa

theorem peek_bit (s : ByteArray) (k n j : Nat) (hj : j < n) : (peekNum s k n).testBit j = strBit s (k + j) := by
  unfold peekNum strBit
  rw [num_bit]
  simp only [List.getD]
  rw [List.getElem?_take_of_lt hj, List.getElem?_drop]

/-- the first j bits at a place are a code's -/
def PM (s : ByteArray) (k n c j : Nat) : Prop := ∀ i, i < j → strBit s (k + i) = c.testBit (n - 1 - i)

theorem PM_all (s : ByteArray) (k n c : Nat) (hn : n ≤ 15) : PM s k n c n ↔ peekNum s k 15 % 2 ^ n = flipN n c := by
  constructor
  · intro h
    apply Nat.eq_of_testBit_eq
    intro i
    rw [Nat.testBit_mod_two_pow, flip_bit]
    by_cases hi : i < n
    · rw [decide_eq_true hi, peek_bit s k 15 i (by omega), h i hi]
    · rw [decide_eq_false hi]; simp
  · intro h i hi
    have h1 : (peekNum s k 15 % 2 ^ n).testBit i = (flipN n c).testBit i := by rw [h]
    rw [Nat.testBit_mod_two_pow, flip_bit, decide_eq_true hi, peek_bit s k 15 i (by omega)] at h1
    simpa using h1

theorem PM.less {s : ByteArray} {k n c j j' : Nat} (h : PM s k n c j) (hj : j' ≤ j) : PM s k n c j' := fun i hi => h i (by omega)

/-- a symbol's code lies at a place; the bits that are left begin it -/
def mtAt (ls : List Nat) (s : ByteArray) (k left i : Nat) : Prop := 1 ≤ lenAt ls i ∧ lenAt ls i ≤ left ∧ PM s k (lenAt ls i) (codeOf ls i) (lenAt ls i)
def bgAt (ls : List Nat) (s : ByteArray) (k left i : Nat) : Prop := 1 ≤ lenAt ls i ∧ left < lenAt ls i ∧ PM s k (lenAt ls i) (codeOf ls i) left

/-- lengths that make a table -/
structure Good (ls : List Nat) : Prop where
  h15 : ∀ n ∈ ls, n ≤ 15
  fits : room ls ≤ 32768
  full : room ls = 32768 ∨ usedOf ls = 0 ∨ (usedOf ls = 1 ∧ longOf ls = 1)

theorem hit_iff (ls : List Nat) (s : ByteArray) (k i : Nat) (h15 : ∀ n ∈ ls, n ≤ 15) (hi : i < ls.length) : hit ls (peekNum s k 15) i = true ↔ 1 ≤ lenAt ls i ∧ PM s k (lenAt ls i) (codeOf ls i) (lenAt ls i) := by
  unfold hit
  rw [Bool.and_eq_true, decide_eq_true_eq, decide_eq_true_eq, PM_all s k _ _ (h15 _ (lenAt_mem ls i hi))]

theorem next_hit (ls : List Nat) (hg : Good ls) (s : ByteArray) (k left i : Nat) (hi : i < ls.length) (hm : mtAt ls s k left i) : nextRes ls (peekNum s k 15) (min 15 left) = (i, lenAt ls i, 0) := by
  have h1 : hit ls (peekNum s k 15) i = true := (hit_iff ls s k i hg.h15 hi).2 ⟨hm.1, hm.2.2⟩
  have h2 := hg.h15 _ (lenAt_mem ls i hi)
  unfold nextRes found
  rw [symTo_is ls hg.h15 hg.fits ls.length _ i (Nat.le_refl _) hi h1]
  simp only
  rw [if_pos ⟨hm.1, by have := hm.2.1; omega⟩]

theorem long_some (ls : List Nat) (h : 0 < longOf ls) : ∃ i, i < ls.length ∧ lenAt ls i = longOf ls := by
  have key : ∀ k, k ≤ ls.length → 0 < longOf (ls.take k) → ∃ i, i < k ∧ lenAt ls i = longOf (ls.take k) := by
    intro k
    induction k with
    | zero => intro _ h; simp [longOf] at h
    | succ k ih =>
      intro hk h
      rw [take_lenAt ls k (by omega), long_snoc] at h ⊢
      by_cases hc : lenAt ls k ≤ longOf (ls.take k)
      · rw [Nat.max_eq_left hc] at h ⊢
        obtain ⟨i, h1, h2⟩ := ih (by omega) h
        exact ⟨i, by omega, h2⟩
      · rw [Nat.max_eq_right (by omega)]
        exact ⟨k, by omega, rfl⟩
  have := key ls.length (Nat.le_refl _)
  rw [List.take_length] at this
  exact this h

theorem used_take' (ls : List Nat) : ∀ k, k ≤ ls.length → usedOf (ls.take k) = 0 → longOf (ls.take k) = 0 := by
  intro k
  induction k with
  | zero => intro _ _; rfl
  | succ k ih =>
    intro hk h
    rw [take_lenAt ls k (by omega), used_snoc] at h
    rw [take_lenAt ls k (by omega), long_snoc]
    by_cases hz : lenAt ls k = 0
    · rw [hz] at h ⊢
      rw [ih (by omega) (by simpa using h)]
      rfl
    · rw [if_pos (by omega)] at h
      omega

theorem long_used (ls : List Nat) (h : usedOf ls = 0) : longOf ls = 0 := by
  have := (used_take' ls ls.length (Nat.le_refl _))
  rw [List.take_length] at this
  exact this h

theorem next_miss (ls : List Nat) (hg : Good ls) (s : ByteArray) (k left : Nat) (hm : ∀ i, i < ls.length → ¬ mtAt ls s k left i) (b : Bool) (hb : b = true ↔ ∃ i, i < ls.length ∧ bgAt ls s k left i) :
    nextRes ls (peekNum s k 15) (min 15 left) = if b = true then (0, 0, 3) else (0, 0, 5) := by
  have hv : peekNum s k 15 < 32768 := peek_lt s k 15
  have hnot : ¬ (0 < (found ls ls.length (peekNum s k 15)).2 ∧ (found ls ls.length (peekNum s k 15)).2 ≤ min 15 left) := by
    rintro ⟨h1, h2⟩
    unfold found at h1 h2
    rcases e : symTo ls ls.length (peekNum s k 15) with _ | i
    · rw [e] at h1; exact absurd h1 (Nat.lt_irrefl 0)
    · rw [e] at h1 h2
      obtain ⟨q1, q2⟩ := symTo_some ls _ _ _ e
      have q3 := (hit_iff ls s k i hg.h15 q1).1 q2
      simp only at h2
      exact hm i q1 ⟨q3.1, by omega, q3.2⟩
  have hbeg : begOf (longOf ls) (min 15 left) = b := by
    have hl15 := long_le ls hg.h15
    by_cases h0 : longOf ls = 0
    · have : b = false := by
        by_cases hbt : b = true
        · obtain ⟨i, hi, h1, _⟩ := hb.1 hbt
          have := longOf_ge ls _ (lenAt_mem ls i hi)
          omega
        · simpa using hbt
      rw [this, h0]; simp [begOf]
    · by_cases h1 : longOf ls ≤ min 15 left
      · have : b = false := by
          by_cases hbt : b = true
          · obtain ⟨i, hi, _, h2, _⟩ := hb.1 hbt
            have := longOf_ge ls _ (lenAt_mem ls i hi)
            omega
          · simpa using hbt
        rw [this]
        unfold begOf
        rw [if_neg h0, if_pos h1]
      · have hbt : b = true := by
          apply hb.2
          by_cases h2 : longOf ls = 1
          · obtain ⟨i, hi, he⟩ := long_some ls (by omega)
            refine ⟨i, hi, by omega, by omega, fun j hj => by omega⟩
          · have hroom : room ls = 32768 := by
              rcases hg.full with h | h | h
              · exact h
              · have := long_used ls h; omega
              · omega
            obtain ⟨i, hi, hn, h3, h4⟩ := cover ls hg.h15 (flipN 15 (peekNum s k 15)) (by rw [hroom]; exact flip_lt 15 _)
            have h5 := (hit_iff ls s k i hg.h15 hi).1 (hit_of ls hg.h15 hg.fits _ i hi hn h3 h4)
            by_cases h6 : lenAt ls i ≤ left
            · exact absurd ⟨h5.1, h6, h5.2⟩ (hm i hi)
            · exact ⟨i, hi, h5.1, by omega, h5.2.less (by omega)⟩
        rw [hbt]
        unfold begOf
        rw [if_neg h0, if_neg h1]
        by_cases h2 : longOf ls = 1
        · rw [if_pos h2, decide_eq_true (by omega)]
        · rw [if_neg h2]
  unfold nextRes
  simp only
  rw [if_neg hnot, hbeg]

end Go.Proofs.Ytcdoamaljgjojaa
