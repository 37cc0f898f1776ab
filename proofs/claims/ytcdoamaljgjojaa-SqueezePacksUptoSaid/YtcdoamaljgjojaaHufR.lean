/- Plain laws: bits the other way round. No program. -/
import Derived.Test.YtcdoamaljgjojaaBitsP
import Derived.Test.YtcdoamaljgjojaaBitsQ
import Derived.Test.YtcdoamaljgjojaaHufP
import Derived.Laws.BitsAllLaws
namespace Go.Proofs.Ytcdoamaljgjojaa

/-- the lowest n bits the other way round -/
def flipN : Nat → Nat → Nat
  | 0, _ => 0
  | n + 1, v => 2 ^ n * (v % 2) + flipN n (v / 2)

theorem flip_lt (n v : Nat) : flipN n v < 2 ^ n := by
  induction n generalizing v with
  | zero => simp [flipN]
  | succ n ih =>
    have h1 := ih (v / 2)
    have h2 : 2 ^ n * (v % 2) ≤ 2 ^ n * 1 := Nat.mul_le_mul_left _ (by omega)
    rw [flipN, Nat.pow_succ]
    omega

theorem flip_bit (n v i : Nat) : (flipN n v).testBit i = (decide (i < n) && v.testBit (n - 1 - i)) := by
  induction n generalizing v i with
  | zero => simp [flipN]
  | succ n ih =>
    rw [flipN, Nat.testBit_two_pow_mul_add _ (flip_lt n _)]
    by_cases h : i < n
    · rw [if_pos h, ih, decide_eq_true h, decide_eq_true (show i < n + 1 by omega), Nat.testBit_div_two, show n - 1 - i + 1 = n + 1 - 1 - i by omega]
    · rw [if_neg h]
      by_cases h2 : i = n
      · subst h2
        rw [decide_eq_true (show i < i + 1 by omega), Nat.sub_self, show i + 1 - 1 - i = 0 by omega]
        simp [Nat.testBit_zero]
      · rw [decide_eq_false (show ¬ i < n + 1 by omega), Bool.false_and]
        apply Nat.testBit_lt_two_pow
        have h3 : 2 ^ 1 ≤ 2 ^ (i - n) := Nat.pow_le_pow_right (by decide) (by omega)
        omega

theorem flip_flip (n v : Nat) : flipN n (flipN n v) = v % 2 ^ n := by
  apply Nat.eq_of_testBit_eq
  intro i
  rw [flip_bit, flip_bit, Nat.testBit_mod_two_pow]
  by_cases h : i < n
  · rw [decide_eq_true h, decide_eq_true (show n - 1 - i < n by omega), show n - 1 - (n - 1 - i) = i by omega]; simp
  · rw [decide_eq_false h]; simp

theorem flip_mod (n m v : Nat) (h : n ≤ m) : flipN n (v % 2 ^ m) = flipN n v := by
  apply Nat.eq_of_testBit_eq
  intro i
  rw [flip_bit, flip_bit, Nat.testBit_mod_two_pow]
  by_cases hi : i < n
  · rw [decide_eq_true (show n - 1 - i < m by omega)]; simp
  · rw [decide_eq_false hi]; simp

theorem flip_div (n m v : Nat) (h : n ≤ m) : flipN m v / 2 ^ (m - n) = flipN n v := by
  apply Nat.eq_of_testBit_eq
  intro i
  rw [Nat.testBit_div_two_pow, flip_bit, flip_bit]
  by_cases hi : i < n
  · rw [decide_eq_true hi, decide_eq_true (show i + (m - n) < m by omega), show m - 1 - (i + (m - n)) = n - 1 - i by omega]
  · rw [decide_eq_false hi, decide_eq_false (show ¬ i + (m - n) < m by omega)]; simp

/-- fifteen bits begin with a code, told as numbers -/
theorem flip_begins (n c v : Nat) (hn : n ≤ 15) (hc : c < 2 ^ n) : v % 2 ^ n = flipN n c ↔ flipN 15 v / 2 ^ (15 - n) = c := by
  rw [flip_div n 15 v hn]
  constructor
  · intro h
    have := congrArg (flipN n) h
    rw [flip_mod n n v (Nat.le_refl _), flip_flip, Nat.mod_eq_of_lt hc] at this
    exact this
  · intro h
    rw [← h, flip_flip]

theorem flip_in (n c v : Nat) (hn : n ≤ 15) (hc : c < 2 ^ n) : v % 2 ^ n = flipN n c ↔ c * 2 ^ (15 - n) ≤ flipN 15 v ∧ flipN 15 v < c * 2 ^ (15 - n) + 2 ^ (15 - n) := by
  rw [flip_begins n c v hn hc]
  have hp : 0 < 2 ^ (15 - n) := Nat.pow_pos (by decide)
  constructor
  · intro h
    have h1 := Nat.div_mul_le_self (flipN 15 v) (2 ^ (15 - n))
    have h2 := Nat.lt_div_mul_add (a := flipN 15 v) hp
    rw [h] at h1 h2
    exact ⟨h1, h2⟩
  · rintro ⟨h1, h2⟩
    apply Nat.le_antisymm
    · apply Nat.le_of_lt_succ
      rw [Nat.div_lt_iff_lt_mul hp, Nat.succ_mul]
      exact h2
    · rw [Nat.le_div_iff_mul_le hp]
      exact h1

theorem num_bit (l : List Bool) (i : Nat) : (num l).testBit i = l.getD i false := by
  induction l generalizing i with
  | nil => simp [num]
  | cons a l ih =>
    cases i with
    | zero => rw [num, Nat.testBit_zero]; cases a <;> simp <;> omega
    | succ i =>
      rw [num, Nat.testBit_succ, List.getD_cons_succ, ← ih]
      congr 1
      cases a <;> simp <;> omega

/-! ### Reverse32 -/
theorem swap_bit (m k x i : Nat) (hk : 0 < k) (hm : ∀ i, i < 32 → m.testBit i = decide (i / k % 2 = 0)) (hi : i < 32) :
    ((x / 2 ^ k &&& m) ||| ((x &&& m) * 2 ^ k)).testBit i = x.testBit (if i / k % 2 = 0 then i + k else i - k) := by
  rw [Nat.testBit_or, Nat.testBit_and, Nat.testBit_div_two_pow, Nat.testBit_mul_two_pow, Nat.testBit_and, hm i hi]
  by_cases h : i / k % 2 = 0
  · rw [if_pos h, decide_eq_true h]
    by_cases h2 : k ≤ i
    · have h3 : (i - k) / k % 2 = 1 := by
        have h5 := Nat.add_div_left (i - k) hk
        rw [show k + (i - k) = i by omega] at h5
        omega
      rw [hm (i - k) (by omega), h3]; simp
    · rw [decide_eq_false h2]; simp
  · have h2 : k ≤ i := by
      by_cases h4 : k ≤ i
      · exact h4
      · rw [Nat.div_eq_of_lt (by omega)] at h; omega
    have h3 : (i - k) / k % 2 = 0 := by
      have h5 := Nat.add_div_left (i - k) hk
      rw [show k + (i - k) = i by omega] at h5
      omega
    rw [if_neg h, decide_eq_false h, hm (i - k) (by omega), decide_eq_true h3, decide_eq_true h2]; simp

def swapN (k m x : Nat) : Nat := (x / 2 ^ k &&& m) ||| ((x &&& m) * 2 ^ k)

theorem mask_bit (m k : Nat) (h : (List.range 32).all (fun i => m.testBit i == decide (i / k % 2 = 0)) = true) : ∀ i, i < 32 → m.testBit i = decide (i / k % 2 = 0) := by
  intro i hi
  have := List.all_eq_true.1 h i (List.mem_range.2 hi)
  simpa using this

theorem swap1 (x i : Nat) (hi : i < 32) : (swapN 1 1431655765 x).testBit i = x.testBit (if i / 1 % 2 = 0 then i + 1 else i - 1) := swap_bit _ 1 x i (by decide) (mask_bit _ _ (by decide +kernel)) hi
theorem swap2 (x i : Nat) (hi : i < 32) : (swapN 2 858993459 x).testBit i = x.testBit (if i / 2 % 2 = 0 then i + 2 else i - 2) := swap_bit _ 2 x i (by decide) (mask_bit _ _ (by decide +kernel)) hi
theorem swap4 (x i : Nat) (hi : i < 32) : (swapN 4 252645135 x).testBit i = x.testBit (if i / 4 % 2 = 0 then i + 4 else i - 4) := swap_bit _ 4 x i (by decide) (mask_bit _ _ (by decide +kernel)) hi
theorem swap8 (x i : Nat) (hi : i < 32) : (swapN 8 16711935 x).testBit i = x.testBit (if i / 8 % 2 = 0 then i + 8 else i - 8) := swap_bit _ 8 x i (by decide) (mask_bit _ _ (by decide +kernel)) hi

theorem swap16 (x i : Nat) (hi : i < 32) (hx : x < 4294967296) : (x / 2 ^ 16 ||| (x * 2 ^ 16) % 2 ^ 32).testBit i = x.testBit (if i / 16 % 2 = 0 then i + 16 else i - 16) := by
  rw [Nat.testBit_or, Nat.testBit_div_two_pow, Nat.testBit_mod_two_pow, Nat.testBit_mul_two_pow, decide_eq_true hi]
  by_cases h : i < 16
  · rw [if_pos (by omega), decide_eq_false (show ¬ 16 ≤ i by omega)]; simp
  · rw [if_neg (by omega), decide_eq_true (show 16 ≤ i by omega), Nat.testBit_lt_two_pow (show x < 2 ^ (i + 16) from Nat.lt_of_lt_of_le (show x < 2 ^ 32 by omega) (Nat.pow_le_pow_right (by decide) (by omega)))]
    simp

theorem swap_lt (k m x : Nat) (h : m * 2 ^ k < 4294967296) (hm : m < 4294967296) : swapN k m x < 4294967296 := by
  have h1 : x / 2 ^ k &&& m < 2 ^ 32 := Nat.and_lt_two_pow _ hm
  have h2 : (x &&& m) * 2 ^ k < 2 ^ 32 := Nat.lt_of_le_of_lt (Nat.mul_le_mul_right _ Nat.and_le_right) h
  exact Nat.or_lt_two_pow h1 h2

/-- as the library turns 32 bits -/
def turn32 (x : Nat) : Nat :=
  let y := swapN 8 16711935 (swapN 4 252645135 (swapN 2 858993459 (swapN 1 1431655765 x)))
  y / 2 ^ 16 ||| (y * 2 ^ 16) % 2 ^ 32

theorem turn32_bit (x i : Nat) (hi : i < 32) : (turn32 x).testBit i = x.testBit (31 - i) := by
  have hy : swapN 8 16711935 (swapN 4 252645135 (swapN 2 858993459 (swapN 1 1431655765 x))) < 4294967296 := swap_lt _ _ _ (by decide) (by decide)
  have a16 : (if i / 16 % 2 = 0 then i + 16 else i - 16) < 32 := by split <;> omega
  unfold turn32
  simp only
  rw [swap16 _ i hi hy]
  generalize hj : (if i / 16 % 2 = 0 then i + 16 else i - 16) = j at *
  have a8 : (if j / 8 % 2 = 0 then j + 8 else j - 8) < 32 := by split <;> omega
  rw [swap8 _ j a16]
  generalize hk : (if j / 8 % 2 = 0 then j + 8 else j - 8) = k at *
  have a4 : (if k / 4 % 2 = 0 then k + 4 else k - 4) < 32 := by split <;> omega
  rw [swap4 _ k a8]
  generalize hl : (if k / 4 % 2 = 0 then k + 4 else k - 4) = l at *
  have a2 : (if l / 2 % 2 = 0 then l + 2 else l - 2) < 32 := by split <;> omega
  rw [swap2 _ l a4]
  generalize hm : (if l / 2 % 2 = 0 then l + 2 else l - 2) = m at *
  rw [swap1 _ m a2]
  congr 1
  subst hm hl hk hj
  have key : (List.range 32).all (fun i =>
      (let j := if i / 16 % 2 = 0 then i + 16 else i - 16
       let k := if j / 8 % 2 = 0 then j + 8 else j - 8
       let l := if k / 4 % 2 = 0 then k + 4 else k - 4
       let m := if l / 2 % 2 = 0 then l + 2 else l - 2
       (if m / 1 % 2 = 0 then m + 1 else m - 1) == 31 - i)) = true := by decide +kernel
  have := List.all_eq_true.1 key i (List.mem_range.2 hi)
  simpa using this

theorem turn32_lt (x : Nat) : turn32 x < 2 ^ 32 := by
  have hy : swapN 8 16711935 (swapN 4 252645135 (swapN 2 858993459 (swapN 1 1431655765 x))) < 4294967296 := swap_lt _ _ _ (by decide) (by decide)
  unfold turn32
  simp only
  exact Nat.or_lt_two_pow (Nat.lt_of_le_of_lt (Nat.div_le_self _ _) hy) (Nat.mod_lt _ (by decide))

theorem turn32_flip (x n : Nat) (hn : n ≤ 32) : turn32 x / 2 ^ (32 - n) = flipN n x := by
  apply Nat.eq_of_testBit_eq
  intro i
  rw [Nat.testBit_div_two_pow, flip_bit]
  by_cases h : i < n
  · rw [turn32_bit _ _ (by omega), decide_eq_true h, show 31 - (i + (32 - n)) = n - 1 - i by omega]; simp
  · rw [decide_eq_false h, Nat.testBit_lt_two_pow (Nat.lt_of_lt_of_le (turn32_lt x) (Nat.pow_le_pow_right (by decide) (by omega)))]; simp

end Go.Proofs.Ytcdoamaljgjojaa
