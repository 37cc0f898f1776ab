/- Plain laws: canonical codes as intervals. No program. -/
import Derived.WalkKit
namespace Go.Proofs.Ytcdoamaljgjojaa

/-- the first code of each length -/
def nextOf (ls : List Nat) : Nat → Nat
  | 0 => 0
  | n + 1 => if n = 0 then 0 else (nextOf ls n + ls.count n) * 2

/-- where the codes of a length begin, if they are looked at as intervals of 2^15 -/
def cum (ls : List Nat) (n : Nat) : Nat := nextOf ls n * 2 ^ (15 - n)

def lenAt (ls : List Nat) (s : Nat) : Nat := ls.getD s 0
def codeOf (ls : List Nat) (s : Nat) : Nat := if lenAt ls s = 0 then 0 else nextOf ls (lenAt ls s) + (ls.take s).count (lenAt ls s)
def codesOf (ls : List Nat) : List Nat := (List.range ls.length).map (codeOf ls)
def room (ls : List Nat) : Nat := (ls.map fun n => if n = 0 then 0 else 2 ^ (15 - n)).sum
def usedOf (ls : List Nat) : Nat := (ls.filter fun n => decide (0 < n)).length
def longOf (ls : List Nat) : Nat := ls.foldl max 0

theorem cum_succ (ls : List Nat) (n : Nat) (h1 : 1 ≤ n) (h2 : n < 15) : cum ls (n + 1) = cum ls n + ls.count n * 2 ^ (15 - n) := by
  unfold cum
  rw [nextOf, if_neg (by omega), show 15 - n = (15 - (n + 1)) + 1 by omega, Nat.pow_succ, Nat.mul_assoc, Nat.mul_comm 2, ← Nat.add_mul]

theorem cum_one (ls : List Nat) : cum ls 1 = 0 := by simp [cum, nextOf]

theorem cum_mono (ls : List Nat) (n : Nat) (h1 : 1 ≤ n) : ∀ m, n ≤ m → m ≤ 15 → cum ls n ≤ cum ls m := by
  intro m hm
  induction m with
  | zero => intro _; omega
  | succ m ih =>
    intro h
    by_cases e : n = m + 1
    · rw [e]; exact Nat.le_refl _
    · have := ih (by omega) (by omega)
      rw [cum_succ ls m (by omega) (by omega)]
      omega

/-- what lengths below some one take -/
def roomTo (ls : List Nat) (k : Nat) : Nat := (ls.map fun n => if n = 0 ∨ k ≤ n then 0 else 2 ^ (15 - n)).sum

theorem roomTo_succ (ls : List Nat) (k : Nat) (hk : 1 ≤ k) : roomTo ls (k + 1) = roomTo ls k + ls.count k * 2 ^ (15 - k) := by
  unfold roomTo
  induction ls with
  | nil => simp
  | cons a ls ih =>
    simp only [List.map_cons, List.sum_cons, List.count_cons, ih]
    by_cases h : a = k
    · subst h
      rw [if_neg (by omega), if_pos (by omega)]
      simp only [beq_self_eq_true, if_true, Nat.add_mul, Nat.one_mul]
      omega
    · have hb : (a == k) = false := by simpa using h
      rw [hb]
      by_cases h0 : a = 0 ∨ k + 1 ≤ a
      · rw [if_pos h0, if_pos (by omega)]; simp
      · rw [if_neg h0, if_neg (by omega)]; simp; omega

theorem roomTo_one (ls : List Nat) : roomTo ls 1 = 0 := by
  unfold roomTo
  induction ls with
  | nil => rfl
  | cons a ls ih =>
    simp only [List.map_cons, List.sum_cons, ih]
    rw [if_pos (by omega)]

theorem cum_room (ls : List Nat) (n : Nat) (h1 : 1 ≤ n) (h2 : n ≤ 15) : cum ls n = roomTo ls n := by
  induction n with
  | zero => omega
  | succ n ih =>
    by_cases e : n = 0
    · subst e; rw [cum_one, roomTo_one]
    · rw [cum_succ ls n (by omega) (by omega), roomTo_succ ls n (by omega), ih (by omega) (by omega)]

theorem room_eq (ls : List Nat) (h : ∀ n ∈ ls, n ≤ 15) : room ls = cum ls 15 + ls.count 15 := by
  rw [cum_room ls 15 (by decide) (by decide)]
  have := roomTo_succ ls 15 (by decide)
  simp only [Nat.sub_self, Nat.pow_zero, Nat.mul_one] at this
  rw [← this]
  unfold room roomTo
  congr 1
  apply List.map_congr_left
  intro n hn
  have := h n hn
  by_cases h0 : n = 0
  · rw [if_pos h0, if_pos (.inl h0)]
  · rw [if_neg h0, if_neg (by omega)]

/-- the end of a length's codes -/
theorem cum_end (ls : List Nat) (h : ∀ n ∈ ls, n ≤ 15) (n : Nat) (h1 : 1 ≤ n) (h2 : n ≤ 15) : cum ls n + ls.count n * 2 ^ (15 - n) ≤ room ls := by
  rw [room_eq ls h]
  by_cases e : n = 15
  · subst e; simp
  · rw [← cum_succ ls n h1 (by omega)]
    have := cum_mono ls (n + 1) (by omega) 15 (by omega) (Nat.le_refl _)
    omega

theorem rank_lt (ls : List Nat) (s : Nat) (hs : s < ls.length) : (ls.take s).count (lenAt ls s) < ls.count (lenAt ls s) := by
  have h : ls.count (lenAt ls s) = (ls.take s).count (lenAt ls s) + (ls.drop s).count (lenAt ls s) := by
    rw [← List.count_append, List.take_append_drop]
  have h2 : ls.drop s = lenAt ls s :: ls.drop (s + 1) := by
    rw [List.drop_eq_getElem_cons hs]
    simp [lenAt, List.getD, hs]
  rw [h2, List.count_cons_self] at h
  omega

theorem rank_mono (ls : List Nat) (n s t : Nat) (h : s ≤ t) : (ls.take s).count n ≤ (ls.take t).count n := by
  have : ls.take s = (ls.take t).take s := by rw [List.take_take, Nat.min_eq_left h]
  rw [this]
  exact (List.take_sublist s _).count_le n

theorem rank_lt' (ls : List Nat) (s t : Nat) (h : s < t) (ht : t ≤ ls.length) : (ls.take s).count (lenAt ls s) < (ls.take t).count (lenAt ls s) := by
  have h1 : (ls.take (s + 1)).count (lenAt ls s) = (ls.take s).count (lenAt ls s) + 1 := by
    have e : ls.take (s + 1) = ls.take s ++ [lenAt ls s] := by
      rw [List.take_add_one]
      simp [lenAt, List.getD, show s < ls.length by omega]
    rw [e, List.count_append]
    simp
  have := rank_mono ls (lenAt ls s) (s + 1) t (by omega)
  omega

/-- a code's interval -/
def loOf (ls : List Nat) (s : Nat) : Nat := codeOf ls s * 2 ^ (15 - lenAt ls s)

theorem lo_ge (ls : List Nat) (s : Nat) (hn : 1 ≤ lenAt ls s) : cum ls (lenAt ls s) ≤ loOf ls s := by
  unfold loOf codeOf cum
  rw [if_neg (by omega)]
  exact Nat.mul_le_mul_right _ (by omega)

theorem hi_le (ls : List Nat) (s : Nat) (hs : s < ls.length) (hn : 1 ≤ lenAt ls s) : loOf ls s + 2 ^ (15 - lenAt ls s) ≤ cum ls (lenAt ls s) + ls.count (lenAt ls s) * 2 ^ (15 - lenAt ls s) := by
  have h := rank_lt ls s hs
  unfold loOf codeOf cum
  rw [if_neg (by omega)]
  have : (nextOf ls (lenAt ls s) + (ls.take s).count (lenAt ls s) + 1) * 2 ^ (15 - lenAt ls s) ≤ (nextOf ls (lenAt ls s) + ls.count (lenAt ls s)) * 2 ^ (15 - lenAt ls s) := Nat.mul_le_mul_right _ (by omega)
  rw [Nat.add_mul, Nat.one_mul] at this
  rw [← Nat.add_mul]
  exact this

theorem hi_room (ls : List Nat) (h : ∀ n ∈ ls, n ≤ 15) (s : Nat) (hs : s < ls.length) (hn : 1 ≤ lenAt ls s) : loOf ls s + 2 ^ (15 - lenAt ls s) ≤ room ls := by
  have h15 : lenAt ls s ≤ 15 := by
    have : lenAt ls s = ls[s] := by simp [lenAt, List.getD, hs]
    rw [this]
    exact h _ (List.getElem_mem hs)
  exact Nat.le_trans (hi_le ls s hs hn) (cum_end ls h _ hn h15)

theorem code_lt (ls : List Nat) (h : ∀ n ∈ ls, n ≤ 15) (hr : room ls ≤ 32768) (s : Nat) (hs : s < ls.length) (hn : 1 ≤ lenAt ls s) : codeOf ls s < 2 ^ lenAt ls s := by
  have h1 := hi_room ls h s hs hn
  have h15 : lenAt ls s ≤ 15 := by
    have : lenAt ls s = ls[s] := by simp [lenAt, List.getD, hs]
    rw [this]
    exact h _ (List.getElem_mem hs)
  have h2 : (codeOf ls s + 1) * 2 ^ (15 - lenAt ls s) ≤ 2 ^ lenAt ls s * 2 ^ (15 - lenAt ls s) := by
    rw [← Nat.pow_add, show lenAt ls s + (15 - lenAt ls s) = 15 by omega, Nat.add_mul, Nat.one_mul]
    unfold loOf at h1
    omega
  have := Nat.le_of_mul_le_mul_right h2 (Nat.pow_pos (by decide))
  omega

/-- codes rise with their lengths, and of one length with their symbols; their intervals lie apart -/
theorem lo_order (ls : List Nat) (h : ∀ n ∈ ls, n ≤ 15) (s t : Nat) (hs : s < ls.length) (ht : t < ls.length) (hn : 1 ≤ lenAt ls s) (hm : 1 ≤ lenAt ls t)
    (hlt : lenAt ls s < lenAt ls t ∨ (lenAt ls s = lenAt ls t ∧ s < t)) : loOf ls s + 2 ^ (15 - lenAt ls s) ≤ loOf ls t := by
  have h15 : lenAt ls t ≤ 15 := by
    have : lenAt ls t = ls[t] := by simp [lenAt, List.getD, ht]
    rw [this]
    exact h _ (List.getElem_mem ht)
  rcases hlt with hl | ⟨he, hl⟩
  · have h1 := hi_le ls s hs hn
    rw [← cum_succ ls _ hn (by omega)] at h1
    have h2 := cum_mono ls (lenAt ls s + 1) (by omega) (lenAt ls t) (by omega) h15
    have h3 := lo_ge ls t hm
    omega
  · have hr := rank_lt' ls s t hl (by omega)
    unfold loOf codeOf
    rw [if_neg (by omega), if_neg (by omega), ← he]
    have : (nextOf ls (lenAt ls s) + (ls.take s).count (lenAt ls s) + 1) * 2 ^ (15 - lenAt ls s) ≤ (nextOf ls (lenAt ls s) + (ls.take t).count (lenAt ls s)) * 2 ^ (15 - lenAt ls s) := Nat.mul_le_mul_right _ (by omega)
    rw [Nat.add_mul, Nat.one_mul] at this
    exact this

/-- a whole table: each number of fifteen bits lies in some code's interval -/
theorem nth_of (ls : List Nat) (n r : Nat) (h : r < ls.count n) : ∃ s, s < ls.length ∧ lenAt ls s = n ∧ (ls.take s).count n = r := by
  induction ls generalizing r with
  | nil => simp at h
  | cons a ls ih =>
    by_cases ha : a = n
    · subst ha
      rw [List.count_cons_self] at h
      cases r with
      | zero => exact ⟨0, by simp, rfl, rfl⟩
      | succ r =>
        obtain ⟨s, h1, h2, h3⟩ := ih r (by omega)
        exact ⟨s + 1, by simpa using h1, h2, by rw [List.take_succ_cons, List.count_cons_self, h3]⟩
    · have hc : (a :: ls).count n = ls.count n := List.count_cons_of_ne ha
      rw [hc] at h
      obtain ⟨s, h1, h2, h3⟩ := ih r h
      exact ⟨s + 1, by simpa using h1, h2, by rw [List.take_succ_cons, List.count_cons_of_ne ha, h3]⟩

theorem cover (ls : List Nat) (h : ∀ n ∈ ls, n ≤ 15) (x : Nat) (hx : x < room ls) : ∃ s, s < ls.length ∧ 1 ≤ lenAt ls s ∧ loOf ls s ≤ x ∧ x < loOf ls s + 2 ^ (15 - lenAt ls s) := by
  have key : ∀ n, 1 ≤ n → n ≤ 15 → cum ls n ≤ x → x < cum ls n + ls.count n * 2 ^ (15 - n) → ∃ s, s < ls.length ∧ 1 ≤ lenAt ls s ∧ loOf ls s ≤ x ∧ x < loOf ls s + 2 ^ (15 - lenAt ls s) := by
    intro n h1 h2 h3 h4
    have hp : 0 < 2 ^ (15 - n) := Nat.pow_pos (by decide)
    have hd := Nat.div_add_mod (x - cum ls n) (2 ^ (15 - n))
    have hm := Nat.mod_lt (x - cum ls n) hp
    have hq : (x - cum ls n) / 2 ^ (15 - n) < ls.count n := (Nat.div_lt_iff_lt_mul hp).2 (by omega)
    obtain ⟨s, q1, q2, q3⟩ := nth_of ls n _ hq
    refine ⟨s, q1, by omega, ?_⟩
    have e : loOf ls s = cum ls n + 2 ^ (15 - n) * ((x - cum ls n) / 2 ^ (15 - n)) := by
      unfold loOf codeOf cum
      rw [q2, if_neg (by omega), q3, Nat.add_mul]
      congr 1
      rw [Nat.mul_comm]
      rfl
    rw [e, q2]
    omega
  have step : ∀ k, k < 15 → cum ls (15 - k) ≤ x → ∃ s, s < ls.length ∧ 1 ≤ lenAt ls s ∧ loOf ls s ≤ x ∧ x < loOf ls s + 2 ^ (15 - lenAt ls s) := by
    intro k
    induction k with
    | zero =>
      intro _ h3
      rw [room_eq ls h] at hx
      exact key 15 (by decide) (by decide) h3 (by simp; omega)
    | succ k ih =>
      intro hk h3
      by_cases h4 : cum ls (15 - k) ≤ x
      · exact ih (by omega) h4
      · refine key (15 - (k + 1)) (by omega) (by omega) h3 ?_
        rw [← cum_succ ls _ (by omega) (by omega), show 15 - (k + 1) + 1 = 15 - k by omega]
        omega
  exact step 14 (by decide) (by rw [show 15 - 14 = 1 from rfl, cum_one]; omega)

end Go.Proofs.Ytcdoamaljgjojaa
