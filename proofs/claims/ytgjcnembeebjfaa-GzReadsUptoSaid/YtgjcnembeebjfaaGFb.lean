/- Plain laws: canonical codes as intervals. No program. Plain laws: the lookups of a table of codes. No program. Plain laws: numbers out of bits, bits of bytes, what a packed row of bits unpacks to. No program. Plain laws: lengths and distances of symbols, and how many symbols tell one. No program. -/
import Derived.WalkKit
import Derived.Test.YtgjcnembeebjfaaGFa

namespace Go.Proofs.Ytgjcnembeebjfaa

/-- the first code of each length -/
def nextOf (ls : List Nat) : Nat → Nat
  | 0 => 0
  | n + 1 => if n = 0 then 0 else (nextOf ls n + ls.count n) * 2

/-- where the codes of a length begin, if they are looked at as intervals of 2^15 -/
def cum (ls : List Nat) (n : Nat) : Nat := nextOf ls n * 2 ^ (15 - n)

def lenAt (ls : List Nat) (s : Nat) : Nat := ls.getD s 0
def codeOf (ls : List Nat) (s : Nat) : Nat := if lenAt ls s = 0 then 0 else nextOf ls (lenAt ls s) + (ls.take s).count (lenAt ls s)
def codesOf (ls : List Nat) : List Nat := (List.range ls.length).map (codeOf ls)
def room (ls : List Nat) : Nat := (ls.map fun n => if n = 0 then 0 else 2 ^ (15 - n)).sum
def usedOf (ls : List Nat) : Nat := (ls.filter fun n => decide (0 < n)).length
def longOf (ls : List Nat) : Nat := ls.foldl max 0

theorem cum_succ (ls : List Nat) (n : Nat) (h1 : 1 ≤ n) (h2 : n < 15) : cum ls (n + 1) = cum ls n + ls.count n * 2 ^ (15 - n) := by
  unfold cum
  rw [nextOf, if_neg (by omega), show 15 - n = (15 - (n + 1)) + 1 by omega, Nat.pow_succ, Nat.mul_assoc, Nat.mul_comm 2, ← Nat.add_mul]

theorem cum_one (ls : List Nat) : cum ls 1 = 0 := by simp [cum, nextOf]

theorem cum_mono (ls : List Nat) (n : Nat) (h1 : 1 ≤ n) : ∀ m, n ≤ m → m ≤ 15 → cum ls n ≤ cum ls m := by
  intro m hm
  induction m with
  | zero => intro _; omega
  | succ m ih =>
    intro h
    by_cases e : n = m + 1
    · rw [e]; exact Nat.le_refl _
    · have := ih (by omega) (by omega)
      rw [cum_succ ls m (by omega) (by omega)]
      omega

/-- what lengths below some one take -/
def roomTo (ls : List Nat) (k : Nat) : Nat := (ls.map fun n => if n = 0 ∨ k ≤ n then 0 else 2 ^ (15 - n)).sum

theorem roomTo_succ (ls : List Nat) (k : Nat) (hk : 1 ≤ k) : roomTo ls (k + 1) = roomTo ls k + ls.count k * 2 ^ (15 - k) := by
  unfold roomTo
  induction ls with
  | nil => simp
  | cons a ls ih =>
    simp only [List.map_cons, List.sum_cons, List.count_cons, ih]
    by_cases h : a = k
    · subst h
      rw [if_neg (by omega), if_pos (by omega)]
      simp only [beq_self_eq_true, if_true, Nat.add_mul, Nat.one_mul]
      omega
    · have hb : (a == k) = false := by simpa using h
      rw [hb]
      by_cases h0 : a = 0 ∨ k + 1 ≤ a
      · rw [if_pos h0, if_pos (by omega)]; simp
      · rw [if_neg h0, if_neg (by omega)]; simp; omega

theorem roomTo_one (ls : List Nat) : roomTo ls 1 = 0 := by
  unfold roomTo
  induction ls with
  | nil => rfl
  | cons a ls ih =>
    simp only [List.map_cons, List.sum_cons, ih]
    rw [if_pos (by omega)]

theorem cum_room (ls : List Nat) (n : Nat) (h1 : 1 ≤ n) (h2 : n ≤ 15) : cum ls n = roomTo ls n := by
  induction n with
  | zero => omega
  | succ n ih =>
    by_cases e : n = 0
    · subst e; rw [cum_one, roomTo_one]
    · rw [cum_succ ls n (by omega) (by omega), roomTo_succ ls n (by omega), ih (by omega) (by omega)]

theorem room_eq (ls : List Nat) (h : ∀ n ∈ ls, n ≤ 15) : room ls = cum ls 15 + ls.count 15 := by
  rw [cum_room ls 15 (by decide) (by decide)]
  have := roomTo_succ ls 15 (by decide)
  simp only [Nat.sub_self, Nat.pow_zero, Nat.mul_one] at this
  rw [← this]
  unfold room roomTo
  congr 1
  apply List.map_congr_left
  intro n hn
  have := h n hn
  by_cases h0 : n = 0
  · rw [if_pos h0, if_pos (.inl h0)]
  · rw [if_neg h0, if_neg (by omega)]

/-- the end of a length's codes -/
theorem cum_end (ls : List Nat) (h : ∀ n ∈ ls, n ≤ 15) (n : Nat) (h1 : 1 ≤ n) (h2 : n ≤ 15) : cum ls n + ls.count n * 2 ^ (15 - n) ≤ room ls := by
  rw [room_eq ls h]
  by_cases e : n = 15
  · subst e; simp
  · rw [← cum_succ ls n h1 (by omega)]
    have := cum_mono ls (n + 1) (by omega) 15 (by omega) (Nat.le_refl _)
    omega

theorem rank_lt (ls : List Nat) (s : Nat) (hs : s < ls.length) : (ls.take s).count (lenAt ls s) < ls.count (lenAt ls s) := by
  have h : ls.count (lenAt ls s) = (ls.take s).count (lenAt ls s) + (ls.drop s).count (lenAt ls s) := by
    rw [← List.count_append, List.take_append_drop]
  have h2 : ls.drop s = lenAt ls s :: ls.drop (s + 1) := by
    rw [List.drop_eq_getElem_cons hs]
    simp [lenAt, List.getD, hs]
  rw [h2, List.count_cons_self] at h
  omega

theorem rank_mono (ls : List Nat) (n s t : Nat) (h : s ≤ t) : (ls.take s).count n ≤ (ls.take t).count n := by
  have : ls.take s = (ls.take t).take s := by rw [List.take_take, Nat.min_eq_left h]
  rw [this]
  exact (List.take_sublist s _).count_le n

theorem rank_lt' (ls : List Nat) (s t : Nat) (h : s < t) (ht : t ≤ ls.length) : (ls.take s).count (lenAt ls s) < (ls.take t).count (lenAt ls s) := by
  have h1 : (ls.take (s + 1)).count (lenAt ls s) = (ls.take s).count (lenAt ls s) + 1 := by
    have e : ls.take (s + 1) = ls.take s ++ [lenAt ls s] := by
      rw [List.take_add_one]
      simp [lenAt, List.getD, show s < ls.length by omega]
    rw [e, List.count_append]
    simp
  have := rank_mono ls (lenAt ls s) (s + 1) t (by omega)
  omega

/-- a code's interval -/
def loOf (ls : List Nat) (s : Nat) : Nat := codeOf ls s * 2 ^ (15 - lenAt ls s)

theorem lo_ge (ls : List Nat) (s : Nat) (hn : 1 ≤ lenAt ls s) : cum ls (lenAt ls s) ≤ loOf ls s := by
  unfold loOf codeOf cum
  rw [if_neg (by omega)]
  exact Nat.mul_le_mul_right _ (by omega)

theorem hi_le (ls : List Nat) (s : Nat) (hs : s < ls.length) (hn : 1 ≤ lenAt ls s) : loOf ls s + 2 ^ (15 - lenAt ls s) ≤ cum ls (lenAt ls s) + ls.count (lenAt ls s) * 2 ^ (15 - lenAt ls s) := by
  have h := rank_lt ls s hs
  unfold loOf codeOf cum
  rw [if_neg (by omega)]
  have : (nextOf ls (lenAt ls s) + (ls.take s).count (lenAt ls s) + 1) * 2 ^ (15 - lenAt ls s) ≤ (nextOf ls (lenAt ls s) + ls.count (lenAt ls s)) * 2 ^ (15 - lenAt ls s) := Nat.mul_le_mul_right _ (by omega)
  rw [Nat.add_mul, Nat.one_mul] at this
  rw [← Nat.add_mul]
  exact this

theorem hi_room (ls : List Nat) (h : ∀ n ∈ ls, n ≤ 15) (s : Nat) (hs : s < ls.length) (hn : 1 ≤ lenAt ls s) : loOf ls s + 2 ^ (15 - lenAt ls s) ≤ room ls := by
  have h15 : lenAt ls s ≤ 15 := by
    have : lenAt ls s = ls[s] := by simp [lenAt, List.getD, hs]
    rw [this]
    exact h _ (List.getElem_mem hs)
  exact Nat.le_trans (hi_le ls s hs hn) (cum_end ls h _ hn h15)

theorem code_lt (ls : List Nat) (h : ∀ n ∈ ls, n ≤ 15) (hr : room ls ≤ 32768) (s : Nat) (hs : s < ls.length) (hn : 1 ≤ lenAt ls s) : codeOf ls s < 2 ^ lenAt ls s := by
  have h1 := hi_room ls h s hs hn
  have h15 : lenAt ls s ≤ 15 := by
    have : lenAt ls s = ls[s] := by simp [lenAt, List.getD, hs]
    rw [this]
    exact h _ (List.getElem_mem hs)
  have h2 : (codeOf ls s + 1) * 2 ^ (15 - lenAt ls s) ≤ 2 ^ lenAt ls s * 2 ^ (15 - lenAt ls s) := by
    rw [← Nat.pow_add, show lenAt ls s + (15 - lenAt ls s) = 15 by omega, Nat.add_mul, Nat.one_mul]
    unfold loOf at h1
    omega
  have := Nat.le_of_mul_le_mul_right h2 (Nat.pow_pos (by decide))
  omega

/-- codes rise with their lengths, and of one length with their symbols; their intervals lie apart -/
theorem lo_order (ls : List Nat) (h : ∀ n ∈ ls, n ≤ 15) (s t : Nat) (hs : s < ls.length) (ht : t < ls.length) (hn : 1 ≤ lenAt ls s) (hm : 1 ≤ lenAt ls t)
    (hlt : lenAt ls s < lenAt ls t ∨ (lenAt ls s = lenAt ls t ∧ s < t)) : loOf ls s + 2 ^ (15 - lenAt ls s) ≤ loOf ls t := by
  have h15 : lenAt ls t ≤ 15 := by
    have : lenAt ls t = ls[t] := by simp [lenAt, List.getD, ht]
    rw [this]
    exact h _ (List.getElem_mem ht)
  rcases hlt with hl | ⟨he, hl⟩
  · have h1 := hi_le ls s hs hn
    rw [← cum_succ ls _ hn (by omega)] at h1
    have h2 := cum_mono ls (lenAt ls s + 1) (by omega) (lenAt ls t) (by omega) h15
    have h3 := lo_ge ls t hm
    omega
  · have hr := rank_lt' ls s t hl (by omega)
    unfold loOf codeOf
    rw [if_neg (by omega), if_neg (by omega), ← he]
    have : (nextOf ls (lenAt ls s) + (ls.take s).count (lenAt ls s) + 1) * 2 ^ (15 - lenAt ls s) ≤ (nextOf ls (lenAt ls s) + (ls.take t).count (lenAt ls s)) * 2 ^ (15 - lenAt ls s) := Nat.mul_le_mul_right _ (by omega)
    rw [Nat.add_mul, Nat.one_mul] at this
    exact this

/-- a whole table: each number of fifteen bits lies in some code's interval -/
theorem nth_of (ls : List Nat) (n r : Nat) (h : r < ls.count n) : ∃ s, s < ls.length ∧ lenAt ls s = n ∧ (ls.take s).count n = r := by
  induction ls generalizing r with
  | nil => simp at h
  | cons a ls ih =>
    by_cases ha : a = n
    · subst ha
      rw [List.count_cons_self] at h
      cases r with
      | zero => exact ⟨0, by simp, rfl, rfl⟩
      | succ r =>
        obtain ⟨s, h1, h2, h3⟩ := ih r (by omega)
        exact ⟨s + 1, by simpa using h1, h2, by rw [List.take_succ_cons, List.count_cons_self, h3]⟩
    · have hc : (a :: ls).count n = ls.count n := List.count_cons_of_ne ha
      rw [hc] at h
      obtain ⟨s, h1, h2, h3⟩ := ih r h
      exact ⟨s + 1, by simpa using h1, h2, by rw [List.take_succ_cons, List.count_cons_of_ne ha, h3]⟩

theorem cover (ls : List Nat) (h : ∀ n ∈ ls, n ≤ 15) (x : Nat) (hx : x < room ls) : ∃ s, s < ls.length ∧ 1 ≤ lenAt ls s ∧ loOf ls s ≤ x ∧ x < loOf ls s + 2 ^ (15 - lenAt ls s) := by
  have key : ∀ n, 1 ≤ n → n ≤ 15 → cum ls n ≤ x → x < cum ls n + ls.count n * 2 ^ (15 - n) → ∃ s, s < ls.length ∧ 1 ≤ lenAt ls s ∧ loOf ls s ≤ x ∧ x < loOf ls s + 2 ^ (15 - lenAt ls s) := by
    intro n h1 h2 h3 h4
    have hp : 0 < 2 ^ (15 - n) := Nat.pow_pos (by decide)
    have hd := Nat.div_add_mod (x - cum ls n) (2 ^ (15 - n))
    have hm := Nat.mod_lt (x - cum ls n) hp
    have hq : (x - cum ls n) / 2 ^ (15 - n) < ls.count n := (Nat.div_lt_iff_lt_mul hp).2 (by omega)
    obtain ⟨s, q1, q2, q3⟩ := nth_of ls n _ hq
    refine ⟨s, q1, by omega, ?_⟩
    have e : loOf ls s = cum ls n + 2 ^ (15 - n) * ((x - cum ls n) / 2 ^ (15 - n)) := by
      unfold loOf codeOf cum
      rw [q2, if_neg (by omega), q3, Nat.add_mul]
      congr 1
      rw [Nat.mul_comm]
      rfl
    rw [e, q2]
    omega
  have step : ∀ k, k < 15 → cum ls (15 - k) ≤ x → ∃ s, s < ls.length ∧ 1 ≤ lenAt ls s ∧ loOf ls s ≤ x ∧ x < loOf ls s + 2 ^ (15 - lenAt ls s) := by
    intro k
    induction k with
    | zero =>
      intro _ h3
      rw [room_eq ls h] at hx
      exact key 15 (by decide) (by decide) h3 (by simp; omega)
    | succ k ih =>
      intro hk h3
      by_cases h4 : cum ls (15 - k) ≤ x
      · exact ih (by omega) h4
      · refine key (15 - (k + 1)) (by omega) (by omega) h3 ?_
        rw [← cum_succ ls _ (by omega) (by omega), show 15 - (k + 1) + 1 = 15 - k by omega]
        omega
  exact step 14 (by decide) (by rw [show 15 - 14 = 1 from rfl, cum_one]; omega)

end Go.Proofs.Ytgjcnembeebjfaa

namespace Go.Proofs.Ytgjcnembeebjfaa

/-- an entry: its symbol (or where a further lookup begins), its length, how many bits the further lookup has -/
abbrev Ent := Nat × Nat × Nat
def entAt (E : List Ent) (i : Nat) : Ent := E.getD i (0, 0, 0)

/-- each step-th entry of a stretch is laid -/
def fillR (E : List Ent) (base from_ step lim : Nat) (e : Ent) : List Ent :=
  E.mapIdx fun j x => if base + from_ ≤ j ∧ j < base + lim ∧ (j - base - from_) % step = 0 then e else x

theorem fillR_length (E : List Ent) (base from_ step lim : Nat) (e : Ent) : (fillR E base from_ step lim e).length = E.length := by simp [fillR]

theorem entAt_fillR (E : List Ent) (base from_ step lim : Nat) (e : Ent) (j : Nat) (hj : j < E.length) :
    entAt (fillR E base from_ step lim e) j = if base + from_ ≤ j ∧ j < base + lim ∧ (j - base - from_) % step = 0 then e else entAt E j := by
  simp [entAt, fillR, List.getD, hj]

theorem fillR_none (E : List Ent) (base from_ step lim : Nat) (e : Ent) (h : lim ≤ from_) : fillR E base from_ step lim e = E := by
  unfold fillR
  apply List.ext_getElem
  · simp
  · intro i h1 h2
    simp only [List.getElem_mapIdx]
    rw [if_neg (by omega)]

/-- one more -/
theorem fillR_step (E : List Ent) (base from_ step i : Nat) (e : Ent) (hs : 0 < step) (hi : from_ ≤ i) (hm : (i - from_) % step = 0) :
    (fillR E base from_ step i e).set (base + i) e = fillR E base from_ step (i + step) e := by
  unfold fillR
  apply List.ext_getElem
  · simp
  · intro j h1 h2
    rw [List.getElem_set]
    simp only [List.getElem_mapIdx]
    by_cases hj : base + i = j
    · rw [if_pos hj, if_pos ⟨by omega, by omega, by rw [show j - base - from_ = i - from_ by omega]; exact hm⟩]
    · rw [if_neg hj]
      by_cases hc : base + from_ ≤ j ∧ j < base + i ∧ (j - base - from_) % step = 0
      · rw [if_pos hc, if_pos ⟨hc.1, by omega, hc.2.2⟩]
      · rw [if_neg hc]
        rw [if_neg]
        rintro ⟨q1, q2, q3⟩
        by_cases hlt : j < base + i
        · exact hc ⟨q1, hlt, q3⟩
        · have h3 : (j - base - from_) = (i - from_) + (j - base - i) := by omega
          rw [h3, Nat.add_mod, hm, Nat.zero_add, Nat.mod_mod, Nat.mod_eq_of_lt (by omega)] at q3
          omega

/-- the same to the lookups' end, wherever the last step falls -/
theorem fillR_lim (E : List Ent) (base from_ step lim i : Nat) (e : Ent) (hi : from_ ≤ i) (hm : (i - from_) % step = 0) (hl : lim ≤ i) (h2 : i < lim + step) : fillR E base from_ step i e = fillR E base from_ step lim e := by
  unfold fillR
  apply List.ext_getElem
  · simp
  · intro j h1 h3
    simp only [List.getElem_mapIdx]
    by_cases hc : base + from_ ≤ j ∧ j < base + lim ∧ (j - base - from_) % step = 0
    · rw [if_pos hc, if_pos ⟨hc.1, by omega, hc.2.2⟩]
    · rw [if_neg hc, if_neg]
      rintro ⟨q1, q2, q3⟩
      by_cases hlt : j < base + lim
      · exact hc ⟨q1, hlt, q3⟩
      · have h4 : (i - from_) = (j - base - from_) + (i - (j - base)) := by omega
        rw [h4, Nat.add_mod, q3, Nat.zero_add, Nat.mod_mod, Nat.mod_eq_of_lt (by omega)] at hm
        omega

/-- what is found for fifteen bits -/
def find (E : List Ent) (v : Nat) : Nat × Nat :=
  let e := entAt E (v % 512)
  if 0 < e.2.2 then ((entAt E (e.1 + v / 512 % 2 ^ e.2.2)).1, (entAt E (e.1 + v / 512 % 2 ^ e.2.2)).2.1) else (e.1, e.2.1)

/-- lookups that hang together -/
structure WFT (E : List Ent) (long : Nat) : Prop where
  len : 512 ≤ E.length
  deep : ∀ j, 512 ≤ j → (entAt E j).2.2 = 0
  more : ∀ i, i < 512 → 0 < (entAt E i).2.2 → 9 < long ∧ (entAt E i).2.2 = long - 9 ∧ 512 ≤ (entAt E i).1 ∧ (entAt E i).1 + 2 ^ (long - 9) ≤ E.length ∧ (entAt E i).2.1 = 0 ∧ ∃ u, u < 2 ^ (long - 9) ∧ 0 < (entAt E ((entAt E i).1 + u)).2.1
  apart : ∀ i k, i < 512 → k < 512 → i ≠ k → 0 < (entAt E i).2.2 → 0 < (entAt E k).2.2 → (entAt E i).1 + 2 ^ (long - 9) ≤ (entAt E k).1 ∨ (entAt E k).1 + 2 ^ (long - 9) ≤ (entAt E i).1
  empty : ∀ j, (entAt E j).2.1 = 0 → (entAt E j).2.2 = 0 → (entAt E j).1 = 0

def freshE (E : List Ent) (head long : Nat) : List Ent := E.set head (E.length, 0, long - 9) ++ List.replicate (2 ^ (long - 9)) (0, 0, 0)

/-- a symbol is laid into the lookups -/
def layE (E : List Ent) (long s n bits : Nat) : List Ent :=
  if n ≤ 9 then fillR E 0 bits (2 ^ n) 512 (s, n, 0)
  else
    let E1 := if (entAt E (bits % 512)).2.2 = 0 then freshE E (bits % 512) long else E
    fillR E1 (entAt E1 (bits % 512)).1 (bits / 512) (2 ^ (n - 9)) (2 ^ (entAt E1 (bits % 512)).2.2) (s, n, 0)

theorem entAt_past (E : List Ent) (j : Nat) (h : E.length ≤ j) : entAt E j = (0, 0, 0) := by
  simp [entAt, List.getD, List.getElem?_eq_none h]

theorem entAt_fresh (E : List Ent) (head long j : Nat) (hh : head < E.length) : entAt (freshE E head long) j = if j = head then (E.length, 0, long - 9) else entAt E j := by
  unfold freshE
  by_cases hj : j < E.length
  · have : (E.set head (E.length, 0, long - 9) ++ List.replicate (2 ^ (long - 9)) (0, 0, 0))[j]? = (E.set head (E.length, 0, long - 9))[j]? := List.getElem?_append_left (by simpa using hj)
    unfold entAt
    rw [List.getD_eq_getElem?_getD, this, List.getElem?_set]
    by_cases e : head = j
    · subst e; simp [hh]
    · rw [if_neg e, if_neg (fun h => e h.symm), List.getD_eq_getElem?_getD]
  · rw [if_neg (by omega), entAt_past E j (by omega)]
    unfold entAt
    rw [List.getD_eq_getElem?_getD, List.getElem?_append_right (by simpa using Nat.not_lt.1 hj), List.getElem?_replicate]
    split <;> rfl

/-- an entry that is none is made the beginning of a further lookup: nothing else is found than before -/
theorem fresh_ok (E : List Ent) (head long : Nat) (h : WFT E long) (hl : 9 < long) (hh : head < 512) (he : entAt E head = (0, 0, 0)) (v : Nat) : find (freshE E head long) v = find E v := by
  have hlen := h.len
  have hx := fun j => entAt_fresh E head long j (by omega)
  unfold find
  simp only
  by_cases hv : v % 512 = head
  · have e1 : entAt (freshE E head long) (v % 512) = (E.length, 0, long - 9) := by rw [hx, if_pos hv]
    rw [e1, hv, he]
    simp only
    rw [if_pos (by omega), if_neg (by omega), hx, if_neg (by omega), entAt_past E _ (by omega)]
  · have e1 : entAt (freshE E head long) (v % 512) = entAt E (v % 512) := by rw [hx, if_neg hv]
    rw [e1]
    by_cases hm : 0 < (entAt E (v % 512)).2.2
    · obtain ⟨_, _, q3, _⟩ := h.more (v % 512) (by omega) hm
      rw [if_pos hm, if_pos hm, hx, if_neg (by omega)]
    · rw [if_neg hm, if_neg hm]

theorem two_pow_dvd {n m : Nat} (h : n ≤ m) (x : Nat) : x % 2 ^ m % 2 ^ n = x % 2 ^ n := Nat.mod_mod_of_dvd x (Nat.pow_dvd_pow 2 h)

theorem step_mod (j b p : Nat) (hb : b < p) (hj : b ≤ j) : (j - b) % p = 0 ↔ j % p = b := by
  constructor
  · intro h
    have e : j = b + (j - b) := by omega
    rw [e, Nat.add_mod, h, Nat.add_zero, Nat.mod_mod, Nat.mod_eq_of_lt hb]
  · intro h
    have h1 := Nat.div_add_mod j p
    rw [h] at h1
    have e : j - b = p * (j / p) := by omega
    rw [e, Nat.mul_mod_right]

/-- a short code is laid -/
theorem lay_short (E : List Ent) (long s n bits : Nat) (h : WFT E long) (h15 : long ≤ 15) (hn1 : 1 ≤ n) (hn : n ≤ 9) (hb : bits < 2 ^ n) (hf : ∀ v, v < 32768 → v % 2 ^ n = bits → (find E v).2 = 0) :
    WFT (layE E long s n bits) long ∧ (layE E long s n bits).length = E.length ∧ ∀ v, v < 32768 → find (layE E long s n bits) v = if v % 2 ^ n = bits then (s, n) else find E v := by
  have hlen := h.len
  have e512 : (512 : Nat) = 2 ^ 9 := rfl
  have hE : layE E long s n bits = fillR E 0 bits (2 ^ n) 512 (s, n, 0) := by unfold layE; rw [if_pos hn]
  rw [hE]
  have hno : ∀ i, i < 512 → i % 2 ^ n = bits → (entAt E i).2.2 = 0 := by
    intro i hi hib
    by_cases hm : 0 < (entAt E i).2.2
    · exfalso
      obtain ⟨q1, q2, q3, q4, q5, u, hu, hul⟩ := h.more i hi hm
      have h64 : 2 ^ (long - 9) ≤ 64 := Nat.pow_le_pow_right (n := 2) (by decide) (show long - 9 ≤ 6 by omega)
      have hv : (i + 512 * u) % 512 = i := by omega
      have hd : (i + 512 * u) / 512 = u := by omega
      have hmod : (i + 512 * u) % 2 ^ n = bits := by
        rw [← two_pow_dvd (m := 9) hn, ← e512, hv, hib]
      have := hf (i + 512 * u) (by omega) hmod
      unfold find at this
      simp only at this
      rw [hv, hd, if_pos hm, q2, Nat.mod_eq_of_lt hu] at this
      omega
    · omega
  have hx : ∀ j, entAt (fillR E 0 bits (2 ^ n) 512 (s, n, 0)) j = if j < 512 ∧ j % 2 ^ n = bits then (s, n, 0) else entAt E j := by
    intro j
    by_cases hj : j < E.length
    · rw [entAt_fillR E _ _ _ _ _ j hj]
      simp only [Nat.zero_add, Nat.sub_zero]
      by_cases hc : j < 512 ∧ j % 2 ^ n = bits
      · have hbj : bits ≤ j := by rw [← hc.2]; exact Nat.mod_le _ _
        rw [if_pos hc, if_pos ⟨hbj, hc.1, (step_mod j bits _ hb hbj).2 hc.2⟩]
      · rw [if_neg hc, if_neg]
        rintro ⟨q1, q2, q3⟩
        exact hc ⟨q2, (step_mod j bits _ hb q1).1 q3⟩
    · rw [if_neg (by omega), entAt_past E j (by omega), entAt_past _ j (by rw [fillR_length]; omega)]
  have hmore : ∀ i, i < 512 → 0 < (entAt (fillR E 0 bits (2 ^ n) 512 (s, n, 0)) i).2.2 → entAt (fillR E 0 bits (2 ^ n) 512 (s, n, 0)) i = entAt E i := by
    intro i hi hm
    rw [hx] at hm ⊢
    by_cases hc : i < 512 ∧ i % 2 ^ n = bits
    · rw [if_pos hc] at hm; simp at hm
    · rw [if_neg hc]
  refine ⟨⟨by rw [fillR_length]; exact hlen, ?_, ?_, ?_, ?_⟩, fillR_length _ _ _ _ _ _, ?_⟩
  · intro j hj
    rw [hx, if_neg (by omega)]
    exact h.deep j hj
  · intro i hi hm
    have he := hmore i hi hm
    rw [he] at hm
    obtain ⟨q1, q2, q3, q4, q5, u, hu, hul⟩ := h.more i hi hm
    rw [he, fillR_length]
    refine ⟨q1, q2, q3, q4, q5, u, hu, ?_⟩
    rw [hx, if_neg (by omega)]
    exact hul
  · intro i k hi hk hne hm hm2
    have he := hmore i hi hm
    have he2 := hmore k hk hm2
    rw [he] at hm
    rw [he2] at hm2
    rw [he, he2]
    exact h.apart i k hi hk hne hm hm2
  · intro j h1 h2
    rw [hx] at h1 h2 ⊢
    by_cases hc : j < 512 ∧ j % 2 ^ n = bits
    · rw [if_pos hc] at h1; simp at h1; omega
    · rw [if_neg hc] at h1 h2 ⊢
      exact h.empty j h1 h2
  · intro v hv
    have hvm : v % 512 % 2 ^ n = v % 2 ^ n := by rw [e512]; exact two_pow_dvd hn v
    unfold find
    simp only
    by_cases hc : v % 2 ^ n = bits
    · have e : entAt (fillR E 0 bits (2 ^ n) 512 (s, n, 0)) (v % 512) = (s, n, 0) := by rw [hx, if_pos ⟨by omega, by rw [hvm]; exact hc⟩]
      rw [if_pos hc, e]
      simp
    · have e : entAt (fillR E 0 bits (2 ^ n) 512 (s, n, 0)) (v % 512) = entAt E (v % 512) := by rw [hx, if_neg (fun h => hc (by rw [← hvm]; exact h.2))]
      rw [if_neg hc, e]
      by_cases hm : 0 < (entAt E (v % 512)).2.2
      · obtain ⟨_, _, q3, _⟩ := h.more (v % 512) (by omega) hm
        rw [if_pos hm, if_pos hm, hx, if_neg (by omega)]
      · rw [if_neg hm, if_neg hm]

/-- a long code is laid into a further lookup that is there -/
theorem lay_deep (E : List Ent) (long s n bits : Nat) (hlen : 512 ≤ E.length) (deep : ∀ j, 512 ≤ j → (entAt E j).2.2 = 0)
    (more : ∀ i, i < 512 → i ≠ bits % 512 → 0 < (entAt E i).2.2 → 9 < long ∧ (entAt E i).2.2 = long - 9 ∧ 512 ≤ (entAt E i).1 ∧ (entAt E i).1 + 2 ^ (long - 9) ≤ E.length ∧ (entAt E i).2.1 = 0 ∧ ∃ u, u < 2 ^ (long - 9) ∧ 0 < (entAt E ((entAt E i).1 + u)).2.1)
    (hm : (entAt E (bits % 512)).2.2 = long - 9) (hb512 : 512 ≤ (entAt E (bits % 512)).1) (hbl : (entAt E (bits % 512)).1 + 2 ^ (long - 9) ≤ E.length) (hz : (entAt E (bits % 512)).2.1 = 0)
    (apart : ∀ i k, i < 512 → k < 512 → i ≠ k → 0 < (entAt E i).2.2 → 0 < (entAt E k).2.2 → (entAt E i).1 + 2 ^ (long - 9) ≤ (entAt E k).1 ∨ (entAt E k).1 + 2 ^ (long - 9) ≤ (entAt E i).1)
    (empty : ∀ j, (entAt E j).2.1 = 0 → (entAt E j).2.2 = 0 → (entAt E j).1 = 0)
    (h15 : long ≤ 15) (hn : 9 < n) (hnl : n ≤ long) (hb : bits < 2 ^ n) :
    let N := fillR E (entAt E (bits % 512)).1 (bits / 512) (2 ^ (n - 9)) (2 ^ (long - 9)) (s, n, 0)
    WFT N long ∧ ∀ v, v < 32768 → find N v = if v % 2 ^ n = bits then (s, n) else find E v := by
  intro N
  obtain ⟨base, hbase⟩ : ∃ base, (entAt E (bits % 512)).1 = base := ⟨_, rfl⟩
  have hp : 2 ^ n = 512 * 2 ^ (n - 9) := by rw [show (512 : Nat) = 2 ^ 9 from rfl, ← Nat.pow_add, show 9 + (n - 9) = n by omega]
  have hbd : bits / 512 < 2 ^ (n - 9) := by rw [Nat.div_lt_iff_lt_mul (by decide)]; rw [hp] at hb; omega
  have hle : 2 ^ (n - 9) ≤ 2 ^ (long - 9) := Nat.pow_le_pow_right (by decide) (by omega)
  have hN : N = fillR E base (bits / 512) (2 ^ (n - 9)) (2 ^ (long - 9)) (s, n, 0) := by show fillR E _ _ _ _ _ = _; rw [hbase]
  clear_value N
  subst hN
  rw [hbase] at hb512 hbl
  have hx : ∀ j, entAt (fillR E base (bits / 512) (2 ^ (n - 9)) (2 ^ (long - 9)) (s, n, 0)) j = if base ≤ j ∧ j < base + 2 ^ (long - 9) ∧ (j - base) % 2 ^ (n - 9) = bits / 512 then (s, n, 0) else entAt E j := by
    intro j
    by_cases hj : j < E.length
    · rw [entAt_fillR E _ _ _ _ _ j hj]
      by_cases hc : base ≤ j ∧ j < base + 2 ^ (long - 9) ∧ (j - base) % 2 ^ (n - 9) = bits / 512
      · have hbj : bits / 512 ≤ j - base := by rw [← hc.2.2]; exact Nat.mod_le _ _
        rw [if_pos hc, if_pos ⟨by omega, hc.2.1, (step_mod (j - base) (bits / 512) _ hbd hbj).2 hc.2.2⟩]
      · rw [if_neg hc, if_neg]
        rintro ⟨q1, q2, q3⟩
        exact hc ⟨by omega, q2, (step_mod (j - base) (bits / 512) _ hbd (by omega)).1 q3⟩
    · rw [if_neg (by omega), entAt_past E j (by omega), entAt_past _ j (by rw [fillR_length]; omega)]
  have hlow : ∀ j, j < 512 → entAt (fillR E base (bits / 512) (2 ^ (n - 9)) (2 ^ (long - 9)) (s, n, 0)) j = entAt E j := fun j hj => by rw [hx, if_neg (by omega)]
  have hfar : ∀ i, i < 512 → i ≠ bits % 512 → 0 < (entAt E i).2.2 → ∀ u, u < 2 ^ (long - 9) → entAt (fillR E base (bits / 512) (2 ^ (n - 9)) (2 ^ (long - 9)) (s, n, 0)) ((entAt E i).1 + u) = entAt E ((entAt E i).1 + u) := by
    intro i hi hne hmi u hu
    have ha := apart i (bits % 512) hi (by omega) hne hmi (by rw [hm]; omega)
    rw [hbase] at ha
    rw [hx, if_neg (by omega)]
  refine ⟨⟨by rw [fillR_length]; exact hlen, ?_, ?_, ?_, ?_⟩, ?_⟩
  · intro j hj
    rw [hx]
    split
    · rfl
    · exact deep j hj
  · intro i hi hmi
    rw [hlow i hi] at hmi ⊢
    rw [fillR_length]
    by_cases hne : i = bits % 512
    · subst hne
      rw [hbase]
      refine ⟨by omega, hm, hb512, hbl, hz, bits / 512, by omega, ?_⟩
      rw [hx, if_pos ⟨by omega, by omega, by rw [Nat.add_sub_cancel_left, Nat.mod_eq_of_lt hbd]⟩]
      show 0 < n
      omega
    · obtain ⟨q1, q2, q3, q4, q5, u, hu, hul⟩ := more i hi hne hmi
      refine ⟨q1, q2, q3, q4, q5, u, hu, ?_⟩
      rw [hfar i hi hne hmi u hu]
      exact hul
  · intro i k hi hk hne hmi hmk
    rw [hlow i hi] at hmi ⊢
    rw [hlow k hk] at hmk ⊢
    exact apart i k hi hk hne hmi hmk
  · intro j h1 h2
    rw [hx] at h1 h2 ⊢
    by_cases hc : base ≤ j ∧ j < base + 2 ^ (long - 9) ∧ (j - base) % 2 ^ (n - 9) = bits / 512
    · rw [if_pos hc] at h1; simp at h1; omega
    · rw [if_neg hc] at h1 h2 ⊢
      exact empty j h1 h2
  · intro v hv
    have hvm : v % 2 ^ n = v % 512 + 512 * (v / 512 % 2 ^ (n - 9)) := by rw [hp]; exact Nat.mod_mul
    have hbm := Nat.div_add_mod bits 512
    unfold find
    simp only
    rw [hlow (v % 512) (by omega)]
    by_cases hh : v % 512 = bits % 512
    · rw [hh, hm, hbase, if_pos (show 0 < long - 9 by omega), if_pos (show 0 < long - 9 by omega)]
      have hlt : v / 512 % 2 ^ (long - 9) < 2 ^ (long - 9) := Nat.mod_lt _ (Nat.pow_pos (by decide))
      have hmm : v / 512 % 2 ^ (long - 9) % 2 ^ (n - 9) = v / 512 % 2 ^ (n - 9) := two_pow_dvd (by omega) _
      rw [hx]
      by_cases hc : v % 2 ^ n = bits
      · rw [if_pos hc, if_pos ⟨by omega, by omega, by rw [Nat.add_sub_cancel_left, hmm]; omega⟩]
      · rw [if_neg hc, if_neg]
        rintro ⟨q1, q2, q3⟩
        rw [Nat.add_sub_cancel_left, hmm] at q3
        exact hc (by omega)
    · have hc : ¬ v % 2 ^ n = bits := by
        intro h
        apply hh
        omega
      rw [if_neg hc]
      by_cases hmv : 0 < (entAt E (v % 512)).2.2
      · rw [if_pos hmv, if_pos hmv]
        obtain ⟨q1, q2, _⟩ := more (v % 512) (by omega) hh hmv
        rw [hfar (v % 512) (by omega) hh hmv _ (by rw [q2]; exact Nat.mod_lt _ (Nat.pow_pos (by decide)))]
      · rw [if_neg hmv, if_neg hmv]

/-- a long code is laid -/
theorem lay_long (E : List Ent) (long s n bits : Nat) (h : WFT E long) (h15 : long ≤ 15) (hn : 9 < n) (hnl : n ≤ long) (hb : bits < 2 ^ n) (hf : ∀ v, v < 32768 → v % 2 ^ n = bits → (find E v).2 = 0) :
    WFT (layE E long s n bits) long ∧ ∀ v, v < 32768 → find (layE E long s n bits) v = if v % 2 ^ n = bits then (s, n) else find E v := by
  have hlen := h.len
  have hn15 : 2 ^ n ≤ 32768 := Nat.pow_le_pow_right (n := 2) (by decide) (show n ≤ 15 by omega)
  unfold layE
  rw [if_neg (by omega)]
  by_cases hm : (entAt E (bits % 512)).2.2 = 0
  · simp only [if_pos hm]
    have he : entAt E (bits % 512) = (0, 0, 0) := by
      have h1 := hf bits (by omega) (Nat.mod_eq_of_lt hb)
      unfold find at h1
      simp only at h1
      rw [if_neg (by omega)] at h1
      have h3 := h.empty (bits % 512) h1 hm
      exact Prod.ext h3 (Prod.ext h1 hm)
    have hx := fun j => entAt_fresh E (bits % 512) long j (by omega)
    have hpp : 0 < 2 ^ (long - 9) := Nat.pow_pos (by decide)
    have hfl : (freshE E (bits % 512) long).length = E.length + 2 ^ (long - 9) := by unfold freshE; simp
    have hself : entAt (freshE E (bits % 512) long) (bits % 512) = (E.length, 0, long - 9) := by rw [hx, if_pos rfl]
    have hres := lay_deep (freshE E (bits % 512) long) long s n bits (by rw [hfl]; exact Nat.le_trans hlen (Nat.le_add_right _ _))
      (fun j hj => by rw [hx, if_neg (by omega)]; exact h.deep j hj)
      (fun i hi hne hmi => by
        rw [hx, if_neg hne] at hmi ⊢
        obtain ⟨q1, q2, q3, q4, q5, u, hu, hul⟩ := h.more i hi hmi
        refine ⟨q1, q2, q3, by rw [hfl]; omega, q5, u, hu, ?_⟩
        rw [hx, if_neg (by omega)]
        exact hul)
      (by rw [hself]) (by rw [hself]; exact hlen) (by rw [hself, hfl]; exact Nat.le_refl _) (by rw [hself])
      (fun i k hi hk hne hmi hmk => by
        rw [hx] at hmi hmk ⊢
        rw [hx k]
        by_cases e1 : i = bits % 512
        · have e2 : k ≠ bits % 512 := fun e => hne (by rw [e1, e])
          rw [if_neg e2] at hmk
          obtain ⟨_, _, _, q4, _⟩ := h.more k hk hmk
          rw [if_pos e1, if_neg e2]
          exact .inr q4
        · rw [if_neg e1] at hmi
          obtain ⟨_, _, _, q4, _⟩ := h.more i hi hmi
          by_cases e2 : k = bits % 512
          · rw [if_neg e1, if_pos e2]
            exact .inl q4
          · rw [if_neg e2] at hmk
            rw [if_neg e1, if_neg e2]
            exact h.apart i k hi hk hne hmi hmk)
      (fun j h1 h2 => by
        rw [hx] at h1 h2 ⊢
        by_cases e : j = bits % 512
        · rw [if_pos e] at h2
          simp only at h2
          omega
        · rw [if_neg e] at h1 h2 ⊢
          exact h.empty j h1 h2)
      h15 hn hnl hb
    rw [hself] at hres ⊢
    refine ⟨hres.1, fun v hv => ?_⟩
    rw [hres.2 v hv, fresh_ok E (bits % 512) long h (by omega) (by omega) he]
  · simp only [if_neg hm]
    obtain ⟨q1, q2, q3, q4, q5, _⟩ := h.more (bits % 512) (by omega) (by omega)
    have hres := lay_deep E long s n bits hlen h.deep (fun i hi _ => h.more i hi) q2 q3 q4 q5 h.apart h.empty h15 hn hnl hb
    rw [q2]
    exact hres

end Go.Proofs.Ytgjcnembeebjfaa

namespace Go.Proofs.Ytgjcnembeebjfaa

/-- a number out of bits, the lowest first -/
def num : List Bool → Nat
  | [] => 0
  | c :: l => c.toNat + 2 * num l

theorem num_append (a b : List Bool) : num (a ++ b) = num a + num b * 2 ^ a.length := by
  induction a with
  | nil => simp [num]
  | cons c a ih => simp only [List.cons_append, num, ih, List.length_cons, Nat.pow_succ, Nat.mul_add]; rw [show num b * (2 ^ a.length * 2) = 2 * (num b * 2 ^ a.length) by rw [← Nat.mul_assoc, Nat.mul_comm]]; omega

theorem num_lt (a : List Bool) : num a < 2 ^ a.length := by
  induction a with
  | nil => simp [num]
  | cons c a ih => have := toNat_le1 c; simp only [num, List.length_cons, Nat.pow_succ]; omega

theorem num_take (a : List Bool) (n : Nat) : num (a.take n) = num a % 2 ^ n := by
  induction a generalizing n with
  | nil => simp [num]
  | cons c a ih =>
    cases n with
    | zero => simp [num, Nat.mod_one]
    | succ n =>
      have := toNat_le1 c
      simp only [List.take_succ_cons, num, ih, Nat.pow_succ]
      rw [Nat.mul_comm (2 ^ n) 2, Nat.mod_mul]
      have h1 : (c.toNat + 2 * num a) % 2 = c.toNat := by omega
      have h2 : (c.toNat + 2 * num a) / 2 = num a := by omega
      rw [h1, h2]

theorem num_drop (a : List Bool) (n : Nat) : num (a.drop n) = num a / 2 ^ n := by
  induction a generalizing n with
  | nil => simp [num]
  | cons c a ih =>
    cases n with
    | zero => simp
    | succ n =>
      have := toNat_le1 c
      simp only [List.drop_succ_cons, num, ih, Nat.pow_succ]
      rw [Nat.mul_comm (2 ^ n) 2, ← Nat.div_div_eq_div_mul]
      congr 1
      omega

theorem num_inj {a b : List Bool} (hl : a.length = b.length) (h : num a = num b) : a = b := by
  induction a generalizing b with
  | nil => cases b with
    | nil => rfl
    | cons _ _ => simp at hl
  | cons c a ih =>
    cases b with
    | nil => simp at hl
    | cons d b =>
      simp only [num] at h
      have hc := toNat_le1 c
      have hd := toNat_le1 d
      have e : c.toNat = d.toNat := by omega
      have e' : c = d := by cases c <;> cases d <;> simp_all
      rw [e', ih (by simpa using hl) (by omega)]

/-- the 8 bits of a byte -/
def bits8 (n : Nat) : List Bool := [decide (n % 2 = 1), decide (n / 2 % 2 = 1), decide (n / 4 % 2 = 1), decide (n / 8 % 2 = 1), decide (n / 16 % 2 = 1), decide (n / 32 % 2 = 1), decide (n / 64 % 2 = 1), decide (n / 128 % 2 = 1)]

theorem dec_toNat (n : Nat) : (decide (n % 2 = 1)).toNat = n % 2 := by
  rcases Nat.mod_two_eq_zero_or_one n with h | h <;> simp [h]

theorem num_bits8 (n : Nat) (h : n < 256) : num (bits8 n) = n := by
  simp only [bits8, num, dec_toNat]
  omega

/-- the bits of bytes -/
def bytesBits : List Nat → List Bool
  | [] => []
  | n :: r => bits8 n ++ bytesBits r

theorem bytesBits_length (l : List Nat) : (bytesBits l).length = 8 * l.length := by
  induction l with
  | nil => rfl
  | cons n r ih => simp only [bytesBits, List.length_append, ih, List.length_cons]; simp [bits8]; omega

theorem bytesBits_append (a b : List Nat) : bytesBits (a ++ b) = bytesBits a ++ bytesBits b := by
  induction a with
  | nil => rfl
  | cons n r ih => simp [bytesBits, ih]

theorem bytesBits_drop (l : List Nat) (k : Nat) : (bytesBits l).drop (8 * k) = bytesBits (l.drop k) := by
  induction l generalizing k with
  | nil => simp [bytesBits]
  | cons n r ih =>
    cases k with
    | zero => simp
    | succ k =>
      simp only [bytesBits, List.drop_succ_cons]
      rw [List.drop_append, show (bits8 n).length = 8 by rfl, show 8 * (k + 1) - 8 = 8 * k by omega, ih]
      rw [List.drop_eq_nil_of_le (by show 8 ≤ 8 * (k + 1); omega)]; rfl

theorem bytesBits_take (l : List Nat) (k : Nat) : (bytesBits l).take (8 * k) = bytesBits (l.take k) := by
  induction l generalizing k with
  | nil => simp [bytesBits]
  | cons n r ih =>
    cases k with
    | zero => simp [bytesBits]
    | succ k =>
      simp only [bytesBits, List.take_succ_cons]
      rw [List.take_append, show (bits8 n).length = 8 by rfl, show 8 * (k + 1) - 8 = 8 * k by omega, ih]
      rw [List.take_of_length_le (by show 8 ≤ 8 * (k + 1); omega)]

/-- filled up to whole bytes -/
def pad8 (l : List Bool) : List Bool := l ++ List.replicate (8 * ((l.length + 7) / 8) - l.length) false

theorem pad8_length (l : List Bool) : (pad8 l).length = 8 * ((l.length + 7) / 8) := by simp [pad8]; omega

theorem pad8_getD (l : List Bool) (k : Nat) : (pad8 l).getD k false = l.getD k false := by
  unfold pad8
  by_cases h : k < l.length
  · simp [List.getD, List.getElem?_append_left h]
  · rw [getD_past l k (by omega)]
    simp only [List.getD]
    rw [List.getElem?_append_right (by omega), List.getElem?_replicate]
    split <;> rfl

theorem pad8_of (l : List Bool) (h : l.length % 8 = 0) : pad8 l = l := by
  unfold pad8
  rw [show 8 * ((l.length + 7) / 8) - l.length = 0 by omega]; simp

theorem byteAt_eq (l : List Bool) (i : Nat) : byteAt l i = num [l.getD (8 * i) false, l.getD (8 * i + 1) false, l.getD (8 * i + 2) false, l.getD (8 * i + 3) false, l.getD (8 * i + 4) false, l.getD (8 * i + 5) false, l.getD (8 * i + 6) false, l.getD (8 * i + 7) false] := by
  simp only [byteAt, num]; omega

theorem byteAt_congr (a b : List Bool) (i j : Nat) (h : ∀ k, k < 8 → a.getD (8 * i + k) false = b.getD (8 * j + k) false) : byteAt a i = byteAt b j := by
  unfold byteAt
  have h0 := h 0 (by decide)
  simp only [Nat.add_zero] at h0
  rw [h0, h 1 (by decide), h 2 (by decide), h 3 (by decide), h 4 (by decide), h 5 (by decide), h 6 (by decide), h 7 (by decide)]

theorem pack_pad8 (l : List Bool) : pack (pad8 l) = pack l := by
  unfold pack
  rw [pad8_length, show (8 * ((l.length + 7) / 8) + 7) / 8 = (l.length + 7) / 8 by omega]
  apply List.map_congr_left
  intro i _
  exact byteAt_congr _ _ _ _ fun k _ => pad8_getD _ _

theorem bits8_byteAt (l : List Bool) (i : Nat) : bits8 (byteAt l i) = [l.getD (8 * i) false, l.getD (8 * i + 1) false, l.getD (8 * i + 2) false, l.getD (8 * i + 3) false, l.getD (8 * i + 4) false, l.getD (8 * i + 5) false, l.getD (8 * i + 6) false, l.getD (8 * i + 7) false] := by
  refine num_inj (by rfl) ?_
  rw [num_bits8 _ (byteAt_lt l i), byteAt_eq]

theorem pack_cons8 (a b c d e f g h : Bool) (l : List Bool) : pack (a :: b :: c :: d :: e :: f :: g :: h :: l) = num [a, b, c, d, e, f, g, h] :: pack l := by
  unfold pack
  rw [show ((a :: b :: c :: d :: e :: f :: g :: h :: l).length + 7) / 8 = (l.length + 7) / 8 + 1 by simp only [List.length_cons]; omega, List.range_succ_eq_map, List.map_cons, byteAt_eq]
  simp only [List.map_map]
  rfl

theorem pack_bits8 (n : Nat) (h : n < 256) (l : List Bool) : pack (bits8 n ++ l) = n :: pack l := by
  have := num_bits8 n h
  unfold bits8 at this ⊢
  simp only [List.cons_append, List.nil_append]
  rw [pack_cons8, this]

theorem pack_bytesBits (l : List Nat) (h : ∀ x ∈ l, x < 256) (r : List Bool) : pack (bytesBits l ++ r) = l ++ pack r := by
  induction l with
  | nil => rfl
  | cons n t ih =>
    simp only [bytesBits, List.append_assoc]
    rw [pack_bits8 n (h n (by simp)), ih fun x hx => h x (by simp [hx])]; rfl

theorem bytesBits_pack (l : List Bool) : bytesBits (pack l) = pad8 l := by
  have key : ∀ n (l : List Bool), l.length = 8 * n → bytesBits (pack l) = l := by
    intro n
    induction n with
    | zero => intro l h; have : l = [] := List.eq_nil_of_length_eq_zero (by omega); subst this; rfl
    | succ n ih =>
      intro l h
      match l, h with
      | a :: b :: c :: d :: e :: f :: g :: i :: l, h =>
        rw [pack_cons8]
        simp only [bytesBits]
        rw [ih l (by simp only [List.length_cons] at h; omega)]
        have : bits8 (num [a, b, c, d, e, f, g, i]) = [a, b, c, d, e, f, g, i] := by
          refine num_inj (by rfl) ?_
          rw [num_bits8 _ (by have := num_lt [a, b, c, d, e, f, g, i]; simpa using this)]
        rw [this]; rfl
      | [], h => simp at h
      | [_], h => simp only [List.length_cons, List.length_nil] at h; omega
      | [_, _], h => simp only [List.length_cons, List.length_nil] at h; omega
      | [_, _, _], h => simp only [List.length_cons, List.length_nil] at h; omega
      | [_, _, _, _], h => simp only [List.length_cons, List.length_nil] at h; omega
      | [_, _, _, _, _], h => simp only [List.length_cons, List.length_nil] at h; omega
      | [_, _, _, _, _, _], h => simp only [List.length_cons, List.length_nil] at h; omega
      | [_, _, _, _, _, _, _], h => simp only [List.length_cons, List.length_nil] at h; omega
  rw [← pack_pad8, key _ (pad8 l) (pad8_length l)]

theorem pack_lt (l : List Bool) : ∀ x ∈ pack l, x < 256 := by
  intro x hx
  unfold pack at hx
  obtain ⟨i, _, rfl⟩ := List.mem_map.1 hx
  exact byteAt_lt _ _

theorem pack_append (a b : List Bool) (h : a.length % 8 = 0) : pack (a ++ b) = pack a ++ pack b := by
  have e : a = bytesBits (pack a) := by rw [bytesBits_pack, pad8_of a h]
  conv => lhs; rw [e]
  rw [pack_bytesBits _ (pack_lt a)]

/-! strings -/
def strBits (s : ByteArray) : List Bool := bytesBits (bytesOf s)
theorem strBits_length (s : ByteArray) : (strBits s).length = 8 * s.size := by rw [strBits, bytesBits_length, bytesOf_length]
theorem strBits_pack (l : List Bool) : strBits (strOf (pack l)) = pad8 l := by
  rw [strBits, bytesOf_strOf _ (pack_lt l), bytesBits_pack]

theorem strBits_drop8 (s : ByteArray) (k : Nat) : (strBits s).drop (8 * k) = bytesBits ((bytesOf s).drop k) := bytesBits_drop _ _

end Go.Proofs.Ytgjcnembeebjfaa

namespace Go.Proofs.Ytgjcnembeebjfaa
open Go.RowKit

/-- the least length of a symbol, and how many bits more tell it -/
def lenR (s : Nat) : Nat × Nat := if s < 265 then (s - 254, 0) else if s = 285 then (258, 0) else (3 + (4 + (s - 261) % 4) * 2 ^ ((s - 261) / 4), (s - 261) / 4)
/-- the least distance of a symbol, and how many bits more tell it -/
def distR (s : Nat) : Nat × Nat := if s < 4 then (s + 1, 0) else (1 + (2 + s % 2) * 2 ^ (s / 2 - 1), s / 2 - 1)

theorem lenR_small : ∀ s, s < 286 → 257 ≤ s → (lenR s).1 ≤ 258 ∧ (lenR s).2 ≤ 5 := by decide +kernel
theorem distR_small : ∀ s, s < 31 → (distR s).1 ≤ 32769 ∧ (distR s).2 ≤ 14 := by decide +kernel
theorem lenR_succ : ∀ s, s < 284 → 257 ≤ s → (lenR (s + 1)).1 = (lenR s).1 + 2 ^ (lenR s).2 := by decide +kernel
theorem distR_succ : ∀ s, s < 30 → (distR (s + 1)).1 = (distR s).1 + 2 ^ (distR s).2 := by decide +kernel

def lenLo (s : Nat) : Nat := if s = 286 then 259 else (lenR s).1
theorem lenLo_succ : ∀ s, s < 286 → 257 ≤ s → lenLo (s + 1) + (if s = 284 then 1 else 0) = (lenR s).1 + 2 ^ (lenR s).2 := by decide +kernel
theorem lenLo_mono : ∀ s, s < 286 → 257 ≤ s → lenLo s ≤ lenLo (s + 1) := by decide +kernel

/-- how many numbers below k -/
def cnt (f : Nat → Bool) : Nat → Nat
  | 0 => 0
  | k + 1 => cnt f k + if f k then 1 else 0

theorem cnt_le (f : Nat → Bool) (k : Nat) : cnt f k ≤ k := by
  induction k with
  | zero => simp [cnt]
  | succ k ih => simp only [cnt]; split <;> omega

theorem cnt_none (f : Nat → Bool) (a : Nat) (h : ∀ s, s < a → f s = false) : cnt f a = 0 := by
  induction a with
  | zero => rfl
  | succ a ih => simp [cnt, ih (fun s hs => h s (by omega)), h a (by omega)]

theorem cnt_tele (f : Nat → Bool) (lo : Nat → Nat) (x a : Nat) (h0 : ∀ s, s < a → f s = false) (k : Nat) (hm : ∀ s, a ≤ s → s < a + k → lo s ≤ lo (s + 1)) (hf : ∀ s, a ≤ s → s < a + k → f s = decide (lo s ≤ x ∧ x < lo (s + 1))) :
    cnt f (a + k) = (if lo a ≤ x ∧ x < lo (a + k) then 1 else 0) ∧ lo a ≤ lo (a + k) := by
  induction k with
  | zero => simp [cnt_none f a h0]
  | succ k ih =>
    obtain ⟨e, m⟩ := ih (fun s h1 h2 => hm s h1 (by omega)) (fun s h1 h2 => hf s h1 (by omega))
    have h1 := hm (a + k) (by omega) (by omega)
    rw [← Nat.add_assoc, cnt, e, hf (a + k) (by omega) (by omega)]
    refine ⟨?_, by omega⟩
    by_cases c1 : lo a ≤ x <;> by_cases c2 : x < lo (a + k) <;> by_cases c3 : x < lo (a + k + 1) <;> by_cases c4 : lo (a + k) ≤ x <;> simp [c1, c2, c3, c4] <;> omega

theorem cnt_after (f : Nat → Bool) (b j : Nat) (h : ∀ s, b ≤ s → f s = false) : cnt f (b + j) = cnt f b := by
  induction j with
  | zero => rfl
  | succ j ih => rw [← Nat.add_assoc, cnt, ih, h (b + j) (by omega)]; simp

/-- does a symbol tell a length? -/
def inLen (x s : Nat) : Bool := decide (257 ≤ s ∧ s ≤ 285) && (decide ((lenR s).1 ≤ x) && (decide (x < (lenR s).1 + 2 ^ (lenR s).2) && (decide (s ≠ 284) || decide (x ≠ 258))))
def inDist (x s : Nat) : Bool := decide (s ≤ 29) && (decide ((distR s).1 ≤ x) && decide (x < (distR s).1 + 2 ^ (distR s).2))

theorem one_length (x : Nat) (h3 : 3 ≤ x) (h : x ≤ 258) : cnt (inLen x) 300 = 1 := by
  rw [show 300 = 286 + 14 from rfl, cnt_after (inLen x) 286 14 (fun s hs => by unfold inLen; rw [decide_eq_false (by omega)]; rfl)]
  have := (cnt_tele (inLen x) lenLo x 257 (fun s hs => by unfold inLen; rw [decide_eq_false (by omega)]; rfl) 29 (fun s h1 h2 => lenLo_mono s h2 h1) (fun s h1 h2 => by
    have e1 := lenLo_succ s h2 h1
    have e2 : lenLo s = (lenR s).1 := by unfold lenLo; rw [if_neg (by omega)]
    unfold inLen
    rw [e2, decide_eq_true (by omega : 257 ≤ s ∧ s ≤ 285), Bool.true_and]
    generalize (lenR s).1 + 2 ^ (lenR s).2 = B at *
    generalize (lenR s).1 = A at *
    by_cases h4 : s = 284
    · subst h4
      have e3 : lenLo (284 + 1) = 258 := by decide +kernel
      rw [e3] at e1 ⊢
      have e4 : B = 259 := by simpa using e1.symm
      subst e4
      by_cases c1 : A ≤ x
      · by_cases c2 : x < 258
        · simp [c1, c2, show x < 259 by omega, show ¬ x = 258 by omega]
        · by_cases c3 : x = 258
          · simp [c3]
          · simp [c2, show ¬ x < 259 by omega]
      · simp [c1]
    · rw [if_neg h4] at e1
      simp only [Nat.add_zero] at e1
      rw [e1]
      simp [h4])).1
  rw [this]
  exact if_pos ⟨h3, by show x < 259; omega⟩

theorem one_distance (x : Nat) (h1 : 1 ≤ x) (h : x ≤ 32768) : cnt (inDist x) 300 = 1 := by
  rw [show 300 = 30 + 270 from rfl, cnt_after (inDist x) 30 270 (fun s hs => by unfold inDist; rw [decide_eq_false (by omega)]; rfl)]
  have := (cnt_tele (inDist x) (fun s => (distR s).1) x 0 (fun s hs => by omega) 30 (fun s _ h2 => by have := distR_succ s (by omega); simp only [this]; exact Nat.le_add_right _ _) (fun s _ h2 => by
    have e1 := distR_succ s (by omega)
    unfold inDist
    simp only [e1]
    rw [decide_eq_true (by omega : s ≤ 29)]
    simp)).1
  simp only [Nat.zero_add] at this
  rw [this]
  exact if_pos ⟨h1, by show x < 32769; omega⟩

end Go.Proofs.Ytgjcnembeebjfaa
