/- Plain laws: the lookups of a table of codes. No program. -/
import Derived.Test.YtcdoamaljgjojaaHufP
namespace Go.Proofs.Ytcdoamaljgjojaa

/-- an entry: its symbol (or where a further lookup begins), its length, how many bits the further lookup has -/
abbrev Ent := Nat × Nat × Nat
def entAt (E : List Ent) (i : Nat) : Ent := E.getD i (0, 0, 0)

/-- each step-th entry of a stretch is laid -/
def fillR (E : List Ent) (base from_ step lim : Nat) (e : Ent) : List Ent :=
  E.mapIdx fun j x => if base + from_ ≤ j ∧ j < base + lim ∧ (j - base - from_) % step = 0 then e else x

theorem fillR_length (E : List Ent) (base from_ step lim : Nat) (e : Ent) : (fillR E base from_ step lim e).length = E.length := by simp [fillR]

theorem entAt_fillR (E : List Ent) (base from_ step lim : Nat) (e : Ent) (j : Nat) (hj : j < E.length) :
    entAt (fillR E base from_ step lim e) j = if base + from_ ≤ j ∧ j < base + lim ∧ (j - base - from_) % step = 0 then e else entAt E j := by
  simp [entAt, fillR, List.getD, hj]

theorem fillR_none (E : List Ent) (base from_ step lim : Nat) (e : Ent) (h : lim ≤ from_) : fillR E base from_ step lim e = E := by
  unfold fillR
  apply List.ext_getElem
  · simp
  · intro i h1 h2
    simp only [List.getElem_mapIdx]
    rw [if_neg (by omega)]

/-- one more -/
theorem fillR_step (E : List Ent) (base from_ step i : Nat) (e : Ent) (hs : 0 < step) (hi : from_ ≤ i) (hm : (i - from_) % step = 0) :
    (fillR E base from_ step i e).set (base + i) e = fillR E base from_ step (i + step) e := by
  unfold fillR
  apply List.ext_getElem
  · simp
  · intro j h1 h2
    rw [List.getElem_set]
    simp only [List.getElem_mapIdx]
    by_cases hj : base + i = j
    · rw [if_pos hj, if_pos ⟨by omega, by omega, by rw [show j - base - from_ = i - from_ by omega]; exact hm⟩]
    · rw [if_neg hj]
      by_cases hc : base + from_ ≤ j ∧ j < base + i ∧ (j - base - from_) % step = 0
      · rw [if_pos hc, if_pos ⟨hc.1, by omega, hc.2.2⟩]
      · rw [if_neg hc]
        rw [if_neg]
        rintro ⟨q1, q2, q3⟩
        by_cases hlt : j < base + i
        · exact hc ⟨q1, hlt, q3⟩
        · have h3 : (j - base - from_) = (i - from_) + (j - base - i) := by omega
          rw [h3, Nat.add_mod, hm, Nat.zero_add, Nat.mod_mod, Nat.mod_eq_of_lt (by omega)] at q3
          omega

/-- the same to the lookups' end, wherever the last step falls -/
theorem fillR_lim (E : List Ent) (base from_ step lim i : Nat) (e : Ent) (hi : from_ ≤ i) (hm : (i - from_) % step = 0) (hl : lim ≤ i) (h2 : i < lim + step) : fillR E base from_ step i e = fillR E base from_ step lim e := by
  unfold fillR
  apply List.ext_getElem
  · simp
  · intro j h1 h3
    simp only [List.getElem_mapIdx]
    by_cases hc : base + from_ ≤ j ∧ j < base + lim ∧ (j - base - from_) % step = 0
    · rw [if_pos hc, if_pos ⟨hc.1, by omega, hc.2.2⟩]
    · rw [if_neg hc, if_neg]
      rintro ⟨q1, q2, q3⟩
      by_cases hlt : j < base + lim
      · exact hc ⟨q1, hlt, q3⟩
      · have h4 : (i - from_) = (j - base - from_) + (i - (j - base)) := by omega
        rw [h4, Nat.add_mod, q3, Nat.zero_add, Nat.mod_mod, Nat.mod_eq_of_lt (by omega)] at hm
        omega

/-- what is found for fifteen bits -/
def find (E : List Ent) (v : Nat) : Nat × Nat :=
  let e := entAt E (v % 512)
  if 0 < e.2.2 then ((entAt E (e.1 + v / 512 % 2 ^ e.2.2)).1, (entAt E (e.1 + v / 512 % 2 ^ e.2.2)).2.1) else (e.1, e.2.1)

/-- lookups that hang together -/
structure WFT (E : List Ent) (long : Nat) : Prop where
  len : 512 ≤ E.length
  deep : ∀ j, 512 ≤ j → (entAt E j).2.2 = 0
  more : ∀ i, i < 512 → 0 < (entAt E i).2.2 → 9 < long ∧ (entAt E i).2.2 = long - 9 ∧ 512 ≤ (entAt E i).1 ∧ (entAt E i).1 + 2 ^ (long - 9) ≤ E.length ∧ (entAt E i).2.1 = 0 ∧ ∃ u, u < 2 ^ (long - 9) ∧ 0 < (entAt E ((entAt E i).1 + u)).2.1
  apart : ∀ i k, i < 512 → k < 512 → i ≠ k → 0 < (entAt E i).2.2 → 0 < (entAt E k).2.2 → (entAt E i).1 + 2 ^ (long - 9) ≤ (entAt E k).1 ∨ (entAt E k).1 + 2 ^ (long - 9) ≤ (entAt E i).1
  empty : ∀ j, (entAt E j).2.1 = 0 → (entAt E j).2.2 = 0 → (entAt E j).1 = 0

def freshE (E : List Ent) (head long : Nat) : List Ent := E.set head (E.length, 0, long - 9) ++ List.replicate (2 ^ (long - 9)) (0, 0, 0)

/-- a symbol is laid into the lookups -/
def layE (E : List Ent) (long s n bits : Nat) : List Ent :=
  if n ≤ 9 then fillR E 0 bits (2 ^ n) 512 (s, n, 0)
  else
    let E1 := if (entAt E (bits % 512)).2.2 = 0 then freshE E (bits % 512) long else E
    fillR E1 (entAt E1 (bits % 512)).1 (bits / 512) (2 ^ (n - 9)) (2 ^ (entAt E1 (bits % 512)).2.2) (s, n, 0)

theorem entAt_past (E : List Ent) (j : Nat) (h : E.length ≤ j) : entAt E j = (0, 0, 0) := by
  simp [entAt, List.getD, List.getElem?_eq_none h]

theorem entAt_fresh (E : List Ent) (head long j : Nat) (hh : head < E.length) : entAt (freshE E head long) j = if j = head then (E.length, 0, long - 9) else entAt E j := by
  unfold freshE
  by_cases hj : j < E.length
  · have : (E.set head (E.length, 0, long - 9) ++ List.replicate (2 ^ (long - 9)) (0, 0, 0))[j]? = (E.set head (E.length, 0, long - 9))[j]? := List.getElem?_append_left (by simpa using hj)
    unfold entAt
    rw [List.getD_eq_getElem?_getD, this, List.getElem?_set]
    by_cases e : head = j
    · subst e; simp [hh]
    · rw [if_neg e, if_neg (fun h => e h.symm), List.getD_eq_getElem?_getD]
  · rw [if_neg (by omega), entAt_past E j (by omega)]
    unfold entAt
    rw [List.getD_eq_getElem?_getD, List.getElem?_append_right (by simpa using Nat.not_lt.1 hj), List.getElem?_replicate]
    split <;> rfl

/-- an entry that is none is made the beginning of a further lookup: nothing else is found than before -/
theorem fresh_ok (E : List Ent) (head long : Nat) (h : WFT E long) (hl : 9 < long) (hh : head < 512) (he : entAt E head = (0, 0, 0)) (v : Nat) : find (freshE E head long) v = find E v := by
  have hlen := h.len
  have hx := fun j => entAt_fresh E head long j (by omega)
  unfold find
  simp only
  by_cases hv : v % 512 = head
  · have e1 : entAt (freshE E head long) (v % 512) = (E.length, 0, long - 9) := by rw [hx, if_pos hv]
    rw [e1, hv, he]
    simp only
    rw [if_pos (by omega), if_neg (by omega), hx, if_neg (by omega), entAt_past E _ (by omega)]
  · have e1 : entAt (freshE E head long) (v % 512) = entAt E (v % 512) := by rw [hx, if_neg hv]
    rw [e1]
    by_cases hm : 0 < (entAt E (v % 512)).2.2
    · obtain ⟨_, _, q3, _⟩ := h.more (v % 512) (by omega) hm
      rw [if_pos hm, if_pos hm, hx, if_neg (by omega)]
    · rw [if_neg hm, if_neg hm]

theorem two_pow_dvd {n m : Nat} (h : n ≤ m) (x : Nat) : x % 2 ^ m % 2 ^ n = x % 2 ^ n := Nat.mod_mod_of_dvd x (Nat.pow_dvd_pow 2 h)

theorem step_mod (j b p : Nat) (hb : b < p) (hj : b ≤ j) : (j - b) % p = 0 ↔ j % p = b := by
  constructor
  · intro h
    have e : j = b + (j - b) := by omega
    rw [e, Nat.add_mod, h, Nat.add_zero, Nat.mod_mod, Nat.mod_eq_of_lt hb]
  · intro h
    have h1 := Nat.div_add_mod j p
    rw [h] at h1
    have e : j - b = p * (j / p) := by omega
    rw [e, Nat.mul_mod_right]

/-- a short code is laid -/
theorem lay_short (E : List Ent) (long s n bits : Nat) (h : WFT E long) (h15 : long ≤ 15) (hn1 : 1 ≤ n) (hn : n ≤ 9) (hb : bits < 2 ^ n) (hf : ∀ v, v < 32768 → v % 2 ^ n = bits → (find E v).2 = 0) :
    WFT (layE E long s n bits) long ∧ (layE E long s n bits).length = E.length ∧ ∀ v, v < 32768 → find (layE E long s n bits) v = if v % 2 ^ n = bits then (s, n) else find E v := by
  have hlen := h.len
  have e512 : (512 : Nat) = 2 ^ 9 := rfl
  have hE : layE E long s n bits = fillR E 0 bits (2 ^ n) 512 (s, n, 0) := by unfold layE; rw [if_pos hn]
  rw [hE]
  have hno : ∀ i, i < 512 → i % 2 ^ n = bits → (entAt E i).2.2 = 0 := by
    intro i hi hib
    by_cases hm : 0 < (entAt E i).2.2
    · exfalso
      obtain ⟨q1, q2, q3, q4, q5, u, hu, hul⟩ := h.more i hi hm
      have h64 : 2 ^ (long - 9) ≤ 64 := Nat.pow_le_pow_right (n := 2) (by decide) (show long - 9 ≤ 6 by omega)
      have hv : (i + 512 * u) % 512 = i := by omega
      have hd : (i + 512 * u) / 512 = u := by omega
      have hmod : (i + 512 * u) % 2 ^ n = bits := by
        rw [← two_pow_dvd (m := 9) hn, ← e512, hv, hib]
      have := hf (i + 512 * u) (by omega) hmod
      unfold find at this
      simp only at this
      rw [hv, hd, if_pos hm, q2, Nat.mod_eq_of_lt hu] at this
      omega
    · omega
  have hx : ∀ j, entAt (fillR E 0 bits (2 ^ n) 512 (s, n, 0)) j = if j < 512 ∧ j % 2 ^ n = bits then (s, n, 0) else entAt E j := by
    intro j
    by_cases hj : j < E.length
    · rw [entAt_fillR E _ _ _ _ _ j hj]
      simp only [Nat.zero_add, Nat.sub_zero]
      by_cases hc : j < 512 ∧ j % 2 ^ n = bits
      · have hbj : bits ≤ j := by rw [← hc.2]; exact Nat.mod_le _ _
        rw [if_pos hc, if_pos ⟨hbj, hc.1, (step_mod j bits _ hb hbj).2 hc.2⟩]
      · rw [if_neg hc, if_neg]
        rintro ⟨q1, q2, q3⟩
        exact hc ⟨q2, (step_mod j bits _ hb q1).1 q3⟩
    · rw [if_neg (by omega), entAt_past E j (by omega), entAt_past _ j (by rw [fillR_length]; omega)]
  have hmore : ∀ i, i < 512 → 0 < (entAt (fillR E 0 bits (2 ^ n) 512 (s, n, 0)) i).2.2 → entAt (fillR E 0 bits (2 ^ n) 512 (s, n, 0)) i = entAt E i := by
    intro i hi hm
    rw [hx] at hm ⊢
    by_cases hc : i < 512 ∧ i % 2 ^ n = bits
    · rw [if_pos hc] at hm; simp at hm
    · rw [if_neg hc]
  refine ⟨⟨by rw [fillR_length]; exact hlen, ?_, ?_, ?_, ?_⟩, fillR_length _ _ _ _ _ _, ?_⟩
  · intro j hj
    rw [hx, if_neg (by omega)]
    exact h.deep j hj
  · intro i hi hm
    have he := hmore i hi hm
    rw [he] at hm
    obtain ⟨q1, q2, q3, q4, q5, u, hu, hul⟩ := h.more i hi hm
    rw [he, fillR_length]
    refine ⟨q1, q2, q3, q4, q5, u, hu, ?_⟩
    rw [hx, if_neg (by omega)]
    exact hul
  · intro i k hi hk hne hm hm2
    have he := hmore i hi hm
    have he2 := hmore k hk hm2
    rw [he] at hm
    rw [he2] at hm2
    rw [he, he2]
    exact h.apart i k hi hk hne hm hm2
  · intro j h1 h2
    rw [hx] at h1 h2 ⊢
    by_cases hc : j < 512 ∧ j % 2 ^ n = bits
    · rw [if_pos hc] at h1; simp at h1; omega
    · rw [if_neg hc] at h1 h2 ⊢
      exact h.empty j h1 h2
  · intro v hv
    have hvm : v % 512 % 2 ^ n = v % 2 ^ n := by rw [e512]; exact two_pow_dvd hn v
    unfold find
    simp only
    by_cases hc : v % 2 ^ n = bits
    · have e : entAt (fillR E 0 bits (2 ^ n) 512 (s, n, 0)) (v % 512) = (s, n, 0) := by rw [hx, if_pos ⟨by omega, by rw [hvm]; exact hc⟩]
      rw [if_pos hc, e]
      simp
    · have e : entAt (fillR E 0 bits (2 ^ n) 512 (s, n, 0)) (v % 512) = entAt E (v % 512) := by rw [hx, if_neg (fun h => hc (by rw [← hvm]; exact h.2))]
      rw [if_neg hc, e]
      by_cases hm : 0 < (entAt E (v % 512)).2.2
      · obtain ⟨_, _, q3, _⟩ := h.more (v % 512) (by omega) hm
        rw [if_pos hm, if_pos hm, hx, if_neg (by omega)]
      · rw [if_neg hm, if_neg hm]

/-- a long code is laid into a further lookup that is there -/
theorem lay_deep (E : List Ent) (long s n bits : Nat) (hlen : 512 ≤ E.length) (deep : ∀ j, 512 ≤ j → (entAt E j).2.2 = 0)
    (more : ∀ i, i < 512 → i ≠ bits % 512 → 0 < (entAt E i).2.2 → 9 < long ∧ (entAt E i).2.2 = long - 9 ∧ 512 ≤ (entAt E i).1 ∧ (entAt E i).1 + 2 ^ (long - 9) ≤ E.length ∧ (entAt E i).2.1 = 0 ∧ ∃ u, u < 2 ^ (long - 9) ∧ 0 < (entAt E ((entAt E i).1 + u)).2.1)
    (hm : (entAt E (bits % 512)).2.2 = long - 9) (hb512 : 512 ≤ (entAt E (bits % 512)).1) (hbl : (entAt E (bits % 512)).1 + 2 ^ (long - 9) ≤ E.length) (hz : (entAt E (bits % 512)).2.1 = 0)
    (apart : ∀ i k, i < 512 → k < 512 → i ≠ k → 0 < (entAt E i).2.2 → 0 < (entAt E k).2.2 → (entAt E i).1 + 2 ^ (long - 9) ≤ (entAt E k).1 ∨ (entAt E k).1 + 2 ^ (long - 9) ≤ (entAt E i).1)
    (empty : ∀ j, (entAt E j).2.1 = 0 → (entAt E j).2.2 = 0 → (entAt E j).1 = 0)
    (h15 : long ≤ 15) (hn : 9 < n) (hnl : n ≤ long) (hb : bits < 2 ^ n) :
    let N := fillR E (entAt E (bits % 512)).1 (bits / 512) (2 ^ (n - 9)) (2 ^ (long - 9)) (s, n, 0)
    WFT N long ∧ ∀ v, v < 32768 → find N v = if v % 2 ^ n = bits then (s, n) else find E v := by
  intro N
  obtain ⟨base, hbase⟩ : ∃ base, (entAt E (bits % 512)).1 = base := ⟨_, rfl⟩
  have hp : 2 ^ n = 512 * 2 ^ (n - 9) := by rw [show (512 : Nat) = 2 ^ 9 from rfl, ← Nat.pow_add, show 9 + (n - 9) = n by omega]
  have hbd : bits / 512 < 2 ^ (n - 9) := by rw [Nat.div_lt_iff_lt_mul (by decide)]; rw [hp] at hb; omega
  have hle : 2 ^ (n - 9) ≤ 2 ^ (long - 9) := Nat.pow_le_pow_right (by decide) (by omega)
  have hN : N = fillR E base (bits / 512) (2 ^ (n - 9)) (2 ^ (long - 9)) (s, n, 0) := by show fillR E _ _ _ _ _ = _; rw [hbase]
  clear_value N
  subst hN
  rw [hbase] at hb512 hbl
  have hx : ∀ j, entAt (fillR E base (bits / 512) (2 ^ (n - 9)) (2 ^ (long - 9)) (s, n, 0)) j = if base ≤ j ∧ j < base + 2 ^ (long - 9) ∧ (j - base) % 2 ^ (n - 9) = bits / 512 then (s, n, 0) else entAt E j := by
    intro j
    by_cases hj : j < E.length
    · rw [entAt_fillR E _ _ _ _ _ j hj]
      by_cases hc : base ≤ j ∧ j < base + 2 ^ (long - 9) ∧ (j - base) % 2 ^ (n - 9) = bits / 512
      · have hbj : bits / 512 ≤ j - base := by rw [← hc.2.2]; exact Nat.mod_le _ _
        rw [if_pos hc, if_pos ⟨by omega, hc.2.1, (step_mod (j - base) (bits / 512) _ hbd hbj).2 hc.2.2⟩]
      · rw [if_neg hc, if_neg]
        rintro ⟨q1, q2, q3⟩
        exact hc ⟨by omega, q2, (step_mod (j - base) (bits / 512) _ hbd (by omega)).1 q3⟩
    · rw [if_neg (by omega), entAt_past E j (by omega), entAt_past _ j (by rw [fillR_length]; omega)]
  have hlow : ∀ j, j < 512 → entAt (fillR E base (bits / 512) (2 ^ (n - 9)) (2 ^ (long - 9)) (s, n, 0)) j = entAt E j := fun j hj => by rw [hx, if_neg (by omega)]
  have hfar : ∀ i, i < 512 → i ≠ bits % 512 → 0 < (entAt E i).2.2 → ∀ u, u < 2 ^ (long - 9) → entAt (fillR E base (bits / 512) (2 ^ (n - 9)) (2 ^ (long - 9)) (s, n, 0)) ((entAt E i).1 + u) = entAt E ((entAt E i).1 + u) := by
    intro i hi hne hmi u hu
    have ha := apart i (bits % 512) hi (by omega) hne hmi (by rw [hm]; omega)
    rw [hbase] at ha
    rw [hx, if_neg (by omega)]
  refine ⟨⟨by rw [fillR_length]; exact hlen, ?_, ?_, ?_, ?_⟩, ?_⟩
  · intro j hj
    rw [hx]
    split
    · rfl
    · exact deep j hj
  · intro i hi hmi
    rw [hlow i hi] at hmi ⊢
    rw [fillR_length]
    by_cases hne : i = bits % 512
    · subst hne
      rw [hbase]
      refine ⟨by omega, hm, hb512, hbl, hz, bits / 512, by omega, ?_⟩
      rw [hx, if_pos ⟨by omega, by omega, by rw [Nat.add_sub_cancel_left, Nat.mod_eq_of_lt hbd]⟩]
      show 0 < n
      omega
    · obtain ⟨q1, q2, q3, q4, q5, u, hu, hul⟩ := more i hi hne hmi
      refine ⟨q1, q2, q3, q4, q5, u, hu, ?_⟩
      rw [hfar i hi hne hmi u hu]
      exact hul
  · intro i k hi hk hne hmi hmk
    rw [hlow i hi] at hmi ⊢
    rw [hlow k hk] at hmk ⊢
    exact apart i k hi hk hne hmi hmk
  · intro j h1 h2
    rw [hx] at h1 h2 ⊢
    by_cases hc : base ≤ j ∧ j < base + 2 ^ (long - 9) ∧ (j - base) % 2 ^ (n - 9) = bits / 512
    · rw [if_pos hc] at h1; simp at h1; omega
    · rw [if_neg hc] at h1 h2 ⊢
      exact empty j h1 h2
  · intro v hv
    have hvm : v % 2 ^ n = v % 512 + 512 * (v / 512 % 2 ^ (n - 9)) := by rw [hp]; exact Nat.mod_mul
    have hbm := Nat.div_add_mod bits 512
    unfold find
    simp only
    rw [hlow (v % 512) (by omega)]
    by_cases hh : v % 512 = bits % 512
    · rw [hh, hm, hbase, if_pos (show 0 < long - 9 by omega), if_pos (show 0 < long - 9 by omega)]
      have hlt : v / 512 % 2 ^ (long - 9) < 2 ^ (long - 9) := Nat.mod_lt _ (Nat.pow_pos (by decide))
      have hmm : v / 512 % 2 ^ (long - 9) % 2 ^ (n - 9) = v / 512 % 2 ^ (n - 9) := two_pow_dvd (by omega) _
      rw [hx]
      by_cases hc : v % 2 ^ n = bits
      · rw [if_pos hc, if_pos ⟨by omega, by omega, by rw [Nat.add_sub_cancel_left, hmm]; omega⟩]
      · rw [if_neg hc, if_neg]
        rintro ⟨q1, q2, q3⟩
        rw [Nat.add_sub_cancel_left, hmm] at q3
        exact hc (by omega)
    · have hc : ¬ v % 2 ^ n = bits := by
        intro h
        apply hh
        omega
      rw [if_neg hc]
      by_cases hmv : 0 < (entAt E (v % 512)).2.2
      · rw [if_pos hmv, if_pos hmv]
        obtain ⟨q1, q2, _⟩ := more (v % 512) (by omega) hh hmv
        rw [hfar (v % 512) (by omega) hh hmv _ (by rw [q2]; exact Nat.mod_lt _ (Nat.pow_pos (by decide)))]
      · rw [if_neg hmv, if_neg hmv]

/-- a long code is laid -/
theorem lay_long (E : List Ent) (long s n bits : Nat) (h : WFT E long) (h15 : long ≤ 15) (hn : 9 < n) (hnl : n ≤ long) (hb : bits < 2 ^ n) (hf : ∀ v, v < 32768 → v % 2 ^ n = bits → (find E v).2 = 0) :
    WFT (layE E long s n bits) long ∧ ∀ v, v < 32768 → find (layE E long s n bits) v = if v % 2 ^ n = bits then (s, n) else find E v := by
  have hlen := h.len
  have hn15 : 2 ^ n ≤ 32768 := Nat.pow_le_pow_right (n := 2) (by decide) (show n ≤ 15 by omega)
  unfold layE
  rw [if_neg (by omega)]
  by_cases hm : (entAt E (bits % 512)).2.2 = 0
  · simp only [if_pos hm]
    have he : entAt E (bits % 512) = (0, 0, 0) := by
      have h1 := hf bits (by omega) (Nat.mod_eq_of_lt hb)
      unfold find at h1
      simp only at h1
      rw [if_neg (by omega)] at h1
      have h3 := h.empty (bits % 512) h1 hm
      exact Prod.ext h3 (Prod.ext h1 hm)
    have hx := fun j => entAt_fresh E (bits % 512) long j (by omega)
    have hpp : 0 < 2 ^ (long - 9) := Nat.pow_pos (by decide)
    have hfl : (freshE E (bits % 512) long).length = E.length + 2 ^ (long - 9) := by unfold freshE; simp
    have hself : entAt (freshE E (bits % 512) long) (bits % 512) = (E.length, 0, long - 9) := by rw [hx, if_pos rfl]
    have hres := lay_deep (freshE E (bits % 512) long) long s n bits (by rw [hfl]; exact Nat.le_trans hlen (Nat.le_add_right _ _))
      (fun j hj => by rw [hx, if_neg (by omega)]; exact h.deep j hj)
      (fun i hi hne hmi => by
        rw [hx, if_neg hne] at hmi ⊢
        obtain ⟨q1, q2, q3, q4, q5, u, hu, hul⟩ := h.more i hi hmi
        refine ⟨q1, q2, q3, by rw [hfl]; omega, q5, u, hu, ?_⟩
        rw [hx, if_neg (by omega)]
        exact hul)
      (by rw [hself]) (by rw [hself]; exact hlen) (by rw [hself, hfl]; exact Nat.le_refl _) (by rw [hself])
      (fun i k hi hk hne hmi hmk => by
        rw [hx] at hmi hmk ⊢
        rw [hx k]
        by_cases e1 : i = bits % 512
        · have e2 : k ≠ bits % 512 := fun e => hne (by rw [e1, e])
          rw [if_neg e2] at hmk
          obtain ⟨_, _, _, q4, _⟩ := h.more k hk hmk
          rw [if_pos e1, if_neg e2]
          exact .inr q4
        · rw [if_neg e1] at hmi
          obtain ⟨_, _, _, q4, _⟩ := h.more i hi hmi
          by_cases e2 : k = bits % 512
          · rw [if_neg e1, if_pos e2]
            exact .inl q4
          · rw [if_neg e2] at hmk
            rw [if_neg e1, if_neg e2]
            exact h.apart i k hi hk hne hmi hmk)
      (fun j h1 h2 => by
        rw [hx] at h1 h2 ⊢
        by_cases e : j = bits % 512
        · rw [if_pos e] at h2
          simp only at h2
          omega
        · rw [if_neg e] at h1 h2 ⊢
          exact h.empty j h1 h2)
      h15 hn hnl hb
    rw [hself] at hres ⊢
    refine ⟨hres.1, fun v hv => ?_⟩
    rw [hres.2 v hv, fresh_ok E (bits % 512) long h (by omega) (by omega) he]
  · simp only [if_neg hm]
    obtain ⟨q1, q2, q3, q4, q5, _⟩ := h.more (bits % 512) (by omega) (by omega)
    have hres := lay_deep E long s n bits hlen h.deep (fun i hi _ => h.more i hi) q2 q3 q4 q5 h.apart h.empty h15 hn hnl hb
    rw [q2]
    exact hres

end Go.Proofs.Ytcdoamaljgjojaa
