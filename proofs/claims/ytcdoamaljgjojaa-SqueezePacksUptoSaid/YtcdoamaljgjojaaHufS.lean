/- Plain laws: what a table's lookups find. No program. -/
import Derived.Test.YtcdoamaljgjojaaHufQ
import Derived.Test.YtcdoamaljgjojaaHufR
namespace Go.Proofs.Ytcdoamaljgjojaa

/-- fifteen bits begin with a symbol's code -/
def hit (ls : List Nat) (v s : Nat) : Bool := decide (1 ≤ lenAt ls s) && decide (v % 2 ^ lenAt ls s = flipN (lenAt ls s) (codeOf ls s))
/-- the symbol, among the first k, with whose code fifteen bits begin -/
def symTo (ls : List Nat) (k v : Nat) : Option Nat := (List.range k).find? (hit ls v)
def found (ls : List Nat) (k v : Nat) : Nat × Nat := match symTo ls k v with
  | some s => (s, lenAt ls s)
  | none => (0, 0)

theorem lenAt_mem (ls : List Nat) (s : Nat) (hs : s < ls.length) : lenAt ls s ∈ ls := by
  unfold lenAt
  simp only [List.getD, List.getElem?_eq_getElem hs, Option.getD_some]
  exact List.getElem_mem hs

theorem hit_in (ls : List Nat) (h : ∀ n ∈ ls, n ≤ 15) (hr : room ls ≤ 32768) (v s : Nat) (hs : s < ls.length) (hh : hit ls v s = true) :
    1 ≤ lenAt ls s ∧ loOf ls s ≤ flipN 15 v ∧ flipN 15 v < loOf ls s + 2 ^ (15 - lenAt ls s) := by
  unfold hit at hh
  simp only [Bool.and_eq_true, decide_eq_true_eq] at hh
  refine ⟨hh.1, ?_⟩
  exact (flip_in _ _ _ (h _ (lenAt_mem ls s hs)) (code_lt ls h hr s hs hh.1)).1 hh.2

theorem hit_of (ls : List Nat) (h : ∀ n ∈ ls, n ≤ 15) (hr : room ls ≤ 32768) (v s : Nat) (hs : s < ls.length) (h1 : 1 ≤ lenAt ls s) (h2 : loOf ls s ≤ flipN 15 v) (h3 : flipN 15 v < loOf ls s + 2 ^ (15 - lenAt ls s)) : hit ls v s = true := by
  unfold hit
  simp only [Bool.and_eq_true, decide_eq_true_eq]
  exact ⟨h1, (flip_in _ _ _ (h _ (lenAt_mem ls s hs)) (code_lt ls h hr s hs h1)).2 ⟨h2, h3⟩⟩

/-- no two codes -/
theorem hit_one (ls : List Nat) (h : ∀ n ∈ ls, n ≤ 15) (hr : room ls ≤ 32768) (v s t : Nat) (hs : s < ls.length) (ht : t < ls.length) (h1 : hit ls v s = true) (h2 : hit ls v t = true) : s = t := by
  have a := hit_in ls h hr v s hs h1
  have b := hit_in ls h hr v t ht h2
  by_cases e : s = t
  · exact e
  · exfalso
    have ps : 0 < 2 ^ (15 - lenAt ls s) := Nat.pow_pos (by decide)
    have pt : 0 < 2 ^ (15 - lenAt ls t) := Nat.pow_pos (by decide)
    rcases (show (lenAt ls s < lenAt ls t ∨ (lenAt ls s = lenAt ls t ∧ s < t)) ∨ (lenAt ls t < lenAt ls s ∨ (lenAt ls t = lenAt ls s ∧ t < s)) by omega) with q | q
    · have := lo_order ls h s t hs ht a.1 b.1 q
      omega
    · have := lo_order ls h t s ht hs b.1 a.1 q
      omega

theorem symTo_some (ls : List Nat) (k v s : Nat) (h : symTo ls k v = some s) : s < k ∧ hit ls v s = true := by
  have h1 := List.find?_some h
  have h2 := List.mem_of_find?_eq_some h
  exact ⟨List.mem_range.1 h2, h1⟩

theorem symTo_none (ls : List Nat) (k v s : Nat) (h : symTo ls k v = none) (hs : s < k) : hit ls v s = false := by
  have := List.find?_eq_none.1 h s (List.mem_range.2 hs)
  simpa using this

theorem symTo_is (ls : List Nat) (h : ∀ n ∈ ls, n ≤ 15) (hr : room ls ≤ 32768) (k v s : Nat) (hk : k ≤ ls.length) (hs : s < k) (hh : hit ls v s = true) : symTo ls k v = some s := by
  rcases e : symTo ls k v with _ | t
  · rw [symTo_none ls k v s e hs] at hh; cases hh
  · obtain ⟨h1, h2⟩ := symTo_some ls k v t e
    rw [hit_one ls h hr v t s (by omega) (by omega) h2 hh]

theorem symTo_zero (ls : List Nat) (v : Nat) : symTo ls 0 v = none := rfl

theorem symTo_succ (ls : List Nat) (k v : Nat) : symTo ls (k + 1) v = (symTo ls k v).or (if hit ls v k = true then some k else none) := by
  unfold symTo
  rw [List.range_succ, List.find?_append]
  congr 1
  by_cases hh : hit ls v k = true <;> simp [hh]

theorem found_free (ls : List Nat) (h : ∀ n ∈ ls, n ≤ 15) (hr : room ls ≤ 32768) (k v : Nat) (hk : k < ls.length) (hn : 1 ≤ lenAt ls k) (hv : v % 2 ^ lenAt ls k = flipN (lenAt ls k) (codeOf ls k)) : found ls k v = (0, 0) := by
  have hh : hit ls v k = true := by unfold hit; simp only [Bool.and_eq_true, decide_eq_true_eq]; exact ⟨hn, hv⟩
  unfold found
  rcases e : symTo ls k v with _ | t
  · rfl
  · obtain ⟨h1, h2⟩ := symTo_some ls k v t e
    have := hit_one ls h hr v t k (by omega) hk h2 hh
    omega

theorem found_step (ls : List Nat) (h : ∀ n ∈ ls, n ≤ 15) (hr : room ls ≤ 32768) (k v : Nat) (hk : k < ls.length) (hn : 1 ≤ lenAt ls k) :
    found ls (k + 1) v = if v % 2 ^ lenAt ls k = flipN (lenAt ls k) (codeOf ls k) then (k, lenAt ls k) else found ls k v := by
  by_cases hv : v % 2 ^ lenAt ls k = flipN (lenAt ls k) (codeOf ls k)
  · have hh : hit ls v k = true := by unfold hit; simp only [Bool.and_eq_true, decide_eq_true_eq]; exact ⟨hn, hv⟩
    have := found_free ls h hr k v hk hn hv
    rw [if_pos hv]
    unfold found
    rw [symTo_is ls h hr (k + 1) v k hk (by omega) hh]
  · rw [if_neg hv]
    have hh : hit ls v k = false := by
      unfold hit
      rw [decide_eq_false hv, Bool.and_false]
    unfold found
    rw [symTo_succ, hh]
    simp

theorem found_skip (ls : List Nat) (k v : Nat) (hn : lenAt ls k = 0) : found ls (k + 1) v = found ls k v := by
  have hh : hit ls v k = false := by
    unfold hit
    rw [hn]; rfl
  unfold found
  rw [symTo_succ, hh]
  simp

/-- the lookups of the first k symbols -/
structure LkOf (ls : List Nat) (k : Nat) (E : List Ent) : Prop where
  wf : WFT E (longOf ls)
  len : E.length ≤ 512 + 64 * k
  finds : ∀ v, v < 32768 → find E v = found ls k v

theorem longOf_ge (l : List Nat) (n : Nat) (h : n ∈ l) : n ≤ longOf l := by
  have key : ∀ (l : List Nat) (a : Nat), a ≤ l.foldl max a := by
    intro l
    induction l with
    | nil => intro a; exact Nat.le_refl _
    | cons x l ih => intro a; exact Nat.le_trans (Nat.le_max_left _ _) (ih _)
  have : ∀ (l : List Nat) (a : Nat), n ∈ l → n ≤ l.foldl max a := by
    intro l
    induction l with
    | nil => intro a h; cases h
    | cons x l ih =>
      intro a h
      rcases List.mem_cons.1 h with rfl | h
      · exact Nat.le_trans (Nat.le_max_right _ _) (key _ _)
      · exact ih _ h
  exact this l 0 h

theorem entAt_none (n j : Nat) : entAt (List.replicate n (0, 0, 0)) j = (0, 0, 0) := by
  unfold entAt
  rw [List.getD_eq_getElem?_getD, List.getElem?_replicate]
  split <;> rfl

theorem LkOf.start (ls : List Nat) : LkOf ls 0 (List.replicate 512 (0, 0, 0)) := by
  refine ⟨⟨by rw [List.length_replicate]; exact Nat.le_refl _, ?_, ?_, ?_, ?_⟩, by rw [List.length_replicate]; exact Nat.le_refl _, ?_⟩
  · intro j _; rw [entAt_none]
  · intro i _ h; rw [entAt_none] at h; exact absurd h (Nat.lt_irrefl 0)
  · intro i k _ _ _ h; rw [entAt_none] at h; exact absurd h (Nat.lt_irrefl 0)
  · intro j _ _; rw [entAt_none]
  · intro v _
    unfold find found
    simp only [entAt_none, symTo_zero]
    rfl

theorem LkOf.skip {ls : List Nat} {k : Nat} {E : List Ent} (h : LkOf ls k E) (hn : lenAt ls k = 0) : LkOf ls (k + 1) E :=
  ⟨h.wf, by have := h.len; omega, fun v hv => by rw [found_skip ls k v hn]; exact h.finds v hv⟩

theorem layE_length (E : List Ent) (long s n bits : Nat) (hl : long ≤ 15) : (layE E long s n bits).length ≤ E.length + 64 := by
  unfold layE
  by_cases h : n ≤ 9
  · rw [if_pos h, fillR_length]; omega
  · rw [if_neg h]
    simp only
    rw [fillR_length]
    split
    · simp only [freshE, List.length_append, List.length_set, List.length_replicate]
      have : 2 ^ (long - 9) ≤ 64 := Nat.pow_le_pow_right (n := 2) (by decide) (show long - 9 ≤ 6 by omega)
      omega
    · omega

theorem LkOf.lay {ls : List Nat} (h15 : ∀ n ∈ ls, n ≤ 15) (hr : room ls ≤ 32768) {k : Nat} {E : List Ent} (h : LkOf ls k E) (hk : k < ls.length) (hn : 1 ≤ lenAt ls k) :
    LkOf ls (k + 1) (layE E (longOf ls) k (lenAt ls k) (flipN (lenAt ls k) (codeOf ls k))) := by
  have hm := lenAt_mem ls k hk
  have hl15 : longOf ls ≤ 15 := by
    have key : ∀ (l : List Nat) (a : Nat), a ≤ 15 → (∀ n ∈ l, n ≤ 15) → l.foldl max a ≤ 15 := by
      intro l
      induction l with
      | nil => intro a ha _; exact ha
      | cons x l ih => intro a ha hl; exact ih _ (by have := hl x (by simp); omega) (fun n hn => hl n (by simp [hn]))
    exact key ls 0 (by decide) h15
  have hb := flip_lt (lenAt ls k) (codeOf ls k)
  have hfree : ∀ v, v < 32768 → v % 2 ^ lenAt ls k = flipN (lenAt ls k) (codeOf ls k) → (find E v).2 = 0 := fun v hv hc => by
    rw [h.finds v hv, found_free ls h15 hr k v hk hn hc]
  have hlen := layE_length E (longOf ls) k (lenAt ls k) (flipN (lenAt ls k) (codeOf ls k)) hl15
  have hl := h.len
  by_cases h9 : lenAt ls k ≤ 9
  · obtain ⟨q1, _, q3⟩ := lay_short E (longOf ls) k (lenAt ls k) _ h.wf hl15 hn h9 hb hfree
    exact ⟨q1, by omega, fun v hv => by rw [q3 v hv, found_step ls h15 hr k v hk hn, h.finds v hv]⟩
  · obtain ⟨q1, q3⟩ := lay_long E (longOf ls) k (lenAt ls k) _ h.wf hl15 (by omega) (longOf_ge ls _ hm) hb hfree
    exact ⟨q1, by omega, fun v hv => by rw [q3 v hv, found_step ls h15 hr k v hk hn, h.finds v hv]⟩

end Go.Proofs.Ytcdoamaljgjojaa
