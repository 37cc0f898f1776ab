/- Plain: the lines of a text. No program. -/
import Derived.Test.YthnljhcncpiemaaStrP
import Derived.Lib.Bytealg
import Derived.Lib.IndexLaws
namespace Go.Proofs.Ythnljhcncpiemaa
set_option linter.unusedVariables false

/-- the spans of lines: the line began at a, i is the place -/
def splF : List Nat → Nat → Nat → List (Nat × Nat)
  | [], a, i => if a < i then [(a, i)] else []
  | c :: r, a, i => if c = 10 then (a, i) :: splF r (i + 1) (i + 1) else splF r a (i + 1)

/-- the lines of bytes -/
def lns (D : List Nat) : List (Nat × Nat) := splF D 0 0

theorem splF_none : ∀ (r : List Nat) (a i : Nat), (∀ c ∈ r, c ≠ 10) → splF r a i = if a < i + r.length then [(a, i + r.length)] else []
  | [], a, i, _ => by simp [splF]
  | c :: r, a, i, h => by
    rw [splF, if_neg (h c (by simp)), splF_none r a (i + 1) (fun x hx => h x (by simp [hx]))]
    simp only [List.length_cons, show i + 1 + r.length = i + (r.length + 1) by omega]

theorem splF_some : ∀ (u t : List Nat) (a i : Nat), (∀ c ∈ u, c ≠ 10) → splF (u ++ 10 :: t) a i = (a, i + u.length) :: splF t (i + u.length + 1) (i + u.length + 1)
  | [], t, a, i, _ => by simp [splF]
  | c :: u, t, a, i, h => by
    rw [List.cons_append, splF, if_neg (h c (by simp)), splF_some u t a (i + 1) (fun x hx => h x (by simp [hx]))]
    simp only [List.length_cons, show i + 1 + u.length = i + (u.length + 1) by omega]

/-- one line behind the other -/
def Sq : Nat → List (Nat × Nat) → Prop
  | _, [] => True
  | o, x :: r => x.1 = o ∧ x.1 ≤ x.2 ∧ Sq (x.2 + 1) r

def en : Nat → List (Nat × Nat) → Nat
  | o, [] => o
  | _, x :: r => en (x.2 + 1) r

theorem splF_sq : ∀ (r : List Nat) (a i : Nat), a ≤ i → Sq a (splF r a i)
  | [], a, i, h => by
    rw [splF]
    split
    · exact ⟨rfl, h, trivial⟩
    · trivial
  | c :: r, a, i, h => by
    rw [splF]
    split
    · exact ⟨rfl, h, splF_sq r _ _ (Nat.le_refl _)⟩
    · exact splF_sq r a (i + 1) (by omega)

theorem splF_en : ∀ (r : List Nat) (a i : Nat), a ≤ i → en a (splF r a i) = i + r.length ∨ en a (splF r a i) = i + r.length + 1
  | [], a, i, h => by
    rw [splF]
    split
    · right; rfl
    · left; simp [en]; omega
  | c :: r, a, i, h => by
    rw [splF]
    have e : i + (c :: r).length = i + 1 + r.length := by simp; omega
    rw [e]
    split
    · exact splF_en r _ _ (Nat.le_refl _)
    · exact splF_en r a (i + 1) (by omega)

theorem splF_ne (r : List Nat) (a i : Nat) (h : a ≤ i) (hr : r ≠ [] ∨ a < i) : splF r a i ≠ [] := by
  induction r generalizing a i with
  | nil =>
    rw [splF, if_pos (by simpa using hr)]
    simp
  | cons c r ih =>
    rw [splF]
    split
    · simp
    · exact ih a (i + 1) (by omega) (.inr (by omega))

theorem splF_le : ∀ (r : List Nat) (a i : Nat), a ≤ i → ∀ x ∈ splF r a i, x.1 ≤ x.2 ∧ x.2 ≤ i + r.length
  | [], a, i, h, x, hx => by
    rw [splF] at hx
    split at hx
    · simp at hx; subst hx; simp; omega
    · simp at hx
  | c :: r, a, i, h, x, hx => by
    rw [splF] at hx
    simp only [List.length_cons]
    split at hx
    · rcases List.mem_cons.1 hx with rfl | hx
      · simp; omega
      · have := splF_le r _ _ (Nat.le_refl _) x hx
        omega
    · have := splF_le r a (i + 1) (by omega) x hx
      omega

theorem splF_len : ∀ (r : List Nat) (a i : Nat), a ≤ i → (splF r a i).length ≤ r.length + (i - a)
  | [], a, i, h => by
    rw [splF]
    split
    · simp; omega
    · simp
  | c :: r, a, i, h => by
    rw [splF]
    split
    · have := splF_len r (i + 1) (i + 1) (Nat.le_refl _)
      simp; omega
    · -- a line that goes on: it is counted at its end
      have := splF_len r a (i + 1) (by omega)
      simp; omega

theorem lns_len (D : List Nat) : (lns D).length ≤ D.length := by
  have := splF_len D 0 0 (Nat.le_refl _)
  simpa [lns] using this

theorem sq_get : ∀ (L : List (Nat × Nat)) (o k : Nat), Sq o L → (h : k < L.length) → (L[k]).1 = en o (L.take k) ∧ (L[k]).1 ≤ (L[k]).2
  | x :: r, o, 0, hs, h => ⟨hs.1, hs.2.1⟩
  | x :: r, o, k + 1, hs, h => by
    have := sq_get r (x.2 + 1) k hs.2.2 (by simpa using h)
    simpa [en] using this

theorem en_snoc : ∀ (L : List (Nat × Nat)) (o : Nat) (x : Nat × Nat), en o (L ++ [x]) = x.2 + 1
  | [], o, x => rfl
  | y :: r, o, x => en_snoc r (y.2 + 1) x

theorem en_take (L : List (Nat × Nat)) (o k : Nat) (h : k < L.length) : en o (L.take (k + 1)) = (L[k]).2 + 1 := by
  rw [List.take_succ_eq_append_getElem h, en_snoc]

/-- how many lines begin at a place or ahead of it -/
def cnt (L : List (Nat × Nat)) (p : Int) : Nat := L.countP fun x => decide ((x.1 : Int) ≤ p)

theorem cnt_le (L : List (Nat × Nat)) (p : Int) : cnt L p ≤ L.length := List.countP_le_length

theorem sq_from : ∀ (L : List (Nat × Nat)) (o : Nat), Sq o L → ∀ x ∈ L, o ≤ x.1
  | [], _, _, x, hx => by simp at hx
  | y :: r, o, h, x, hx => by
    rcases List.mem_cons.1 hx with rfl | hx
    · exact Nat.le_of_eq h.1.symm
    · have := sq_from r (y.2 + 1) h.2.2 x hx
      have h1 := h.1; have h2 := h.2.1
      omega

theorem cnt_get : ∀ (L : List (Nat × Nat)) (o : Nat) (p : Int) (k : Nat), Sq o L → (h : k < L.length) → (((L[k]).1 : Int) ≤ p ↔ k < cnt L p)
  | x :: r, o, p, k, hs, h => by
    by_cases hx : (x.1 : Int) ≤ p
    · have hc : cnt (x :: r) p = cnt r p + 1 := by simp [cnt, hx]
      rw [hc]
      cases k with
      | zero => simp [hx]
      | succ k =>
        have := cnt_get r (x.2 + 1) p k hs.2.2 (by simpa using h)
        simp only [List.getElem_cons_succ]
        rw [this]
        omega
    · have hc : cnt (x :: r) p = 0 := by
        unfold cnt
        rw [List.countP_eq_zero]
        intro y hy
        have h1 : x.1 ≤ y.1 := by
          rcases List.mem_cons.1 hy with rfl | hy
          · exact Nat.le_refl _
          · have := sq_from r _ hs.2.2 y hy
            have := hs.2.1
            omega
        simp only [decide_eq_true_eq]
        omega
      rw [hc]
      have h1 : x.1 ≤ ((x :: r)[k]).1 := by
        have hm : (x :: r)[k] ∈ x :: r := List.getElem_mem _
        rcases List.mem_cons.1 hm with e | hm
        · rw [e]; exact Nat.le_refl _
        · have := sq_from r _ hs.2.2 _ hm
          have := hs.2.1
          omega
      omega

theorem splF_cnt_all (r : List Nat) (a i : Nat) (h : a ≤ i) (p : Int) (hp : ((i + r.length : Nat) : Int) ≤ p) : cnt (splF r a i) p = (splF r a i).length := by
  unfold cnt
  rw [List.countP_eq_length]
  intro x hx
  have := splF_le r a i h x hx
  simp only [decide_eq_true_eq]
  omega

/-- the newlines ahead of a place tell the line -/
theorem splF_cnt : ∀ (r : List Nat) (a i p : Nat), a ≤ i → i ≤ p → p < i + r.length → cnt (splF r a i) (p : Int) = 1 + (r.take (p - i)).count 10
  | [], a, i, p, h1, h2, h3 => by simp at h3; omega
  | c :: r, a, i, p, h1, h2, h3 => by
    simp only [List.length_cons] at h3
    by_cases hp : p = i
    · subst hp
      have hs := splF_sq (c :: r) a p h1
      have hne := splF_ne (c :: r) a p h1 (.inl (by simp))
      obtain ⟨x, t, e⟩ : ∃ x t, splF (c :: r) a p = x :: t := by
        cases hx : splF (c :: r) a p with
        | nil => exact absurd hx hne
        | cons x t => exact ⟨x, t, rfl⟩
      -- the first one only
      have ht : ∀ y ∈ t, p < y.1 := by
        rw [splF] at e
        split at e
        · simp only [List.cons.injEq] at e
          obtain ⟨-, rfl⟩ := e
          intro y hy
          have := sq_from _ _ (splF_sq r (p + 1) (p + 1) (Nat.le_refl _)) y hy
          omega
        · intro y hy
          have hs' := hs
          rw [splF, if_neg (by assumption)] at hs'
          rw [e] at hs'
          have h4 := sq_from t _ hs'.2.2 y hy
          -- the line that goes on ends behind p
          have h5 : p + 1 ≤ x.2 := by
            have : ∀ (r : List Nat) (a j : Nat) (x : Nat × Nat) (t : List (Nat × Nat)), splF r a j = x :: t → j ≤ x.2 := by
              intro r
              induction r with
              | nil =>
                intro a j x t e
                rw [splF] at e
                split at e
                · simp only [List.cons.injEq] at e
                  obtain ⟨rfl, -⟩ := e
                  exact Nat.le_refl _
                · simp at e
              | cons d r ih =>
                intro a j x t e
                rw [splF] at e
                split at e
                · simp only [List.cons.injEq] at e
                  obtain ⟨rfl, -⟩ := e
                  exact Nat.le_refl _
                · have := ih a (j + 1) x t e
                  omega
            exact this r a (p + 1) x t e
          omega
      rw [e] at hs ⊢
      have hx : ((x.1 : Nat) : Int) ≤ (p : Int) := by rw [hs.1]; omega
      have : cnt t (p : Int) = 0 := by
        unfold cnt
        rw [List.countP_eq_zero]
        intro y hy
        have := ht y hy
        simp only [decide_eq_true_eq]
        omega
      unfold cnt at this ⊢
      rw [List.countP_cons, this]
      simp [hx]
    · rw [splF]
      have e : p - i = (p - (i + 1)) + 1 := by omega
      rw [e, List.take_succ_cons]
      split
      · rename_i hc
        subst hc
        have := splF_cnt r (i + 1) (i + 1) p (Nat.le_refl _) (by omega) (by omega)
        unfold cnt at this ⊢
        have ha : ((a : Nat) : Int) ≤ (p : Int) := by omega
        rw [List.countP_cons, this, List.count_cons]
        simp [ha]
        omega
      · rename_i hc
        rw [splF_cnt r a (i + 1) p (by omega) (by omega) (by omega), List.count_cons]
        simp [hc]

/-- lines put together again -/
def bk (D : List Nat) (L : List (Nat × Nat)) : List Nat := L.flatMap fun x => (D.take x.2).drop x.1 ++ [10]

/-- does it end with a newline, or is it empty? -/
def whole (D : List Nat) : Bool := D.isEmpty || D.getLast? == some 10

theorem splF_bk (D : List Nat) : ∀ (r : List Nat) (a i : Nat), a ≤ i → D.drop i = r → i + r.length = D.length → (a < i → ∀ c, D[i - 1]? = some c → c ≠ 10) →
    bk D (splF r a i) = D.drop a ++ (if a < D.length ∧ D.getLast? ≠ some 10 then [10] else []) ∧ (splF r a i).length = r.count 10 + (if a < D.length ∧ D.getLast? ≠ some 10 then 1 else 0)
  | [], a, i, h, hr, hl, hn => by
    simp only [List.length_nil, Nat.add_zero] at hl
    subst hl
    rw [splF]
    by_cases hai : a < D.length
    · have hg : D.getLast? ≠ some 10 := by
        intro e
        rw [List.getLast?_eq_getElem?] at e
        exact hn hai _ e rfl
      rw [if_pos hai, if_pos ⟨hai, hg⟩, if_pos ⟨hai, hg⟩]
      refine ⟨?_, by simp⟩
      simp [bk]
    · have : a = D.length := by omega
      subst this
      rw [if_neg (by omega), if_neg (by omega), if_neg (by omega)]
      simp [bk]
  | c :: r, a, i, h, hr, hl, hn => by
    simp only [List.length_cons] at hl
    have hi : i < D.length := by omega
    have hc : D[i]'hi = c ∧ D.drop (i + 1) = r := by
      rw [List.drop_eq_getElem_cons hi, List.cons.injEq] at hr
      exact hr
    rw [splF]
    by_cases h10 : c = 10
    · subst h10
      rw [if_pos rfl]
      obtain ⟨h1, h2⟩ := splF_bk D r (i + 1) (i + 1) (Nat.le_refl _) hc.2 (by omega) (fun h => absurd h (by omega))
      have hlast : (i + 1 < D.length ∧ D.getLast? ≠ some 10) ↔ (a < D.length ∧ D.getLast? ≠ some 10) := by
        constructor
        · rintro ⟨_, h⟩; exact ⟨by omega, h⟩
        · rintro ⟨_, h⟩
          refine ⟨?_, h⟩
          by_cases e : i + 1 < D.length
          · exact e
          · exfalso
            apply h
            rw [List.getLast?_eq_getElem?, show D.length - 1 = i by omega, List.getElem?_eq_getElem hi, hc.1]
      have hite : ∀ {α : Type} (x y : α), (if i + 1 < D.length ∧ D.getLast? ≠ some 10 then x else y) = (if a < D.length ∧ D.getLast? ≠ some 10 then x else y) := by
        intro α x y
        by_cases e : a < D.length ∧ D.getLast? ≠ some 10
        · rw [if_pos e, if_pos (hlast.2 e)]
        · rw [if_neg e, if_neg (fun h => e (hlast.1 h))]
      rw [hite] at h1 h2
      refine ⟨?_, by rw [List.length_cons, h2, List.count_cons]; simp; omega⟩
      have : bk D ((a, i) :: splF r (i + 1) (i + 1)) = ((D.take i).drop a ++ [10]) ++ bk D (splF r (i + 1) (i + 1)) := by simp [bk]
      rw [this, h1, ← List.append_assoc]
      congr 1
      have e2 : D.drop a = (D.take i).drop a ++ D.drop i := by
        conv => lhs; rw [← List.take_append_drop i D]
        rw [List.drop_append_of_le_length (by simp; omega)]
      rw [e2, hr, hc.2]
      simp
    · rw [if_neg h10]
      obtain ⟨h1, h2⟩ := splF_bk D r a (i + 1) (by omega) hc.2 (by omega) (fun _ x hx => by
        simp only [Nat.add_sub_cancel] at hx
        rw [List.getElem?_eq_getElem hi, hc.1] at hx
        simp at hx
        rw [← hx]
        exact h10)
      refine ⟨h1, by rw [h2, List.count_cons]; simp [h10]⟩

theorem lns_bk (D : List Nat) : bk D (lns D) = D ++ (if whole D then [] else [10]) ∧ (lns D).length = D.count 10 + (if whole D then 0 else 1) := by
  obtain ⟨h1, h2⟩ := splF_bk D D 0 0 (Nat.le_refl _) (by simp) (by simp) (fun h => absurd h (by omega))
  have hw : (0 < D.length ∧ D.getLast? ≠ some 10) ↔ ¬ whole D = true := by
    unfold whole
    cases D with
    | nil => simp
    | cons c r => simp
  unfold lns
  rw [h1, h2]
  by_cases hd : whole D = true
  · have : ¬ (0 < D.length ∧ D.getLast? ≠ some 10) := fun h => hw.1 h hd
    rw [if_neg this, if_neg this, if_pos hd, if_pos hd]
    simp
  · have := hw.2 hd
    rw [if_pos this, if_pos this, if_neg hd, if_neg hd]
    simp

/-- where a line ends: at a newline, or at the end -/
theorem splF_end (D : List Nat) : ∀ (r : List Nat) (a i : Nat), a ≤ i → D.drop i = r → i ≤ D.length → (∀ j, a ≤ j → j < i → D[j]? ≠ some 10) →
    ∀ x ∈ splF r a i, (x.1 ≤ x.2 ∧ x.2 < D.length ∧ D[x.2]? = some 10) ∨ (x.2 = D.length ∧ x.1 < D.length ∧ ∀ j, x.1 ≤ j → D[j]? ≠ some 10)
  | [], a, i, h, hr, hl, hn, x, hx => by
    have hi : i = D.length := by
      have := congrArg List.length hr
      simp at this
      omega
    subst hi
    rw [splF] at hx
    split at hx
    · simp at hx
      subst hx
      refine .inr ⟨rfl, by assumption, fun j hj => ?_⟩
      by_cases hjl : j < D.length
      · exact hn j hj hjl
      · rw [List.getElem?_eq_none (by omega)]; simp
    · simp at hx
  | c :: r, a, i, h, hr, hl, hn, x, hx => by
    have hi : i < D.length := by
      have := congrArg List.length hr
      simp at this
      omega
    have hc : D[i]'hi = c ∧ D.drop (i + 1) = r := by
      rw [List.drop_eq_getElem_cons hi, List.cons.injEq] at hr
      exact hr
    rw [splF] at hx
    by_cases h10 : c = 10
    · rw [if_pos h10] at hx
      rcases List.mem_cons.1 hx with rfl | hx
      · exact .inl ⟨h, hi, by rw [List.getElem?_eq_getElem hi, hc.1, h10]⟩
      · exact splF_end D r (i + 1) (i + 1) (Nat.le_refl _) hc.2 (by omega) (fun j h1 h2 => absurd h1 (by omega)) x hx
    · rw [if_neg h10] at hx
      refine splF_end D r a (i + 1) (by omega) hc.2 (by omega) (fun j h1 h2 => ?_) x hx
      by_cases e : j = i
      · subst e
        rw [List.getElem?_eq_getElem hi, hc.1]
        simpa using h10
      · exact hn j h1 (by omega)

theorem lns_end (D : List Nat) (k : Nat) (h : k < (lns D).length) : ((lns D)[k].1 ≤ (lns D)[k].2 ∧ (lns D)[k].2 < D.length ∧ D[(lns D)[k].2]? = some 10) ∨ ((lns D)[k].2 = D.length ∧ (lns D)[k].1 < D.length ∧ ∀ j, (lns D)[k].1 ≤ j → D[j]? ≠ some 10) :=
  splF_end D D 0 0 (Nat.le_refl _) rfl (Nat.zero_le _) (fun j h1 h2 => absurd h2 (by omega)) _ (List.getElem_mem h)

theorem lns_sq (D : List Nat) : Sq 0 (lns D) := splF_sq D 0 0 (Nat.le_refl _)

theorem lns_next (D : List Nat) (k : Nat) (h : k + 1 < (lns D).length) : (lns D)[k + 1].1 = (lns D)[k].2 + 1 ∧ (lns D)[k].2 < D.length := by
  have h1 := (sq_get (lns D) 0 (k + 1) (lns_sq D) h).1
  rw [en_take (lns D) 0 k (by omega)] at h1
  refine ⟨h1, ?_⟩
  rcases lns_end D (k + 1) h with h2 | h2 <;> omega

theorem lns_first (D : List Nat) (h : 0 < (lns D).length) : (lns D)[0].1 = 0 := (sq_get (lns D) 0 0 (lns_sq D) h).1

end Go.Proofs.Ythnljhcncpiemaa
