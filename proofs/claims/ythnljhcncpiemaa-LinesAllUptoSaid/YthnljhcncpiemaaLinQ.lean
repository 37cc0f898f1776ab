/- Plain: which lines some spans touch. No program. -/
import Derived.Test.YthnljhcncpiemaaLinP
namespace Go.Proofs.Ythnljhcncpiemaa

/-- so many flags from a place on are set -/
def setF (T : List Bool) (a : Nat) : Nat → List Bool
  | 0 => T
  | j + 1 => (setF T a j).set (a + j) true

theorem setF_len (T : List Bool) (a j : Nat) : (setF T a j).length = T.length := by
  induction j with
  | zero => rfl
  | succ j ih => rw [setF, List.length_set, ih]

theorem setF_true (T : List Bool) (a j i : Nat) (h : T.getD i false = true) : (setF T a j).getD i false = true := by
  induction j with
  | zero => exact h
  | succ j ih =>
    rw [setF]
    simp only [List.getD_eq_getElem?_getD, List.getElem?_set] at ih ⊢
    split
    · split
      · rfl
      · rename_i h1 h2
        subst h1
        rw [List.getElem?_eq_none (by omega)] at ih
        simp at ih
    · exact ih

/-- the flags, how many spans begin in each line, how far lines are touched -/
abbrev SelS := List Bool × List Nat × Nat

def selStep (S : SelS) (x : Nat × Nat) : SelS :=
  ((setF S.1 (max x.1 S.2.2) (x.2 + 1 - max x.1 S.2.2)).set x.1 true, S.2.1.set x.1 (S.2.1.getD x.1 0 + 1), max S.2.2 x.2)

def selStart (n : Nat) : SelS := (List.replicate n false, List.replicate n 0, 0)

/-- the line in which a place is -/
def atL (L : List (Nat × Nat)) (p : Nat) : Nat := cnt L (p : Int) - 1
/-- the lines in which a span begins and ends -/
def spanL (L : List (Nat × Nat)) (x : Nat × Nat) : Nat × Nat := (atL L x.1, atL L (if x.1 < x.2 then x.2 - 1 else x.2))

def selAll (L : List (Nat × Nat)) (X : List (Nat × Nat)) : SelS := (X.map (spanL L)).foldl selStep (selStart L.length)

/-- the lines that are answered, up to the k-th: number, span, how many spans begin there -/
def selN (inv : Bool) (L : List (Nat × Nat)) (S : SelS) : Nat → List (Nat × (Nat × Nat) × Nat)
  | 0 => []
  | k + 1 => selN inv L S k ++ if (S.1.getD k false != inv) = true then [(k + 1, L.getD k (0, 0), S.2.1.getD k 0)] else []

theorem selN_len (inv : Bool) (L : List (Nat × Nat)) (S : SelS) (k : Nat) : (selN inv L S k).length ≤ k := by
  induction k with
  | zero => simp [selN]
  | succ k ih =>
    rw [selN, List.length_append]
    split <;> simp <;> omega

theorem selN_pre (inv : Bool) (L : List (Nat × Nat)) (S : SelS) (k j : Nat) : ∃ t, selN inv L S (k + j) = selN inv L S k ++ t ∧ ∀ x ∈ t, k < x.1 := by
  induction j with
  | zero => exact ⟨[], by simp, by simp⟩
  | succ j ih =>
    obtain ⟨t, h1, h2⟩ := ih
    refine ⟨t ++ _, by rw [show k + (j + 1) = k + j + 1 from rfl, selN, h1, List.append_assoc], ?_⟩
    intro x hx
    rcases List.mem_append.1 hx with hx | hx
    · exact h2 x hx
    · split at hx
      · simp at hx; subst hx; simp; omega
      · simp at hx

/-- the next one that is answered is this line's, or a later one's -/
theorem selN_at (inv : Bool) (L : List (Nat × Nat)) (S : SelS) (k N : Nat) (h : k < N) :
    ((S.1.getD k false != inv) = true → (selN inv L S N)[(selN inv L S k).length]? = some (k + 1, L.getD k (0, 0), S.2.1.getD k 0) ∧ (selN inv L S (k + 1)).length = (selN inv L S k).length + 1) ∧
    ((S.1.getD k false != inv) = false → (∀ x, (selN inv L S N)[(selN inv L S k).length]? = some x → k + 1 < x.1) ∧ (selN inv L S (k + 1)).length = (selN inv L S k).length) := by
  obtain ⟨t, h1, h2⟩ := selN_pre inv L S (k + 1) (N - (k + 1))
  rw [show k + 1 + (N - (k + 1)) = N by omega] at h1
  constructor
  · intro hc
    have e : selN inv L S (k + 1) = selN inv L S k ++ [(k + 1, L.getD k (0, 0), S.2.1.getD k 0)] := by rw [selN, if_pos hc]
    rw [h1, e]
    refine ⟨?_, by simp⟩
    rw [List.append_assoc, List.getElem?_append_right (Nat.le_refl _)]
    simp
  · intro hc
    have e : selN inv L S (k + 1) = selN inv L S k := by rw [selN, if_neg (by rw [hc]; simp), List.append_nil]
    rw [h1, e]
    refine ⟨?_, rfl⟩
    intro x hx
    rw [List.getElem?_append_right (Nat.le_refl _), Nat.sub_self] at hx
    exact h2 x (List.mem_of_getElem? hx)

/-- what the fold keeps: where no flag is set, no span begins; the spans that begin are all -/
structure SelOk (n m : Nat) (S : SelS) : Prop where
  lenT : S.1.length = n
  lenB : S.2.1.length = n
  none : ∀ i, S.1.getD i false = false → S.2.1.getD i 0 = 0
  sum : S.2.1.sum = m
  done : S.2.2 < n

theorem sum_set : ∀ (B : List Nat) (i : Nat), i < B.length → (B.set i (B.getD i 0 + 1)).sum = B.sum + 1
  | b :: r, 0, _ => by simp; omega
  | b :: r, i + 1, h => by
    have := sum_set r i (by simpa using h)
    simp only [List.set_cons_succ, List.sum_cons, List.getD_cons_succ]
    omega

theorem SelOk.step {n m : Nat} {S : SelS} (h : SelOk n m S) (x : Nat × Nat) (h1 : x.1 < n) (h2 : x.2 < n) : SelOk n (m + 1) (selStep S x) := by
  refine ⟨by simp [selStep, setF_len, h.lenT], by simp [selStep, h.lenB], ?_, ?_, by have := h.done; simp [selStep]; omega⟩
  · intro i hi
    have hne : i ≠ x.1 := by
      rintro rfl
      simp only [selStep, List.getD_eq_getElem?_getD, List.getElem?_set] at hi
      simp [setF_len, h.lenT, h1] at hi
    have h3 : S.1.getD i false = false := by
      cases hc : S.1.getD i false with
      | false => rfl
      | true =>
        exfalso
        have := setF_true S.1 (max x.1 S.2.2) (x.2 + 1 - max x.1 S.2.2) i hc
        simp only [selStep, List.getD_eq_getElem?_getD, List.getElem?_set, if_neg (Ne.symm hne)] at hi this
        rw [hi] at this
        simp at this
    have := h.none i h3
    simp only [selStep, List.getD_eq_getElem?_getD, List.getElem?_set, if_neg (Ne.symm hne)] at this ⊢
    exact this
  · show (S.2.1.set x.1 (S.2.1.getD x.1 0 + 1)).sum = _
    rw [sum_set _ _ (by rw [h.lenB]; exact h1), h.sum]

theorem SelOk.start (n : Nat) (h : 0 < n) : SelOk n 0 (selStart n) := by
  refine ⟨by simp [selStart], by simp [selStart], fun i _ => ?_, by simp [selStart], by simpa [selStart] using h⟩
  simp only [selStart, List.getD_eq_getElem?_getD, List.getElem?_replicate]
  split <;> rfl

theorem SelOk.fold {n : Nat} : ∀ (Y : List (Nat × Nat)) (m : Nat) (S : SelS), SelOk n m S → (∀ y ∈ Y, y.1 < n ∧ y.2 < n) → SelOk n (m + Y.length) (Y.foldl selStep S)
  | [], m, S, h, _ => h
  | y :: Y, m, S, h, hy => by
    have h1 := hy y (by simp)
    have := SelOk.fold Y (m + 1) (selStep S y) (h.step y h1.1 h1.2) (fun z hz => hy z (by simp [hz]))
    rw [List.foldl_cons, List.length_cons, show m + (Y.length + 1) = m + 1 + Y.length by omega]
    exact this

theorem spanL_lt (L : List (Nat × Nat)) (x : Nat × Nat) (h : 0 < L.length) : (spanL L x).1 < L.length ∧ (spanL L x).2 < L.length := by
  have h1 := cnt_le L (x.1 : Int)
  have h2 := fun p : Nat => cnt_le L (p : Int)
  simp only [spanL, atL]
  constructor
  · omega
  · have := h2 (if x.1 < x.2 then x.2 - 1 else x.2)
    omega

theorem selAll_ok (L X : List (Nat × Nat)) (h : 0 < L.length) : SelOk L.length X.length (selAll L X) := by
  have := SelOk.fold (X.map (spanL L)) 0 _ (SelOk.start L.length h) (fun y hy => by
    obtain ⟨x, _, rfl⟩ := List.mem_map.1 hy
    exact spanL_lt L x h)
  simpa [selAll] using this

/-- how many spans begin in the answered lines, up to the k-th -/
def foundN (S : SelS) : Nat → Nat
  | 0 => 0
  | k + 1 => foundN S k + if S.1.getD k false = true then S.2.1.getD k 0 else 0

theorem foundN_sum {n m : Nat} {S : SelS} (h : SelOk n m S) : foundN S n = m := by
  have key : ∀ k, k ≤ n → foundN S k = (S.2.1.take k).sum := by
    intro k
    induction k with
    | zero => intro _; simp [foundN]
    | succ k ih =>
      intro hk
      have hlt : k < S.2.1.length := by rw [h.lenB]; omega
      rw [foundN, ih (by omega), List.take_succ_eq_append_getElem hlt, List.sum_append]
      congr 1
      have e : S.2.1.getD k 0 = S.2.1[k]'hlt := by simp [List.getD, hlt]
      cases hc : S.1.getD k false with
      | true => simp [List.getElem?_eq_getElem hlt]
      | false =>
        have := h.none k hc
        rw [e] at this
        simp [this]
  rw [key n (Nat.le_refl _), List.take_of_length_le (by rw [h.lenB]; exact Nat.le_refl _), h.sum]

end Go.Proofs.Ythnljhcncpiemaa
