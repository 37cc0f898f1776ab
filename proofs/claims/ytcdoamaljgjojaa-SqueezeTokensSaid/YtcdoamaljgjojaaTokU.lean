/- Tokens put together are the span again, plain. No program. -/
import Derived.Test.YtcdoamaljgjojaaTokP
import Derived.Test.YtcdoamaljgjojaaInfM
namespace Go.Proofs.Ytcdoamaljgjojaa
open Go.RowKit
set_option linter.unusedVariables false

/-- what a token adds -/
def untk (out : List Nat) (x : Tok) : List Nat := if x.2.1 = 0 then out ++ [x.1] else copyN out x.2.2 x.2.1

theorem take_snoc' (D : List Nat) (k : Nat) (h : k < D.length) : D.take (k + 1) = D.take k ++ [D.getD k 0] := by
  rw [List.take_succ_eq_append_getElem h]
  simp [List.getD, h]

theorem getD_take' (D : List Nat) (k i : Nat) (h : i < k) : (D.take k).getD i 0 = D.getD i 0 := by
  simp only [List.getD, List.getElem?_take_of_lt h]

theorem copy_is (D : List Nat) (p te d : Nat) (hte : te ≤ D.length) (hd1 : 1 ≤ d) (hd : d ≤ p) : ∀ n, (∀ j, j < n → alkC D p te d j) → copyN (D.take p) d n = D.take (p + n)
  | 0, _ => rfl
  | n + 1, h => by
    have h1 := h n (by omega)
    unfold alkC at h1
    rw [copyN, copy_is D p te d hte hd1 hd n (fun j hj => h j (by omega)), List.length_take, show min (p + n) D.length = p + n by omega, getD_take' _ _ _ (by omega), ← h1.2, ← Nat.add_assoc, take_snoc' D (p + n) (by omega)]

theorem untk_at (D : List Nat) (p te M : Nat) (hte : te ≤ D.length) (hp : p < te) (hM : M ≤ p) : untk (D.take p) (tokAt D p (bst D p te M)) = D.take (p + max (bst D p te M).1 1) ∧ p + max (bst D p te M).1 1 ≤ te := by
  rcases bst_form D p te M with h | ⟨h1, h2, h3, h4, h5⟩
  · rw [h]
    refine ⟨?_, by show p + 1 ≤ te; omega⟩
    show D.take p ++ [D.getD p 0] = D.take (p + 1)
    rw [take_snoc' D p (by omega)]
  · have hall := alk_all D p te (bst D p te M).2 258
    rw [← h5] at hall
    have e : tokAt D p (bst D p te M) = (0, (bst D p te M).1, (bst D p te M).2) := by
      unfold tokAt
      rw [if_neg (by omega)]
    have e0 : ¬ (bst D p te M).1 = 0 := by omega
    rw [e]
    unfold untk
    simp only
    rw [if_neg e0, copy_is D p te _ hte h3 (by omega) _ hall, Nat.max_eq_left (by omega)]
    refine ⟨rfl, ?_⟩
    have := hall ((bst D p te M).1 - 1) (by omega)
    unfold alkC at this
    omega

theorem untks (D : List Nat) (te R : Nat) (hte : te ≤ D.length) : ∀ f p, p ≤ te → te - p ≤ f → (tks D te R f p).foldl untk (D.take p) = D.take te
  | 0, p, h1, h2 => by rw [show p = te by omega]; rfl
  | f + 1, p, h1, h2 => by
    rw [tks]
    by_cases h : p < te
    · rw [if_pos h, List.foldl_cons]
      obtain ⟨e1, e2⟩ := untk_at D p te (min R p) hte h (by omega)
      rw [e1]
      exact untks D te R hte f _ e2 (by omega)
    · rw [if_neg h, show p = te by omega]
      rfl

/-- of each token of a span: the length and the distance fit -/
def tokOk (R : Nat) (out : Nat) (x : Tok) : Prop := (x.2.1 = 0 ∧ x.2.2 = 0 ∧ x.1 < 256) ∨ (3 ≤ x.2.1 ∧ x.2.1 ≤ 258 ∧ 1 ≤ x.2.2 ∧ x.2.2 ≤ R ∧ x.2.2 ≤ out ∧ x.1 = 0)

theorem tokAt_ok (D : List Nat) (hD : ∀ x ∈ D, x < 256) (p te R : Nat) : tokOk R p (tokAt D p (bst D p te (min R p))) := by
  rcases bst_form D p te (min R p) with h | ⟨h1, h2, h3, h4, h5⟩
  · rw [h]
    refine .inl ⟨rfl, rfl, ?_⟩
    show D.getD p 0 < 256
    by_cases h : p < D.length
    · rw [show D.getD p 0 = D[p] by simp [List.getD, h]]
      exact hD _ (List.getElem_mem h)
    · rw [show D.getD p 0 = 0 by simp [List.getD, h]]
      decide
  · unfold tokAt
    rw [if_neg (by omega)]
    exact .inr ⟨h1, h2, h3, by simp only; omega, by simp only; omega, rfl⟩

theorem untk_len (out : List Nat) (x : Tok) : (untk out x).length = out.length + max x.2.1 1 := by
  unfold untk
  by_cases h : x.2.1 = 0
  · rw [if_pos h, h, List.length_append]
    simp
  · rw [if_neg h]
    obtain ⟨l, e, hl⟩ := copyN_len out x.2.2 x.2.1
    rw [e, List.length_append, hl]
    omega

/-- all tokens of a span fit -/
def toksOk (R : Nat) : Nat → List Tok → Prop
  | _, [] => True
  | o, x :: r => tokOk R o x ∧ toksOk R (o + max x.2.1 1) r

theorem tokAt_max (D : List Nat) (p te M : Nat) : max (tokAt D p (bst D p te M)).2.1 1 = max (bst D p te M).1 1 := by
  rcases bst_form D p te M with h | ⟨h1, h2, h3, h4, h5⟩
  · rw [h]
    rfl
  · unfold tokAt
    rw [if_neg (by omega)]

theorem tks_ok (D : List Nat) (hD : ∀ x ∈ D, x < 256) (te R : Nat) : ∀ f p, toksOk R p (tks D te R f p)
  | 0, p => trivial
  | f + 1, p => by
    rw [tks]
    split
    · refine ⟨tokAt_ok D hD p te R, ?_⟩
      rw [tokAt_max]
      exact tks_ok D hD te R f _
    · trivial

theorem toksOk_at (R : Nat) : ∀ (T : List Tok) (o : Nat), toksOk R o T → ∀ (i : Nat) (out : List Nat), out.length = o → (hi : i < T.length) → tokOk R ((T.take i).foldl untk out).length T[i]
  | [], _, _, i, _, _, hi => by simp at hi
  | x :: r, o, h, 0, out, ho, hi => by
    simp only [List.take_zero, List.foldl_nil, List.getElem_cons_zero]
    rw [ho]
    exact h.1
  | x :: r, o, h, i + 1, out, ho, hi => by
    simp only [List.take_succ_cons, List.foldl_cons, List.getElem_cons_succ]
    exact toksOk_at R r _ h.2 i _ (by rw [untk_len, ho]) (by simpa using hi)

theorem fold_grow : ∀ (T : List Tok) (out : List Nat), out.length ≤ (T.foldl untk out).length
  | [], out => Nat.le_refl _
  | x :: r, out => by
    rw [List.foldl_cons]
    have := fold_grow r (untk out x)
    have := untk_len out x
    omega

end Go.Proofs.Ytcdoamaljgjojaa
