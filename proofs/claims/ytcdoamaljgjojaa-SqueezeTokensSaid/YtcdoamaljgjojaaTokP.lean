/- Tokens, plain: how far bytes are alike, the best length, all tokens of a span. No program. -/
import Derived.Test.YtcdoamaljgjojaaStrP
namespace Go.Proofs.Ytcdoamaljgjojaa
open Go.RowKit
set_option linter.unusedVariables false

/-- is the byte at p + c the one d ahead of it, within the span? -/
def alkC (D : List Nat) (p to d c : Nat) : Prop := p + c < to ∧ D.getD (p + c) 0 = D.getD (p + c - d) 0
instance (D : List Nat) (p to d c : Nat) : Decidable (alkC D p to d c) := inferInstanceAs (Decidable (_ ∧ _))

/-- how many bytes are alike, of at most c -/
def alk (D : List Nat) (p to d : Nat) : Nat → Nat
  | 0 => 0
  | c + 1 => if alk D p to d c = c ∧ alkC D p to d c then c + 1 else alk D p to d c

theorem alk_le (D : List Nat) (p to d c : Nat) : alk D p to d c ≤ c := by
  induction c with
  | zero => exact Nat.le_refl _
  | succ c ih =>
    rw [alk]
    split <;> omega

theorem alk_stop (D : List Nat) (p to d n : Nat) (h : alk D p to d n = n) (hc : ¬ alkC D p to d n) : ∀ j, alk D p to d (n + j) = n
  | 0 => h
  | j + 1 => by
    have ih := alk_stop D p to d n h hc j
    rw [show n + (j + 1) = n + j + 1 from rfl, alk]
    rw [if_neg, ih]
    rintro ⟨h1, h2⟩
    rw [ih] at h1
    have : j = 0 := by omega
    subst this
    exact hc h2

theorem alk_all (D : List Nat) (p to d : Nat) : ∀ c j, j < alk D p to d c → alkC D p to d j
  | 0, j, h => by simp [alk] at h
  | c + 1, j, h => by
    rw [alk] at h
    split at h
    · rename_i h1
      by_cases hj : j = c
      · subst hj; exact h1.2
      · exact alk_all D p to d c j (by omega)
    · exact alk_all D p to d c j h

theorem alk_full (D : List Nat) (p to d n : Nat) (h : ∀ j, j < n → alkC D p to d j) : alk D p to d n = n := by
  induction n with
  | zero => rfl
  | succ n ih =>
    rw [alk, if_pos ⟨ih (fun j hj => h j (by omega)), h n (by omega)⟩]

/-- the best length and distance, of distances up to d -/
def bst (D : List Nat) (p to : Nat) : Nat → Nat × Nat
  | 0 => (0, 0)
  | d + 1 => if 3 ≤ alk D p to (d + 1) 258 ∧ (bst D p to d).1 < alk D p to (d + 1) 258 then (alk D p to (d + 1) 258, d + 1) else bst D p to d

theorem bst_form (D : List Nat) (p to : Nat) : ∀ d, bst D p to d = (0, 0) ∨ (3 ≤ (bst D p to d).1 ∧ (bst D p to d).1 ≤ 258 ∧ 1 ≤ (bst D p to d).2 ∧ (bst D p to d).2 ≤ d ∧ (bst D p to d).1 = alk D p to (bst D p to d).2 258)
  | 0 => .inl rfl
  | d + 1 => by
    obtain ⟨a, ha⟩ : ∃ a, alk D p to (d + 1) 258 = a := ⟨_, rfl⟩
    have hle := alk_le D p to (d + 1) 258
    rw [ha] at hle
    rw [bst, ha]
    split
    · rename_i h
      exact .inr ⟨h.1, hle, Nat.succ_le_succ (Nat.zero_le _), Nat.le_refl _, ha.symm⟩
    · rcases bst_form D p to d with h | h
      · exact .inl h
      · exact .inr ⟨h.1, h.2.1, h.2.2.1, by omega, h.2.2.2.2⟩

/-- a token: a byte, a length, a distance -/
abbrev Tok := Nat × Nat × Nat
def tokAt (D : List Nat) (p : Nat) (b : Nat × Nat) : Tok := if b.1 = 0 then (D.getD p 0, 0, 0) else (0, b.1, b.2)
/-- all tokens from a place on -/
def tks (D : List Nat) (to R : Nat) : Nat → Nat → List Tok
  | 0, _ => []
  | f + 1, p => if p < to then tokAt D p (bst D p to (min R p)) :: tks D to R f (p + max (bst D p to (min R p)).1 1) else []

theorem tks_end (D : List Nat) (to R f p : Nat) (h : to ≤ p) : tks D to R f p = [] := by
  cases f with
  | zero => rfl
  | succ f => rw [tks, if_neg (by omega)]

theorem tks_fuel (D : List Nat) (to R : Nat) : ∀ f g p, to - p < f → to - p < g → tks D to R f p = tks D to R g p
  | 0, _, _, h, _ => by omega
  | _ + 1, 0, _, _, h => by omega
  | f + 1, g + 1, p, h1, h2 => by
    rw [tks, tks]
    split
    · rw [tks_fuel D to R f g _ (by omega) (by omega)]
    · rfl

/-- the next token -/
theorem tks_next (D : List Nat) (to R f p : Nat) (h : p < to) (hf : to - p < f) : tks D to R f p = tokAt D p (bst D p to (min R p)) :: tks D to R f (p + max (bst D p to (min R p)).1 1) := by
  obtain ⟨g, rfl⟩ : ∃ g, f = g + 1 := ⟨f - 1, by omega⟩
  rw [tks, if_pos h]
  congr 1
  exact tks_fuel D to R _ _ _ (by omega) (by omega)

theorem tks_len (D : List Nat) (to R : Nat) : ∀ f p, (tks D to R f p).length ≤ to - p
  | 0, p => by simp [tks]
  | f + 1, p => by
    rw [tks]
    split
    · rw [List.length_cons]
      have := tks_len D to R f (p + max (bst D p to (min R p)).1 1)
      omega
    · simp

/-! a byte again and again -/
theorem rep_alike (b n p d : Nat) (hd : d ≤ p) (c : Nat) : alk (List.replicate n b) p n d c = min c (n - p) := by
  have hC : ∀ j, alkC (List.replicate n b) p n d j ↔ p + j < n := by
    intro j
    unfold alkC
    refine ⟨fun h => h.1, fun h => ⟨h, ?_⟩⟩
    simp only [List.getD, List.getElem?_replicate]
    rw [if_pos h, if_pos (by omega)]
  by_cases hcn : c ≤ n - p
  · rw [alk_full _ _ _ _ _ (fun j hj => (hC j).2 (by omega))]
    omega
  · have h1 := alk_full (List.replicate n b) p n d (n - p) (fun j hj => (hC j).2 (by omega))
    have h2 := alk_stop (List.replicate n b) p n d (n - p) h1 (fun h => by have := (hC _).1 h; omega) (c - (n - p))
    rw [show n - p + (c - (n - p)) = c by omega] at h2
    rw [h2]
    omega

/-- how many tokens tell so many bytes that are like the one ahead -/
def manyT (r : Nat) : Nat := r / 258 + if 3 ≤ r % 258 then 1 else r % 258

theorem rep_count (b n : Nat) : ∀ (f p : Nat), 1 ≤ p → n - p < f → (tks (List.replicate n b) n 1 f p).length = manyT (n - p)
  | 0, p, _, h => by omega
  | f + 1, p, hp, h => by
    rw [tks]
    by_cases hpn : p < n
    · rw [if_pos hpn, List.length_cons, show min 1 p = 1 by omega]
      have hb : bst (List.replicate n b) p n 1 = if 3 ≤ min 258 (n - p) then (min 258 (n - p), 1) else (0, 0) := by
        show (if 3 ≤ alk (List.replicate n b) p n 1 258 ∧ 0 < alk (List.replicate n b) p n 1 258 then (alk (List.replicate n b) p n 1 258, 1) else (0, 0)) = _
        rw [rep_alike b n p 1 hp 258]
        by_cases h3 : 3 ≤ min 258 (n - p)
        · rw [if_pos ⟨h3, by omega⟩, if_pos h3]
        · rw [if_neg (fun h => h3 h.1), if_neg h3]
      rw [hb]
      obtain ⟨m, hm⟩ : ∃ m, min 258 (n - p) = m := ⟨_, rfl⟩
      rw [hm]
      by_cases h3 : 3 ≤ m
      · rw [if_pos h3]
        show (tks (List.replicate n b) n 1 f (p + max m 1)).length + 1 = _
        rw [rep_count b n f (p + max m 1) (by omega) (by omega)]
        unfold manyT
        by_cases h4 : n - p ≤ 258
        · rw [show n - (p + max m 1) = 0 by omega]
          by_cases h5 : n - p = 258
          · rw [h5]
            rfl
          · rw [show (n - p) / 258 = 0 by omega, show (n - p) % 258 = n - p by omega, if_pos (by omega : 3 ≤ n - p)]
            rfl
        · rw [show n - (p + max m 1) = n - p - 258 by omega]
          rw [show (n - p) / 258 = (n - p - 258) / 258 + 1 by omega, show (n - p) % 258 = (n - p - 258) % 258 by omega]
          omega
      · rw [if_neg h3]
        show (tks (List.replicate n b) n 1 f (p + max 0 1)).length + 1 = _
        rw [rep_count b n f (p + max 0 1) (by omega) (by omega)]
        unfold manyT
        rw [show n - (p + max 0 1) = n - p - 1 by omega, show (n - p) / 258 = 0 by omega, show (n - p - 1) / 258 = 0 by omega, show (n - p) % 258 = n - p by omega, show (n - p - 1) % 258 = n - p - 1 by omega, if_neg (by omega), if_neg (by omega)]
        omega
    · rw [if_neg hpn, show n - p = 0 by omega]
      decide

theorem rep_all (b n f : Nat) (hf : n < f) : (tks (List.replicate n b) n 1 f 0).length = min n 1 + manyT (n - min n 1) := by
  obtain ⟨g, rfl⟩ : ∃ g, f = g + 1 := ⟨f - 1, by omega⟩
  by_cases h : 0 < n
  · rw [tks, if_pos h, List.length_cons]
    show (tks (List.replicate n b) n 1 g (0 + max 0 1)).length + 1 = _
    rw [show 0 + max 0 1 = 1 from rfl, rep_count b n g 1 (by omega) (by omega), show min n 1 = 1 by omega]
    omega
  · rw [tks, if_neg h, show n = 0 by omega]
    decide

theorem rep_none (D : List Nat) (n : Nat) : ∀ (f p : Nat), n - p < f → (tks D n 0 f p).length = n - p
  | 0, p, h => by omega
  | f + 1, p, h => by
    rw [tks]
    split
    · rw [List.length_cons]
      show (tks D n 0 f (p + max (bst D p n (min 0 p)).1 1)).length + 1 = _
      rw [show min 0 p = 0 by omega]
      show (tks D n 0 f (p + max 0 1)).length + 1 = _
      rw [rep_none D n f (p + max 0 1) (by omega)]
      omega
    · simp; omega

end Go.Proofs.Ytcdoamaljgjojaa
