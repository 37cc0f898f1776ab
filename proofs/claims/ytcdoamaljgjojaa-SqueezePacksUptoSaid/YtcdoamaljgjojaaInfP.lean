/- Plain laws: lengths and distances of symbols, and how many symbols tell one. No program. -/
import Derived.Test.YtcdoamaljgjojaaBitsQ
namespace Go.Proofs.Ytcdoamaljgjojaa
open Go.RowKit

/-- the least length of a symbol, and how many bits more tell it -/
def lenR (s : Nat) : Nat × Nat := if s < 265 then (s - 254, 0) else if s = 285 then (258, 0) else (3 + (4 + (s - 261) % 4) * 2 ^ ((s - 261) / 4), (s - 261) / 4)
/-- the least distance of a symbol, and how many bits more tell it -/
def distR (s : Nat) : Nat × Nat := if s < 4 then (s + 1, 0) else (1 + (2 + s % 2) * 2 ^ (s / 2 - 1), s / 2 - 1)

theorem lenR_small : ∀ s, s < 286 → 257 ≤ s → (lenR s).1 ≤ 258 ∧ (lenR s).2 ≤ 5 := by decide +kernel
theorem distR_small : ∀ s, s < 31 → (distR s).1 ≤ 32769 ∧ (distR s).2 ≤ 14 := by decide +kernel
theorem lenR_succ : ∀ s, s < 284 → 257 ≤ s → (lenR (s + 1)).1 = (lenR s).1 + 2 ^ (lenR s).2 := by decide +kernel
theorem distR_succ : ∀ s, s < 30 → (distR (s + 1)).1 = (distR s).1 + 2 ^ (distR s).2 := by decide +kernel

def lenLo (s : Nat) : Nat := if s = 286 then 259 else (lenR s).1
theorem lenLo_succ : ∀ s, s < 286 → 257 ≤ s → lenLo (s + 1) + (if s = 284 then 1 else 0) = (lenR s).1 + 2 ^ (lenR s).2 := by decide +kernel
theorem lenLo_mono : ∀ s, s < 286 → 257 ≤ s → lenLo s ≤ lenLo (s + 1) := by decide +kernel

/-- how many numbers below k -/
def cnt (f : Nat → Bool) : Nat → Nat
  | 0 => 0
  | k + 1 => cnt f k + if f k then 1 else 0

theorem cnt_le (f : Nat → Bool) (k : Nat) : cnt f k ≤ k := by
  induction k with
  | zero => simp [cnt]
  | succ k ih => simp only [cnt]; split <;> omega

theorem cnt_none (f : Nat → Bool) (a : Nat) (h : ∀ s, s < a → f s = false) : cnt f a = 0 := by
  induction a with
  | zero => rfl
  | succ a ih => simp [cnt, ih (fun s hs => h s (by omega)), h a (by omega)]

theorem cnt_tele (f : Nat → Bool) (lo : Nat → Nat) (x a : Nat) (h0 : ∀ s, s < a → f s = false) (k : Nat) (hm : ∀ s, a ≤ s → s < a + k → lo s ≤ lo (s + 1)) (hf : ∀ s, a ≤ s → s < a + k → f s = decide (lo s ≤ x ∧ x < lo (s + 1))) :
    cnt f (a + k) = (if lo a ≤ x ∧ x < lo (a + k) then 1 else 0) ∧ lo a ≤ lo (a + k) := by
  induction k with
  | zero => simp [cnt_none f a h0]
  | succ k ih =>
    obtain ⟨e, m⟩ := ih (fun s h1 h2 => hm s h1 (by omega)) (fun s h1 h2 => hf s h1 (by omega))
    have h1 := hm (a + k) (by omega) (by omega)
    rw [← Nat.add_assoc, cnt, e, hf (a + k) (by omega) (by omega)]
    refine ⟨?_, by omega⟩
    by_cases c1 : lo a ≤ x <;> by_cases c2 : x < lo (a + k) <;> by_cases c3 : x < lo (a + k + 1) <;> by_cases c4 : lo (a + k) ≤ x <;> simp [c1, c2, c3, c4] <;> omega

theorem cnt_after (f : Nat → Bool) (b j : Nat) (h : ∀ s, b ≤ s → f s = false) : cnt f (b + j) = cnt f b := by
  induction j with
  | zero => rfl
  | succ j ih => rw [← Nat.add_assoc, cnt, ih, h (b + j) (by omega)]; simp

/-- does a symbol tell a length? -/
def inLen (x s : Nat) : Bool := decide (257 ≤ s ∧ s ≤ 285) && (decide ((lenR s).1 ≤ x) && (decide (x < (lenR s).1 + 2 ^ (lenR s).2) && (decide (s ≠ 284) || decide (x ≠ 258))))
def inDist (x s : Nat) : Bool := decide (s ≤ 29) && (decide ((distR s).1 ≤ x) && decide (x < (distR s).1 + 2 ^ (distR s).2))

theorem one_length (x : Nat) (h3 : 3 ≤ x) (h : x ≤ 258) : cnt (inLen x) 300 = 1 := by
  rw [show 300 = 286 + 14 from rfl, cnt_after (inLen x) 286 14 (fun s hs => by unfold inLen; rw [decide_eq_false (by omega)]; rfl)]
  have := (cnt_tele (inLen x) lenLo x 257 (fun s hs => by unfold inLen; rw [decide_eq_false (by omega)]; rfl) 29 (fun s h1 h2 => lenLo_mono s h2 h1) (fun s h1 h2 => by
    have e1 := lenLo_succ s h2 h1
    have e2 : lenLo s = (lenR s).1 := by unfold lenLo; rw [if_neg (by omega)]
    unfold inLen
    rw [e2, decide_eq_true (by omega : 257 ≤ s ∧ s ≤ 285), Bool.true_and]
    generalize (lenR s).1 + 2 ^ (lenR s).2 = B at *
    generalize (lenR s).1 = A at *
    by_cases h4 : s = 284
    · subst h4
      have e3 : lenLo (284 + 1) = 258 := by decide +kernel
      rw [e3] at e1 ⊢
      have e4 : B = 259 := by simpa using e1.symm
      subst e4
      by_cases c1 : A ≤ x
      · by_cases c2 : x < 258
        · simp [c1, c2, show x < 259 by omega, show ¬ x = 258 by omega]
        · by_cases c3 : x = 258
          · simp [c3]
          · simp [c2, show ¬ x < 259 by omega]
      · simp [c1]
    · rw [if_neg h4] at e1
      simp only [Nat.add_zero] at e1
      rw [e1]
      simp [h4])).1
  rw [this]
  exact if_pos ⟨h3, by show x < 259; omega⟩

theorem one_distance (x : Nat) (h1 : 1 ≤ x) (h : x ≤ 32768) : cnt (inDist x) 300 = 1 := by
  rw [show 300 = 30 + 270 from rfl, cnt_after (inDist x) 30 270 (fun s hs => by unfold inDist; rw [decide_eq_false (by omega)]; rfl)]
  have := (cnt_tele (inDist x) (fun s => (distR s).1) x 0 (fun s hs => by omega) 30 (fun s _ h2 => by have := distR_succ s (by omega); simp only [this]; exact Nat.le_add_right _ _) (fun s _ h2 => by
    have e1 := distR_succ s (by omega)
    unfold inDist
    simp only [e1]
    rw [decide_eq_true (by omega : s ≤ 29)]
    simp)).1
  simp only [Nat.zero_add] at this
  rw [this]
  exact if_pos ⟨h1, by show x < 32769; omega⟩

end Go.Proofs.Ytcdoamaljgjojaa
