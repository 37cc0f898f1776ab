/- Plain laws of templates: digits, numbers, pieces. No program. -/
import Derived.Test.YtekgoldkcmehcaaBase
import Derived.Test.YtekgoldkcmehcaaStrP
namespace Go.Proofs.Ytekgoldkcmehcaa
set_option linter.unusedVariables false

def isDg (c : Nat) : Bool := decide (48 ≤ c) && decide (c ≤ 57)
def dgs (D : List Nat) : List Nat := (D.take 4).takeWhile isDg
def dval (L : List Nat) : Nat := L.foldl (fun a c => 10 * a + (c - 48)) 0

theorem tw_next {p : Nat → Bool} : ∀ (L : List Nat) (k : Nat), k < (L.takeWhile p).length → ∃ h : k < L.length, p L[k] = true ∧ (L.takeWhile p)[k]? = some L[k]
  | [], k, h => by simp at h
  | a :: r, k, h => by
    rw [List.takeWhile_cons] at h ⊢
    by_cases hp : p a = true
    · simp only [hp, if_true] at h ⊢
      cases k with
      | zero => exact ⟨by simp, by simpa using hp, by simp⟩
      | succ k =>
        obtain ⟨h1, h2, h3⟩ := tw_next r k (by simpa using h)
        exact ⟨by simp; omega, by simpa using h2, by simpa using h3⟩
    · simp [hp] at h
theorem tw_end {p : Nat → Bool} : ∀ (L : List Nat), L.length ≤ (L.takeWhile p).length ∨ ∃ h : (L.takeWhile p).length < L.length, p L[(L.takeWhile p).length] = false
  | [] => by simp
  | a :: r => by
    by_cases hp : p a = true
    · rcases tw_end (p := p) r with h | ⟨h, h2⟩
      · left; simp [hp]; omega
      · right
        have e : ((a :: r).takeWhile p).length = (r.takeWhile p).length + 1 := by simp [hp]
        refine ⟨by simp only [e, List.length_cons]; omega, ?_⟩
        simp only [e, List.getElem_cons_succ]
        exact h2
    · right
      have hp' : p a = false := by simpa using hp
      simp only [List.takeWhile_cons, hp', List.length_cons]
      exact ⟨by simp, by simpa using hp'⟩

theorem dgs_len (D : List Nat) : (dgs D).length ≤ 4 ∧ (dgs D).length ≤ D.length := by
  have h : (dgs D).length ≤ (D.take 4).length := (List.takeWhile_sublist isDg).length_le
  rw [List.length_take] at h
  omega

theorem dgs_next (D : List Nat) (k : Nat) (h : k < (dgs D).length) : k < D.length ∧ k < 4 ∧ 48 ≤ D.getD k 0 ∧ D.getD k 0 ≤ 57 ∧ dval ((dgs D).take (k + 1)) = 10 * dval ((dgs D).take k) + (D.getD k 0 - 48) := by
  obtain ⟨h1, h2, h3⟩ := tw_next (D.take 4) k h
  have h1' := h1
  rw [List.length_take] at h1'
  rw [List.getElem_take] at h2 h3
  have e : D.getD k 0 = D[k]'(by omega) := by simp [List.getD, show k < D.length by omega]
  rw [e]
  simp only [isDg, Bool.and_eq_true, decide_eq_true_eq] at h2
  refine ⟨by omega, by omega, h2.1, h2.2, ?_⟩
  have h4 : (dgs D)[k]? = some (D[k]'(by omega)) := h3
  rw [List.take_add_one, h4]
  simp [dval]

theorem dgs_end (D : List Nat) : D.length ≤ (dgs D).length ∨ 4 ≤ (dgs D).length ∨ ¬ (48 ≤ D.getD (dgs D).length 0 ∧ D.getD (dgs D).length 0 ≤ 57) := by
  rcases tw_end (p := isDg) (D.take 4) with h | ⟨h, h2⟩
  · rw [List.length_take] at h
    have : min 4 D.length ≤ (dgs D).length := h
    omega
  · right; right
    rw [List.getElem_take] at h2
    rw [List.length_take] at h
    have hd : (dgs D).length < D.length := by
      have : (dgs D).length < min 4 D.length := h
      omega
    have e : D.getD (dgs D).length 0 = D[(dgs D).length]'hd := by simp [List.getD, hd]
    rw [e]
    have h3 : isDg (D[(dgs D).length]'hd) = false := h2
    intro hc
    simp [isDg, hc.1, hc.2] at h3

theorem dval_lt (D : List Nat) : ∀ k, k ≤ (dgs D).length → dval ((dgs D).take k) < 10 ^ k
  | 0, _ => by simp [dval]
  | k + 1, h => by
    have h1 := dval_lt D k (by omega)
    obtain ⟨-, -, -, h2, h3⟩ := dgs_next D k (by omega)
    rw [h3, Nat.pow_succ]
    omega
theorem dval_le (D : List Nat) (k : Nat) (h : k ≤ (dgs D).length) : dval ((dgs D).take k) ≤ 9999 := by
  have h1 := dval_lt D k h
  have h2 := (dgs_len D).1
  have h3 : 10 ^ k ≤ 10 ^ 4 := Nat.pow_le_pow_right (by decide) (by omega)
  have h4 : (10 : Nat) ^ 4 = 10000 := by decide
  omega

end Go.Proofs.Ytekgoldkcmehcaa
