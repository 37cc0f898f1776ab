/- Walk over what all laws of package gz ask first; what Read answers, in one form. -/
import Derived.Test.YtgjcnembeebjfaaGzW7
import Derived.Test.YtgjcnembeebjfaaGLaw
import Derived.Deep.DeepCutAuto
namespace Go.Proofs.Ytgjcnembeebjfaa
open Go.RowKit
set_option linter.unusedVariables false

theorem speaks_sum : sumOf (bytesOf ⟨#[49, 50, 51, 52, 53, 54, 55, 56, 57]⟩) = 3421780262 := by decide +kernel

theorem speaks5_any (w : World) : Calls Try.prog 9 #[] w fun e w' => e = .returned (.bool true) ∧ Mut [] w w' := by
  have h := sum_any ⟨#[49, 50, 51, 52, 53, 54, 55, 56, 57]⟩ (by decide) w
  rw [speaks_sum] at h
  have H := Lib.hid h
  clear h
  go_enter Try.func9, Try.ntmps9
  go_wp2_with fail
  refine H.out.mono ?_
  rintro e w1 ⟨rfl, rfl⟩
  go_wp2_with fail
  go_ret
  exact ⟨rfl, Mut.refl _ _⟩


/-- the parts of an answer, and what is wrong with it -/
def RL (R : RR (List GPart)) : List GPart := match R with | .ok l _ => l | .bad _ _ => []
def RC (R : RR (List GPart)) : Nat := match R with | .ok _ _ => 0 | .bad c _ => c
def RF (R : RR (List GPart)) : Nat := match R with | .ok _ _ => 0 | .bad _ f => f
theorem readRes_flat {w w' : World} {R : RR (List GPart)} {v : Value} (h : readRes w R v w') :
    ∃ p c, v = .tuple #[.slice p (RL R).length c, .agg #[.int .i64 (RC R : Int), .int .i64 (RF R : Int)]] ∧ w'.ownsRow 0 37 9 (.slice p (RL R).length c) (RL R).length (gpL (RL R)) := by
  cases R with
  | ok l a =>
    obtain ⟨p, c, h1, h2, -⟩ := h
    exact ⟨p, c, h1, h2⟩
  | bad c f => exact ⟨none, 0, h, World.ownsRow_nil _ _ _ _⟩

theorem gpL_at (T : List GPart) : ∀ (i : Nat) (hi : i < T.length) (j : Nat), j < 9 → (gpL T)[i * 9 + j]? = (gpC (T[i]'hi))[j]? := by
  induction T with
  | nil => intro i hi; simp at hi
  | cons x r ih =>
    intro i hi j hj
    have e : gpL (x :: r) = gpC x ++ gpL r := rfl
    rw [e]
    cases i with
    | zero =>
      rw [List.getElem?_append_left (by simp [gpC]; omega)]
      simp
    | succ i =>
      rw [List.getElem?_append_right (by simp [gpC]; omega)]
      have : (i + 1) * 9 + j - (gpC x).length = i * 9 + j := by simp [gpC]; omega
      rw [this, ih i (by simpa using hi) j hj]
      simp
theorem rowAt9 {w : World} {e : TypeId} {g n c : Nat} {T : List GPart} (h : w.ownsRow 0 e 9 (.slice (some ⟨g, 0, none⟩) n c) n (gpL T)) (i : Nat) (hi : i < T.length) :
    ∀ j u, j < 9 → (gpC (T[i]'hi))[j]? = some u → w.cell? ⟨g, i * 9 + j, none⟩ = some u := by
  rcases h.2 with ⟨h1, _⟩ | ⟨g', cap, cur, h1, _, hh, r1, r2, r3, r4⟩
  · cases h1
  · simp only [Value.slice.injEq, Option.some.injEq, Addr.mk.injEq] at h1
    obtain ⟨⟨e1, -⟩, -, -⟩ := h1
    subst e1
    intro j u hj hu
    have h2 := gpL_at T i hi j hj
    rw [hu, ← r4, List.getElem?_take] at h2
    split at h2
    · exact cellOf hh _ (by simpa using h2)
    · simp at h2

theorem size_empty {s : ByteArray} (h : s.size = 0) : s = .empty := by
  apply bytesOf_inj
  rw [List.eq_nil_of_length_eq_zero (l := bytesOf s) (by rw [bytesOf_length]; exact h)]
  rfl

/-- what a reading answers, as the law takes it -/
def RdAns (D : ByteArray) (k : Nat) (n c f : Nat) (L : List GPart) : Prop :=
  L.length = n ∧ ∀ w, Calls Try.prog 10 #[.string D, .int .i64 (k : Int)] w fun e w' => ∃ p cc, e = .returned (.tuple #[.slice p n cc, .agg #[.int .i64 (c : Int), .int .i64 (f : Int)]]) ∧ w'.ownsRow 0 37 9 (.slice p n cc) n (gpL L) ∧ Mut [] w w'

theorem ans_of (fu : Nat) (D : ByteArray) (hfu : 8 * D.size < fu) (most : Nat) (hmost : most ≤ 1073741824) (hD : D.size ≤ 1099511627776) (R : RR (List GPart)) (hR : readN fu D 1026 most 0 [] = R) : RdAns D most (RL R).length (RC R) (RF R) (RL R) := by
  refine ⟨rfl, fun w => (gz_read_any fu D hfu most hmost hD R hR w).mono ?_⟩
  rintro e w' ⟨v, rfl, h, hm⟩
  obtain ⟨p, c, rfl, hr⟩ := readRes_flat h
  exact ⟨p, c, rfl, hr, hm⟩

end Go.Proofs.Ytgjcnembeebjfaa
