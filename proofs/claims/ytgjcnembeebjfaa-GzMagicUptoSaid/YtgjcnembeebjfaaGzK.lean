/- Walk over what all laws of package gz ask first; what Read answers, in one form. -/
import Derived.Test.YtgjcnembeebjfaaGzW7
import Derived.Test.YtgjcnembeebjfaaGLaw
import Derived.Deep.DeepCutAuto
namespace Go.Proofs.Ytgjcnembeebjfaa
open Go.RowKit
set_option linter.unusedVariables false

theorem speaks_sum : sumOf (bytesOf ⟨#[49, 50, 51, 52, 53, 54, 55, 56, 57]⟩) = 3421780262 := by decide +kernel

theorem speaks5_any (w : World) : Calls Try.prog 9 #[] w fun e w' => e = .returned (.bool true) ∧ Mut [] w w' := by
  have h := sum_any ⟨#[49, 50, 51, 52, 53, 54, 55, 56, 57]⟩ (by decide) w
  rw [speaks_sum] at h
  have H := Lib.hid h
  clear h
  go_enter Try.func9, Try.ntmps9
  go_wp2_with fail
  refine H.out.mono ?_
  rintro e w1 ⟨rfl, rfl⟩
  go_wp2_with fail
  go_ret
  exact ⟨rfl, Mut.refl _ _⟩


/-- the parts of an answer, and what is wrong with it -/
def RL (R : RR (List GPart)) : List GPart := match R with | .ok l _ => l | .bad _ _ => []
def RC (R : RR (List GPart)) : Nat := match R with | .ok _ _ => 0 | .bad c _ => c
def RF (R : RR (List GPart)) : Nat := match R with | .ok _ _ => 0 | .bad _ f => f
theorem readRes_flat {w w' : World} {R : RR (List GPart)} {v : Value} (h : readRes w R v w') :
    ∃ p c, v = .tuple #[.slice p (RL R).length c, .agg #[.int .i64 (RC R : Int), .int .i64 (RF R : Int)]] ∧ w'.ownsRow 0 37 9 (.slice p (RL R).length c) (RL R).length (gpL (RL R)) := by
  cases R with
  | ok l a =>
    obtain ⟨p, c, h1, h2, -⟩ := h
    exact ⟨p, c, h1, h2⟩
  | bad c f => exact ⟨none, 0, h, World.ownsRow_nil _ _ _ _⟩

theorem size_empty {s : ByteArray} (h : s.size = 0) : s = .empty := by
  apply bytesOf_inj
  rw [List.eq_nil_of_length_eq_zero (l := bytesOf s) (by rw [bytesOf_length]; exact h)]
  rfl

end Go.Proofs.Ytgjcnembeebjfaa
