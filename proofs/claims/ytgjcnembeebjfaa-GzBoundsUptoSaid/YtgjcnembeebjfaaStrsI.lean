/- A slice of strings that came in. -/
import Derived.Test.YtgjcnembeebjfaaGLaw
import Derived.SliceStrings
namespace Go.Proofs.Ytgjcnembeebjfaa
open Go.ChangeShapes Go.WideShapes Go.ChangeAt Go.RowKit

/-- a slice of strings, as a walk reads it -/
def Strs (w : World) (v : Value) (ss : List ByteArray) : Prop :=
  ∃ (ao : Option Addr) (cap : Nat), v = .slice ao ss.length cap ∧ ss.length ≤ maxLen ∧ ∀ i, i < ss.length → ∃ a, ao = some a ∧ w.cell? (a.add i) = some (.string (ss.getD i ByteArray.empty))

theorem open_Strs {H : Type} {enc : TypeId × Value → H} {P : Program} {W : World} {r : Reach} {b0 : Nat} {t e : TypeId} {v : Value} {d : DataW H} {p : List MemPlace} (ht : P.underlying t = some (.slice e)) (he : P.underlying e = some .string) (hc : P.cellsOf e = 1)
    (hv : Value.okWide P W r b0 t v) (h : DataW.Trod enc P W 0 (fun _ => true) true t v d p) : ∃ ss, Strs W v ss ∧ ss.length = dataLen d := by
  obtain ⟨a0, len0, cap0, rfl⟩ := okWide_slice ht hv
  obtain ⟨fuel, hf⟩ := h
  rcases open_strings ht he hc hf with ⟨hcs, hx⟩ | ⟨a, len, cap, ss, hcs, _, hl, hm, hz, hx, hcell, hwz⟩
  · simp [Value.cells] at hcs
    obtain ⟨rfl, rfl, rfl⟩ := hcs
    simp only [Prod.mk.injEq] at hx
    obtain ⟨rfl, _⟩ := hx
    exact ⟨[], ⟨none, 0, rfl, Nat.zero_le _, fun i hi => absurd hi (by simp)⟩, rfl⟩
  · simp [Value.cells] at hcs
    obtain ⟨rfl, rfl, rfl⟩ := hcs
    simp only [Prod.mk.injEq] at hx
    obtain ⟨rfl, _⟩ := hx
    simp only [if_true] at hz
    have hlen : (ss.take len0).length = len0 := by rw [List.length_take]; omega
    refine ⟨ss.take len0, ⟨some a, cap0, by rw [hlen], by omega, fun i hi => ⟨a, rfl, ?_⟩⟩, ?_⟩
    · rw [hlen] at hi
      rw [hcell i (by omega)]
      simp [List.getD, show i < len0 by omega]
    · simp [dataLen, strs]

theorem strs_bulk {H : Type} (A : List ByteArray) : (A.map ByteArray.size).sum ≤ Rows.uptoBulkAll (strs (H := H) A) := by
  induction A with
  | nil => exact Nat.le_refl _
  | cons x r ih =>
    have e : Rows.uptoBulkAll (strs (H := H) (x :: r)) = (x.data.toList.length + 1) + Rows.uptoBulkAll (strs (H := H) r) := by simp [strs, Rows.uptoBulkAll, Rows.uptoBulk]
    have e2 : x.data.toList.length = x.size := by simp
    rw [e, List.map_cons, List.sum_cons]
    omega

/-- the same, with how many bytes they have in all -/
theorem open_StrsU {H : Type} {enc : TypeId × Value → H} {P : Program} {W : World} {r : Reach} {b0 : Nat} {t e : TypeId} {v : Value} {d : DataW H} {p : List MemPlace} (ht : P.underlying t = some (.slice e)) (he : P.underlying e = some .string) (hc : P.cellsOf e = 1)
    (hv : Value.okWide P W r b0 t v) (h : DataW.Trod enc P W 0 (fun _ => true) true t v d p) : ∃ ss, Strs W v ss ∧ ss.length = dataLen d ∧ (ss.map ByteArray.size).sum ≤ Rows.uptoBulk d := by
  obtain ⟨a0, len0, cap0, rfl⟩ := okWide_slice ht hv
  obtain ⟨fuel, hf⟩ := h
  rcases open_strings ht he hc hf with ⟨hcs, hx⟩ | ⟨a, len, cap, ss, hcs, _, hl, hm, hz, hx, hcell, hwz⟩
  · simp [Value.cells] at hcs
    obtain ⟨rfl, rfl, rfl⟩ := hcs
    simp only [Prod.mk.injEq] at hx
    obtain ⟨rfl, _⟩ := hx
    exact ⟨[], ⟨none, 0, rfl, Nat.zero_le _, fun i hi => absurd hi (by simp)⟩, rfl, Nat.zero_le _⟩
  · simp [Value.cells] at hcs
    obtain ⟨rfl, rfl, rfl⟩ := hcs
    simp only [Prod.mk.injEq] at hx
    obtain ⟨rfl, _⟩ := hx
    simp only [if_true] at hz
    have hlen : (ss.take len0).length = len0 := by rw [List.length_take]; omega
    refine ⟨ss.take len0, ⟨some a, cap0, by rw [hlen], by omega, fun i hi => ⟨a, rfl, ?_⟩⟩, ?_, ?_⟩
    · rw [hlen] at hi
      rw [hcell i (by omega)]
      simp [List.getD, show i < len0 by omega]
    · simp [dataLen, strs]
    · have := strs_bulk (H := H) (ss.take len0)
      simp only [Rows.uptoBulk]
      omega

end Go.Proofs.Ytgjcnembeebjfaa
