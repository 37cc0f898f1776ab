/- A slice of pairs of numbers that came in, read. -/
import Derived.Test.YthnljhcncpiemaaLaw
import Derived.Deep.Slices
import Derived.OpenShut
import Derived.ChangeSame
import Derived.Laws.IdiomArrays
namespace Go.Proofs.Ythnljhcncpiemaa
open Go Go.ChangeShapes Go.WideShapes Go.ChangeAt Go.RowKit Go.Deep

/-- a slice of pairs that came in -/
def Prs (w : World) (v : Value) (C : List (Int × Int)) : Prop :=
  ∃ ao cap, v = .slice ao C.length cap ∧ C.length ≤ cap ∧ cap ≤ maxLen ∧ (0 < C.length → ∃ b off, ao = some ⟨b, off, none⟩ ∧ b < w.heap.size ∧ ∀ i (h : i < C.length), w.cell? ⟨b, off + i * 2, none⟩ = some (.int .i64 (C[i]'h).1) ∧ w.cell? ⟨b, off + i * 2 + 1, none⟩ = some (.int .i64 (C[i]'h).2))

set_option maxRecDepth 100000 in
theorem cells_pr : Try.prog.cellsOf 34 = 2 := by kernel_rfl
set_option maxRecDepth 100000 in
theorem cells_pri : Try.prog.cellsOf 3 = 1 := by kernel_rfl

theorem trod_pair {H : Type} {enc : TypeId × Value → H} {P : Program} {w : World} {base : Nat} {spare : Nat → Bool} {held : Bool} {t e : TypeId} {fuel : Nat} {c0 c1 : Value} {x : DataW H × List MemPlace} (ht : P.underlying t = some (.array 2 e)) (hce : P.cellsOf e = 1)
    (h : DataW.trod enc P w base spare held fuel t [c0, c1] = some x) :
    ∃ y0 y1 n, DataW.trod enc P w base spare held n e [c0] = some y0 ∧ DataW.trod enc P w base spare held n e [c1] = some y1 := by
  cases fuel with
  | zero => simp [DataW.trod] at h
  | succ n =>
    unfold DataW.trod at h
    rw [ht] at h
    have r2 : List.range 2 = [0, 1] := rfl
    simp [r2, hce] at h
    obtain ⟨_, h⟩ := h
    cases h0 : DataW.trod enc P w base spare held n e [c0] with
    | none => simp [h0] at h
    | some y0 =>
      cases h1 : DataW.trod enc P w base spare held n e [c1] with
      | none => simp [h0, h1] at h
      | some y1 => exact ⟨y0, y1, n, h0, h1⟩

set_option maxRecDepth 100000 in
theorem open_Prs {H : Type} {enc : TypeId × Value → H} {W : World} {r : Reach} {b0 : Nat} {v : Value} {d : DataW H} {p : List MemPlace}
    (hv : Value.okWide Try.prog W r b0 33 v) (h : DataW.Trod enc Try.prog W 0 (fun _ => true) true 33 v d p) : ∃ C, Prs W v C ∧ C.length = dataLen d := by
  obtain ⟨a0, len0, cap0, rfl⟩ := okWide_slice Try.underlying33 hv
  obtain ⟨fuel, hf⟩ := h
  rcases open_slice Try.underlying33 hf with ⟨hcs, hx⟩ | ⟨a, len, cap, m, n, D, Pl, hcs, _, hl, hm, hmm, hx, hel⟩
  · simp [Value.cells] at hcs
    obtain ⟨rfl, rfl, rfl⟩ := hcs
    simp only [Prod.mk.injEq] at hx
    obtain ⟨rfl, _⟩ := hx
    exact ⟨[], ⟨none, 0, rfl, Nat.le_refl _, Nat.zero_le _, fun h => absurd h (by simp)⟩, rfl⟩
  · simp [Value.cells] at hcs
    obtain ⟨rfl, rfl, rfl⟩ := hcs
    simp only [Prod.mk.injEq] at hx
    obtain ⟨rfl, _⟩ := hx
    simp only [if_true] at hmm
    subst hmm
    obtain ⟨f, hfi⟩ := choose_lt (α := Int × Int) (p := fun i x => W.cell? (a.add (i * 2)) = some (.int .i64 x.1) ∧ W.cell? (a.add (i * 2 + 1)) = some (.int .i64 x.2)) (n := m) (fun i hi => by
      obtain ⟨cs', hc, ht⟩ := hel i hi
      rw [cells_pr] at hc
      obtain ⟨_, hlen, hat⟩ := World.cells?_some hc
      match cs', hlen with
      | [c0, c1], _ =>
        obtain ⟨y0, y1, n', g0, g1⟩ := trod_pair Try.underlying34 cells_pri ht
        obtain ⟨z0, e0, r0, w0⟩ := DataW.trod_int Try.underlying3 g0
        obtain ⟨z1, e1, r1, w1⟩ := DataW.trod_int Try.underlying3 g1
        simp at e0 e1
        subst e0 e1
        refine ⟨(z0, z1), ?_, ?_⟩
        · have := hat 0 (by decide); rw [add_add] at this; simpa using this
        · have := hat 1 (by decide); rw [add_add] at this; simpa using this)
    have hlC : ((List.range len0).map f).length = len0 := by simp
    refine ⟨(List.range len0).map f, ⟨some a, m, by rw [hlC], by rw [hlC]; exact hl, hm, fun hp => ?_⟩, by rw [hlC]; simp [dataLen]⟩
    rw [hlC] at hp
    obtain ⟨b, off, spot⟩ := a
    have hspot : spot = none := by simpa [Addr.add] using World.cell?_spot (hfi 0 (by omega)).1
    subst hspot
    have pl : ∀ j, (⟨b, off, none⟩ : Addr).add j = ⟨b, off + j, none⟩ := fun j => add_plain b off j
    refine ⟨b, off, rfl, World.block_lt_of_cell? W ⟨b, off + 0 * 2, none⟩ (by have := (hfi 0 (by omega)).1; rwa [pl] at this), fun i hi => ?_⟩
    rw [hlC] at hi
    obtain ⟨h0, h1⟩ := hfi i (by omega)
    rw [pl] at h0 h1
    simp only [List.getElem_map, List.getElem_range]
    exact ⟨h0, by rw [← h1, Nat.add_assoc]⟩

end Go.Proofs.Ythnljhcncpiemaa
