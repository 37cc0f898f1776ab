/- Rows of spans. -/
import Derived.Test.YthnljhcncpiemaaBase
import Derived.Test.YthnljhcncpiemaaLinP
namespace Go.Proofs.Ythnljhcncpiemaa
open Go.RowKit
set_option linter.unusedVariables false

def spCell (x : Nat × Nat) : List Value := [.int .i64 (x.1 : Int), .int .i64 (x.2 : Int)]
def spCells (L : List (Nat × Nat)) : List Value := L.flatMap spCell

/-- a row of spans of the call's own; e: the element's type -/
def PRow (e : TypeId) (w : World) (v : Value) (L : List (Nat × Nat)) : Prop := w.ownsRow 0 e 2 v L.length (spCells L)

theorem PRow.mut {e : TypeId} {w w' : World} {v : Value} {L : List (Nat × Nat)} {S : List Nat} (h : PRow e w v L) (hm : Mut S w w') (hs : ∀ g, v.ownBlock = some g → g ∉ S) : PRow e w' v L := hm.row h hs
theorem PRow.nil (e : TypeId) (w : World) : PRow e w (.slice none 0 0) [] := World.ownsRow_nil _ _ _ _
theorem PRow.form {e : TypeId} {w : World} {v : Value} {L : List (Nat × Nat)} (h : PRow e w v L) : ∃ p c, v = .slice p L.length c := by
  rcases h.2 with ⟨h, h'⟩ | ⟨g, cap, _, h, _⟩
  · exact ⟨none, 0, by rw [h, h']⟩
  · exact ⟨_, cap, h⟩
theorem PRow.lt {e : TypeId} {w : World} {v : Value} {L : List (Nat × Nat)} (h : PRow e w v L) {k : Nat} (hk : v.ownBlock = some k) : k < w.heap.size := by
  rcases h.2 with ⟨rfl, _⟩ | ⟨g, cap, cur, rfl, _, hh, _⟩
  · simp [Value.ownBlock] at hk
  · simp [Value.ownBlock] at hk
    subst hk
    exact lt_of_heap hh
/-- its block holds cells -/
theorem PRow.cellsBlock {e : TypeId} {w : World} {v : Value} {L : List (Nat × Nat)} (h : PRow e w v L) {k : Nat} (hk : v.ownBlock = some k) : ∃ c t fr, w.heap[k]? = some (.cells c t fr) := by
  rcases h.2 with ⟨rfl, _⟩ | ⟨g, cap, cur, rfl, _, hh, _⟩
  · simp [Value.ownBlock] at hk
  · simp [Value.ownBlock] at hk
    subst hk
    exact ⟨_, _, _, hh⟩
/-- a step that leaves its block -/
theorem PRow.grown {e : TypeId} {w w' : World} {v : Value} {L : List (Nat × Nat)} (h : PRow e w v L) {row : Option Nat} (hg : w.grownBy w' row) (hr : ∀ k, row = some k → v.ownBlock ≠ some k) : PRow e w' v L :=
  h.mut ((Mut.refl row.toList w).grown hg (fun k hk => .inl (by simp [hk]))) (fun g hg' hm => hr g (by simpa using hm) hg')

theorem spCells_snoc (L : List (Nat × Nat)) (x : Nat × Nat) : spCells (L ++ [x]) = spCells L ++ spCell x := by simp [spCells]

theorem spCells_at (T : List (Nat × Nat)) : ∀ (i : Nat) (hi : i < T.length) (j : Nat), j < 2 → (spCells T)[2 * i + j]? = (spCell (T[i]'hi))[j]? := by
  induction T with
  | nil => intro i hi; simp at hi
  | cons x r ih =>
    intro i hi j hj
    have e : spCells (x :: r) = spCell x ++ spCells r := by simp [spCells]
    rw [e]
    cases i with
    | zero =>
      rw [List.getElem?_append_left (by simp [spCell]; omega)]
      simp
    | succ i =>
      rw [List.getElem?_append_right (by simp [spCell]; omega)]
      have : 2 * (i + 1) + j - (spCell x).length = 2 * i + j := by simp [spCell]; omega
      rw [this, ih i (by simpa using hi) j hj]
      simp

theorem PRow.cells {e : TypeId} {w : World} {g n c : Nat} {T : List (Nat × Nat)} (h : PRow e w (.slice (some ⟨g, 0, none⟩) n c) T) (i : Nat) (hi : i < T.length) :
    w.cell? ⟨g, 2 * i, none⟩ = some (.int .i64 ((T[i]'hi).1 : Int)) ∧ w.cell? ⟨g, 2 * i + 1, none⟩ = some (.int .i64 ((T[i]'hi).2 : Int)) := by
  rcases h.2 with ⟨h1, _⟩ | ⟨g', cap, cur, h1, _, hh, r1, r2, r3, r4⟩
  · cases h1
  · simp only [Value.slice.injEq, Option.some.injEq, Addr.mk.injEq] at h1
    obtain ⟨⟨e1, -⟩, -, -⟩ := h1
    subst e1
    have key : ∀ j u, j < 2 → (spCell (T[i]'hi))[j]? = some u → w.cell? ⟨g, 2 * i + j, none⟩ = some u := by
      intro j u hj hu
      have h2 := spCells_at T i hi j hj
      rw [hu, ← r4, List.getElem?_take] at h2
      split at h2
      · exact cellOf hh _ (by simpa using h2)
      · simp at h2
    exact ⟨key 0 _ (by decide) rfl, key 1 _ (by decide) rfl⟩

theorem sp_one (x : Nat × Nat) : ∀ u ∈ spCell x, u.oneCell' = true := by
  intro u hu
  simp [spCell] at hu
  rcases hu with rfl | rfl <;> rfl

end Go.Proofs.Ythnljhcncpiemaa
