/- Rows of tokens. -/
import Derived.Test.YtcdoamaljgjojaaTokP
import Derived.Test.YtcdoamaljgjojaaBase
namespace Go.Proofs.Ytcdoamaljgjojaa
open Go.RowKit
set_option linter.unusedVariables false

def tokCell (x : Tok) : List Value := [.int .u8 (x.1 : Int), .int .i64 (x.2.1 : Int), .int .i64 (x.2.2 : Int)]
def tokCells (T : List Tok) : List Value := T.flatMap tokCell

/-- a row of tokens of the call's own; e: the element's type -/
def TRow (e : TypeId) (w : World) (v : Value) (T : List Tok) : Prop := w.ownsRow 0 e 3 v T.length (tokCells T)

theorem TRow.mut {e : TypeId} {w w' : World} {v : Value} {T : List Tok} {S : List Nat} (h : TRow e w v T) (hm : Mut S w w') (hs : ∀ g, v.ownBlock = some g → g ∉ S) : TRow e w' v T := hm.row h hs
theorem TRow.nil (e : TypeId) (w : World) : TRow e w (.slice none 0 0) [] := World.ownsRow_nil _ _ _ _
theorem TRow.form {e : TypeId} {w : World} {v : Value} {T : List Tok} (h : TRow e w v T) : ∃ p c, v = .slice p T.length c := by
  rcases h.2 with ⟨h, h'⟩ | ⟨g, cap, _, h, _⟩
  · exact ⟨none, 0, by rw [h, h']⟩
  · exact ⟨_, cap, h⟩

theorem TRow.lt {e : TypeId} {w : World} {v : Value} {T : List Tok} (h : TRow e w v T) {k : Nat} (hk : v.ownBlock = some k) : k < w.heap.size := by
  rcases h.2 with ⟨rfl, _⟩ | ⟨g, cap, cur, rfl, _, hh, _⟩
  · simp [Value.ownBlock] at hk
  · simp [Value.ownBlock] at hk
    subst hk
    exact lt_of_heap hh

theorem tokCells_snoc (T : List Tok) (x : Tok) : tokCells (T ++ [x]) = tokCells T ++ tokCell x := by simp [tokCells]

theorem tokCells_len (T : List Tok) : (tokCells T).length = 3 * T.length := by
  induction T with
  | nil => rfl
  | cons x r ih =>
    have : tokCells (x :: r) = tokCell x ++ tokCells r := by simp [tokCells]
    rw [this, List.length_append, ih]
    simp [tokCell]
    omega

theorem tokCells_at (T : List Tok) : ∀ (i : Nat) (hi : i < T.length) (j : Nat), j < 3 → (tokCells T)[3 * i + j]? = (tokCell (T[i]'hi))[j]? := by
  induction T with
  | nil => intro i hi; simp at hi
  | cons x r ih =>
    intro i hi j hj
    have e : tokCells (x :: r) = tokCell x ++ tokCells r := by simp [tokCells]
    rw [e]
    cases i with
    | zero =>
      rw [List.getElem?_append_left (by simp [tokCell]; omega)]
      simp
    | succ i =>
      rw [List.getElem?_append_right (by simp [tokCell]; omega)]
      have : 3 * (i + 1) + j - (tokCell x).length = 3 * i + j := by simp [tokCell]; omega
      rw [this, ih i (by simpa using hi) j hj]
      simp

/-- a token's cells, read -/
theorem TRow.cells {e : TypeId} {w : World} {g n c : Nat} {T : List Tok} (h : TRow e w (.slice (some ⟨g, 0, none⟩) n c) T) (i : Nat) (hi : i < T.length) :
    w.cell? ⟨g, 3 * i, none⟩ = some (.int .u8 ((T[i]'hi).1 : Int)) ∧ w.cell? ⟨g, 3 * i + 1, none⟩ = some (.int .i64 ((T[i]'hi).2.1 : Int)) ∧ w.cell? ⟨g, 3 * i + 2, none⟩ = some (.int .i64 ((T[i]'hi).2.2 : Int)) := by
  rcases h.2 with ⟨h1, _⟩ | ⟨g', cap, cur, h1, _, hh, r1, r2, r3, r4⟩
  · cases h1
  · simp only [Value.slice.injEq, Option.some.injEq, Addr.mk.injEq] at h1
    obtain ⟨⟨e1, -⟩, -, -⟩ := h1
    subst e1
    have key : ∀ j u, j < 3 → (tokCell (T[i]'hi))[j]? = some u → w.cell? ⟨g, 3 * i + j, none⟩ = some u := by
      intro j u hj hu
      have h2 := tokCells_at T i hi j hj
      rw [hu, ← r4, List.getElem?_take] at h2
      split at h2
      · exact cellOf hh _ (by simpa using h2)
      · simp at h2
    exact ⟨key 0 _ (by decide) rfl, key 1 _ (by decide) rfl, key 2 _ (by decide) rfl⟩

theorem cells3 {w : World} {g : Nat} {a b c : Value} {t : TypeId} (h : w.heap[g]? = some (.cells #[a, b, c] t (0, 0))) :
    w.cell? ⟨g, 0, none⟩ = some a ∧ w.cell? ⟨g, 1, none⟩ = some b ∧ w.cell? ⟨g, 2, none⟩ = some c ∧ w.frozen? ⟨g, 0, none⟩ = false ∧ w.frozen? ⟨g, 1, none⟩ = false ∧ w.frozen? ⟨g, 2, none⟩ = false :=
  ⟨cellOf h 0 rfl, cellOf h 1 rfl, cellOf h 2 rfl, by simp [World.frozen?, h], by simp [World.frozen?, h], by simp [World.frozen?, h]⟩

theorem set3 {w : World} {g : Nat} {a b c : Value} {t : TypeId} (h : w.heap[g]? = some (.cells #[a, b, c] t (0, 0))) (a' b' c' : Value) :
    (((w.setCell ⟨g, 0, none⟩ a').setCell ⟨g, 1, none⟩ b').setCell ⟨g, 2, none⟩ c').heap[g]? = some (.cells #[a', b', c'] t (0, 0)) ∧ Mut [g] w (((w.setCell ⟨g, 0, none⟩ a').setCell ⟨g, 1, none⟩ b').setCell ⟨g, 2, none⟩ c') := by
  have h1 := heap_set h 0 a'
  have h2 := heap_set h1 1 b'
  have h3 := heap_set h2 2 c'
  exact ⟨by simpa using h3, (((Mut.refl [g] w).setCell (by simp) _).setCell (by simp) _).setCell (by simp) _⟩

theorem tokCellA (X : Tok) : (tokCell X).toArray = #[.int .u8 (X.1 : Int), .int .i64 (X.2.1 : Int), .int .i64 (X.2.2 : Int)] := rfl
theorem tok_one (a b c : Int) : ∀ x ∈ ([.int .u8 a, .int .i64 b, .int .i64 c] : List Value), x.oneCell' = true := by
  intro x hx
  simp at hx
  rcases hx with rfl | rfl | rfl <;> rfl

end Go.Proofs.Ytcdoamaljgjojaa
