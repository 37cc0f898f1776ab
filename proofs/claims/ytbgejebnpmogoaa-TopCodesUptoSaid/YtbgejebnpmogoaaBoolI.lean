/- Rows of truth values: that came in; copied. -/
import Derived.Test.YtbgejebnpmogoaaRowI
import Derived.Deep.Grids
namespace Go.Proofs.Ytbgejebnpmogoaa
open Go.RowKit Go.ChangeShapes Go.WideShapes Go.ChangeAt Go.Deep

/-- a row of truth values that came in, as the walk reads it -/
def Bools (w : World) (v : Value) (U : List Bool) : Prop :=
  ∃ p cap, v = .slice p U.length cap ∧ U.length ≤ cap ∧ cap ≤ maxLen ∧ ∀ i, i < U.length → ∃ a : Addr, p = some a ∧ a.block < w.heap.size ∧ w.cell? (a.add i) = some (.bool (U.getD i false))

theorem open_Bools {H : Type} {enc : TypeId × Value → H} {P : Program} {W : World} {r : Reach} {b0 : Nat} {t e : TypeId} {v : Value} {d : DataW H} {p : List MemPlace} (ht : P.underlying t = some (.slice e)) (he : P.underlying e = some .bool) (hc : P.cellsOf e = 1)
    (hv : Value.okWide P W r b0 t v) (h : DataW.Trod enc P W 0 (fun _ => true) true t v d p) : ∃ U, Bools W v U ∧ U.length = dataLen d := by
  obtain ⟨a0, len0, cap0, rfl⟩ := okWide_slice ht hv
  obtain ⟨fuel, hf⟩ := h
  rcases open_bools ht he hc hf with ⟨hcs, hx⟩ | ⟨a, len, cap, B, hcs, _, hl, hm, hx, hcell⟩
  · simp [Value.cells] at hcs
    obtain ⟨rfl, rfl, rfl⟩ := hcs
    simp only [Prod.mk.injEq] at hx
    obtain ⟨rfl, _⟩ := hx
    exact ⟨[], ⟨none, 0, rfl, Nat.le_refl _, Nat.zero_le _, fun i hi => absurd hi (by simp)⟩, rfl⟩
  · simp [Value.cells] at hcs
    obtain ⟨rfl, rfl, rfl⟩ := hcs
    simp only [Prod.mk.injEq] at hx
    obtain ⟨rfl, _⟩ := hx
    refine ⟨(List.range len0).map B, ⟨some a, cap0, by simp, by simpa using hl, hm, fun i hi => ⟨a, rfl, ?_, ?_⟩⟩, ?_⟩
    · have h1 := World.block_lt_of_cell? W (a.add i) (hcell i (by simp at hi; omega))
      unfold Addr.add at h1
      split at h1 <;> exact h1
    · have hi' : i < len0 := by simpa using hi
      rw [hcell i (by omega)]
      simp [List.getD, hi']
    · simp [dataLen, boolRow]

theorem info_bool : (Try.prog.info? 4).map (fun i => (i.zero, i.size, i.bytes)) = some (some (.bool false), 1, 1) := by kernel_rfl

theorem Bools.read {w : World} {v : Value} {U : List Bool} (h : Bools w v U) : ∃ p cap, v = .slice p U.length cap ∧ ∀ w', Mut [] w w' → ∀ i, i < U.length → ∃ a : Addr, p = some a ∧ w'.cell? (a.add i) = some (.bool (U.getD i false)) := by
  obtain ⟨p, cap, h1, _, _, h2⟩ := h
  refine ⟨p, cap, h1, fun w' m i hi => ?_⟩
  obtain ⟨a, rfl, h3, h4⟩ := h2 i hi
  refine ⟨a, rfl, m.cell h4 (by simp)⟩

theorem Bools.src {w0 w : World} {v : Value} {U : List Bool} (h : Bools w0 v U) (m : Mut [] w0 w) : Src Try.prog 1 42 v U.length (U.map Value.bool) w := by
  obtain ⟨p, cap, rfl, _, _, h2⟩ := h
  cases p with
  | none =>
    have : U = [] := by
      cases U with
      | nil => rfl
      | cons x r => obtain ⟨b, hb, _⟩ := h2 0 (by simp); simp at hb
    subst this
    exact Src.ofNil w Try.underlying42 cap
  | some a =>
    refine Src.ofSlice w Try.underlying42 a U.length cap _ (by simp) (fun j u hu => ?_) (fun u hu => ?_)
    · by_cases hj : j < U.length
      · obtain ⟨b, hb, hlt, hc⟩ := h2 j hj
        simp at hb
        subst hb
        refine m.cell (by rw [hc]; simp [hj] at hu; simp [List.getD, hj, hu]) (by simp)
      · rw [List.getElem?_eq_none (by rw [List.length_map]; omega)] at hu
        simp at hu
    · obtain ⟨z, _, rfl⟩ := List.mem_map.1 hu
      rfl

/-- a row of truth values of the call's own -/
def BoRow (w : World) (v : Value) (U : List Bool) : Prop := w.ownsRow 0 4 1 v U.length (U.map Value.bool)

theorem BoRow.empty (w : World) : BoRow (w.alloc (.cells #[] 4)) (.slice (some ⟨w.heap.size, 0, none⟩) 0 0) [] :=
  ⟨rfl, .inr ⟨w.heap.size, 0, #[], rfl, Nat.zero_le _, heap_alloc_new w _, Nat.le_refl _, by decide, rfl, rfl⟩⟩

theorem BoRow.read {w : World} {v : Value} {L : List Bool} (h : BoRow w v L) : ∃ p cap, v = .slice p L.length cap ∧ ∀ w', Mut [] w w' → ∀ i, i < L.length → ∃ a : Addr, p = some a ∧ w'.cell? (a.add i) = some (.bool (L.getD i false)) := by
  rcases h.2 with ⟨rfl, e⟩ | ⟨g, cap, cur, rfl, _, hh, _⟩
  · exact ⟨none, 0, by rw [e], fun w' _ i hi => by omega⟩
  · refine ⟨_, cap, rfl, fun w' hm i hi => ⟨_, rfl, ?_⟩⟩
    have := (hm.row h (fun g _ => by simp)).cellAt i (by omega)
    rw [Addr.add_lit]
    simpa [List.getD, hi] using this

/-- an append of a row of truth values, in a plain statement -/
theorem wp_appB {w : World} {ops : Array Oper} {rest : List Oper} {o : Oper} {a : Act} {Q : Exit → Act → World → Prop} (hg : o.guard = none) (s x : Operand)
    (ho : o.op = .call { callee := .builtin .append, args := #[s, x], argTypes := #[42, 42] }) {r v : Value} {R xs : List Bool}
    (hr : BoRow w r R) (hs : a.eval s = r) (hv : Src Try.prog 1 42 v xs.length (xs.map Value.bool) w) (hx : a.eval x = v) (hl : R.length + xs.length ≤ 1099511627776)
    (hK : ∀ v' w', BoRow w' v' (R ++ xs) → Mut r.ownBlock.toList w w' → (∀ g, v'.ownBlock = some g → r.ownBlock = some g ∨ w.heap.size ≤ g) → wpList Try.prog ops Q rest (a.put o.dst v') w') :
    wpList Try.prog ops Q (o :: rest) a w := by
  obtain ⟨i0, hi, hz0, hz1, hz2⟩ := info_parts info_bool
  refine wp_app hg s x 42 42 ho 4 i0 (.bool false) 1 1 Try.underlying42 hi hz0 hz1 hz2 rfl hr hs hv hx (by unfold maxLen; omega) (by omega) ?_
  intro v' w' h1 h2 h3
  refine hK v' w' ?_ ((Mut.refl _ w).grown h2 (fun k hk => .inl (by simp [hk]))) h3
  unfold BoRow
  rw [List.length_append, List.map_append]
  exact h1

end Go.Proofs.Ytbgejebnpmogoaa
