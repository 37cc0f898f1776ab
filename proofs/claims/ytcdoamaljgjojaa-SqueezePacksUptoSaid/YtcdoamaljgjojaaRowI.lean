/- Rows of numbers: of the call's own, and that came in; appended, read. -/
import Derived.Test.YtcdoamaljgjojaaLaw
import Derived.Test.YtcdoamaljgjojaaBase
import Derived.Deep.RegionLaw
import Derived.BigQuiet
namespace Go.Proofs.Ytcdoamaljgjojaa
open Go.RowKit

theorem info_intI : (Try.prog.info? 3).map (fun i => (i.zero, i.size, i.bytes)) = some (some (.int .i64 0), 1, 8) := by kernel_rfl

/-- a row of ints of the call's own -/
def IRow (w : World) (v : Value) (L : List Int) : Prop := w.ownsRow 0 3 1 v L.length (L.map (Value.int .i64))

theorem IRow.mut {w w' : World} {v : Value} {L : List Int} {S : List Nat} (h : IRow w v L) (hm : Mut S w w') (hs : ∀ g, v.ownBlock = some g → g ∉ S) : IRow w' v L := hm.row h hs
theorem IRow.nil (w : World) : IRow w (.slice none 0 0) [] := World.ownsRow_nil _ _ _ _
theorem IRow.lt {w : World} {v : Value} {L : List Int} (h : IRow w v L) {g : Nat} (hg : v.ownBlock = some g) : g < w.heap.size := by
  rcases h.2 with ⟨rfl, _⟩ | ⟨b, cap, cur, rfl, _, hh, _⟩
  · simp [Value.ownBlock] at hg
  · simp [Value.ownBlock] at hg
    subst hg
    exact lt_of_heap hh

/-- a row of numbers, read -/
theorem IRow.at {w : World} {v : Value} {L : List Int} (h : IRow w v L) (hL : 0 < L.length) : ∃ g cap, v = .slice (some ⟨g, 0, none⟩) L.length cap ∧ ∀ w', Mut [] w w' → ∀ i, i < L.length → w'.cell? ⟨g, i, none⟩ = some (.int .i64 (L.getD i 0)) := by
  obtain ⟨g, cap, rfl, -, -⟩ := row_some h hL
  refine ⟨g, cap, rfl, fun w' hm i hi => ?_⟩
  have := (h.mut hm (fun g _ => by simp)).cellAt i (by omega)
  simpa [List.getD, hi] using this

/-- a row of numbers, as the walk reads it -/
theorem IRow.read {w : World} {v : Value} {L : List Int} (h : IRow w v L) : ∃ p cap, v = .slice p L.length cap ∧ ∀ w', Mut [] w w' → ∀ i, i < L.length → ∃ a : Addr, p = some a ∧ w'.cell? (a.add i) = some (.int .i64 (L.getD i 0)) := by
  rcases h.2 with ⟨rfl, e⟩ | ⟨g, cap, cur, rfl, _, hh, _⟩
  · exact ⟨none, 0, by rw [e], fun w' _ i hi => by omega⟩
  · refine ⟨_, cap, rfl, fun w' hm i hi => ⟨_, rfl, ?_⟩⟩
    have := (h.mut hm (fun g _ => by simp)).cellAt i (by omega)
    rw [Addr.add_lit]
    simpa [List.getD, hi] using this

theorem IRow.form {w : World} {v : Value} {L : List Int} (h : IRow w v L) : ∃ p l c, v = .slice p l c := by
  rcases h.2 with ⟨rfl, _⟩ | ⟨b, cap, cur, rfl, _⟩
  · exact ⟨_, _, _, rfl⟩
  · exact ⟨_, _, _, rfl⟩

theorem IRow.empty (w : World) : IRow (w.alloc (.cells #[] 3)) (.slice (some ⟨w.heap.size, 0, none⟩) 0 0) [] :=
  ⟨rfl, .inr ⟨w.heap.size, 0, #[], rfl, Nat.zero_le _, heap_alloc_new w _, Nat.le_refl _, by decide, rfl, rfl⟩⟩

/-- what an append of a row has laid -/
theorem IRow.of_app {w' : World} {v' : Value} {L : List Int} (h : w'.ownsRow 0 3 1 v' (0 + L.length) ([] ++ L.map (Value.int .i64))) : IRow w' v' L := by
  unfold IRow
  rw [Nat.zero_add, List.nil_append] at h
  exact h

/-- a row of the call's own, as an append's source -/
theorem IRow.src {w0 w : World} {v : Value} {xs : List Int} (h : IRow w0 v xs) (m : Mut [] w0 w) : Src Try.prog 1 75 v xs.length (xs.map (Value.int .i64)) w := by
  have h' := h.mut m (fun g _ => by simp)
  rcases h'.2 with ⟨rfl, e⟩ | ⟨g, cap, cur, rfl, _, hh, _⟩
  · have : xs = [] := List.eq_nil_of_length_eq_zero e
    subst this
    exact Src.ofNil w Try.underlying75 0
  · refine Src.ofSlice w Try.underlying75 ⟨g, 0, none⟩ xs.length cap _ (by simp) (fun j u hu => ?_) (fun u hu => ?_)
    · by_cases hj : j < xs.length
      · rw [Addr.add_lit]
        have := h'.cellAt j (by omega)
        rw [Nat.zero_add, this]
        exact hu
      · rw [List.getElem?_eq_none (by rw [List.length_map]; omega)] at hu
        simp at hu
    · obtain ⟨z, _, rfl⟩ := List.mem_map.1 hu
      rfl

/-- a row that came in, as an append's source -/
theorem Ints.src {w0 w : World} {v : Value} {xs : List Int} (h : Ints .i64 w0 v xs) (m : Mut [] w0 w) : Src Try.prog 1 75 v xs.length (xs.map (Value.int .i64)) w := by
  obtain ⟨ao, cap, rfl, h1, h2, h3, -⟩ := h
  cases ao with
  | none =>
    have : xs = [] := by
      cases xs with
      | nil => rfl
      | cons x r => obtain ⟨b, off, hb, _⟩ := h3 (by simp); simp at hb
    subst this
    exact Src.ofNil w Try.underlying75 cap
  | some a =>
    refine Src.ofSlice w Try.underlying75 a xs.length cap _ (by simp) (fun j u hu => ?_) (fun u hu => ?_)
    · by_cases hj : j < xs.length
      · obtain ⟨b, off, hb, hlt, hc⟩ := h3 (by omega)
        simp at hb
        subst hb
        rw [Addr.add_lit]
        refine m.cell (by rw [hc j hj]; simp [hj] at hu; simp [List.getD, hj, hu]) (by simp)
      · rw [List.getElem?_eq_none (by rw [List.length_map]; omega)] at hu
        simp at hu
    · obtain ⟨z, _, rfl⟩ := List.mem_map.1 hu
      rfl

/-- a row that came in, as the walk reads it -/
theorem Ints.read {w0 : World} {v : Value} {xs : List Int} (h : Ints .i64 w0 v xs) : ∃ p cap, v = .slice p xs.length cap ∧ ∀ w', Mut [] w0 w' → ∀ i, i < xs.length → ∃ a : Addr, p = some a ∧ w'.cell? (a.add i) = some (.int .i64 (xs.getD i 0)) := by
  obtain ⟨ao, cap, rfl, h1, h2, h3, -⟩ := h
  refine ⟨ao, cap, rfl, fun w' m i hi => ?_⟩
  obtain ⟨b, off, rfl, hlt, hc⟩ := h3 (by omega)
  refine ⟨_, rfl, ?_⟩
  rw [Addr.add_lit]
  exact m.cell (hc i hi) (by simp)

theorem Ints.wf {w0 : World} {v : Value} {xs : List Int} (h : Ints .i64 w0 v xs) : ∀ x ∈ xs, (Lit.int .i64 x).wf = true := by
  obtain ⟨ao, cap, rfl, h1, h2, h3, h4⟩ := h
  exact h4

theorem Mut.then0 {S : List Nat} {a b c : World} (h : Mut S a b) (k : Mut [] b c) : Mut S a c := h.trans k (by simp)

theorem fresh_drew (W : World) : ∀ g, (Value.slice (some ⟨W.drew.heap.size, 0, none⟩) 0 0).ownBlock = some g → W.heap.size ≤ g := by
  intro g hg
  simp [Value.ownBlock] at hg
  subst hg
  exact Nat.le_refl W.heap.size

/-- an append of a row, as a step of a region that draws -/
theorem step_app {ops : Array Oper} {o : Oper} {a : Act} {w w0 : World} {K : Act → World → Prop} {Q' : Exit → Act → World → Prop} {E : Prop} (hw : Region.wanted o (yielded ops a.tmps) = true) (s x : Operand)
    (ho : o.op = .call { callee := .builtin .append, args := #[s, x], argTypes := #[75, 75] }) {r v : Value} {R xs : List Int}
    (hs : a.eval s = r) (hx : a.eval x = v) (hr : IRow w r R) (hv : Src Try.prog 1 75 v xs.length (xs.map (Value.int .i64)) w) (m : Mut [] w0 w) (hf : ∀ g, r.ownBlock = some g → w0.heap.size ≤ g) (hl : R.length + xs.length ≤ 1099511627776)
    (hK : ∀ v' w', IRow w' v' (R ++ xs) → Mut [] w0 w' → (∀ g, v'.ownBlock = some g → w0.heap.size ≤ g) → K (a.put o.dst v') w') :
    if Region.wanted o (yielded ops a.tmps) = true then Oper.wp Try.prog o a w K Q' else E := by
  rw [if_pos hw]
  obtain ⟨i0, hi, hz0, hz1, hz2⟩ := info_parts info_intI
  obtain ⟨v', w', hrun, r1, r2, r3⟩ := run_app (P := Try.prog) w 75 75 o.type 3 i0 (.int .i64 0) 1 8 Try.underlying75 hi hz0 hz1 hz2 rfl r R.length _ hr _ _ _ hv (by unfold maxLen; omega) (by omega)
  unfold Oper.wp
  simp [execOp, ho, resolve, invoke, builtin, hs, hx, hrun, Result.andThen]
  have hm : Mut r.ownBlock.toList w w' := (Mut.refl _ w).grown r2 (fun k hk => .inl (by simp [hk]))
  refine hK v' w' ?_ (m.trans hm (fun y hy => .inr (hf y (by simpa using hy)))) (fun g hg => ?_)
  · unfold IRow
    rw [List.length_append, List.map_append]
    exact r1
  · rcases r3 g hg with h | h
    · exact hf g h
    · have := m.size
      omega

/-- an append of a row to a row of the call's own, in a plain statement -/
theorem wp_appI {w : World} {ops : Array Oper} {rest : List Oper} {o : Oper} {a : Act} {Q : Exit → Act → World → Prop} (hg : o.guard = none) (s x : Operand)
    (ho : o.op = .call { callee := .builtin .append, args := #[s, x], argTypes := #[75, 75] }) {r v : Value} {R xs : List Int}
    (hr : IRow w r R) (hs : a.eval s = r) (hv : Src Try.prog 1 75 v xs.length (xs.map (Value.int .i64)) w) (hx : a.eval x = v) (hl : R.length + xs.length ≤ 1099511627776)
    (hK : ∀ v' w', IRow w' v' (R ++ xs) → Mut r.ownBlock.toList w w' → (∀ g, v'.ownBlock = some g → r.ownBlock = some g ∨ w.heap.size ≤ g) → wpList Try.prog ops Q rest (a.put o.dst v') w') :
    wpList Try.prog ops Q (o :: rest) a w := by
  obtain ⟨i0, hi, hz0, hz1, hz2⟩ := info_parts info_intI
  refine wp_app hg s x 75 75 ho 3 i0 (.int .i64 0) 1 8 Try.underlying75 hi hz0 hz1 hz2 rfl hr hs hv hx (by unfold maxLen; omega) (by omega) ?_
  intro v' w' h1 h2 h3
  refine hK v' w' ?_ ((Mut.refl _ w).grown h2 (fun k hk => .inl (by simp [hk]))) h3
  unfold IRow
  rw [List.length_append, List.map_append]
  exact h1

/-- one number, just laid, as an append's source -/
theorem src_one {w : World} {g : Nat} {x : Int} (h : w.heap[g]? = some (.cells #[.int .i64 x] 3 (0, 0))) : Src Try.prog 1 75 (.slice (some ⟨g, 0, none⟩) 1 1) ([x] : List Int).length (([x] : List Int).map (Value.int .i64)) w :=
  Src.ofSlice w Try.underlying75 ⟨g, 0, none⟩ 1 1 _ rfl (news1 h) (one1 rfl)

end Go.Proofs.Ytcdoamaljgjojaa
