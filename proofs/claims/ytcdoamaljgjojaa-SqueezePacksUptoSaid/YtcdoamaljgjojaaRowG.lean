/- A row of ints that was just made, written place by place. -/
import Derived.Test.YtcdoamaljgjojaaRowI
namespace Go.Proofs.Ytcdoamaljgjojaa
open Go.RowKit

/-- a made row at block g -/
structure RowAt (w0 wx : World) (g n : Nat) (L : List Int) : Prop where
  row : wx.ownsRow 0 3 1 (.slice (some ⟨g, 0, none⟩) n n) n (L.map (Value.int .i64))
  kept : Mut [] w0 wx
  fresh : w0.heap.size ≤ g

theorem RowAt.len {w0 wx : World} {g n : Nat} {L : List Int} (h : RowAt w0 wx g n L) : L.length = n := by
  have := h.row.1
  simpa using this

theorem RowAt.cell {w0 wx : World} {g n : Nat} {L : List Int} (h : RowAt w0 wx g n L) (i : Nat) (hi : i < n) : wx.cell? ⟨g, i, none⟩ = some (.int .i64 (L.getD i 0)) ∧ wx.frozen? ⟨g, i, none⟩ = false := by
  have hl := h.len
  refine ⟨?_, ?_⟩
  · rw [h.row.cellAt i (by omega)]
    simp [List.getD, show i < L.length by omega]
  · rcases h.row.2 with ⟨h1, _⟩ | ⟨g', cap, cur, h1, _, hh, _⟩
    · cases h1
    · cases h1
      exact frozenOf hh i

theorem RowAt.set {w0 wx : World} {g n : Nat} {L : List Int} (h : RowAt w0 wx g n L) (i : Nat) (v : Int) : RowAt w0 (wx.setCell ⟨g, i, none⟩ (.int .i64 v)) g n (L.set i v) := by
  refine ⟨?_, h.kept.setCell (.inr h.fresh) _, h.fresh⟩
  rw [List.map_set]
  have hr := h.row
  refine ⟨by rw [List.length_set]; exact hr.1, ?_⟩
  rcases hr.2 with ⟨h1, h0⟩ | ⟨g', cap, cur, h1, hb, hh, r1, r2, r3, r4⟩
  · cases h1
  · cases h1
    refine .inr ⟨_, _, _, rfl, hb, heap_set hh i _, r1, r2, by simpa using r3, ?_⟩
    rw [← r4, Array.toList_setIfInBounds, List.take_set]

theorem RowAt.start (w0 w : World) (n : Nat) (hn : n ≤ 1048576) (m : Mut [] w0 w) (Z : Array Value) (hZ : madeCells (Value.int .i64 0).cells n = Z) : RowAt w0 (w.alloc (.cells Z 3)) w.heap.size n (List.replicate n 0) := by
  refine ⟨⟨by simp, .inr ⟨w.heap.size, n, Z, rfl, Nat.zero_le _, heap_alloc_new w _, Nat.le_refl _, by unfold maxLen; omega, by rw [← hZ, size_madeCells, Nat.mul_one], ?_⟩⟩, m.alloc _, m.size⟩
  have e : (madeCells (Value.int .i64 0).cells n).toList = (List.replicate n (0 : Int)).map (Value.int .i64) := by
    rw [List.map_replicate]
    exact toList_madeCells_one (.int .i64 0) n
  rw [← hZ, e, List.take_of_length_le (by simp)]

/-- making one, as one step -/
theorem run_make_int (n : Nat) (hn : n ≤ 1048576) (Z : Array Value) (hZ : madeCells (Value.int .i64 0).cells n = Z) (k : Int) (hk : k = (n : Int)) (W : World) :
    (Instr.makeSlice 75 (.int .i64 k) (.int .i64 k)).run Try.prog W = .ok (.slice (some ⟨W.heap.size, 0, none⟩) n n) (W.alloc (.cells Z 3)) := by
  subst hk
  obtain ⟨i0, hi, hz0, hz1, hz2⟩ := info_parts info_intI
  have := run_make (P := Try.prog) W 75 3 i0 _ Try.underlying75 hi hz0 .i64 .i64 (n : Int) (n : Int) (by omega) (by omega) (by rw [hz2]; omega) (by omega)
  rw [hz1, Int.toNat_natCast, Nat.mul_one, hZ] at this
  exact this

/-- a row filled up to a place -/
def fillT (T : List Int) (i : Nat) : List Int := T.take i ++ List.replicate (T.length - i) 0
theorem fillT_zero (T : List Int) : fillT T 0 = List.replicate T.length 0 := by simp [fillT]
theorem fillT_all (T : List Int) : fillT T T.length = T := by simp [fillT]
theorem fillT_set (T : List Int) (i : Nat) (hi : i < T.length) : (fillT T i).set i (T.getD i 0) = fillT T (i + 1) := by
  unfold fillT
  have h1 : (T.take i).length = i := by rw [List.length_take]; omega
  rw [List.set_append_right _ _ (by omega), h1, Nat.sub_self, show T.length - i = (T.length - (i + 1)) + 1 by omega, List.replicate_succ, List.set_cons_zero,
    List.take_succ_eq_append_getElem hi, List.append_assoc]
  simp [List.getD, hi]

theorem RowAt.irow {w0 wx : World} {g n : Nat} {L : List Int} (h : RowAt w0 wx g n L) : IRow wx (.slice (some ⟨g, 0, none⟩) n n) L := by
  unfold IRow
  rw [h.len]
  exact h.row

theorem RowAt.mut {w0 w w' : World} {g n : Nat} {L : List Int} (h : RowAt w0 w g n L) (m : Mut [] w w') : RowAt w0 w' g n L :=
  ⟨m.row h.row (by simp), h.kept.trans' m, h.fresh⟩

/-- how a callee reads it -/
theorem RowAt.read {w0 wx : World} {g n : Nat} {L : List Int} (h : RowAt w0 wx g n L) : ∀ w', Mut [] wx w' → ∀ i, i < L.length → ∃ a : Addr, (some ⟨g, 0, none⟩ : Option Addr) = some a ∧ w'.cell? (a.add i) = some (.int .i64 (L.getD i 0)) := by
  intro w' m i hi
  refine ⟨_, rfl, ?_⟩
  rw [Addr.add_lit, Nat.zero_add]
  exact ((h.mut m).cell i (by rw [← h.len]; exact hi)).1

end Go.Proofs.Ytcdoamaljgjojaa
