/- Rows of bytes that came of a string: their block bears a mark behind its last cell. -/
import Derived.Test.YtgjcnembeebjfaaBase
import Derived.Test.YtgjcnembeebjfaaGFa
namespace Go.Proofs.Ytgjcnembeebjfaa
open Go.RowKit
set_option linter.unusedVariables false

def u8C (L : List Nat) : List Value := L.map fun n : Nat => Value.int .u8 (n : Int)
theorem u8C_len (L : List Nat) : (u8C L).length = L.length := by simp [u8C]

/-- a row of bytes of the call's own; its block may be marked behind its cells -/
def MRow (w : World) (v : Value) (L : List Nat) : Prop :=
  ∃ (g cap : Nat) (cur : Array Value) (fr : Nat × Nat), v = .slice (some ⟨g, 0, none⟩) L.length cap ∧ w.heap[g]? = some (.cells cur 5 fr) ∧ (fr = (0, 0) ∨ cur.size ≤ fr.1) ∧ L.length ≤ cap ∧ cap ≤ maxLen ∧ cur.size = cap ∧ cur.toList.take L.length = u8C L

theorem MRow.form {w : World} {v : Value} {L : List Nat} (h : MRow w v L) : ∃ g cap, v = .slice (some ⟨g, 0, none⟩) L.length cap ∧ g < w.heap.size ∧ L.length ≤ cap := by
  obtain ⟨g, cap, cur, fr, rfl, h1, _, h2, _⟩ := h
  exact ⟨g, cap, rfl, lt_of_heap h1, h2⟩

theorem MRow.mut {w w' : World} {v : Value} {L : List Nat} {S : List Nat} (h : MRow w v L) (hm : Mut S w w') (hs : ∀ g, v.ownBlock = some g → g ∉ S) : MRow w' v L := by
  obtain ⟨g, cap, cur, fr, rfl, h1, h2⟩ := h
  exact ⟨g, cap, cur, fr, rfl, hm.get h1 (hs g rfl), h2⟩

theorem MRow.cellAt {w : World} {g n cap : Nat} {L : List Nat} (h : MRow w (.slice (some ⟨g, 0, none⟩) n cap) L) (j : Nat) (hj : j < L.length) : w.cell? ⟨g, j, none⟩ = some (.int .u8 ((L.getD j 0 : Nat) : Int)) := by
  obtain ⟨g', cap', cur, fr, e, h1, _, h2, _, h3, h4⟩ := h
  simp only [Value.slice.injEq, Option.some.injEq, Addr.mk.injEq] at e
  obtain ⟨⟨rfl, -⟩, -, -⟩ := e
  refine cellOf h1 j ?_
  have h5 : (cur.toList.take L.length)[j]? = (u8C L)[j]? := by rw [h4]
  rw [List.getElem?_take_of_lt hj] at h5
  rw [← Array.getElem?_toList, h5]
  simp [u8C, List.getD, hj]

theorem frozen_mark {w : World} {g : Nat} {cur : Array Value} {t : TypeId} {fr : Nat × Nat} (h : w.heap[g]? = some (.cells cur t fr)) (hf : fr = (0, 0) ∨ cur.size ≤ fr.1) (j : Nat) (hj : j < cur.size) : w.frozen? ⟨g, j, none⟩ = false := by
  obtain ⟨lo, hi⟩ := fr
  simp only [World.frozen?, h]
  rcases hf with hf | hf
  · simp at hf
    obtain ⟨rfl, rfl⟩ := hf
    simp
  · simp at hf
    simp
    omega

theorem MRow.frozenAt {w : World} {g n cap : Nat} {L : List Nat} (h : MRow w (.slice (some ⟨g, 0, none⟩) n cap) L) (j : Nat) (hj : j < cap) : w.frozen? ⟨g, j, none⟩ = false := by
  obtain ⟨g', cap', cur, fr, e, h1, h0, h2, _, h3, h4⟩ := h
  simp only [Value.slice.injEq, Option.some.injEq, Addr.mk.injEq] at e
  obtain ⟨⟨rfl, -⟩, -, rfl⟩ := e
  exact frozen_mark h1 h0 j (by omega)

theorem MRow.stored {w : World} {g n cap : Nat} {L : List Nat} (h : MRow w (.slice (some ⟨g, 0, none⟩) n cap) L) (j x : Nat) (hj : j < L.length) : MRow (w.setCell ⟨g, j, none⟩ (.int .u8 (x : Int))) (.slice (some ⟨g, 0, none⟩) n cap) (L.set j x) := by
  obtain ⟨g', cap', cur, fr, e, h1, h0, h2, h5, h3, h4⟩ := h
  simp only [Value.slice.injEq, Option.some.injEq, Addr.mk.injEq] at e
  obtain ⟨⟨rfl, -⟩, rfl, rfl⟩ := e
  refine ⟨g, cap, _, fr, by simp, heap_set h1 j _, by simpa using h0, by simpa using h2, h5, by simpa using h3, ?_⟩
  rw [List.length_set, Array.toList_setIfInBounds, List.take_set, h4]
  simp [u8C, List.map_set]

/-- '[]byte(s)' -/
theorem MRow.ofString (w : World) (s : ByteArray) : MRow (w.drew.alloc (.cells (bytesRow s (grownCap w s.size 0 5)) 5 ((bytesRow s (grownCap w s.size 0 5)).size, (bytesRow s (grownCap w s.size 0 5)).size + 1)))
    (.slice (some ⟨w.heap.size, 0, none⟩) s.size (grownCap w s.size 0 5)) (bytesOf s) ∨ maxLen < s.size := by
  by_cases hs : s.size ≤ maxLen
  · left
    have hge := grownCap_ge w s.size 0 5
    have hle := grownCap_le_maxLen w s.size 0 5 hs
    refine ⟨w.heap.size, grownCap w s.size 0 5, _, _, by rw [bytesOf_length], heap_alloc_new w.drew _, .inr (Nat.le_refl _), by rw [bytesOf_length]; exact hge, hle, ?_, ?_⟩
    · have e : s.data.size = s.size := rfl
      simp only [bytesRow, Array.size_append, Array.size_map, Array.size_replicate, e]
      omega
    · have e : s.data.size = s.size := rfl
      simp only [bytesRow, Array.toList_append, bytesOf_length]
      rw [List.take_append_of_le_length (by simp [e]), List.take_of_length_le (by simp [e])]
      simp [u8C, bytesOf]
  · right; omega

/-- 'append' to it -/
theorem run_appM {P : Program} (w : World) (t tx ty : TypeId) (i : TypeInfo) (ht : P.underlying t = some (.slice 5)) (hi : P.info? 5 = some i) (hz : i.zero = some (.int .u8 0))
    (hsize : i.size = 1) (hby : i.bytes = 1) (v : Value) (L : List Nat) (hown : MRow w v L) (x : Value) (M : List Nat) (hs : Src P 1 tx x M.length (u8C M) w) (b1 : L.length + M.length ≤ 140737488355328) :
    ∃ v' w', (Builtin.append_ #[t, tx] ty #[v, x]).run P w = .ok v' w' ∧ MRow w' v' (L ++ M) ∧ w.grownBy w' v.ownBlock ∧ (∀ g, v'.ownBlock = some g → v.ownBlock = some g ∨ w.heap.size ≤ g) := by
  obtain ⟨g, cap, cur, fr, rfl, hg, hfr, hnc, hcm, hcs, htake⟩ := hown
  have hmx : L.length + M.length ≤ maxLen := by unfold maxLen; omega
  by_cases hroom : L.length + M.length ≤ cap
  · have hr := run_append_room_src (P := P) w t tx ty 5 i ht hi g 0 L.length cap x M.length (u8C M) (by rw [hsize]; exact hs) hroom (fun j hj => by
      rw [u8C_len] at hj
      rw [cell_of_row w g _ cur 5 fr hg]; simp [hsize]; omega) (fun j hj => by
      rw [u8C_len] at hj
      exact frozen_mark hg hfr _ (by rw [hsize]; omega))
    obtain ⟨cur', c1, c2, c3⟩ := heap_setCells g 5 fr (u8C M) (0 + L.length * i.size) w cur hg (by rw [hsize, u8C_len]; omega)
    obtain ⟨s1, s2, s3, s4⟩ := setCells_same g (u8C M) (0 + L.length * i.size) w
    refine ⟨_, _, hr, ⟨g, cap, cur', fr, by rw [List.length_append], c1, by rw [c2]; exact hfr, by rw [List.length_append]; exact hroom, hcm, by omega, ?_⟩, ⟨s1, s2, s3, by omega, fun k _ hk => heap_setCells_ne g k (fun h => hk (by simp [Value.ownBlock, h])) _ _ _⟩, fun g' hg' => .inl hg'⟩
    rw [hsize, u8C_len] at c3
    rw [List.length_append]
    simp only [Nat.zero_add, Nat.mul_one] at c3
    rw [c3, htake]
    simp [u8C]
  · have hr := run_append_grow_src (P := P) w t tx ty 5 i (.int .u8 0) ht hi hz (some ⟨g, 0, none⟩) L.length cap (u8C L) (run_firstCells_some w.drew i.size L.length ⟨g, 0, none⟩ L.length cap (u8C L) (by rw [u8C_len, hsize, Nat.mul_one]) (fun j u hu => by
        rw [Addr.add_lit, Nat.zero_add]
        refine cellOf (w := w.drew) hg j ?_
        have h5 : (cur.toList.take L.length)[j]? = (u8C L)[j]? := by rw [htake]
        have hj : j < L.length := by
          have := (List.getElem?_eq_some_iff.1 hu).1
          rwa [u8C_len] at this
        rw [List.getElem?_take_of_lt hj] at h5
        rw [← Array.getElem?_toList, h5, hu])) x M.length (u8C M) (by rw [hsize]; exact hs) (by omega) (by omega) (growslice_fits (by omega) (by rw [hby]; omega))
    have hge := grownCap_ge w (L.length + M.length) cap 5
    have hcm' : grownCap w (L.length + M.length) cap 5 ≤ maxLen := grownCap_le_maxLen w (L.length + M.length) cap 5 hmx
    refine ⟨_, _, hr, ⟨w.heap.size, _, _, (0, 0), by rw [List.length_append], heap_alloc_new w.drew _, .inl rfl, by rw [List.length_append]; exact hge, hcm', ?_, ?_⟩, ⟨rfl, rfl, rfl, by simp, fun k hk _ => Below.heap_alloc w.drew _ k hk⟩, fun g hg => .inr (by simp [Value.ownBlock] at hg; omega)⟩
    · have h1 : (Value.int .u8 0).cells.size = 1 := rfl
      simp only [Array.size_append, List.size_toArray, size_zeroCells, h1, List.length_append, u8C_len, Nat.mul_one]
      omega
    · rw [Array.toList_append, List.length_append]
      have e : u8C L ++ u8C M = u8C (L ++ M) := by simp [u8C]
      rw [e, List.take_append_of_le_length (by simp [u8C_len]), List.take_of_length_le (by simp [u8C_len])]

/-- the operation, for the walk -/
theorem wp_appM {P : Program} {w : World} {ops : Array Oper} {rest : List Oper} {o : Oper} {a : Act} {Q : Exit → Act → World → Prop}
    (hg : o.guard = none) (s x : Operand) (t tx : TypeId) (hop : o.op = Op.call { callee := Callee.builtin Builtin.append, args := #[s, x], argTypes := #[t, tx] })
    (i : TypeInfo) (h1 : P.underlying t = some (.slice 5)) (h2 : P.info? 5 = some i) (h3 : i.zero = some (.int .u8 0)) (h4 : i.size = 1) (h5 : i.bytes = 1)
    {v : Value} {L : List Nat} (hown : MRow w v L) (hs : a.eval s = v)
    {vx : Value} {M : List Nat} (hsrc : Src P 1 tx vx M.length (u8C M) w) (hx : a.eval x = vx)
    (b1 : L.length + M.length ≤ 140737488355328)
    (hK : ∀ v' w', MRow w' v' (L ++ M) → w.grownBy w' v.ownBlock → (∀ g, v'.ownBlock = some g → v.ownBlock = some g ∨ w.heap.size ≤ g) → wpList P ops Q rest (a.put o.dst v') w') :
    wpList P ops Q (o :: rest) a w := by
  refine wpList_plain hg fun K hK' => ?_
  obtain ⟨v', w', hrun, r1, r2, r3⟩ := run_appM (P := P) w t tx o.type i h1 h2 h3 h4 h5 v L hown vx M hsrc b1
  unfold Oper.wp
  simp [execOp, hop, resolve, invoke, builtin, hs, hx, hrun, Result.andThen]
  exact hK' _ _ (hK v' w' r1 r2 r3)

/-- 'string(b)' -/
theorem MRow.conv {w : World} {v : Value} {L : List Nat} (h : MRow w v L) : (convert 54 9 v).run Try.prog w = .ok (.string (strOf L)) w := by
  obtain ⟨g, cap, cur, fr, rfl, hg, hfr, hnc, hcm, hcs, htake⟩ := id h
  rw [run_convert_bytes_arg w 54 5 Try.underlying54 Try.underlying5 g 0 L.length cap (L.map fun n : Nat => (n : Int)) (by simp) (fun i hi => by
    rw [Nat.zero_add, h.cellAt i hi]
    simp [List.getD, hi]) 9 Try.underlying9]
  have e : strOfNums (L.map fun n : Nat => (n : Int)) = strOf L := by
    unfold strOfNums strOf
    rw [List.map_map]
    rfl
  rw [e]

end Go.Proofs.Ytgjcnembeebjfaa
