/- Rows of one-cell values that were made; rows of rows of ints; regions whose callees only lay blocks. -/
import Derived.Test.YthnljhcncpiemaaLinR
import Derived.Test.YthnljhcncpiemaaRowI
import Derived.Deep.QuietTactic
import Derived.Test.YthnljhcncpiemaaReg
namespace Go.Proofs.Ythnljhcncpiemaa
open Go.RowKit
set_option linter.unusedVariables false

/-- a made row of values of one cell, at block g -/
def VRow (e : TypeId) (w : World) (g : Nat) (L : List Value) : Prop := w.ownsRow 0 e 1 (.slice (some ⟨g, 0, none⟩) L.length L.length) L.length L

theorem VRow.blk {e : TypeId} {w : World} {g : Nat} {L : List Value} (h : VRow e w g L) : ∃ c, w.heap[g]? = some (.cells c e (0, 0)) := by
  rcases h.2 with ⟨h1, _⟩ | ⟨g', cap, cur, h1, _, hh, _⟩
  · cases h1
  · cases h1
    exact ⟨cur, hh⟩
theorem VRow.cell {e : TypeId} {w : World} {g : Nat} {L : List Value} (h : VRow e w g L) (i : Nat) (hi : i < L.length) : w.cell? ⟨g, i, none⟩ = some (L[i]'hi) ∧ w.frozen? ⟨g, i, none⟩ = false := by
  refine ⟨?_, ?_⟩
  · rw [h.cellAt i (by omega)]
    simp [hi]
  · obtain ⟨c, hc⟩ := h.blk
    exact frozenOf hc i
theorem VRow.mut {e : TypeId} {w w' : World} {g : Nat} {L : List Value} {S : List Nat} (h : VRow e w g L) (m : Mut S w w') (hs : g ∉ S) : VRow e w' g L := m.row h (fun g' hg => by simp [Value.ownBlock] at hg; subst hg; exact hs)
theorem VRow.set {e : TypeId} {w : World} {g : Nat} {L : List Value} (h : VRow e w g L) (i : Nat) (v : Value) : VRow e (w.setCell ⟨g, i, none⟩ v) g (L.set i v) := by
  unfold VRow
  rw [List.length_set]
  refine ⟨by rw [List.length_set]; exact h.1, ?_⟩
  rcases h.2 with ⟨h1, h0⟩ | ⟨g', cap, cur, h1, hb, hh, r1, r2, r3, r4⟩
  · cases h1
  · cases h1
    refine .inr ⟨_, _, _, rfl, hb, heap_set hh i _, r1, r2, by simpa using r3, ?_⟩
    rw [Array.toList_setIfInBounds, List.take_set, r4]
theorem VRow.start (e : TypeId) (w : World) (z : Value) (n : Nat) (hn : n ≤ 1073741824) (Z : Array Value) (hZ : madeCells #[z] n = Z) : VRow e (w.alloc (.cells Z e)) w.heap.size (List.replicate n z) := by
  have hl : (List.replicate n z).length = n := by simp
  unfold VRow
  rw [hl]
  refine ⟨by simp, .inr ⟨w.heap.size, n, Z, rfl, Nat.zero_le _, heap_alloc_new w _, Nat.le_refl _, by unfold maxLen; omega, by rw [← hZ, size_madeCells, Nat.mul_one], ?_⟩⟩
  have e : (madeCells #[z] n).toList = List.replicate n z := toList_madeCells_one z n
  rw [← hZ, e, List.take_of_length_le (by simp)]

/-- making one, as one step -/
theorem run_make_v {t e : TypeId} {i0 : TypeInfo} {z : Value} (bytes : Nat) (ht : Try.prog.underlying t = some (.slice e)) (hi : Try.prog.info? e = some i0) (hz : i0.zero = some z) (h1 : i0.size = 1) (hc : z.cells = #[z]) (hb : i0.bytes = bytes) (hb2 : bytes ≤ 24)
    (n : Nat) (hn : n ≤ 1073741824) (Z : Array Value) (hZ : madeCells #[z] n = Z) (W : World) :
    (Instr.makeSlice t (.int .i64 (n : Int)) (.int .i64 (n : Int))).run Try.prog W = .ok (.slice (some ⟨W.heap.size, 0, none⟩) n n) (W.alloc (.cells Z e)) := by
  have hbn : (i0.bytes : Int) * (n : Int) ≤ 281474976710656 := by
    rw [hb]
    have : bytes * n ≤ 24 * 1073741824 := Nat.mul_le_mul hb2 hn
    have h2 : ((bytes * n : Nat) : Int) = (bytes : Int) * (n : Int) := Int.natCast_mul _ _
    omega
  have := run_make (P := Try.prog) W t e i0 _ ht hi hz .i64 .i64 (n : Int) (n : Int) (by omega) (by omega) hbn (by omega)
  rw [hc, Int.toNat_natCast, h1, Nat.mul_one, hZ] at this
  exact this

theorem info_boolB : (Try.prog.info? 4).map (fun i => (i.zero, i.size, i.bytes)) = some (some (.bool false), 1, 1) := by kernel_rfl
theorem info_intsB : (Try.prog.info? 37).map (fun i => (i.zero, i.size, i.bytes)) = some (some (.slice none 0 0), 1, 24) := by kernel_rfl

theorem run_make_bools (n : Nat) (hn : n ≤ 1073741824) (Z : Array Value) (hZ : madeCells #[.bool false] n = Z) (W : World) :
    (Instr.makeSlice 49 (.int .i64 (n : Int)) (.int .i64 (n : Int))).run Try.prog W = .ok (.slice (some ⟨W.heap.size, 0, none⟩) n n) (W.alloc (.cells Z 4)) := by
  obtain ⟨i0, hi, hz0, hz1, hz2⟩ := info_parts info_boolB
  exact run_make_v 1 Try.underlying49 hi hz0 hz1 rfl hz2 (by decide) n hn Z hZ W
theorem run_make_intss (n : Nat) (hn : n ≤ 1073741824) (Z : Array Value) (hZ : madeCells #[.slice none 0 0] n = Z) (W : World) :
    (Instr.makeSlice 50 (.int .i64 (n : Int)) (.int .i64 (n : Int))).run Try.prog W = .ok (.slice (some ⟨W.heap.size, 0, none⟩) n n) (W.alloc (.cells Z 37)) := by
  obtain ⟨i0, hi, hz0, hz1, hz2⟩ := info_parts info_intsB
  exact run_make_v 24 Try.underlying50 hi hz0 hz1 rfl hz2 (by decide) n hn Z hZ W

/-- a slice, told by its parts -/
abbrev Sl := Option Addr × Nat × Nat
def slV (x : Sl) : Value := .slice x.1 x.2.1 x.2.2

/-- a row of rows of ints, each in a block of its own -/
structure Begs (w0 w : World) (g : Nat) (B : List Sl) : Prop where
  row : VRow 37 w g (B.map slV)
  own : ∀ i (h : i < B.length), ∃ I, IRow w (slV (B[i]'h)) I ∧ I.length = (B[i]'h).2.1
  apart : ∀ i j (hi : i < B.length) (hj : j < B.length), i ≠ j → ∀ b, (slV (B[i]'hi)).ownBlock = some b → (slV (B[j]'hj)).ownBlock ≠ some b
  fresh : ∀ i (h : i < B.length), ∀ b, (slV (B[i]'h)).ownBlock = some b → w0.heap.size ≤ b

theorem IRow.blk {w : World} {v : Value} {I : List Int} (h : IRow w v I) {b : Nat} (hb : v.ownBlock = some b) : ∃ c, w.heap[b]? = some (.cells c 3 (0, 0)) := by
  rcases h.2 with ⟨rfl, _⟩ | ⟨g, cap, cur, rfl, _, hh, _⟩
  · simp [Value.ownBlock] at hb
  · simp [Value.ownBlock] at hb
    subst hb
    exact ⟨cur, hh⟩

/-- blocks of no row stay what they were -/
theorem Begs.mut {w0 w w' : World} {g : Nat} {B : List Sl} {S : List Nat} (h : Begs w0 w g B) (m : Mut S w w') (hg : g ∉ S) (hs : ∀ b, b ∈ S → ∀ c, w.heap[b]? ≠ some (.cells c 3 (0, 0))) : Begs w0 w' g B := by
  refine ⟨h.row.mut m hg, fun i hi => ?_, h.apart, h.fresh⟩
  obtain ⟨I, h1, h2⟩ := h.own i hi
  refine ⟨I, h1.mut m (fun b hb hm => ?_), h2⟩
  obtain ⟨c, hc⟩ := h1.blk hb
  exact hs b hm c hc

theorem Begs.start (w0 w : World) (g n : Nat) (h : VRow 37 w g (List.replicate n (.slice none 0 0))) : Begs w0 w g (List.replicate n (none, 0, 0)) := by
  refine ⟨by rw [List.map_replicate]; exact h, fun i hi => ⟨[], ?_, ?_⟩, fun i j hi hj _ b hb => ?_, fun i hi b hb => ?_⟩
  · rw [List.getElem_replicate]; exact IRow.nil _
  · rw [List.getElem_replicate]; rfl
  · rw [List.getElem_replicate] at hb; simp [slV, Value.ownBlock] at hb
  · rw [List.getElem_replicate] at hb; simp [slV, Value.ownBlock] at hb

/-- one row has grown by one, and is stored again -/
theorem Begs.grow {w0 w w1 : World} {g : Nat} {B : List Sl} (h : Begs w0 w g B) (hw : w0.heap.size ≤ w.heap.size) (i : Nat) (hi : i < B.length) {v' : Value} {I' : List Int} (hr : IRow w1 v' I') (hI : I'.length = (B[i]'hi).2.1 + 1)
    (m1 : Mut (slV (B[i]'hi)).ownBlock.toList w w1) (hf : ∀ b, v'.ownBlock = some b → (slV (B[i]'hi)).ownBlock = some b ∨ w.heap.size ≤ b) :
    ∃ p c, v' = slV (p, (B[i]'hi).2.1 + 1, c) ∧ VRow 37 w1 g (B.map slV) ∧ Begs w0 (w1.setCell ⟨g, i, none⟩ v') g (B.set i (p, (B[i]'hi).2.1 + 1, c)) := by
  have hgb := h.row.blk
  obtain ⟨cg, hcg⟩ := hgb
  have hne : ∀ b, (slV (B[i]'hi)).ownBlock = some b → b ≠ g := by
    intro b hb e
    subst e
    obtain ⟨I, h1, -⟩ := h.own i hi
    obtain ⟨c, hc⟩ := h1.blk hb
    rw [hcg] at hc
    simp only [Option.some.injEq, Obj.cells.injEq] at hc
    exact absurd hc.2.1 (by decide)
  have hrow1 : VRow 37 w1 g (B.map slV) := h.row.mut m1 (fun hm => by
    simp at hm
    exact hne g hm rfl)
  have hg1 : w1.heap[g]? = some (.cells cg 37 (0, 0)) := m1.get hcg (fun hm => by
    simp at hm
    exact hne g hm rfl)
  obtain ⟨p, l, c, rfl⟩ := hr.form
  have hl : l = (B[i]'hi).2.1 + 1 := by
    rcases hr.2 with ⟨h1, h2⟩ | ⟨_, _, _, h1, _⟩
    · omega
    · simp only [Value.slice.injEq] at h1
      omega
  subst hl
  have hvg : ∀ b, (slV (p, (B[i]'hi).2.1 + 1, c)).ownBlock = some b → b ≠ g := by
    intro b hb e
    subst e
    obtain ⟨c', hc'⟩ := hr.blk hb
    rw [hg1] at hc'
    simp only [Option.some.injEq, Obj.cells.injEq] at hc'
    exact absurd hc'.2.1 (by decide)
  have m2 : Mut [g] w1 (w1.setCell ⟨g, i, none⟩ (.slice p ((B[i]'hi).2.1 + 1) c)) := (Mut.refl _ w1).setCell (.inl (by simp)) _
  refine ⟨p, c, rfl, hrow1, ?_, ?_, ?_, ?_⟩
  · have := hrow1.set i (.slice p ((B[i]'hi).2.1 + 1) c)
    rw [List.map_set]
    exact this
  · intro j hj
    rw [List.length_set] at hj
    by_cases e : i = j
    · subst e
      rw [List.getElem_set_self]
      exact ⟨I', hr.mut m2 (fun b hb hm => by simp at hm; exact hvg b hb hm), hI⟩
    · rw [List.getElem_set_ne e]
      obtain ⟨I, h1, h2⟩ := h.own j hj
      refine ⟨I, ?_, h2⟩
      have h3 : IRow w1 (slV (B[j]'hj)) I := h1.mut m1 (fun b hb hm => by
        simp at hm
        exact h.apart i j hi hj e b hm hb)
      exact h3.mut m2 (fun b hb hm => by
        simp at hm
        subst hm
        obtain ⟨c', hc'⟩ := h3.blk hb
        rw [hg1] at hc'
        simp only [Option.some.injEq, Obj.cells.injEq] at hc'
        exact absurd hc'.2.1 (by decide))
  · have key : ∀ j (hj : j < B.length), i ≠ j → ∀ b, (slV (p, (B[i]'hi).2.1 + 1, c)).ownBlock = some b → (slV (B[j]'hj)).ownBlock ≠ some b := by
      intro j hj e b hb hb2
      rcases hf b hb with h1 | h1
      · exact h.apart i j hi hj e b h1 hb2
      · obtain ⟨I, h2, -⟩ := h.own j hj
        have := h2.lt hb2
        omega
    intro j k hj hk hjk b hb
    rw [List.length_set] at hj hk
    by_cases e : i = j
    · subst e
      rw [List.getElem_set_self] at hb
      rw [List.getElem_set_ne hjk]
      exact key k hk hjk b hb
    · rw [List.getElem_set_ne e] at hb
      by_cases e2 : i = k
      · subst e2
        rw [List.getElem_set_self]
        exact fun h2 => key j hj e b h2 hb
      · rw [List.getElem_set_ne e2]
        exact h.apart j k hj hk hjk b hb
  · intro j hj b hb
    rw [List.length_set] at hj
    by_cases e : i = j
    · subst e
      rw [List.getElem_set_self] at hb
      rcases hf b hb with h1 | h1
      · exact h.fresh i hi b h1
      · omega
    · rw [List.getElem_set_ne e] at hb
      exact h.fresh j hj b hb

/-! regions that draw, whose callees only lay blocks -/
theorem wp_region_mut {P : Program} {id : Nat} {Q : Exit → Act → World → Prop} {a : Act} {w : World} {l : List Oper} (F : World → Prop) (hm : P.follows .mixedOrders = true) (hB : Region.lexB .any l.toArray = true) (hF : F w.drew)
    (h : wpQuiet P l.toArray (fun w' => ∃ v : WIn F, w' = v.w) (fun a' => ∀ w', (∃ v : WIn F, w' = v.w) → Q .normal a' w') l a) : (Code.region id l.toArray true).wp P Q a w :=
  wp_region_quiet (C := fun w' => ∃ v : WIn F, w' = v.w) hm hB ⟨⟨w.drew, hF⟩, rfl⟩ (by simpa using h)

/-- a callee's contract, met in a world of the class -/
theorem Calls.inClass {P : Program} {F : World → Prop} {f : FuncId} {args : Array Value} {w : World} {v : Value} (hF : F w) (hmut : ∀ w', Mut [] w w' → F w')
    (h : Calls P f args w fun e w' => e = .returned v ∧ Mut [] w w') : Calls P f args w fun e w' => e = .returned v ∧ ∃ u : WIn F, w' = u.w :=
  h.mono fun _ w' ⟨he, hm⟩ => ⟨he, ⟨w', hmut w' hm⟩, rfl⟩

end Go.Proofs.Ythnljhcncpiemaa
