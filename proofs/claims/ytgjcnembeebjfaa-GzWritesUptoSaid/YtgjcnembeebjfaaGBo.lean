/- Rows of truth values: that came in; copied. A row of truth values that was just made, written place by place. Walks over package huff: Even; over math/bits: Len. -/
import Derived.Test.YtgjcnembeebjfaaGLaw
import Derived.Deep.Grids
import Derived.Test.YtgjcnembeebjfaaGHuf
import Derived.Lib.Strings
import Derived.Lib.Slices
import Derived.Lib.Small
import Derived.Lib.Walk
import Derived.Lib.BitFns
import Derived.Deep.DeepCutAuto

namespace Go.Proofs.Ytgjcnembeebjfaa
open Go.RowKit Go.ChangeShapes Go.WideShapes Go.ChangeAt Go.Deep

/-- a row of truth values that came in, as the walk reads it -/
def Bools (w : World) (v : Value) (U : List Bool) : Prop :=
  ∃ p cap, v = .slice p U.length cap ∧ U.length ≤ cap ∧ cap ≤ maxLen ∧ ∀ i, i < U.length → ∃ a : Addr, p = some a ∧ a.block < w.heap.size ∧ w.cell? (a.add i) = some (.bool (U.getD i false))

theorem open_Bools {H : Type} {enc : TypeId × Value → H} {P : Program} {W : World} {r : Reach} {b0 : Nat} {t e : TypeId} {v : Value} {d : DataW H} {p : List MemPlace} (ht : P.underlying t = some (.slice e)) (he : P.underlying e = some .bool) (hc : P.cellsOf e = 1)
    (hv : Value.okWide P W r b0 t v) (h : DataW.Trod enc P W 0 (fun _ => true) true t v d p) : ∃ U, Bools W v U ∧ U.length = dataLen d := by
  obtain ⟨a0, len0, cap0, rfl⟩ := okWide_slice ht hv
  obtain ⟨fuel, hf⟩ := h
  rcases open_bools ht he hc hf with ⟨hcs, hx⟩ | ⟨a, len, cap, B, hcs, _, hl, hm, hx, hcell⟩
  · simp [Value.cells] at hcs
    obtain ⟨rfl, rfl, rfl⟩ := hcs
    simp only [Prod.mk.injEq] at hx
    obtain ⟨rfl, _⟩ := hx
    exact ⟨[], ⟨none, 0, rfl, Nat.le_refl _, Nat.zero_le _, fun i hi => absurd hi (by simp)⟩, rfl⟩
  · simp [Value.cells] at hcs
    obtain ⟨rfl, rfl, rfl⟩ := hcs
    simp only [Prod.mk.injEq] at hx
    obtain ⟨rfl, _⟩ := hx
    refine ⟨(List.range len0).map B, ⟨some a, cap0, by simp, by simpa using hl, hm, fun i hi => ⟨a, rfl, ?_, ?_⟩⟩, ?_⟩
    · have h1 := World.block_lt_of_cell? W (a.add i) (hcell i (by simp at hi; omega))
      unfold Addr.add at h1
      split at h1 <;> exact h1
    · have hi' : i < len0 := by simpa using hi
      rw [hcell i (by omega)]
      simp [List.getD, hi']
    · simp [dataLen, boolRow]

theorem info_bool : (Try.prog.info? 4).map (fun i => (i.zero, i.size, i.bytes)) = some (some (.bool false), 1, 1) := by kernel_rfl

theorem Bools.read {w : World} {v : Value} {U : List Bool} (h : Bools w v U) : ∃ p cap, v = .slice p U.length cap ∧ ∀ w', Mut [] w w' → ∀ i, i < U.length → ∃ a : Addr, p = some a ∧ w'.cell? (a.add i) = some (.bool (U.getD i false)) := by
  obtain ⟨p, cap, h1, _, _, h2⟩ := h
  refine ⟨p, cap, h1, fun w' m i hi => ?_⟩
  obtain ⟨a, rfl, h3, h4⟩ := h2 i hi
  refine ⟨a, rfl, m.cell h4 (by simp)⟩

theorem Bools.src {w0 w : World} {v : Value} {U : List Bool} (h : Bools w0 v U) (m : Mut [] w0 w) : Src Try.prog 1 131 v U.length (U.map Value.bool) w := by
  obtain ⟨p, cap, rfl, _, _, h2⟩ := h
  cases p with
  | none =>
    have : U = [] := by
      cases U with
      | nil => rfl
      | cons x r => obtain ⟨b, hb, _⟩ := h2 0 (by simp); simp at hb
    subst this
    exact Src.ofNil w Try.underlying131 cap
  | some a =>
    refine Src.ofSlice w Try.underlying131 a U.length cap _ (by simp) (fun j u hu => ?_) (fun u hu => ?_)
    · by_cases hj : j < U.length
      · obtain ⟨b, hb, hlt, hc⟩ := h2 j hj
        simp at hb
        subst hb
        refine m.cell (by rw [hc]; simp [hj] at hu; simp [List.getD, hj, hu]) (by simp)
      · rw [List.getElem?_eq_none (by rw [List.length_map]; omega)] at hu
        simp at hu
    · obtain ⟨z, _, rfl⟩ := List.mem_map.1 hu
      rfl

/-- a row of truth values of the call's own -/
def BoRow (w : World) (v : Value) (U : List Bool) : Prop := w.ownsRow 0 4 1 v U.length (U.map Value.bool)

theorem BoRow.empty (w : World) : BoRow (w.alloc (.cells #[] 4)) (.slice (some ⟨w.heap.size, 0, none⟩) 0 0) [] :=
  ⟨rfl, .inr ⟨w.heap.size, 0, #[], rfl, Nat.zero_le _, heap_alloc_new w _, Nat.le_refl _, by decide, rfl, rfl⟩⟩

theorem BoRow.read {w : World} {v : Value} {L : List Bool} (h : BoRow w v L) : ∃ p cap, v = .slice p L.length cap ∧ ∀ w', Mut [] w w' → ∀ i, i < L.length → ∃ a : Addr, p = some a ∧ w'.cell? (a.add i) = some (.bool (L.getD i false)) := by
  rcases h.2 with ⟨rfl, e⟩ | ⟨g, cap, cur, rfl, _, hh, _⟩
  · exact ⟨none, 0, by rw [e], fun w' _ i hi => by omega⟩
  · refine ⟨_, cap, rfl, fun w' hm i hi => ⟨_, rfl, ?_⟩⟩
    have := (hm.row h (fun g _ => by simp)).cellAt i (by omega)
    rw [Addr.add_lit]
    simpa [List.getD, hi] using this

/-- an append of a row of truth values, in a plain statement -/
theorem wp_appB {w : World} {ops : Array Oper} {rest : List Oper} {o : Oper} {a : Act} {Q : Exit → Act → World → Prop} (hg : o.guard = none) (s x : Operand)
    (ho : o.op = .call { callee := .builtin .append, args := #[s, x], argTypes := #[131, 131] }) {r v : Value} {R xs : List Bool}
    (hr : BoRow w r R) (hs : a.eval s = r) (hv : Src Try.prog 1 131 v xs.length (xs.map Value.bool) w) (hx : a.eval x = v) (hl : R.length + xs.length ≤ 1099511627776)
    (hK : ∀ v' w', BoRow w' v' (R ++ xs) → Mut r.ownBlock.toList w w' → (∀ g, v'.ownBlock = some g → r.ownBlock = some g ∨ w.heap.size ≤ g) → wpList Try.prog ops Q rest (a.put o.dst v') w') :
    wpList Try.prog ops Q (o :: rest) a w := by
  obtain ⟨i0, hi, hz0, hz1, hz2⟩ := info_parts info_bool
  refine wp_app hg s x 131 131 ho 4 i0 (.bool false) 1 1 Try.underlying131 hi hz0 hz1 hz2 rfl hr hs hv hx (by unfold maxLen; omega) (by omega) ?_
  intro v' w' h1 h2 h3
  refine hK v' w' ?_ ((Mut.refl _ w).grown h2 (fun k hk => .inl (by simp [hk]))) h3
  unfold BoRow
  rw [List.length_append, List.map_append]
  exact h1

end Go.Proofs.Ytgjcnembeebjfaa

namespace Go.Proofs.Ytgjcnembeebjfaa
open Go.RowKit

/-- a made row at block g -/
structure BoAt (w0 wx : World) (g n : Nat) (L : List Bool) : Prop where
  row : wx.ownsRow 0 4 1 (.slice (some ⟨g, 0, none⟩) n n) n (L.map (Value.bool))
  kept : Mut [] w0 wx
  fresh : w0.heap.size ≤ g

theorem BoAt.len {w0 wx : World} {g n : Nat} {L : List Bool} (h : BoAt w0 wx g n L) : L.length = n := by
  have := h.row.1
  simpa using this

theorem BoAt.cell {w0 wx : World} {g n : Nat} {L : List Bool} (h : BoAt w0 wx g n L) (i : Nat) (hi : i < n) : wx.cell? ⟨g, i, none⟩ = some (.bool (L.getD i false)) ∧ wx.frozen? ⟨g, i, none⟩ = false := by
  have hl := h.len
  refine ⟨?_, ?_⟩
  · rw [h.row.cellAt i (by omega)]
    simp [List.getD, show i < L.length by omega]
  · rcases h.row.2 with ⟨h1, _⟩ | ⟨g', cap, cur, h1, _, hh, _⟩
    · cases h1
    · cases h1
      exact frozenOf hh i

theorem BoAt.set {w0 wx : World} {g n : Nat} {L : List Bool} (h : BoAt w0 wx g n L) (i : Nat) (v : Bool) : BoAt w0 (wx.setCell ⟨g, i, none⟩ (.bool v)) g n (L.set i v) := by
  refine ⟨?_, h.kept.setCell (.inr h.fresh) _, h.fresh⟩
  rw [List.map_set]
  have hr := h.row
  refine ⟨by rw [List.length_set]; exact hr.1, ?_⟩
  rcases hr.2 with ⟨h1, h0⟩ | ⟨g', cap, cur, h1, hb, hh, r1, r2, r3, r4⟩
  · cases h1
  · cases h1
    refine .inr ⟨_, _, _, rfl, hb, heap_set hh i _, r1, r2, by simpa using r3, ?_⟩
    rw [← r4, Array.toList_setIfInBounds, List.take_set]

theorem BoAt.start (w0 w : World) (n : Nat) (hn : n ≤ 1048576) (m : Mut [] w0 w) (Z : Array Value) (hZ : madeCells (Value.bool false).cells n = Z) : BoAt w0 (w.alloc (.cells Z 4)) w.heap.size n (List.replicate n false) := by
  refine ⟨⟨by simp, .inr ⟨w.heap.size, n, Z, rfl, Nat.zero_le _, heap_alloc_new w _, Nat.le_refl _, by unfold maxLen; omega, by rw [← hZ, size_madeCells, Nat.mul_one], ?_⟩⟩, m.alloc _, m.size⟩
  have e : (madeCells (Value.bool false).cells n).toList = (List.replicate n false).map (Value.bool) := by
    rw [List.map_replicate]
    exact toList_madeCells_one (.bool false) n
  rw [← hZ, e, List.take_of_length_le (by simp)]

/-- making one, as one step -/
theorem run_make_bool (n : Nat) (hn : n ≤ 1048576) (Z : Array Value) (hZ : madeCells (Value.bool false).cells n = Z) (k : Int) (hk : k = (n : Int)) (W : World) :
    (Instr.makeSlice 131 (.int .i64 k) (.int .i64 k)).run Try.prog W = .ok (.slice (some ⟨W.heap.size, 0, none⟩) n n) (W.alloc (.cells Z 4)) := by
  subst hk
  obtain ⟨i0, hi, hz0, hz1, hz2⟩ := info_parts info_bool
  have := run_make (P := Try.prog) W 131 4 i0 _ Try.underlying131 hi hz0 .i64 .i64 (n : Int) (n : Int) (by omega) (by omega) (by rw [hz2]; omega) (by omega)
  rw [hz1, Int.toNat_natCast, Nat.mul_one, hZ] at this
  exact this

theorem BoAt.row' {w0 wx : World} {g n : Nat} {L : List Bool} (h : BoAt w0 wx g n L) : BoRow wx (.slice (some ⟨g, 0, none⟩) n n) L := by
  unfold BoRow
  rw [h.len]
  exact h.row

theorem BoAt.mut {w0 w w' : World} {g n : Nat} {L : List Bool} (h : BoAt w0 w g n L) (m : Mut [] w w') : BoAt w0 w' g n L :=
  ⟨m.row h.row (by simp), h.kept.trans' m, h.fresh⟩

/-- how a callee reads it -/
theorem BoAt.read {w0 wx : World} {g n : Nat} {L : List Bool} (h : BoAt w0 wx g n L) : ∀ w', Mut [] wx w' → ∀ i, i < L.length → ∃ a : Addr, (some ⟨g, 0, none⟩ : Option Addr) = some a ∧ w'.cell? (a.add i) = some (.bool (L.getD i false)) := by
  intro w' m i hi
  refine ⟨_, rfl, ?_⟩
  rw [Addr.add_lit, Nat.zero_add]
  exact ((h.mut m).cell i (by rw [← h.len]; exact hi)).1

end Go.Proofs.Ytgjcnembeebjfaa

namespace Go.Proofs.Ytgjcnembeebjfaa
open Go.RowKit

set_option maxRecDepth 100000 in
theorem fold8 : (ByteArray.mk (List.toArray (List.append (List.append ([0, 1, 2, 2, 3, 3, 3, 3, 4, 4, 4, 4, 4, 4, 4, 4, 5, 5, 5, 5, 5, 5, 5, 5, 5, 5, 5, 5, 5, 5, 5, 5, 6, 6, 6, 6, 6, 6, 6, 6, 6, 6, 6, 6, 6, 6, 6, 6, 6, 6, 6, 6, 6, 6, 6, 6, 6, 6, 6, 6, 6, 6, 6, 6] : List UInt8) [7, 7, 7, 7, 7, 7, 7, 7, 7, 7, 7, 7, 7, 7, 7, 7, 7, 7, 7, 7, 7, 7, 7, 7, 7, 7, 7, 7, 7, 7, 7, 7, 7, 7, 7, 7, 7, 7, 7, 7, 7, 7, 7, 7, 7, 7, 7, 7, 7, 7, 7, 7, 7, 7, 7, 7, 7, 7, 7, 7, 7, 7, 7, 7]) (List.append [8, 8, 8, 8, 8, 8, 8, 8, 8, 8, 8, 8, 8, 8, 8, 8, 8, 8, 8, 8, 8, 8, 8, 8, 8, 8, 8, 8, 8, 8, 8, 8, 8, 8, 8, 8, 8, 8, 8, 8, 8, 8, 8, 8, 8, 8, 8, 8, 8, 8, 8, 8, 8, 8, 8, 8, 8, 8, 8, 8, 8, 8, 8, 8] [8, 8, 8, 8, 8, 8, 8, 8, 8, 8, 8, 8, 8, 8, 8, 8, 8, 8, 8, 8, 8, 8, 8, 8, 8, 8, 8, 8, 8, 8, 8, 8, 8, 8, 8, 8, 8, 8, 8, 8, 8, 8, 8, 8, 8, 8, 8, 8, 8, 8, 8, 8, 8, 8, 8, 8, 8, 8, 8, 8, 8, 8, 8, 8])))) = Lib.len8tab := rfl

theorem len8_all : (List.range 256).all (fun i => i == 0 || (decide (1 ≤ (Lib.len8 (i : Int)).toNat) && decide ((Lib.len8 (i : Int)).toNat ≤ 8) && decide (2 ^ ((Lib.len8 (i : Int)).toNat - 1) ≤ i) && decide (i < 2 ^ (Lib.len8 (i : Int)).toNat) && decide (0 ≤ Lib.len8 (i : Int)))) = true := by decide +kernel

theorem len8_spec (i : Nat) (h0 : 0 < i) (hi : i < 256) : ∃ L : Nat, Lib.len8 (i : Int) = (L : Int) ∧ 1 ≤ L ∧ L ≤ 8 ∧ 2 ^ (L - 1) ≤ i ∧ i < 2 ^ L := by
  have h := List.all_eq_true.1 len8_all i (List.mem_range.2 hi)
  simp only [Bool.or_eq_true, Bool.and_eq_true, decide_eq_true_eq, beq_iff_eq] at h
  rcases h with h | ⟨⟨⟨⟨h1, h2⟩, h3⟩, h4⟩, h5⟩
  · omega
  · exact ⟨(Lib.len8 (i : Int)).toNat, by omega, h1, h2, h3, h4⟩

set_option maxHeartbeats 1600000 in
set_option maxRecDepth 1000000 in
theorem len64_any (m : Nat) (h0 : 0 < m) (hm : m ≤ 32768) (w : World) : Calls Try.prog 113 #[.int .u64 (m : Int)] w fun e w' => ∃ L : Nat, e = .returned (.int .i64 (L : Int)) ∧ 1 ≤ L ∧ L ≤ 16 ∧ 2 ^ (L - 1) ≤ m ∧ m < 2 ^ L ∧ w = w' := by
  have h1 : ¬ (4294967296 : Int) ≤ (m : Int) := by omega
  have h2 : ¬ (65536 : Int) ≤ (m : Int) := by omega
  by_cases h3 : 256 ≤ m
  · obtain ⟨L, hL, l1, l2, l3, l4⟩ := len8_spec (m / 256) (by omega) (by omega)
    have h3I : (256 : Int) ≤ (m : Int) := by omega
    have hq : ((m : Int) / 256) % 256 = ((m / 256 : Nat) : Int) := by omega
    go_enter Try.func113, Try.ntmps113
    have hL2 : Lib.len8 ((m : Int) / 256) = (L : Int) := by rw [show ((m : Int) / 256) = ((m / 256 : Nat) : Int) by omega]; exact hL
    have hi1 : (m : Int) / 256 ≤ 255 := by omega
    have hi0 : (0 : Int) ≤ (m : Int) / 256 := by omega
    clear hL
    have L1 := Lib.hid l3
    have L2 := Lib.hid l4
    clear l3 l4
    go_upto_region 10 with fail
    rw [fold8]
    go_wp2_with fail
    refine bodyPost_ret (results_tmp rfl _ _ _) rfl ⟨8 + L, by rw [Int.natCast_add]; rfl, by omega, by omega, ?_, ?_, rfl⟩
    · rw [show 8 + L - 1 = L - 1 + 8 by omega, Nat.pow_add]
      have := L1.out
      have h8 : (2 : Nat) ^ 8 = 256 := rfl
      rw [h8]
      omega
    · rw [Nat.add_comm 8 L, Nat.pow_add]
      have := L2.out
      have h8 : (2 : Nat) ^ 8 = 256 := rfl
      rw [h8]
      omega
  · obtain ⟨L, hL, l1, l2, l3, l4⟩ := len8_spec m h0 (by omega)
    have h3I : ¬ (256 : Int) ≤ (m : Int) := by omega
    have hq : (m : Int) % 256 = (m : Int) := by omega
    go_enter Try.func113, Try.ntmps113
    have hi1 : (m : Int) ≤ 255 := by omega
    have L1 := Lib.hid l3
    have L2 := Lib.hid l4
    clear l3 l4
    go_upto_region 10 with fail
    rw [fold8]
    go_wp2_with fail
    exact bodyPost_ret (results_tmp rfl _ _ _) rfl ⟨L, rfl, l1, by omega, L1.out, L2.out, rfl⟩

theorem len_any (m : Nat) (h0 : 0 < m) (hm : m ≤ 32768) (w : World) : Calls Try.prog 106 #[.int .u64 (m : Int)] w fun e w' => ∃ L : Nat, e = .returned (.int .i64 (L : Int)) ∧ 1 ≤ L ∧ L ≤ 16 ∧ 2 ^ (L - 1) ≤ m ∧ m < 2 ^ L ∧ w = w' := by
  go_enter Try.func106, Try.ntmps106
  go_wp2_with (go_at_call 113; refine (len64_any m h0 hm _).mono ?_; rintro e w1 ⟨L, rfl, l1, l2, l3, l4, rfl⟩; have L3 := Lib.hid l3; have L4 := Lib.hid l4; clear l3 l4)
  exact bodyPost_ret (results_tmp rfl _ _ _) rfl ⟨L, rfl, l1, l2, L3.out, L4.out, rfl⟩

theorem RSt.start' (w : World) (n : Nat) (hn : n ≤ 1048576) (Z : Array Value) (hZ : madeCells (Value.int .i64 0).cells n = Z) : RSt w (w.alloc (.cells Z 3)) w.heap.size n (List.replicate n 0) := by
  refine ⟨⟨by simp, .inr ⟨w.heap.size, n, Z, rfl, Nat.zero_le _, heap_alloc_new w _, Nat.le_refl _, by unfold maxLen; omega, by rw [← hZ, size_madeCells, Nat.mul_one], ?_⟩⟩, by simp, (Mut.refl [] w).alloc _, Nat.le_refl _⟩
  rw [← hZ, madeCells_int, List.take_of_length_le (by simp)]

theorem numOf_take (U : List Bool) (i : Nat) (hi : i < U.length) (b : Bool) (hb : U.getD i false = b) : cntTo U (i + 1) = cntTo U i + (if b = true then 1 else 0) := by
  rw [cntTo_succ U i hi, hb]

set_option maxHeartbeats 3200000 in
set_option maxRecDepth 1000000 in
theorem even_any (U : List Bool) (hl : U.length ≤ 1048576) (rp0 : Option Addr) (rc0 : Nat) (w : World)
    (hcells : ∀ (w' : World), Mut [] w w' → ∀ i : Nat, i < U.length → ∃ a : Addr, rp0 = some a ∧ w'.cell? (a.add i) = some (.bool (U.getD i false))) :
    Calls Try.prog 87 #[.slice rp0 U.length rc0] w fun e w' => ∃ v, e = .returned v ∧ IRow w' v (evenI U) ∧ Mut [] w w' ∧ ∀ g, v.ownBlock = some g → w.heap.size ≤ g := by
  have HC := Lib.hid hcells
  clear hcells
  go_enter Try.func87, Try.ntmps87
  go_wp2_with fail
  go_loop [3, 13] (fun m x => ∃ i : Nat, x = .int .i64 (i : Int) ∧ i ≤ U.length ∧ m = .int .i64 (cntTo U i : Nat)) (fun _ x => U.length - (intOf x).toNat)
  case atStart => exact ⟨0, rfl, by omega, rfl⟩
  case round =>
    obtain ⟨i, rfl, hi, rfl⟩ := hrel
    have hcb := cntTo_len U i
    by_cases hend : i < U.length
    · have hendI : (i : Int) < (U.length : Int) := by omega
      obtain ⟨a, rfl, ca⟩ := HC.out w (Mut.refl _ _) i hend
      have HS := Lib.hid (cntTo_succ U i hend)
      generalize U.getD i false = b at *
      generalize cntTo U i = c at *
      cases b
      · go_wp2_with fail
        exact ⟨⟨i + 1, by rw [Int.natCast_add]; rfl, by omega, by rw [HS.out]; rfl⟩, by simp only [intOf]; omega⟩
      · go_wp2_with fail
        exact ⟨⟨i + 1, by rw [Int.natCast_add]; rfl, by omega, by rw [HS.out, if_pos rfl, Int.natCast_add]; rfl⟩, by simp only [intOf]; omega⟩
    · have e : i = U.length := by omega
      have hendI : ¬ (i : Int) < (U.length : Int) := by omega
      subst e
      rw [cntTo_all] at hcb ⊢
      obtain ⟨Z1, hZ1⟩ : ∃ Z, madeCells (Value.int .i64 0).cells U.length = Z := ⟨_, rfl⟩
      have hmk1 : ∀ W : World, (Instr.makeSlice 88 (.int .i64 (U.length : Int)) (.int .i64 (U.length : Int))).run Try.prog W = .ok (.slice (some ⟨W.heap.size, 0, none⟩) U.length U.length) (W.alloc (.cells Z1 3)) := by
        intro W
        obtain ⟨i0, hi, hz0, hz1, hz2⟩ := info_parts info_int
        have := run_make (P := Try.prog) W 88 3 i0 _ Try.underlying88 hi hz0 .i64 .i64 (U.length : Int) (U.length : Int) (by omega) (by omega) (by rw [hz2]; omega) (by omega)
        rw [hz1, Int.toNat_natCast, Nat.mul_one, hZ1] at this
        exact this
      have HST := Lib.hid (RSt.start' w U.length (by omega) Z1 hZ1)
      clear hZ1
      by_cases hz : numOf U = 0 ∨ 32768 < numOf U
      · have hfin := HST.out
        rw [← evenI_none U hz] at hfin
        have HFIN := Lib.hid hfin
        clear hfin HST
        have FIN : Hid (IRow (w.alloc (.cells Z1 3)) (.slice (some ⟨w.heap.size, 0, none⟩) U.length U.length) (evenI U) ∧ Mut [] w (w.alloc (.cells Z1 3)) ∧ ∀ g, (Value.slice (some ⟨w.heap.size, 0, none⟩) U.length U.length).ownBlock = some g → w.heap.size ≤ g) := Lib.hid (by
          refine ⟨?_, HFIN.out.kept, fun g hg => by simp [Value.ownBlock] at hg; omega⟩
          unfold IRow
          rw [evenI_length]
          exact HFIN.out.row)
        generalize numOf U = m at *
        rcases hz with rfl | hz
        · go_wp2_with fail
          exact bodyPost_ret (results_tmp rfl _ _ _) rfl ⟨.slice (some ⟨w.heap.size, 0, none⟩) U.length U.length, rfl, FIN.out⟩
        · have hz0 : ((m : Int) == 0) = false := by simpa using (show ¬ (m : Int) = 0 by omega)
          have hz1 : (32768 : Int) < (m : Int) := by omega
          go_wp2_with fail
          exact bodyPost_ret (results_tmp rfl _ _ _) rfl ⟨.slice (some ⟨w.heap.size, 0, none⟩) U.length U.length, rfl, FIN.out⟩
      · have HEV : Hid (∀ i, evenAt U i = if U.getD i false = true then (if cntTo U i < shortOf (numOf U) then kOf (numOf U) else kOf (numOf U) + 1) else 0) := Lib.hid (fun i => by
          unfold evenAt
          rw [if_neg hz])
        have HCNT : Hid (∀ i, i < U.length → U.getD i false = true → cntTo U i < numOf U) := Lib.hid (cntTo_lt U)
        obtain ⟨m, hm⟩ : ∃ m, numOf U = m := ⟨_, rfl⟩
        rw [hm] at hz hcb HEV HCNT ⊢
        have hm0 : 0 < m := by omega
        have hm1 : m ≤ 32768 := by omega
        have hz0 : ((m : Int) == 0) = false := by simpa using (show ¬ (m : Int) = 0 by omega)
        have hz1 : ¬ (32768 : Int) < (m : Int) := by omega
        clear hm hz
        have HLN := Lib.hid (len_any m hm0 hm1 (w.alloc (.cells Z1 3)))
        go_upto_region 12 with (go_at_call 106; refine HLN.out.mono ?_; rintro e w1 ⟨L, rfl, l1, l2, l3, l4, rfl⟩; have L3 := Lib.hid l3; have L4 := Lib.hid l4; clear l3 l4)
        obtain ⟨kk, rfl⟩ : ∃ k, L = k + 1 := ⟨L - 1, by omega⟩
        have HK : Hid (m.log2 = kk) := Lib.hid (log2_is m kk L3.out L4.out)
        have hkk : kk ≤ 15 := by omega
        obtain ⟨P, hP⟩ : ∃ P, 2 ^ (kk + 1) = P := ⟨_, rfl⟩
        have hPm : m < P := by rw [← hP]; exact L4.out
        have hPb : P ≤ 65536 := by rw [← hP]; exact Nat.pow_le_pow_right (n := 2) (by decide) (show kk + 1 ≤ 16 by omega)
        have hwP : wrap64 ((2 : Int) ^ (kk + 1)) = (P : Int) := by
          have : ((2 : Int) ^ (kk + 1)) = ((2 ^ (kk + 1) : Nat) : Int) := by simp
          rw [this, hP]; exact IntWalk.wrap64_in _ (by omega)
        have HP := Lib.hid hP
        have HSH : Hid (shortOf m = P - m) := Lib.hid (by unfold shortOf; rw [HK.out, hP])
        clear hP L3 L4 hmk1 HLN
        have hG := HST.out.fg
        generalize w.alloc (.cells Z1 3) = W0 at *
        obtain ⟨g, hg⟩ : ∃ g, w.heap.size = g := ⟨_, rfl⟩
        rw [hg] at HST ⊢
        have HGG := Lib.hid hg
        clear hG hg
        go_upto_if 41 with fail
        go_cut [7, 8] (fun s7 s8 wx => wx = W0 ∧ s7 = .int .i64 (kOf m : Nat) ∧ s8 = .int .i64 (shortOf m : Nat))
        case first =>
          by_cases h1 : m = 1
          · subst h1
            have e1 : kOf 1 = 1 := rfl
            have e2 : shortOf 1 = 1 := by decide
            have E1 := Lib.hid e1
            have E2 := Lib.hid e2
            clear e1 e2
            go_wp2_with fail
            go_meet
            exact ⟨rfl, by rw [E1.out]; rfl, by rw [E2.out]; rfl⟩
          · have h1I : ((m : Int) == 1) = false := by simpa using (show ¬ (m : Int) = 1 by omega)
            have E1 : Hid (kOf m = kk) := Lib.hid (by unfold kOf; rw [if_neg h1, HK.out])
            go_wp2_with fail
            go_meet
            exact ⟨rfl, by rw [E1.out]; congr 1; omega, by rw [HSH.out]; congr 1; omega⟩
        case rest =>
          obtain ⟨rfl, rfl, rfl⟩ := hcut
          have hk15 : kOf m ≤ 15 := by unfold kOf; split; omega; rw [HK.out]; omega
          have hs16 : shortOf m ≤ 65536 := by rw [HSH.out]; omega
          clear HK HP HSH hwP hPm hPb hkk l1 l2 hz0 hz1
          generalize kOf m = K at *
          generalize shortOf m = S at *
          go_wp2_with fail
          go_loopw [8, 44] (fun sh x wx => ∃ i : Nat, x = .int .i64 (i : Int) ∧ i ≤ U.length ∧ sh = .int .i64 ((S - cntTo U i : Nat) : Int) ∧ Hid (RSt w wx g U.length (evenTo U i))) (fun _ x _ => U.length - (intOf x).toNat)
          case atStart => exact ⟨0, rfl, Nat.zero_le _, by simp [cntTo], Lib.hid (by rw [evenTo_zero]; exact HST.out)⟩
          case round =>
            obtain ⟨i, rfl, hi2, rfl, HR⟩ := hrel
            by_cases hend2 : i < U.length
            · have hend2I : (i : Int) < (U.length : Int) := by omega
              obtain ⟨a, rfl, ca⟩ := HC.out wr HR.out.kept i hend2
              have HS := Lib.hid (cntTo_succ U i hend2)
              have HSK : Hid (U.getD i false = false → evenTo U (i + 1) = evenTo U i) := Lib.hid (evenTo_skip U i)
              have HEI := Lib.hid (HEV.out i)
              have HST2 := Lib.hid (evenTo_step U i)
              obtain ⟨xv, cR⟩ : ∃ x, wr.cell? ⟨g, i, none⟩ = some x := by
                have h1 := HR.out.row.cellAt i (by omega)
                have h2 : i < ((evenTo U i).map (Value.int .i64)).length := by rw [List.length_map, HR.out.len]; omega
                rw [List.getElem?_eq_getElem h2] at h1
                exact ⟨_, h1⟩
              have fR := HR.out.row.frozenAt i
              generalize U.getD i false = b at *
              generalize cntTo U i = c at *
              cases b
              · have hR2 := HR.out
                rw [← HSK.out rfl] at hR2
                have HR2 := Lib.hid hR2
                clear hR2 HR HEI HST2
                go_wp2_with fail
                exact ⟨⟨i + 1, by rw [Int.natCast_add]; rfl, by omega, by rw [HS.out]; simp, HR2⟩, by simp only [intOf]; omega⟩
              · have hev := HEI.out
                rw [if_pos rfl] at hev
                by_cases hc : c < S
                · rw [if_pos hc] at hev
                  rw [hev] at HST2
                  have hcI : (0 : Int) < ((S - c : Nat) : Int) := by omega
                  have hset := (HR.out.set i ((K : Int) + 1)).set i (K : Int)
                  rw [List.set_set, HST2.out] at hset
                  have HSET := Lib.hid hset
                  have HC2 : Hid (((S - c : Nat) : Int) - 1 = ((S - (c + 1) : Nat) : Int)) := Lib.hid (by omega)
                  have hsb : ((S - c : Nat) : Int) ≤ 65536 := by omega
                  generalize hsc : ((S - c : Nat) : Int) = SC at *
                  clear hset hev HEI HSK HST2 HR hsc
                  go_wp2_with fail
                  refine ⟨⟨i + 1, by rw [Int.natCast_add]; rfl, by omega, ?_, HSET⟩, by simp only [intOf]; omega⟩
                  rw [HC2.out, HS.out]; rfl
                · rw [if_neg hc] at hev
                  rw [hev, Int.natCast_add] at HST2
                  have hcI : ¬ (0 : Int) < ((S - c : Nat) : Int) := by omega
                  have hset := HR.out.set i ((K : Int) + ((1 : Nat) : Int))
                  rw [HST2.out] at hset
                  have HSET := Lib.hid hset
                  have HC2 : Hid (((S - c : Nat) : Int) = ((S - (c + 1) : Nat) : Int)) := Lib.hid (by omega)
                  generalize hsc : ((S - c : Nat) : Int) = SC at *
                  clear hset hev HEI HSK HST2 HR hsc
                  go_wp2_with fail
                  refine ⟨⟨i + 1, by rw [Int.natCast_add]; rfl, by omega, ?_, HSET⟩, by simp only [intOf]; omega⟩
                  rw [HC2.out, HS.out]; rfl
            · have hend2I : ¬ (i : Int) < (U.length : Int) := by omega
              have ei : i = U.length := by omega
              subst ei
              have hfin := HR.out
              rw [evenTo_all] at hfin
              have HFIN := Lib.hid hfin
              clear hfin HR
              go_wp2_with fail
              refine bodyPost_ret (results_tmp rfl _ _ _) rfl ⟨.slice (some ⟨g, 0, none⟩) U.length U.length, rfl, ?_, HFIN.out.kept, fun g' hg' => ?_⟩
              · unfold IRow
                rw [evenI_length]
                exact HFIN.out.row
              · simp [Value.ownBlock] at hg'
                have := HGG.out
                omega

end Go.Proofs.Ytgjcnembeebjfaa
