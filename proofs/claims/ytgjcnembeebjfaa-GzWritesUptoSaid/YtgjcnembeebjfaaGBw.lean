/- Walks over package bits: the writer's bit. Walks over package bits: the writer's methods. -/
import Derived.Test.YtgjcnembeebjfaaBase
import Derived.Test.YtgjcnembeebjfaaGFa
import Derived.BigRegion
import Derived.BigQuiet
import Derived.Deep.QuietTactic
import Derived.StillTailTactics
import Derived.Test.YtgjcnembeebjfaaGFb
import Derived.Deep.LoopGhost

namespace Go.Proofs.Ytgjcnembeebjfaa
open Go.RowKit

theorem info_u8 : (Try.prog.info? 5).map (fun i => (i.zero, i.size, i.bytes)) = some (some (.int .u8 0), 1, 1) := by kernel_rfl

/-- the last byte with a further bit -/
def newByte (l : List Bool) (c : Bool) : Nat := byteAt l (l.length / 8) + c.toNat * 2 ^ (l.length % 8)

/-- A Writer at block b, its row in block r, holds the bits l. -/
def WrIs (w : World) (b : Nat) (r : Option Nat) (l : List Bool) : Prop :=
  ∃ v, w.heap[b]? = some (.cells #[v, .int .i64 (l.length : Int)] 114 (0, 0)) ∧ w.ownsRow 0 5 1 v (pack l).length ((pack l).map fun n : Nat => Value.int .u8 (n : Int)) ∧ v.ownBlock = r

/-- what a call on it leaves -/
def WrTo (w : World) (b : Nat) (r : Option Nat) (l : List Bool) (w' : World) : Prop :=
  ∃ r', WrIs w' b r' l ∧ (∀ g, r' = some g → r = some g ∨ w.heap.size ≤ g) ∧ Mut (b :: r.toList) w w'

theorem map_set_u8 (l : List Nat) (i n : Nat) : (l.map fun n : Nat => Value.int .u8 (n : Int)).set i (.int .u8 (n : Int)) = (l.set i n).map fun n : Nat => Value.int .u8 (n : Int) := by
  rw [List.map_set]

theorem int_bit (x : Int) : x % 2 = ((decide (x % 2 = 1)).toNat : Int) := by
  by_cases h : x % 2 = 1
  · simp [h]
  · have : x % 2 = 0 := by omega
    simp [this]

theorem WrTo.refl {w : World} {b : Nat} {r : Option Nat} {l : List Bool} (h : WrIs w b r l) : WrTo w b r l w := ⟨r, h, fun _ h => .inl h, Mut.refl _ _⟩

theorem WrTo.then {w w1 w2 : World} {b : Nat} {r r1 : Option Nat} {l l1 : List Bool} (h : WrIs w1 b r1 l1) (hf : ∀ g, r1 = some g → r = some g ∨ w.heap.size ≤ g) (hm : Mut (b :: r.toList) w w1)
    (k : WrTo w1 b r1 l w2) : WrTo w b r l w2 := by
  obtain ⟨r2, k1, k2, k3⟩ := k
  refine ⟨r2, k1, fun g hg => ?_, hm.trans k3 fun x hx => ?_⟩
  · rcases k2 g hg with h1 | h1
    · exact hf g h1
    · exact .inr (Nat.le_trans hm.size h1)
  · rcases List.mem_cons.1 hx with rfl | hx
    · exact .inl (by simp)
    · rcases hf x (by simpa using hx) with h1 | h1
      · exact .inl (by simp [h1])
      · exact .inr h1

theorem WrIs.row_ne {w : World} {b : Nat} {r : Option Nat} {l : List Bool} (h : WrIs w b r l) {b' : Nat} {c : Array Value} {t : TypeId} {fr : Nat × Nat} (hb : w.heap[b']? = some (.cells c t fr)) (hne : 5 ≠ t) : ∀ g, r = some g → g ≠ b' := by
  obtain ⟨v, _, h2, rfl⟩ := h
  intro g hg e
  exact Ytgjcnembeebjfaa.row_ne h2 hb hne (by rw [hg, e])

theorem WrIs.lt {w : World} {b : Nat} {r : Option Nat} {l : List Bool} (h : WrIs w b r l) : b < w.heap.size ∧ ∀ g, r = some g → g < w.heap.size := by
  obtain ⟨v, h1, h2, rfl⟩ := h
  exact ⟨lt_of_heap h1, fun g hg => (h2.lt g hg).2⟩

theorem WrIs.mut {w w' : World} {b : Nat} {r : Option Nat} {l : List Bool} {S : List Nat} (h : WrIs w b r l) (hm : Mut S w w') (hb : b ∉ S) (hr : ∀ g, r = some g → g ∉ S) : WrIs w' b r l := by
  obtain ⟨v, h1, h2, rfl⟩ := h
  exact ⟨v, hm.get h1 hb, hm.row h2 hr, rfl⟩

theorem WrIs.heap {w : World} {b : Nat} {r : Option Nat} {l : List Bool} (h : WrIs w b r l) : ∃ c, w.heap[b]? = some (.cells c 114 (0, 0)) := by
  obtain ⟨v, h1, _⟩ := h
  exact ⟨_, h1⟩

theorem writer_new (w : World) : WrIs (w.alloc (.cells #[.slice none 0 0, .int .i64 0] 114)) w.heap.size none [] :=
  ⟨_, heap_alloc_new w _, World.ownsRow_nil _ _ _ _, rfl⟩

theorem WrIs.drew {w : World} {b : Nat} {r : Option Nat} {l : List Bool} (h : WrIs w b r l) : WrIs w.drew b r l := h

/-- the second half of bit: the bit is laid into the last byte -/
theorem bit_lay (b g cap n : Nat) (l : List Bool) (c : Bool) (ys : List Nat) (w2 : World)
    (hb : w2.heap[b]? = some (.cells #[.slice (some ⟨g, 0, none⟩) n cap, .int .i64 (l.length : Int)] 114 (0, 0)))
    (hr : w2.ownsRow 0 5 1 (.slice (some ⟨g, 0, none⟩) n cap) n (ys.map fun n : Nat => Value.int .u8 (n : Int)))
    (hp : pack (l ++ [c]) = ys.set (l.length / 8) (newByte l c)) :
    WrIs ((w2.setCell ⟨g, l.length / 8, none⟩ (.int .u8 ((newByte l c : Nat) : Int))).setCell ⟨b, 1, none⟩ (.int .i64 ((l.length : Int) + 1))) b (some g) (l ++ [c]) := by
  have hgb : g ≠ b := fun e => row_ne hr hb (by decide) (by simp [Value.ownBlock, e])
  obtain ⟨s1, _⟩ := hr.stored (l.length / 8) (.int .u8 ((newByte l c : Nat) : Int))
  rw [map_set_u8, ← hp] at s1
  have s2 := row_set_ne s1 (b := b) (i := 1) (s := none) (by intro g' h; simp [Value.ownBlock] at h; omega) (.int .i64 ((l.length : Int) + 1))
  have hn : n = (pack (l ++ [c])).length := by
    have := s2.1; simp at this; exact this.symm
  subst hn
  refine ⟨_, ?_, s2, rfl⟩
  rw [← heap_set_ne (w := w2) (k := b) (b := g) (i := l.length / 8) (s := none) (Ne.symm hgb) (.int .u8 ((newByte l c : Nat) : Int))] at hb
  have := heap_set hb 1 (.int .i64 ((l.length : Int) + 1))
  rw [this]
  simp

theorem shl_bit (x : Int) (k : Nat) (hk : k < 8) : IntKind.u8.wrap (IntKind.u8.wrap (x % 2) * 2 ^ k) = (((decide (x % 2 = 1)).toNat * 2 ^ k : Nat) : Int) := by
  have hp : (2 : Nat) ^ k ≤ 2 ^ 7 := Nat.pow_le_pow_right (by decide) (by omega)
  rw [IntWalk.u8_in (x % 2) (by omega)]
  have h := toNat_le1 (decide (x % 2 = 1))
  have e : ((x % 2) * 2 ^ k : Int) = (((decide (x % 2 = 1)).toNat * 2 ^ k : Nat) : Int) := by rw [Int.natCast_mul, ← int_bit x]; simp
  rw [e]
  apply IntWalk.u8_in
  rcases (show (decide (x % 2 = 1)).toNat = 0 ∨ (decide (x % 2 = 1)).toNat = 1 by omega) with h | h <;> rw [h] <;> omega

theorem or_bit (l : List Bool) (c : Bool) : bits .or .u8 ((byteAt l (l.length / 8) : Nat) : Int) ((c.toNat : Int) * 2 ^ (l.length % 8)) = ((newByte l c : Nat) : Int) := by
  rw [show ((c.toNat : Int) * 2 ^ (l.length % 8)) = ((c.toNat * 2 ^ (l.length % 8) : Nat) : Int) by simp]
  refine or_u8_join _ _ _ (byteAt_last_lt l) ?_
  have := byteAt_last_lt l
  have hp : (2 : Nat) ^ (l.length % 8) ≤ 2 ^ 7 := Nat.pow_le_pow_right (by decide) (by omega)
  have h := toNat_le1 c
  rcases (show c.toNat = 0 ∨ c.toNat = 1 by omega) with h | h <;> rw [h] <;> omega

set_option maxHeartbeats 1600000 in
set_option maxRecDepth 100000 in
theorem bit_old (b : Nat) (r : Option Nat) (l : List Bool) (x : Int) (w : World) (h : WrIs w b r l) (hl : l.length ≤ 1125899906842000) (hm : l.length % 8 ≠ 0) :
    Calls Try.prog 80 #[.pointer (some ⟨b, 0, none⟩), .int .i64 x] w fun e w' => e = .returned (.tuple #[]) ∧ WrTo w b r (l ++ [decide (x % 2 = 1)]) w' := by
  obtain ⟨v, hb, hr, rfl⟩ := h
  have hpl := pack_length l
  obtain ⟨g, cap, rfl, hgl, hcap⟩ := row_some hr (by omega)
  obtain ⟨c0, c1, f0, f1⟩ := cells2 hb
  have cg : w.cell? ⟨g, l.length / 8, none⟩ = some (.int .u8 ((byteAt l (l.length / 8) : Nat) : Int)) := by
    rw [hr.cellAt (l.length / 8) (by omega)]
    have := pack_getD l (l.length / 8)
    rw [if_pos (by omega)] at this
    rw [← this]
    simp [List.getD, show l.length / 8 < (pack l).length by omega]
  have fg := hr.frozenAt (l.length / 8)
  have hgb : g ≠ b := fun e => row_ne hr hb (by decide) (by simp [Value.ownBlock, e])
  have HE := Lib.hid (bit_lay b g cap _ l (decide (x % 2 = 1)) (pack l) w hb hr (pack_snoc_old l _ hm))
  have HM : Hid (Mut (b :: [g]) w ((w.setCell ⟨g, l.length / 8, none⟩ (.int .u8 ((newByte l (decide (x % 2 = 1)) : Nat) : Int))).setCell ⟨b, 1, none⟩ (.int .i64 ((l.length : Int) + 1)))) :=
    Lib.hid (((Mut.refl _ w).setCell (by simp) _).setCell (by simp) _)
  have hm8 : ((l.length : Int) % 8 == 0) = false := by simp; omega
  have hkb : (l.length : Int) ≤ 1125899906842000 := by omega
  have hw8 : IntKind.i64.wrap ((l.length : Int) / 8) = (l.length : Int) / 8 := IntWalk.i64_in _ (by omega)
  have h08 : 0 ≤ (l.length : Int) / 8 := by omega
  have hn8 : ((l.length : Int) / 8).toNat = l.length / 8 := by omega
  have hix : (l.length : Int) / 8 < (pack l).length := by omega
  have hq : ((l.length : Int) % 8).toNat = l.length % 8 := by omega
  have hs := shl_bit x (l.length % 8) (by omega)
  have ho := or_bit l (decide (x % 2 = 1))
  have ha := and1_i64 x
  have ht : (l.length : Int).tmod 8 = (l.length : Int) % 8 := Int.tmod_eq_emod_of_nonneg (by omega)
  have hq0 : 0 ≤ (l.length : Int) % 8 := by omega
  have hq8 : (l.length : Int) % 8 ≤ 8 := by omega
  clear hb hr hm hpl
  go_enter Try.func80, Try.ntmps80
  go_wp2
  go_still_tail 22, (by kernel_rfl)
  change wpList _ _ _ _ _ w.drew
  go_wp2
  go_end0
  exact ⟨rfl, some g, HE.out, fun g' h => .inl h, HM.out.drew⟩

set_option maxHeartbeats 1600000 in
set_option maxRecDepth 100000 in
theorem bit_new (b : Nat) (r : Option Nat) (l : List Bool) (x : Int) (w : World) (h : WrIs w b r l) (hl : l.length ≤ 1125899906842000) (hm : l.length % 8 = 0) :
    Calls Try.prog 80 #[.pointer (some ⟨b, 0, none⟩), .int .i64 x] w fun e w' => e = .returned (.tuple #[]) ∧ WrTo w b r (l ++ [decide (x % 2 = 1)]) w' := by
  obtain ⟨v, hb, hr, rfl⟩ := h
  obtain ⟨i0, hi, hz0, hz1, hz2⟩ := info_parts info_u8
  have hpl := pack_length l
  have hne := row_ne hr hb (by decide)
  obtain ⟨c0, c1, f0, f1⟩ := cells2 hb
  have hbl := lt_of_heap hb
  have hm8 : ((l.length : Int) % 8 == 0) = true := by simp; omega
  have HB := Lib.hid hb
  have HM8 := Lib.hid hm
  have HPL := Lib.hid hpl
  clear hb hm hpl
  go_enter Try.func80, Try.ntmps80
  go_wp2_with (at_builtin; refine wp_app rfl (.tmp 14) (.tmp 15) 54 54 rfl 5 i0 (.int .u8 0) 1 1 Try.underlying54 hi hz0 hz1 hz2 rfl (hr.alloc _) rfl (src1 Try.underlying54 (heap_alloc_new w _) rfl (one1 rfl)) rfl ?b1 ?b2 ?_)
  case b1 => have := HPL.out; unfold maxLen; omega
  case b2 => have := HPL.out; omega
  intro v' w1 hr1 hg1 hfr
  have hm1 : Mut (b :: v.ownBlock.toList) w w1 := ((Mut.refl _ w).alloc (.cells #[.int .u8 0] 5)).grown hg1 (by intro g hg; simp [hg])
  have hb1 : w1.heap[b]? = some (.cells #[v, .int .i64 (l.length : Int)] 114 (0, 0)) := (hg1.block b (by simp; omega) (by simpa using fun h => hne h.symm)).trans ((Below.heap_alloc _ _ _ hbl).trans HB.out)
  obtain ⟨g, cap, rfl, hgl, hcap⟩ := row_some hr1 (by omega)
  have hgb : g ≠ b := fun e => row_ne hr1 hb1 (by decide) (by simp [Value.ownBlock, e])
  have hl8 : l.length / 8 = (pack l).length := by have := HPL.out; have := HM8.out; omega
  have hix : (l.length : Int) / 8 < (pack l).length + 1 := by omega
  have hb2 := heap_set hb1 0 (.slice (some ⟨g, 0, none⟩) ((pack l).length + 1) cap)
  have hr2 := row_set_ne hr1 (b := b) (i := 0) (s := none) (by intro g' h; simp [Value.ownBlock] at h; omega) (.slice (some ⟨g, 0, none⟩) ((pack l).length + 1) cap)
  have hm2 := hm1.setCell (p := ⟨b, 0, none⟩) (by simp) (.slice (some ⟨g, 0, none⟩) ((pack l).length + 1) cap)
  obtain ⟨c0', c1', f0', f1'⟩ := cells2 hb1
  have HR2 := Lib.hid hr2
  have HB2 := Lib.hid hb2
  have HM2 := Lib.hid hm2
  have HF := Lib.hid hfr
  have HL8 := Lib.hid hl8
  clear hr2 hb2 hl8 c0 c1 f0 f1 hr hb1 hr1 hg1 hi hz0 hz1 hz2 hm1 hm2 hfr
  go_wp2
  clear c0' c1' f0' f1'
  generalize (w1.setCell ⟨b, 0, none⟩ (.slice (some ⟨g, 0, none⟩) ((pack l).length + 1) cap)) = w2 at *
  have hb2 : w2.heap[b]? = some (.cells #[.slice (some ⟨g, 0, none⟩) ((pack l).length + 1) cap, .int .i64 (l.length : Int)] 114 (0, 0)) := HB2.out
  obtain ⟨c0, c1, f0, f1⟩ := cells2 hb2
  have e0 : byteAt l (l.length / 8) = 0 := byteAt_past l _ (by have := HM8.out; omega)
  have hr2 : w2.ownsRow 0 5 1 (.slice (some ⟨g, 0, none⟩) ((pack l).length + 1) cap) ((pack l).length + 1) ((pack l ++ [0]).map fun n : Nat => Value.int .u8 (n : Int)) := by
    rw [List.map_append]; exact HR2.out
  have HE := Lib.hid (bit_lay b g cap _ l (decide (x % 2 = 1)) (pack l ++ [0]) w2 hb2 hr2 (by
    rw [pack_snoc_new l _ HM8.out, HL8.out]
    unfold newByte
    rw [e0, HM8.out]
    simp))
  have HM : Hid (Mut (b :: v.ownBlock.toList) w ((w2.setCell ⟨g, l.length / 8, none⟩ (.int .u8 ((newByte l (decide (x % 2 = 1)) : Nat) : Int))).setCell ⟨b, 1, none⟩ (.int .i64 ((l.length : Int) + 1)))) :=
    Lib.hid ((HM2.out.setCell (by rcases HF.out g rfl with h | h; simp [h]; right; show w.heap.size ≤ g; omega) _).setCell (by simp) _)
  have cg : w2.cell? ⟨g, l.length / 8, none⟩ = some (.int .u8 ((byteAt l (l.length / 8) : Nat) : Int)) := by
    rw [hr2.cellAt (l.length / 8) (by have := HL8.out; omega), e0, HL8.out]; simp
  have fg := hr2.frozenAt (l.length / 8)
  have hkb : (l.length : Int) ≤ 1125899906842000 := by omega
  have hw8 : IntKind.i64.wrap ((l.length : Int) / 8) = (l.length : Int) / 8 := IntWalk.i64_in _ (by omega)
  have h08 : 0 ≤ (l.length : Int) / 8 := by omega
  have hn8 : ((l.length : Int) / 8).toNat = l.length / 8 := by omega
  have hq : ((l.length : Int) % 8).toNat = l.length % 8 := by omega
  have hs := shl_bit x (l.length % 8) (by omega)
  have ho := or_bit l (decide (x % 2 = 1))
  have ha := and1_i64 x
  have ht : (l.length : Int).tmod 8 = (l.length : Int) % 8 := Int.tmod_eq_emod_of_nonneg (by omega)
  have hq0 : 0 ≤ (l.length : Int) % 8 := by omega
  have hq8 : (l.length : Int) % 8 ≤ 8 := by omega
  clear hb2 hr2 e0 hm8
  go_still_tail 22, (by kernel_rfl)
  change wpList _ _ _ _ _ w2.drew
  go_wp2
  go_end0
  exact ⟨rfl, some g, HE.out, fun g' h => by rcases HF.out g' h with h | h; exact .inl h; exact .inr (by omega), HM.out.drew⟩

theorem bit_any (b : Nat) (r : Option Nat) (l : List Bool) (x : Int) (w : World) (h : WrIs w b r l) (hl : l.length ≤ 1125899906842000) :
    Calls Try.prog 80 #[.pointer (some ⟨b, 0, none⟩), .int .i64 x] w fun e w' => e = .returned (.tuple #[]) ∧ WrTo w b r (l ++ [decide (x % 2 = 1)]) w' := by
  by_cases hm : l.length % 8 = 0
  · exact bit_new b r l x w h hl hm
  · exact bit_old b r l x w h hl hm

end Go.Proofs.Ytgjcnembeebjfaa

namespace Go.Proofs.Ytgjcnembeebjfaa
open Go.RowKit

/-- bit k of a number -/
def bitOf (v : Int) (k : Nat) : Bool := decide (v / 2 ^ k % 2 = 1)
/-- the lowest n bits of v, the lowest first -/
def lowBits (v : Int) (n : Nat) : List Bool := (List.range n).map (bitOf v)
/-- the lowest n bits of v, the highest first -/
def highBits (v : Int) (n : Nat) : List Bool := (List.range n).map fun i => bitOf v (n - 1 - i)

theorem lowBits_length (v : Int) (n : Nat) : (lowBits v n).length = n := by simp [lowBits]
theorem highBits_length (v : Int) (n : Nat) : (highBits v n).length = n := by simp [highBits]
theorem lowBits_succ (v : Int) (n : Nat) : lowBits v (n + 1) = lowBits v n ++ [decide (v / 2 ^ n % 2 = 1)] := by simp [lowBits, List.range_succ, bitOf]

theorem put_out (b : Nat) (v n : Int) (w : World) (h : n < 0 ∨ 32 < n) :
    Calls Try.prog 57 #[.pointer (some ⟨b, 0, none⟩), .int .i64 v, .int .i64 n] w fun e w' => e = .returned (.tuple #[]) ∧ w = w' := by
  rcases h with h | h
  · go_enter Try.func57, Try.ntmps57
    go_wp2
    refine bodyPost_ret (results_none rfl _ _ _) rfl ?_
    exact ⟨rfl, rfl⟩
  · have h2 : ¬ n < 0 := by omega
    go_enter Try.func57, Try.ntmps57
    go_wp2
    refine bodyPost_ret (results_none rfl _ _ _) rfl ?_
    exact ⟨rfl, rfl⟩

theorem put_zero (b : Nat) (v : Int) (w : World) :
    Calls Try.prog 57 #[.pointer (some ⟨b, 0, none⟩), .int .i64 v, .int .i64 0] w fun e w' => e = .returned (.tuple #[]) ∧ w = w' := by
  go_enter Try.func57, Try.ntmps57
  go_wp2_with fail
  go_loop [18] (fun i => i = .int .i64 0) (fun _ => 0)
  case atStart => rfl
  case round =>
    subst hrel
    go_wp2_with fail
    go_end0
    exact ⟨rfl, rfl⟩

theorem put_nil (v n : Int) (w : World) :
    Calls Try.prog 57 #[.pointer none, .int .i64 v, .int .i64 n] w fun e w' => e = .returned (.tuple #[]) ∧ w = w' := by
  go_enter Try.func57, Try.ntmps57
  go_wp2
  refine bodyPost_ret (results_none rfl _ _ _) rfl ?_
  exact ⟨rfl, rfl⟩

set_option maxHeartbeats 400000 in
theorem put_any (b : Nat) (r : Option Nat) (l : List Bool) (v : Int) (n : Nat) (w : World) (h : WrIs w b r l) (hl : l.length ≤ 1125899906841000) (hn : n ≤ 32) :
    Calls Try.prog 57 #[.pointer (some ⟨b, 0, none⟩), .int .i64 v, .int .i64 (n : Int)] w fun e w' => e = .returned (.tuple #[]) ∧ WrTo w b r (l ++ lowBits v n) w' := by
  have h1 : ¬ (n : Int) < 0 := by omega
  have h2 : ¬ 32 < (n : Int) := by omega
  have HW := Lib.hid h
  clear h
  go_enter Try.func57, Try.ntmps57
  go_wp2_with fail
  go_loopw [18] (fun i wr => ∃ k : Nat, k ≤ n ∧ i = .int .i64 (k : Int) ∧ WrTo w b r (l ++ lowBits v k) wr) (fun i _ => n - (intOf i).toNat)
  case atStart => exact ⟨0, Nat.zero_le _, rfl, by simpa [lowBits] using WrTo.refl HW.out⟩
  case round =>
    obtain ⟨k, hk, rfl, r1, hw1, hf1, hm1⟩ := hrel
    have H1 := Lib.hid hw1
    have HF := Lib.hid hf1
    have HM := Lib.hid hm1
    clear hw1 hf1 hm1
    by_cases hlt : k < n
    · go_wp2_with fail
      refine (bit_any b r1 _ _ _ H1.out (by simp [lowBits_length]; omega)).mono ?_
      rintro e w1 ⟨rfl, hto⟩
      have HT := Lib.hid (WrTo.then H1.out HF.out HM.out hto)
      clear hto
      go_wp2_with fail
      go_roundw
      case rel => exact ⟨k + 1, by omega, by go_num, by rw [lowBits_succ, ← List.append_assoc]; exact HT.out⟩
      case measure => simp [intOf]; omega
    · have e : k = n := by omega
      have HT : Hid (WrTo w b r (l ++ lowBits v n) wr) := by rw [← e]; exact Lib.hid ⟨r1, H1.out, HF.out, HM.out⟩
      clear e
      go_wp2_with fail
      go_end0
      exact ⟨rfl, HT.out⟩

theorem code_out (b : Nat) (v n : Int) (w : World) (h : n < 0 ∨ 32 < n) :
    Calls Try.prog 102 #[.pointer (some ⟨b, 0, none⟩), .int .i64 v, .int .i64 n] w fun e w' => e = .returned (.tuple #[]) ∧ w = w' := by
  rcases h with h | h
  · go_enter Try.func102, Try.ntmps102
    go_wp2
    refine bodyPost_ret (results_none rfl _ _ _) rfl ?_
    exact ⟨rfl, rfl⟩
  · have h2 : ¬ n < 0 := by omega
    go_enter Try.func102, Try.ntmps102
    go_wp2
    refine bodyPost_ret (results_none rfl _ _ _) rfl ?_
    exact ⟨rfl, rfl⟩

theorem code_nil (v n : Int) (w : World) :
    Calls Try.prog 102 #[.pointer none, .int .i64 v, .int .i64 n] w fun e w' => e = .returned (.tuple #[]) ∧ w = w' := by
  go_enter Try.func102, Try.ntmps102
  go_wp2
  refine bodyPost_ret (results_none rfl _ _ _) rfl ?_
  exact ⟨rfl, rfl⟩

/-- the first k of them -/
def highTo (v : Int) (n k : Nat) : List Bool := (List.range k).map fun i => bitOf v (n - 1 - i)
theorem highTo_succ (v : Int) (n k : Nat) : highTo v n (k + 1) = highTo v n k ++ [decide (v / 2 ^ (n - 1 - k) % 2 = 1)] := by simp [highTo, List.range_succ, bitOf]
theorem highTo_length (v : Int) (n k : Nat) : (highTo v n k).length = k := by simp [highTo]

set_option maxHeartbeats 400000 in
theorem code_any (b : Nat) (r : Option Nat) (l : List Bool) (v : Int) (n : Nat) (w : World) (h : WrIs w b r l) (hl : l.length ≤ 1125899906841000) (hn : n ≤ 32) :
    Calls Try.prog 102 #[.pointer (some ⟨b, 0, none⟩), .int .i64 v, .int .i64 (n : Int)] w fun e w' => e = .returned (.tuple #[]) ∧ WrTo w b r (l ++ highBits v n) w' := by
  have h1 : ¬ (n : Int) < 0 := by omega
  have h2 : ¬ 32 < (n : Int) := by omega
  have HW := Lib.hid h
  clear h
  go_enter Try.func102, Try.ntmps102
  go_wp2_with fail
  go_loopw [18] (fun i wr => ∃ k : Nat, k ≤ n ∧ i = .int .i64 (k : Int) ∧ WrTo w b r (l ++ highTo v n k) wr) (fun i _ => n - (intOf i).toNat)
  case atStart => exact ⟨0, Nat.zero_le _, rfl, by simpa [highTo] using WrTo.refl HW.out⟩
  case round =>
    obtain ⟨k, hk, rfl, r1, hw1, hf1, hm1⟩ := hrel
    have H1 := Lib.hid hw1
    have HF := Lib.hid hf1
    have HM := Lib.hid hm1
    clear hw1 hf1 hm1
    by_cases hlt : k < n
    · go_wp2_with fail
      refine (bit_any b r1 _ _ _ H1.out (by simp [highTo_length]; omega)).mono ?_
      rintro e w1 ⟨rfl, hto⟩
      have HT := Lib.hid (WrTo.then H1.out HF.out HM.out hto)
      clear hto
      go_wp2_with fail
      go_roundw
      case rel => exact ⟨k + 1, by omega, by go_num, by rw [highTo_succ, ← List.append_assoc]; exact HT.out⟩
      case measure => simp [intOf]; omega
    · have e : k = n := by omega
      have HT : Hid (WrTo w b r (l ++ highBits v n) wr) := Lib.hid ⟨r1, by have := H1.out; rw [e] at this; exact this, HF.out, HM.out⟩
      clear e
      go_wp2_with fail
      go_end0
      exact ⟨rfl, HT.out⟩

theorem wbytes_nil (s : ByteArray) (w : World) : Calls Try.prog 58 #[.pointer none, .string s] w fun e w' => e = .returned (.tuple #[]) ∧ w = w' := by
  go_enter Try.func58, Try.ntmps58
  go_wp2
  go_end0
  exact ⟨rfl, rfl⟩

theorem byteCells_eq (s : ByteArray) : byteCells s = (bytesOf s).map fun n : Nat => Value.int .u8 (n : Int) := by simp [byteCells, bytesOf]

set_option maxHeartbeats 400000 in
theorem wbytes_any (b : Nat) (r : Option Nat) (l : List Bool) (s : ByteArray) (w : World) (h : WrIs w b r l) (hs : (l.length + 7) / 8 + s.size ≤ 140737488355328) :
    Calls Try.prog 58 #[.pointer (some ⟨b, 0, none⟩), .string s] w fun e w' => e = .returned (.tuple #[]) ∧ WrTo w b r (pad8 l ++ strBits s) w' := by
  obtain ⟨v, hb, hr, rfl⟩ := h
  obtain ⟨i0, hi, hz0, hz1, hz2⟩ := info_parts info_u8
  have hpl := pack_length l
  obtain ⟨c0, c1, f0, f1⟩ := cells2 hb
  have HB := Lib.hid hb
  have HPL := Lib.hid hpl
  clear hb hpl
  go_enter Try.func58, Try.ntmps58
  go_wp2_with (at_builtin; refine wp_app rfl (.tmp 10) (.tmp 11) 54 9 rfl 5 i0 (.int .u8 0) 1 1 Try.underlying54 hi hz0 hz1 hz2 rfl hr rfl (Src.ofString w Try.underlying9 s) rfl ?b1 ?b2 ?_)
  case b1 => have := HPL.out; unfold maxLen; omega
  case b2 => have := HPL.out; omega
  intro v' w1 hr1 hg1 hfr
  have hne := row_ne hr HB.out (by decide)
  have hm1 : Mut (b :: v.ownBlock.toList) w w1 := (Mut.refl _ w).grown hg1 (by intro g hg; simp [hg])
  have hb1 : w1.heap[b]? = some (.cells #[v, .int .i64 (l.length : Int)] 114 (0, 0)) := (hg1.block b (lt_of_heap HB.out) (by simpa using fun h => hne h.symm)).trans HB.out
  have hne' := row_ne hr1 hb1 (by decide)
  obtain ⟨ao, cap, rfl⟩ : ∃ a cap, v' = .slice a ((pack l).length + s.size) cap := by
    rcases hr1.2 with ⟨h, h'⟩ | ⟨g, cap, _, h, _⟩
    · exact ⟨none, 0, by rw [h, h']⟩
    · exact ⟨_, cap, h⟩
  have hp : pack (pad8 l ++ strBits s) = pack l ++ bytesOf s := by
    rw [pack_append _ _ (by rw [pad8_length]; omega), pack_pad8]
    have := pack_bytesBits (bytesOf s) (bytesOf_lt s) []
    rw [List.append_nil] at this
    rw [strBits, this]; simp [pack]
  have hlen : ((pad8 l ++ strBits s).length : Int) = 8 * (((pack l).length : Int) + (s.size : Int)) := by
    rw [List.length_append, pad8_length, strBits_length, pack_length]; omega
  have HE := Lib.hid (show WrTo w b v.ownBlock (pad8 l ++ strBits s) ((w1.setCell ⟨b, 0, none⟩ (.slice ao ((pack l).length + s.size) cap)).setCell ⟨b, 1, none⟩ (.int .i64 (8 * (((pack l).length : Int) + (s.size : Int))))) from by
    have hb2 := heap_set (heap_set hb1 0 (.slice ao ((pack l).length + s.size) cap)) 1 (.int .i64 (8 * (((pack l).length : Int) + (s.size : Int))))
    have hr2 := row_set_ne (row_set_ne hr1 (b := b) (i := 0) (s := none) (fun g hg e => hne' (by rw [hg, e])) (.slice ao ((pack l).length + s.size) cap)) (b := b) (i := 1) (s := none) (fun g hg e => hne' (by rw [hg, e])) (.int .i64 (8 * (((pack l).length : Int) + (s.size : Int))))
    refine ⟨_, ⟨_, ?_, ?_, rfl⟩, fun g hg => hfr g hg, (hm1.setCell (by simp) _).setCell (by simp) _⟩
    · rw [hlen]; simpa using hb2
    · rw [hp, List.map_append, ← byteCells_eq, List.length_append, bytesOf_length]; exact hr2)
  obtain ⟨c0', c1', f0', f1'⟩ := cells2 hb1
  have hk : ((pack l).length : Int) + (s.size : Int) ≤ 140737488355328 := by have := HPL.out; omega
  clear hr hr1 hg1 hfr hb1 hm1 hne hne' hp hlen c0 c1 f0 f1 hi hz0 hz1 hz2
  go_wp2
  go_end0
  exact ⟨rfl, HE.out⟩

theorem wall_nil (w : World) : Calls Try.prog 63 #[.pointer none] w fun e w' => e = .returned (.string ByteArray.empty) ∧ w = w' := by
  go_enter Try.func63, Try.ntmps63
  go_wp2
  go_ret
  exact ⟨rfl, rfl⟩

theorem wall_any (b : Nat) (r : Option Nat) (l : List Bool) (w : World) (h : WrIs w b r l) :
    Calls Try.prog 63 #[.pointer (some ⟨b, 0, none⟩)] w fun e w' => e = .returned (.string (strOf (pack l))) ∧ w = w' := by
  obtain ⟨v, hb, hr, rfl⟩ := h
  obtain ⟨c0, c1, f0, f1⟩ := cells2 hb
  have hc : (convert 54 9 v).run Try.prog w = .ok (.string (strOf (pack l))) w := by
    have h : w.ownsRow 0 5 1 v (pack l).length (((pack l).map fun n : Nat => (n : Int)).map (Value.int .u8)) := by rw [List.map_map]; exact hr
    rw [conv_row Try.underlying54 Try.underlying5 Try.underlying9 h]
    simp only [List.map_map]
    rfl
  clear hb hr
  go_enter Try.func63, Try.ntmps63
  go_wp2
  go_ret
  exact ⟨rfl, rfl⟩

/-! the same, told from where the writer was made -/
theorem WrTo.step {w0 w w' : World} {b : Nat} {r : Option Nat} {l l' : List Bool} (h : WrTo w0 b r l w) (k : ∀ r1, WrIs w b r1 l → WrTo w b r1 l' w') : WrTo w0 b r l' w' := by
  obtain ⟨r1, h1, h2, h3⟩ := h
  exact WrTo.then h1 h2 h3 (k r1 h1)

theorem put_to {w0 w : World} {b : Nat} {r : Option Nat} {l : List Bool} (h : WrTo w0 b r l w) (v : Int) (m : Int) (n : Nat) (hm : m = n) (hl : l.length ≤ 1125899906841000) (hn : n ≤ 32) :
    Calls Try.prog 57 #[.pointer (some ⟨b, 0, none⟩), .int .i64 v, .int .i64 m] w fun e w' => e = .returned (.tuple #[]) ∧ WrTo w0 b r (l ++ lowBits v n) w' := by
  subst hm
  obtain ⟨r1, h1, h2, h3⟩ := h
  exact (put_any b r1 l v n w h1 hl hn).mono fun e w' ⟨he, hk⟩ => ⟨he, WrTo.then h1 h2 h3 hk⟩

theorem code_to {w0 w : World} {b : Nat} {r : Option Nat} {l : List Bool} (h : WrTo w0 b r l w) (v : Int) (m : Int) (n : Nat) (hm : m = n) (hl : l.length ≤ 1125899906841000) (hn : n ≤ 32) :
    Calls Try.prog 102 #[.pointer (some ⟨b, 0, none⟩), .int .i64 v, .int .i64 m] w fun e w' => e = .returned (.tuple #[]) ∧ WrTo w0 b r (l ++ highBits v n) w' := by
  subst hm
  obtain ⟨r1, h1, h2, h3⟩ := h
  exact (code_any b r1 l v n w h1 hl hn).mono fun e w' ⟨he, hk⟩ => ⟨he, WrTo.then h1 h2 h3 hk⟩

theorem wbytes_to {w0 w : World} {b : Nat} {r : Option Nat} {l : List Bool} (h : WrTo w0 b r l w) (s : ByteArray) (hs : (l.length + 7) / 8 + s.size ≤ 140737488355328) :
    Calls Try.prog 58 #[.pointer (some ⟨b, 0, none⟩), .string s] w fun e w' => e = .returned (.tuple #[]) ∧ WrTo w0 b r (pad8 l ++ strBits s) w' := by
  obtain ⟨r1, h1, h2, h3⟩ := h
  exact (wbytes_any b r1 l s w h1 hs).mono fun e w' ⟨he, hk⟩ => ⟨he, WrTo.then h1 h2 h3 hk⟩

theorem wall_to {w0 w : World} {b : Nat} {r : Option Nat} {l : List Bool} (h : WrTo w0 b r l w) (t : ByteArray) (ht : strOf (pack l) = t) :
    Calls Try.prog 63 #[.pointer (some ⟨b, 0, none⟩)] w fun e w' => e = .returned (.string t) ∧ w = w' := by
  subst ht
  obtain ⟨r1, h1, h2, h3⟩ := h
  exact wall_any b r1 l w h1

end Go.Proofs.Ytgjcnembeebjfaa
