/- Walks over package bits: the writer's bit. -/
import Derived.Test.YtcdoamaljgjojaaBase
import Derived.Test.YtcdoamaljgjojaaBitsP
import Derived.BigRegion
import Derived.BigQuiet
import Derived.Deep.QuietTactic
import Derived.StillTailTactics
namespace Go.Proofs.Ytcdoamaljgjojaa
open Go.RowKit

theorem info_u8 : (Try.prog.info? 5).map (fun i => (i.zero, i.size, i.bytes)) = some (some (.int .u8 0), 1, 1) := by kernel_rfl

/-- the last byte with a further bit -/
def newByte (l : List Bool) (c : Bool) : Nat := byteAt l (l.length / 8) + c.toNat * 2 ^ (l.length % 8)

/-- A Writer at block b, its row in block r, holds the bits l. -/
def WrIs (w : World) (b : Nat) (r : Option Nat) (l : List Bool) : Prop :=
  ∃ v, w.heap[b]? = some (.cells #[v, .int .i64 (l.length : Int)] 72 (0, 0)) ∧ w.ownsRow 0 5 1 v (pack l).length ((pack l).map fun n : Nat => Value.int .u8 (n : Int)) ∧ v.ownBlock = r

/-- what a call on it leaves -/
def WrTo (w : World) (b : Nat) (r : Option Nat) (l : List Bool) (w' : World) : Prop :=
  ∃ r', WrIs w' b r' l ∧ (∀ g, r' = some g → r = some g ∨ w.heap.size ≤ g) ∧ Mut (b :: r.toList) w w'

theorem map_set_u8 (l : List Nat) (i n : Nat) : (l.map fun n : Nat => Value.int .u8 (n : Int)).set i (.int .u8 (n : Int)) = (l.set i n).map fun n : Nat => Value.int .u8 (n : Int) := by
  rw [List.map_set]

theorem int_bit (x : Int) : x % 2 = ((decide (x % 2 = 1)).toNat : Int) := by
  by_cases h : x % 2 = 1
  · simp [h]
  · have : x % 2 = 0 := by omega
    simp [this]

theorem WrTo.refl {w : World} {b : Nat} {r : Option Nat} {l : List Bool} (h : WrIs w b r l) : WrTo w b r l w := ⟨r, h, fun _ h => .inl h, Mut.refl _ _⟩

theorem WrTo.then {w w1 w2 : World} {b : Nat} {r r1 : Option Nat} {l l1 : List Bool} (h : WrIs w1 b r1 l1) (hf : ∀ g, r1 = some g → r = some g ∨ w.heap.size ≤ g) (hm : Mut (b :: r.toList) w w1)
    (k : WrTo w1 b r1 l w2) : WrTo w b r l w2 := by
  obtain ⟨r2, k1, k2, k3⟩ := k
  refine ⟨r2, k1, fun g hg => ?_, hm.trans k3 fun x hx => ?_⟩
  · rcases k2 g hg with h1 | h1
    · exact hf g h1
    · exact .inr (Nat.le_trans hm.size h1)
  · rcases List.mem_cons.1 hx with rfl | hx
    · exact .inl (by simp)
    · rcases hf x (by simpa using hx) with h1 | h1
      · exact .inl (by simp [h1])
      · exact .inr h1

theorem WrIs.row_ne {w : World} {b : Nat} {r : Option Nat} {l : List Bool} (h : WrIs w b r l) {b' : Nat} {c : Array Value} {t : TypeId} {fr : Nat × Nat} (hb : w.heap[b']? = some (.cells c t fr)) (hne : 5 ≠ t) : ∀ g, r = some g → g ≠ b' := by
  obtain ⟨v, _, h2, rfl⟩ := h
  intro g hg e
  exact Ytcdoamaljgjojaa.row_ne h2 hb hne (by rw [hg, e])

theorem WrIs.lt {w : World} {b : Nat} {r : Option Nat} {l : List Bool} (h : WrIs w b r l) : b < w.heap.size ∧ ∀ g, r = some g → g < w.heap.size := by
  obtain ⟨v, h1, h2, rfl⟩ := h
  exact ⟨lt_of_heap h1, fun g hg => (h2.lt g hg).2⟩

theorem WrIs.mut {w w' : World} {b : Nat} {r : Option Nat} {l : List Bool} {S : List Nat} (h : WrIs w b r l) (hm : Mut S w w') (hb : b ∉ S) (hr : ∀ g, r = some g → g ∉ S) : WrIs w' b r l := by
  obtain ⟨v, h1, h2, rfl⟩ := h
  exact ⟨v, hm.get h1 hb, hm.row h2 hr, rfl⟩

theorem WrIs.heap {w : World} {b : Nat} {r : Option Nat} {l : List Bool} (h : WrIs w b r l) : ∃ c, w.heap[b]? = some (.cells c 72 (0, 0)) := by
  obtain ⟨v, h1, _⟩ := h
  exact ⟨_, h1⟩

theorem writer_new (w : World) : WrIs (w.alloc (.cells #[.slice none 0 0, .int .i64 0] 72)) w.heap.size none [] :=
  ⟨_, heap_alloc_new w _, World.ownsRow_nil _ _ _ _, rfl⟩

theorem WrIs.drew {w : World} {b : Nat} {r : Option Nat} {l : List Bool} (h : WrIs w b r l) : WrIs w.drew b r l := h

/-- the second half of bit: the bit is laid into the last byte -/
theorem bit_lay (b g cap n : Nat) (l : List Bool) (c : Bool) (ys : List Nat) (w2 : World)
    (hb : w2.heap[b]? = some (.cells #[.slice (some ⟨g, 0, none⟩) n cap, .int .i64 (l.length : Int)] 72 (0, 0)))
    (hr : w2.ownsRow 0 5 1 (.slice (some ⟨g, 0, none⟩) n cap) n (ys.map fun n : Nat => Value.int .u8 (n : Int)))
    (hp : pack (l ++ [c]) = ys.set (l.length / 8) (newByte l c)) :
    WrIs ((w2.setCell ⟨g, l.length / 8, none⟩ (.int .u8 ((newByte l c : Nat) : Int))).setCell ⟨b, 1, none⟩ (.int .i64 ((l.length : Int) + 1))) b (some g) (l ++ [c]) := by
  have hgb : g ≠ b := fun e => row_ne hr hb (by decide) (by simp [Value.ownBlock, e])
  obtain ⟨s1, _⟩ := hr.stored (l.length / 8) (.int .u8 ((newByte l c : Nat) : Int))
  rw [map_set_u8, ← hp] at s1
  have s2 := row_set_ne s1 (b := b) (i := 1) (s := none) (by intro g' h; simp [Value.ownBlock] at h; omega) (.int .i64 ((l.length : Int) + 1))
  have hn : n = (pack (l ++ [c])).length := by
    have := s2.1; simp at this; exact this.symm
  subst hn
  refine ⟨_, ?_, s2, rfl⟩
  rw [← heap_set_ne (w := w2) (k := b) (b := g) (i := l.length / 8) (s := none) (Ne.symm hgb) (.int .u8 ((newByte l c : Nat) : Int))] at hb
  have := heap_set hb 1 (.int .i64 ((l.length : Int) + 1))
  rw [this]
  simp

theorem shl_bit (x : Int) (k : Nat) (hk : k < 8) : IntKind.u8.wrap (IntKind.u8.wrap (x % 2) * 2 ^ k) = (((decide (x % 2 = 1)).toNat * 2 ^ k : Nat) : Int) := by
  have hp : (2 : Nat) ^ k ≤ 2 ^ 7 := Nat.pow_le_pow_right (by decide) (by omega)
  rw [IntWalk.u8_in (x % 2) (by omega)]
  have h := toNat_le1 (decide (x % 2 = 1))
  have e : ((x % 2) * 2 ^ k : Int) = (((decide (x % 2 = 1)).toNat * 2 ^ k : Nat) : Int) := by rw [Int.natCast_mul, ← int_bit x]; simp
  rw [e]
  apply IntWalk.u8_in
  rcases (show (decide (x % 2 = 1)).toNat = 0 ∨ (decide (x % 2 = 1)).toNat = 1 by omega) with h | h <;> rw [h] <;> omega

theorem or_bit (l : List Bool) (c : Bool) : bits .or .u8 ((byteAt l (l.length / 8) : Nat) : Int) ((c.toNat : Int) * 2 ^ (l.length % 8)) = ((newByte l c : Nat) : Int) := by
  rw [show ((c.toNat : Int) * 2 ^ (l.length % 8)) = ((c.toNat * 2 ^ (l.length % 8) : Nat) : Int) by simp]
  refine or_u8_join _ _ _ (byteAt_last_lt l) ?_
  have := byteAt_last_lt l
  have hp : (2 : Nat) ^ (l.length % 8) ≤ 2 ^ 7 := Nat.pow_le_pow_right (by decide) (by omega)
  have h := toNat_le1 c
  rcases (show c.toNat = 0 ∨ c.toNat = 1 by omega) with h | h <;> rw [h] <;> omega

set_option maxHeartbeats 1600000 in
set_option maxRecDepth 100000 in
theorem bit_old (b : Nat) (r : Option Nat) (l : List Bool) (x : Int) (w : World) (h : WrIs w b r l) (hl : l.length ≤ 1125899906842000) (hm : l.length % 8 ≠ 0) :
    Calls Try.prog 46 #[.pointer (some ⟨b, 0, none⟩), .int .i64 x] w fun e w' => e = .returned (.tuple #[]) ∧ WrTo w b r (l ++ [decide (x % 2 = 1)]) w' := by
  obtain ⟨v, hb, hr, rfl⟩ := h
  have hpl := pack_length l
  obtain ⟨g, cap, rfl, hgl, hcap⟩ := row_some hr (by omega)
  obtain ⟨c0, c1, f0, f1⟩ := cells2 hb
  have cg : w.cell? ⟨g, l.length / 8, none⟩ = some (.int .u8 ((byteAt l (l.length / 8) : Nat) : Int)) := by
    rw [hr.cellAt (l.length / 8) (by omega)]
    have := pack_getD l (l.length / 8)
    rw [if_pos (by omega)] at this
    rw [← this]
    simp [List.getD, show l.length / 8 < (pack l).length by omega]
  have fg := hr.frozenAt (l.length / 8)
  have hgb : g ≠ b := fun e => row_ne hr hb (by decide) (by simp [Value.ownBlock, e])
  have HE := Lib.hid (bit_lay b g cap _ l (decide (x % 2 = 1)) (pack l) w hb hr (pack_snoc_old l _ hm))
  have HM : Hid (Mut (b :: [g]) w ((w.setCell ⟨g, l.length / 8, none⟩ (.int .u8 ((newByte l (decide (x % 2 = 1)) : Nat) : Int))).setCell ⟨b, 1, none⟩ (.int .i64 ((l.length : Int) + 1)))) :=
    Lib.hid (((Mut.refl _ w).setCell (by simp) _).setCell (by simp) _)
  have hm8 : ((l.length : Int) % 8 == 0) = false := by simp; omega
  have hkb : (l.length : Int) ≤ 1125899906842000 := by omega
  have hw8 : IntKind.i64.wrap ((l.length : Int) / 8) = (l.length : Int) / 8 := IntWalk.i64_in _ (by omega)
  have h08 : 0 ≤ (l.length : Int) / 8 := by omega
  have hn8 : ((l.length : Int) / 8).toNat = l.length / 8 := by omega
  have hix : (l.length : Int) / 8 < (pack l).length := by omega
  have hq : ((l.length : Int) % 8).toNat = l.length % 8 := by omega
  have hs := shl_bit x (l.length % 8) (by omega)
  have ho := or_bit l (decide (x % 2 = 1))
  have ha := and1_i64 x
  have ht : (l.length : Int).tmod 8 = (l.length : Int) % 8 := Int.tmod_eq_emod_of_nonneg (by omega)
  have hq0 : 0 ≤ (l.length : Int) % 8 := by omega
  have hq8 : (l.length : Int) % 8 ≤ 8 := by omega
  clear hb hr hm hpl
  go_enter Try.func46, Try.ntmps46
  go_wp2
  go_still_tail 22, (by kernel_rfl)
  change wpList _ _ _ _ _ w.drew
  go_wp2
  go_end0
  exact ⟨rfl, some g, HE.out, fun g' h => .inl h, HM.out.drew⟩

set_option maxHeartbeats 1600000 in
set_option maxRecDepth 100000 in
theorem bit_new (b : Nat) (r : Option Nat) (l : List Bool) (x : Int) (w : World) (h : WrIs w b r l) (hl : l.length ≤ 1125899906842000) (hm : l.length % 8 = 0) :
    Calls Try.prog 46 #[.pointer (some ⟨b, 0, none⟩), .int .i64 x] w fun e w' => e = .returned (.tuple #[]) ∧ WrTo w b r (l ++ [decide (x % 2 = 1)]) w' := by
  obtain ⟨v, hb, hr, rfl⟩ := h
  obtain ⟨i0, hi, hz0, hz1, hz2⟩ := info_parts info_u8
  have hpl := pack_length l
  have hne := row_ne hr hb (by decide)
  obtain ⟨c0, c1, f0, f1⟩ := cells2 hb
  have hbl := lt_of_heap hb
  have hm8 : ((l.length : Int) % 8 == 0) = true := by simp; omega
  have HB := Lib.hid hb
  have HM8 := Lib.hid hm
  have HPL := Lib.hid hpl
  clear hb hm hpl
  go_enter Try.func46, Try.ntmps46
  go_wp2_with (at_builtin; refine wp_app rfl (.tmp 14) (.tmp 15) 33 33 rfl 5 i0 (.int .u8 0) 1 1 Try.underlying33 hi hz0 hz1 hz2 rfl (hr.alloc _) rfl (src1 Try.underlying33 (heap_alloc_new w _) rfl (one1 rfl)) rfl ?b1 ?b2 ?_)
  case b1 => have := HPL.out; unfold maxLen; omega
  case b2 => have := HPL.out; omega
  intro v' w1 hr1 hg1 hfr
  have hm1 : Mut (b :: v.ownBlock.toList) w w1 := ((Mut.refl _ w).alloc (.cells #[.int .u8 0] 5)).grown hg1 (by intro g hg; simp [hg])
  have hb1 : w1.heap[b]? = some (.cells #[v, .int .i64 (l.length : Int)] 72 (0, 0)) := (hg1.block b (by simp; omega) (by simpa using fun h => hne h.symm)).trans ((Below.heap_alloc _ _ _ hbl).trans HB.out)
  obtain ⟨g, cap, rfl, hgl, hcap⟩ := row_some hr1 (by omega)
  have hgb : g ≠ b := fun e => row_ne hr1 hb1 (by decide) (by simp [Value.ownBlock, e])
  have hl8 : l.length / 8 = (pack l).length := by have := HPL.out; have := HM8.out; omega
  have hix : (l.length : Int) / 8 < (pack l).length + 1 := by omega
  have hb2 := heap_set hb1 0 (.slice (some ⟨g, 0, none⟩) ((pack l).length + 1) cap)
  have hr2 := row_set_ne hr1 (b := b) (i := 0) (s := none) (by intro g' h; simp [Value.ownBlock] at h; omega) (.slice (some ⟨g, 0, none⟩) ((pack l).length + 1) cap)
  have hm2 := hm1.setCell (p := ⟨b, 0, none⟩) (by simp) (.slice (some ⟨g, 0, none⟩) ((pack l).length + 1) cap)
  obtain ⟨c0', c1', f0', f1'⟩ := cells2 hb1
  have HR2 := Lib.hid hr2
  have HB2 := Lib.hid hb2
  have HM2 := Lib.hid hm2
  have HF := Lib.hid hfr
  have HL8 := Lib.hid hl8
  clear hr2 hb2 hl8 c0 c1 f0 f1 hr hb1 hr1 hg1 hi hz0 hz1 hz2 hm1 hm2 hfr
  go_wp2
  clear c0' c1' f0' f1'
  generalize (w1.setCell ⟨b, 0, none⟩ (.slice (some ⟨g, 0, none⟩) ((pack l).length + 1) cap)) = w2 at *
  have hb2 : w2.heap[b]? = some (.cells #[.slice (some ⟨g, 0, none⟩) ((pack l).length + 1) cap, .int .i64 (l.length : Int)] 72 (0, 0)) := HB2.out
  obtain ⟨c0, c1, f0, f1⟩ := cells2 hb2
  have e0 : byteAt l (l.length / 8) = 0 := byteAt_past l _ (by have := HM8.out; omega)
  have hr2 : w2.ownsRow 0 5 1 (.slice (some ⟨g, 0, none⟩) ((pack l).length + 1) cap) ((pack l).length + 1) ((pack l ++ [0]).map fun n : Nat => Value.int .u8 (n : Int)) := by
    rw [List.map_append]; exact HR2.out
  have HE := Lib.hid (bit_lay b g cap _ l (decide (x % 2 = 1)) (pack l ++ [0]) w2 hb2 hr2 (by
    rw [pack_snoc_new l _ HM8.out, HL8.out]
    unfold newByte
    rw [e0, HM8.out]
    simp))
  have HM : Hid (Mut (b :: v.ownBlock.toList) w ((w2.setCell ⟨g, l.length / 8, none⟩ (.int .u8 ((newByte l (decide (x % 2 = 1)) : Nat) : Int))).setCell ⟨b, 1, none⟩ (.int .i64 ((l.length : Int) + 1)))) :=
    Lib.hid ((HM2.out.setCell (by rcases HF.out g rfl with h | h; simp [h]; right; show w.heap.size ≤ g; omega) _).setCell (by simp) _)
  have cg : w2.cell? ⟨g, l.length / 8, none⟩ = some (.int .u8 ((byteAt l (l.length / 8) : Nat) : Int)) := by
    rw [hr2.cellAt (l.length / 8) (by have := HL8.out; omega), e0, HL8.out]; simp
  have fg := hr2.frozenAt (l.length / 8)
  have hkb : (l.length : Int) ≤ 1125899906842000 := by omega
  have hw8 : IntKind.i64.wrap ((l.length : Int) / 8) = (l.length : Int) / 8 := IntWalk.i64_in _ (by omega)
  have h08 : 0 ≤ (l.length : Int) / 8 := by omega
  have hn8 : ((l.length : Int) / 8).toNat = l.length / 8 := by omega
  have hq : ((l.length : Int) % 8).toNat = l.length % 8 := by omega
  have hs := shl_bit x (l.length % 8) (by omega)
  have ho := or_bit l (decide (x % 2 = 1))
  have ha := and1_i64 x
  have ht : (l.length : Int).tmod 8 = (l.length : Int) % 8 := Int.tmod_eq_emod_of_nonneg (by omega)
  have hq0 : 0 ≤ (l.length : Int) % 8 := by omega
  have hq8 : (l.length : Int) % 8 ≤ 8 := by omega
  clear hb2 hr2 e0 hm8
  go_still_tail 22, (by kernel_rfl)
  change wpList _ _ _ _ _ w2.drew
  go_wp2
  go_end0
  exact ⟨rfl, some g, HE.out, fun g' h => by rcases HF.out g' h with h | h; exact .inl h; exact .inr (by omega), HM.out.drew⟩

theorem bit_any (b : Nat) (r : Option Nat) (l : List Bool) (x : Int) (w : World) (h : WrIs w b r l) (hl : l.length ≤ 1125899906842000) :
    Calls Try.prog 46 #[.pointer (some ⟨b, 0, none⟩), .int .i64 x] w fun e w' => e = .returned (.tuple #[]) ∧ WrTo w b r (l ++ [decide (x % 2 = 1)]) w' := by
  by_cases hm : l.length % 8 = 0
  · exact bit_new b r l x w h hl hm
  · exact bit_old b r l x w h hl hm

end Go.Proofs.Ytcdoamaljgjojaa
