/- Walks over package coding: put. -/
import Derived.Test.YtcnckpglicfolaaCodR
import Derived.Test.YtcnckpglicfolaaGFa
import Derived.Deep.DeepCutAuto
namespace Go.Proofs.Ytcnckpglicfolaa
open Go.RowKit

/-- a row of bytes of the call's own -/
def BRow (w : World) (v : Value) (L : List Nat) : Prop := w.ownsRow 0 5 1 v L.length (L.map fun n : Nat => Value.int .u8 (n : Int))

theorem BRow.mut {w w' : World} {v : Value} {L : List Nat} {S : List Nat} (h : BRow w v L) (hm : Mut S w w') (hs : ∀ g, v.ownBlock = some g → g ∉ S) : BRow w' v L := hm.row h hs
theorem BRow.nil (w : World) : BRow w (.slice none 0 0) [] := World.ownsRow_nil _ _ _ _
theorem BRow.lt {w : World} {v : Value} {L : List Nat} (h : BRow w v L) {g : Nat} (hg : v.ownBlock = some g) : g < w.heap.size := by
  rcases h.2 with ⟨rfl, _⟩ | ⟨b, cap, cur, rfl, _, hh, _⟩
  · simp [Value.ownBlock] at hg
  · simp [Value.ownBlock] at hg
    subst hg
    exact lt_of_heap hh
theorem BRow.form {w : World} {v : Value} {L : List Nat} (h : BRow w v L) : ∃ p l c, v = .slice p l c := by
  rcases h.2 with ⟨rfl, _⟩ | ⟨b, cap, cur, rfl, _⟩
  · exact ⟨_, _, _, rfl⟩
  · exact ⟨_, _, _, rfl⟩

theorem info_byte : (Try.prog.info? 5).map (fun i => (i.zero, i.size, i.bytes)) = some (some (.int .u8 0), 1, 1) := by kernel_rfl

/-- the values that append's 'buildSlice' lays -/
theorem srcN {P : Program} {w : World} {tx e' : TypeId} (hk : P.underlying tx = some (.slice e')) {g n : Nat} {c : Array Value} {t : TypeId} (h : w.heap[g]? = some (.cells c t (0, 0))) (hc : c.size = n) (h1 : ∀ u ∈ c.toList, u.oneCell' = true) :
    Src P 1 tx (.slice (some ⟨g, 0, none⟩) n n) n c.toList w :=
  Src.ofSlice w hk ⟨g, 0, none⟩ n n c.toList (by simpa using hc) (fun j u hu => by
    rw [Addr.add_lit]
    simp only [Nat.zero_add, World.cell?, h]
    simpa using hu) h1

theorem src2 {P : Program} {w : World} {tx e' t : TypeId} {k l : IntKind} {x y : Int} (hk : P.underlying tx = some (.slice e')) :
    Src P 1 tx (.slice (some ⟨w.heap.size, 0, none⟩) 2 2) 2 [.int k x, .int l y] (w.alloc (.cells #[.int k x, .int l y] t)) :=
  srcN hk (heap_alloc_new w _) rfl (by intro u hu; simp at hu; rcases hu with rfl | rfl <;> rfl)
theorem src3 {P : Program} {w : World} {tx e' t : TypeId} {k l m : IntKind} {x y z : Int} (hk : P.underlying tx = some (.slice e')) :
    Src P 1 tx (.slice (some ⟨w.heap.size, 0, none⟩) 3 3) 3 [.int k x, .int l y, .int m z] (w.alloc (.cells #[.int k x, .int l y, .int m z] t)) :=
  srcN hk (heap_alloc_new w _) rfl (by intro u hu; simp at hu; rcases hu with rfl | rfl | rfl <;> rfl)
theorem src4 {P : Program} {w : World} {tx e' t : TypeId} {k l m n : IntKind} {x y z v : Int} (hk : P.underlying tx = some (.slice e')) :
    Src P 1 tx (.slice (some ⟨w.heap.size, 0, none⟩) 4 4) 4 [.int k x, .int l y, .int m z, .int n v] (w.alloc (.cells #[.int k x, .int l y, .int m z, .int n v] t)) :=
  srcN hk (heap_alloc_new w _) rfl (by intro u hu; simp at hu; rcases hu with rfl | rfl | rfl | rfl <;> rfl)

theorem new_at (w : World) (A B o : Obj) : (((w.alloc A).alloc B).alloc o).heap[w.heap.size + 1 + 1]? = some o := by
  have h := heap_alloc_new ((w.alloc A).alloc B) o
  rw [World.size_alloc, World.size_alloc] at h
  exact h
theorem src1b {P : Program} {w : World} {A B : Obj} {tx e' t : TypeId} {k : IntKind} {x : Int} (hk : P.underlying tx = some (.slice e')) :
    Src P 1 tx (.slice (some ⟨w.heap.size + 1 + 1, 0, none⟩) 1 1) 1 [.int k x] (((w.alloc A).alloc B).alloc (.cells #[.int k x] t)) :=
  srcN hk (new_at w A B _) rfl (by intro u hu; simp at hu; rcases hu with rfl; rfl)
theorem src2b {P : Program} {w : World} {A B : Obj} {tx e' t : TypeId} {k l : IntKind} {x y : Int} (hk : P.underlying tx = some (.slice e')) :
    Src P 1 tx (.slice (some ⟨w.heap.size + 1 + 1, 0, none⟩) 2 2) 2 [.int k x, .int l y] (((w.alloc A).alloc B).alloc (.cells #[.int k x, .int l y] t)) :=
  srcN hk (new_at w A B _) rfl (by intro u hu; simp at hu; rcases hu with rfl | rfl <;> rfl)
theorem src3b {P : Program} {w : World} {A B : Obj} {tx e' t : TypeId} {k l m : IntKind} {x y z : Int} (hk : P.underlying tx = some (.slice e')) :
    Src P 1 tx (.slice (some ⟨w.heap.size + 1 + 1, 0, none⟩) 3 3) 3 [.int k x, .int l y, .int m z] (((w.alloc A).alloc B).alloc (.cells #[.int k x, .int l y, .int m z] t)) :=
  srcN hk (new_at w A B _) rfl (by intro u hu; simp at hu; rcases hu with rfl | rfl | rfl <;> rfl)
theorem src4b {P : Program} {w : World} {A B : Obj} {tx e' t : TypeId} {k l m n : IntKind} {x y z v : Int} (hk : P.underlying tx = some (.slice e')) :
    Src P 1 tx (.slice (some ⟨w.heap.size + 1 + 1, 0, none⟩) 4 4) 4 [.int k x, .int l y, .int m z, .int n v] (((w.alloc A).alloc B).alloc (.cells #[.int k x, .int l y, .int m z, .int n v] t)) :=
  srcN hk (new_at w A B _) rfl (by intro u hu; simp at hu; rcases hu with rfl | rfl | rfl | rfl <;> rfl)

/-- what an append has laid -/
theorem BRow.of_int {w' : World} {v' : Value} {L M : List Nat} {new : List Value} {n : Nat} (h : w'.ownsRow 0 5 1 v' (L.length + n) ((L.map fun n : Nat => Value.int .u8 (n : Int)) ++ new)) (hn : n = M.length ∧ (M.map fun n : Nat => Value.int .u8 (n : Int)) = new) : BRow w' v' (L ++ M) := by
  obtain ⟨rfl, rfl⟩ := hn
  unfold BRow
  rw [List.length_append, List.map_append]
  exact h

theorem put1_end {w w1 : World} {q gg n cap : Nat} {r : Value} {L : List Nat} {o : Array Value} {new : List Value} (hq : w.heap[q]? = some (.cells #[r] 49 (0, 0))) (hr : BRow w r L)
    (g1 : w1.ownsRow 0 5 1 (.slice (some ⟨gg, 0, none⟩) n cap) n new) (g2 : (w.alloc (.cells o 5)).grownBy w1 r.ownBlock) (g3 : ∀ g, (Value.slice (some ⟨gg, 0, none⟩) n cap).ownBlock = some g → r.ownBlock = some g ∨ w.heap.size + 1 ≤ g) :
    w1.heap[q]? = some (.cells #[r] 49 (0, 0)) ∧ (w1.setCell ⟨q, 0, none⟩ (.slice (some ⟨gg, 0, none⟩) n cap)).heap[q]? = some (.cells #[.slice (some ⟨gg, 0, none⟩) n cap] 49 (0, 0)) ∧
      (w1.setCell ⟨q, 0, none⟩ (.slice (some ⟨gg, 0, none⟩) n cap)).ownsRow 0 5 1 (.slice (some ⟨gg, 0, none⟩) n cap) n new ∧
      Mut (q :: r.ownBlock.toList) w (w1.setCell ⟨q, 0, none⟩ (.slice (some ⟨gg, 0, none⟩) n cap)) ∧ (∀ g, (Value.slice (some ⟨gg, 0, none⟩) n cap).ownBlock = some g → r.ownBlock = some g ∨ w.heap.size ≤ g) := by
  have hne := row_ne hr hq (by decide)
  have hq1 : w1.heap[q]? = some (.cells #[r] 49 (0, 0)) := (g2.block q (by have := lt_of_heap hq; simp; omega) (fun e => hne e.symm)).trans ((Below.heap_alloc _ _ _ (lt_of_heap hq)).trans hq)
  refine ⟨hq1, ?_, row_set_ne g1 (fun g hg e => row_ne g1 hq1 (by decide) (by rw [hg, e])) _, ?_, ?_⟩
  · exact heap_set hq1 0 _
  · exact (((Mut.refl _ w).alloc _).grown g2 (fun k hk => .inl (by simp [hk]))).setCell (.inl (by simp)) _
  · intro g hg
    rcases g3 g hg with h | h
    · exact .inl h
    · exact .inr (by omega)

theorem u16b_length (b : Bool) (u : Nat) : (u16b b u).length = 2 := by unfold u16b; split <;> rfl

def PutTo (w : World) (q : Nat) (r : Value) (L : List Nat) (w' : World) : Prop :=
  ∃ r', w'.heap[q]? = some (.cells #[r'] 49 (0, 0)) ∧ BRow w' r' L ∧ Mut (q :: r.ownBlock.toList) w w' ∧ (∀ g, r'.ownBlock = some g → r.ownBlock = some g ∨ w.heap.size ≤ g)

set_option maxHeartbeats 800000 in
set_option maxRecDepth 1000000 in
theorem put1_any (c u : Nat) (hu : u < 65536) (p q : Nat) (r : Value) (L : List Nat) (hL : L.length ≤ 2199023255552) (w : World) (hp : w.cell? ⟨p, 0, none⟩ = some (.int .i64 (c : Int))) (hq : w.heap[q]? = some (.cells #[r] 49 (0, 0))) (hr : BRow w r L) :
    Calls Try.prog 29 #[.int .i64 (u : Int), .pointer (some ⟨p, 0, none⟩), .pointer (some ⟨q, 0, none⟩)] w fun e w' => e = .returned (.tuple #[]) ∧ PutTo w q r (L ++ u16b (c == 3) u) w' := by
  obtain ⟨i0, hi, hz0, hz1, hz2⟩ := info_parts info_byte
  obtain ⟨rp0, rl0, rc0, rfl⟩ := hr.form
  have cq := cellOf hq 0 rfl
  have HQ := Lib.hid hq
  have hrow : w.ownsRow 0 5 1 _ _ _ := hr
  by_cases h : c = 3
  · subst h
    have hz : (((3 : Nat) : Int) == 3) = true := rfl
    go_enter Try.func29, Try.ntmps29
    go_wp2_with (at_builtin; (refine wp_app rfl (.tmp 6) (.tmp 12) 49 49 rfl 5 i0 (.int .u8 0) 1 1 Try.underlying49 hi hz0 hz1 hz2 rfl (hrow.alloc _) rfl (src2 Try.underlying49) rfl (by unfold maxLen; omega) (by omega) ?_))
    intro v1 w1 g1 g2 g3
    obtain ⟨gg, cap, rfl, -, -⟩ := row_some g1 (by omega)
    have HN := Lib.hid (put1_end HQ.out hr g1 g2 g3)
    obtain ⟨hq1, -⟩ := HN.out
    have cq1 := cellOf hq1 0 rfl
    have fq1 := frozenOf hq1 0
    go_wp2_with fail
    obtain ⟨-, q1, q2, q3, q4⟩ := HN.out
    go_end0
    exact ⟨rfl, _, q1, BRow.of_int q2 (by simp [u16b]), q3, q4⟩
  · have hz : ((c : Int) == 3) = false := by rw [beq_eq_false_iff_ne]; omega
    go_enter Try.func29, Try.ntmps29
    go_wp2_with (at_builtin; (refine wp_app rfl (.tmp 14) (.tmp 20) 49 49 rfl 5 i0 (.int .u8 0) 1 1 Try.underlying49 hi hz0 hz1 hz2 rfl (hrow.alloc _) rfl (src2 Try.underlying49) rfl (by unfold maxLen; omega) (by omega) ?_))
    intro v1 w1 g1 g2 g3
    obtain ⟨gg, cap, rfl, -, -⟩ := row_some g1 (by omega)
    have HN := Lib.hid (put1_end HQ.out hr g1 g2 g3)
    obtain ⟨hq1, -⟩ := HN.out
    have cq1 := cellOf hq1 0 rfl
    have fq1 := frozenOf hq1 0
    go_wp2_with fail
    obtain ⟨-, q1, q2, q3, q4⟩ := HN.out
    go_end0
    exact ⟨rfl, _, q1, BRow.of_int q2 (by simp [u16b, h]), q3, q4⟩

/-- a byte's mark and its bits -/
theorem or_put (i y a : Nat) (A K : Int) (hA : A = (a : Int)) (ha : a < 2 ^ i) (hK : K = ((y * 2 ^ i : Nat) : Int)) (h : a + y * 2 ^ i < 256) : bits .or .i64 K A % 256 = ((a + y * 2 ^ i : Nat) : Int) := by
  subst hA hK
  rw [or_i64_join' i a y ha (by omega)]
  omega
theorem and63 (A : Int) (a : Nat) (h : A = (a : Int)) : bits .and .i64 A 63 = ((a % 64 : Nat) : Int) := by
  subst h
  rw [and_mask_i64 _ 6 (by decide) 63 (by decide)]
  omega
theorem cont_byte (A : Int) (a : Nat) (h : A = (a : Int)) : bits .or .i64 128 (bits .and .i64 A 63) % 256 = ((128 + a % 64 : Nat) : Int) := by
  rw [or_put 6 2 (a % 64) _ 128 (and63 A a h) (by omega) (by decide) (by omega)]
  omega

theorem put_end {w w1 : World} {A B C : Obj} {r v1 : Value} (g2 : (((w.alloc A).alloc B).alloc C).grownBy w1 r.ownBlock) (g3 : ∀ g, v1.ownBlock = some g → r.ownBlock = some g ∨ w.heap.size + 1 + 1 + 1 ≤ g) :
    Mut r.ownBlock.toList w w1 ∧ ∀ g, v1.ownBlock = some g → r.ownBlock = some g ∨ w.heap.size ≤ g :=
  ⟨((((Mut.refl _ w).alloc _).alloc _).alloc _).grown g2 (fun k hk => .inl (by simp [hk])), fun g hg => (g3 g hg).imp id fun h => by omega⟩

theorem boxes2 (w : World) (x y : Value) (t u : TypeId) :
    ((w.alloc (.cells #[x] t)).alloc (.cells #[y] u)).heap[w.heap.size]? = some (.cells #[x] t (0, 0)) ∧ ((w.alloc (.cells #[x] t)).alloc (.cells #[y] u)).heap[w.heap.size + 1]? = some (.cells #[y] u (0, 0)) := by
  have h0 := heap_alloc_new w (.cells #[x] t)
  have h1 := heap_alloc_new (w.alloc (.cells #[x] t)) (.cells #[y] u)
  rw [World.size_alloc] at h1
  exact ⟨((Mut.refl [] _).alloc _).get h0 (by simp), h1⟩

theorem PutTo.far {w : World} {q k : Nat} {r : Value} {L : List Nat} {w1 : World} {o : Obj} (h : PutTo w q r L w1) (hk : w.heap[k]? = some o) (h1 : k ≠ q) (h2 : r.ownBlock ≠ some k) : w1.heap[k]? = some o := by
  obtain ⟨r', q1, q2, q3, q4⟩ := h
  exact q3.get hk (by simp [h1, h2])

theorem PutTo.up {w : World} {A B : Obj} {r : Value} {L : List Nat} {w1 : World} (h : PutTo ((w.alloc A).alloc B) w.heap.size r L w1) :
    ∃ r', w1.heap[w.heap.size]? = some (.cells #[r'] 49 (0, 0)) ∧ BRow w1 r' L ∧ Mut r.ownBlock.toList w w1 ∧ (∀ g, r'.ownBlock = some g → r.ownBlock = some g ∨ w.heap.size ≤ g) := by
  obtain ⟨r', q1, q2, q3, q4⟩ := h
  refine ⟨r', q1, q2, (((Mut.refl _ w).alloc _).alloc _).trans q3 ?_, ?_⟩
  · intro y hy
    simp at hy
    rcases hy with rfl | hy
    · exact .inr (Nat.le_refl _)
    · exact .inl (by simp [hy])
  · intro g hg
    exact (q4 g hg).imp id fun h => by rw [World.size_alloc, World.size_alloc] at h; omega

set_option maxHeartbeats 800000 in
set_option maxRecDepth 1000000 in
theorem put_latin (x : Nat) (hx : x ≤ 255) (r : Value) (L : List Nat) (hL : L.length ≤ 1099511627776) (w : World) (hr : BRow w r L) :
    Calls Try.prog 17 #[r, .int .i64 (x : Int), .int .i64 4] w fun e w' => ∃ r', e = .returned r' ∧ BRow w' r' (L ++ enc1 x 4) ∧ Mut r.ownBlock.toList w w' ∧ (∀ g, r'.ownBlock = some g → r.ownBlock = some g ∨ w.heap.size ≤ g) := by
  obtain ⟨i0, hi, hz0, hz1, hz2⟩ := info_parts info_byte
  obtain ⟨rp0, rl0, rc0, rfl⟩ := hr.form
  have hrow : w.ownsRow 0 5 1 (.slice rp0 rl0 rc0) L.length (L.map fun n : Nat => Value.int .u8 (n : Int)) := hr
  go_enter Try.func17, Try.ntmps17
  go_wp2_with (at_builtin; (refine wp_app rfl (.tmp 33) (.tmp 36) 49 49 rfl 5 i0 (.int .u8 0) 1 1 Try.underlying49 hi hz0 hz1 hz2 rfl (((hrow.alloc _).alloc _).alloc _) rfl (src1b Try.underlying49) rfl (by unfold maxLen; omega) (by omega) ?_))
  intro v1 w1 g1 g2 g3
  clear hrow hi hz0 hz1 hz2
  have G1 := Lib.hid g1
  obtain ⟨m1, m2⟩ := put_end g2 g3
  have M1 := Lib.hid m1
  have M2 := Lib.hid m2
  clear g1 g2 g3 m1 m2
  go_wp2_with fail
  refine bodyPost_ret (v := v1) (results_tmp (t := 6) rfl _ _ _) rfl ⟨_, rfl, BRow.of_int G1.out ?_, M1.out, M2.out⟩
  exact ⟨rfl, rfl⟩

set_option maxHeartbeats 800000 in
set_option maxRecDepth 1000000 in
theorem put_u1 (x : Nat) (x1 : x < 128) (r : Value) (L : List Nat) (hL : L.length ≤ 1099511627776) (w : World) (hr : BRow w r L) :
    Calls Try.prog 17 #[r, .int .i64 (x : Int), .int .i64 1] w fun e w' => ∃ r', e = .returned r' ∧ BRow w' r' (L ++ enc1 x 1) ∧ Mut r.ownBlock.toList w w' ∧ (∀ g, r'.ownBlock = some g → r.ownBlock = some g ∨ w.heap.size ≤ g) := by
  obtain ⟨i0, hi, hz0, hz1, hz2⟩ := info_parts info_byte
  obtain ⟨rp0, rl0, rc0, rfl⟩ := hr.form
  have hrow : w.ownsRow 0 5 1 (.slice rp0 rl0 rc0) L.length (L.map fun n : Nat => Value.int .u8 (n : Int)) := hr
  have y1 : (x : Int) < 128 := by omega
  go_enter Try.func17, Try.ntmps17
  go_wp2_with (at_builtin; (refine wp_app rfl (.tmp 66) (.tmp 69) 49 49 rfl 5 i0 (.int .u8 0) 1 1 Try.underlying49 hi hz0 hz1 hz2 rfl (((hrow.alloc _).alloc _).alloc _) rfl (src1b Try.underlying49) rfl (by unfold maxLen; omega) (by omega) ?_))
  intro v1 w1 g1 g2 g3
  clear hrow hi hz0 hz1 hz2
  have G1 := Lib.hid g1
  obtain ⟨m1, m2⟩ := put_end g2 g3
  have M1 := Lib.hid m1
  have M2 := Lib.hid m2
  clear g1 g2 g3 m1 m2
  go_wp2_with fail
  refine bodyPost_ret (v := v1) (results_tmp (t := 6) rfl _ _ _) rfl ⟨_, rfl, BRow.of_int G1.out ?_, M1.out, M2.out⟩
  have e : enc1 x 1 = [x] := by
    unfold enc1 enc8
    rw [if_neg (by decide), if_pos rfl, if_pos x1]
  rw [e]
  exact ⟨rfl, rfl⟩

set_option maxHeartbeats 800000 in
set_option maxRecDepth 1000000 in
theorem put_u2 (x : Nat) (x1 : ¬ x < 128) (x2 : x < 2048) (r : Value) (L : List Nat) (hL : L.length ≤ 1099511627776) (w : World) (hr : BRow w r L) :
    Calls Try.prog 17 #[r, .int .i64 (x : Int), .int .i64 1] w fun e w' => ∃ r', e = .returned r' ∧ BRow w' r' (L ++ enc1 x 1) ∧ Mut r.ownBlock.toList w w' ∧ (∀ g, r'.ownBlock = some g → r.ownBlock = some g ∨ w.heap.size ≤ g) := by
  obtain ⟨i0, hi, hz0, hz1, hz2⟩ := info_parts info_byte
  obtain ⟨rp0, rl0, rc0, rfl⟩ := hr.form
  have hrow : w.ownsRow 0 5 1 (.slice rp0 rl0 rc0) L.length (L.map fun n : Nat => Value.int .u8 (n : Int)) := hr
  have y1 : ¬ (x : Int) < 128 := by omega
  have y2 : (x : Int) < 2048 := by omega
  go_enter Try.func17, Try.ntmps17
  go_wp2_with (at_builtin; (refine wp_app rfl (.tmp 74) (.tmp 83) 49 49 rfl 5 i0 (.int .u8 0) 1 1 Try.underlying49 hi hz0 hz1 hz2 rfl (((hrow.alloc _).alloc _).alloc _) rfl (src2b Try.underlying49) rfl (by unfold maxLen; omega) (by omega) ?_))
  intro v1 w1 g1 g2 g3
  clear hrow hi hz0 hz1 hz2
  have G1 := Lib.hid g1
  obtain ⟨m1, m2⟩ := put_end g2 g3
  have M1 := Lib.hid m1
  have M2 := Lib.hid m2
  clear g1 g2 g3 m1 m2
  go_wp2_with fail
  refine bodyPost_ret (v := v1) (results_tmp (t := 6) rfl _ _ _) rfl ⟨_, rfl, BRow.of_int G1.out ?_, M1.out, M2.out⟩
  have e : enc1 x 1 = [192 + x / 64, 128 + x % 64] := by
    unfold enc1 enc8
    rw [if_neg (by decide), if_pos rfl, if_neg x1, if_pos x2]
  rw [e, cont_byte _ x rfl, or_put 5 6 (x / 64) _ 192 (by omega) (by omega) (by decide) (by omega), show x / 64 + 6 * 2 ^ 5 = 192 + x / 64 by omega]
  exact ⟨rfl, rfl⟩

set_option maxHeartbeats 800000 in
set_option maxRecDepth 1000000 in
theorem put_u3 (x : Nat) (x1 : ¬ x < 2048) (x2 : x < 65536) (r : Value) (L : List Nat) (hL : L.length ≤ 1099511627776) (w : World) (hr : BRow w r L) :
    Calls Try.prog 17 #[r, .int .i64 (x : Int), .int .i64 1] w fun e w' => ∃ r', e = .returned r' ∧ BRow w' r' (L ++ enc1 x 1) ∧ Mut r.ownBlock.toList w w' ∧ (∀ g, r'.ownBlock = some g → r.ownBlock = some g ∨ w.heap.size ≤ g) := by
  obtain ⟨i0, hi, hz0, hz1, hz2⟩ := info_parts info_byte
  obtain ⟨rp0, rl0, rc0, rfl⟩ := hr.form
  have hrow : w.ownsRow 0 5 1 (.slice rp0 rl0 rc0) L.length (L.map fun n : Nat => Value.int .u8 (n : Int)) := hr
  have y1 : ¬ (x : Int) < 128 := by omega
  have y2 : ¬ (x : Int) < 2048 := by omega
  have y3 : (x : Int) < 65536 := by omega
  go_enter Try.func17, Try.ntmps17
  go_wp2_with (at_builtin; (refine wp_app rfl (.tmp 88) (.tmp 102) 49 49 rfl 5 i0 (.int .u8 0) 1 1 Try.underlying49 hi hz0 hz1 hz2 rfl (((hrow.alloc _).alloc _).alloc _) rfl (src3b Try.underlying49) rfl (by unfold maxLen; omega) (by omega) ?_))
  intro v1 w1 g1 g2 g3
  clear hrow hi hz0 hz1 hz2
  have G1 := Lib.hid g1
  obtain ⟨m1, m2⟩ := put_end g2 g3
  have M1 := Lib.hid m1
  have M2 := Lib.hid m2
  clear g1 g2 g3 m1 m2
  go_wp2_with fail
  refine bodyPost_ret (v := v1) (results_tmp (t := 6) rfl _ _ _) rfl ⟨_, rfl, BRow.of_int G1.out ?_, M1.out, M2.out⟩
  have e : enc1 x 1 = [224 + x / 4096, 128 + x / 64 % 64, 128 + x % 64] := by
    unfold enc1 enc8
    rw [if_neg (by decide), if_pos rfl, if_neg (by omega), if_neg x1, if_pos x2]
  rw [e, cont_byte _ x rfl, cont_byte _ (x / 64) (by omega), or_put 4 14 (x / 4096) _ 224 (by omega) (by omega) (by decide) (by omega), show x / 4096 + 14 * 2 ^ 4 = 224 + x / 4096 by omega]
  exact ⟨rfl, rfl⟩

set_option maxHeartbeats 800000 in
set_option maxRecDepth 1000000 in
theorem put_u4 (x : Nat) (x1 : ¬ x < 65536) (x2 : x ≤ 1114111) (r : Value) (L : List Nat) (hL : L.length ≤ 1099511627776) (w : World) (hr : BRow w r L) :
    Calls Try.prog 17 #[r, .int .i64 (x : Int), .int .i64 1] w fun e w' => ∃ r', e = .returned r' ∧ BRow w' r' (L ++ enc1 x 1) ∧ Mut r.ownBlock.toList w w' ∧ (∀ g, r'.ownBlock = some g → r.ownBlock = some g ∨ w.heap.size ≤ g) := by
  obtain ⟨i0, hi, hz0, hz1, hz2⟩ := info_parts info_byte
  obtain ⟨rp0, rl0, rc0, rfl⟩ := hr.form
  have hrow : w.ownsRow 0 5 1 (.slice rp0 rl0 rc0) L.length (L.map fun n : Nat => Value.int .u8 (n : Int)) := hr
  have y1 : ¬ (x : Int) < 128 := by omega
  have y2 : ¬ (x : Int) < 2048 := by omega
  have y3 : ¬ (x : Int) < 65536 := by omega
  go_enter Try.func17, Try.ntmps17
  go_wp2_with (at_builtin; (refine wp_app rfl (.tmp 9) (.tmp 28) 49 49 rfl 5 i0 (.int .u8 0) 1 1 Try.underlying49 hi hz0 hz1 hz2 rfl (((hrow.alloc _).alloc _).alloc _) rfl (src4b Try.underlying49) rfl (by unfold maxLen; omega) (by omega) ?_))
  intro v1 w1 g1 g2 g3
  clear hrow hi hz0 hz1 hz2
  have G1 := Lib.hid g1
  obtain ⟨m1, m2⟩ := put_end g2 g3
  have M1 := Lib.hid m1
  have M2 := Lib.hid m2
  clear g1 g2 g3 m1 m2
  go_wp2_with fail
  refine bodyPost_ret (v := v1) (results_tmp (t := 6) rfl _ _ _) rfl ⟨_, rfl, BRow.of_int G1.out ?_, M1.out, M2.out⟩
  have e : enc1 x 1 = [240 + x / 262144, 128 + x / 4096 % 64, 128 + x / 64 % 64, 128 + x % 64] := by
    unfold enc1 enc8
    rw [if_neg (by decide), if_pos rfl, if_neg (by omega), if_neg (by omega), if_neg x1]
  rw [e, cont_byte _ x rfl, cont_byte ((x : Int) / 64) (x / 64) (by omega), cont_byte ((x : Int) / 4096) (x / 4096) (by omega), or_put 3 30 (x / 262144) _ 240 (by omega) (by omega) (by decide) (by omega), show x / 262144 + 30 * 2 ^ 3 = 240 + x / 262144 by omega]
  exact ⟨rfl, rfl⟩

set_option maxHeartbeats 800000 in
set_option maxRecDepth 1000000 in
theorem put_w1 (x : Nat) (c : Nat) (hc : c = 2 ∨ c = 3) (x2 : x < 65536) (r : Value) (L : List Nat) (hL : L.length ≤ 1099511627776) (w : World) (hr : BRow w r L) :
    Calls Try.prog 17 #[r, .int .i64 (x : Int), .int .i64 (c : Int)] w fun e w' => ∃ r', e = .returned r' ∧ BRow w' r' (L ++ enc1 x c) ∧ Mut r.ownBlock.toList w w' ∧ (∀ g, r'.ownBlock = some g → r.ownBlock = some g ∨ w.heap.size ≤ g) := by
  obtain ⟨i0, hi, hz0, hz1, hz2⟩ := info_parts info_byte
  obtain ⟨rp0, rl0, rc0, rfl⟩ := hr.form
  have hrow : w.ownsRow 0 5 1 (.slice rp0 rl0 rc0) L.length (L.map fun n : Nat => Value.int .u8 (n : Int)) := hr
  have y3 : ¬ 65536 ≤ (x : Int) := by omega
  have hz4 : ((c : Int) == 4) = false := by rw [beq_eq_false_iff_ne]; omega
  have hz1' : ((c : Int) == 1) = false := by rw [beq_eq_false_iff_ne]; omega
  go_enter Try.func17, Try.ntmps17
  go_wp2_with fail
  have hb := boxes2 w (.slice rp0 rl0 rc0) (.int .i64 (c : Int)) 49 3
  have cb := cellOf hb.2 0 rfl
  have hr0 : BRow ((w.alloc (.cells #[.slice rp0 rl0 rc0] 49)).alloc (.cells #[.int .i64 (c : Int)] 3)) (.slice rp0 rl0 rc0) L := (hrow.alloc _).alloc _
  refine (put1_any c x x2 _ _ _ L (by omega) _ cb hb.1 hr0).mono ?_
  rintro e w1 ⟨rfl, hp⟩
  obtain ⟨r', q1, q2, q3, q4⟩ := hp.up
  obtain ⟨rp1, rl1, rc1, rfl⟩ := q2.form
  have c1 := cellOf q1 0 rfl
  have Q2 := Lib.hid q2
  have Q3 := Lib.hid q3
  have Q4 := Lib.hid q4
  clear hb cb hr0 hp hrow hi hz0 hz1 hz2 q2 q3 q4
  go_wp2_with fail
  have e : enc1 x c = u16b (c == 3) x := by
    unfold enc1 enc16
    rw [if_neg (by omega), if_neg (by omega), if_pos x2]
  rw [e]
  refine bodyPost_ret (v := .slice rp1 rl1 rc1) (results_tmp (t := 6) rfl _ _ _) rfl ⟨_, rfl, Q2.out, Q3.out, Q4.out⟩

set_option maxHeartbeats 1600000 in
set_option maxRecDepth 1000000 in
theorem put_w2 (x : Nat) (c : Nat) (hc : c = 2 ∨ c = 3) (x1 : ¬ x < 65536) (x2 : x ≤ 1114111) (r : Value) (L : List Nat) (hL : L.length ≤ 1099511627776) (w : World) (hr : BRow w r L) :
    Calls Try.prog 17 #[r, .int .i64 (x : Int), .int .i64 (c : Int)] w fun e w' => ∃ r', e = .returned r' ∧ BRow w' r' (L ++ enc1 x c) ∧ Mut r.ownBlock.toList w w' ∧ (∀ g, r'.ownBlock = some g → r.ownBlock = some g ∨ w.heap.size ≤ g) := by
  obtain ⟨i0, hi, hz0, hz1, hz2⟩ := info_parts info_byte
  obtain ⟨rp0, rl0, rc0, rfl⟩ := hr.form
  have hrow : w.ownsRow 0 5 1 (.slice rp0 rl0 rc0) L.length (L.map fun n : Nat => Value.int .u8 (n : Int)) := hr
  have y3 : 65536 ≤ (x : Int) := by omega
  have y4 : (x : Int) ≤ 1114111 := by omega
  have hz4 : ((c : Int) == 4) = false := by rw [beq_eq_false_iff_ne]; omega
  have hz1' : ((c : Int) == 1) = false := by rw [beq_eq_false_iff_ne]; omega
  obtain ⟨y, hy⟩ : ∃ y, x = y + 65536 := ⟨x - 65536, by omega⟩
  have HY := Lib.hid hy
  clear hy
  go_enter Try.func17, Try.ntmps17
  go_wp2_with fail
  have hb := boxes2 w (.slice rp0 rl0 rc0) (.int .i64 (c : Int)) 49 3
  have cb := cellOf hb.2 0 rfl
  have hr0 : BRow ((w.alloc (.cells #[.slice rp0 rl0 rc0] 49)).alloc (.cells #[.int .i64 (c : Int)] 3)) (.slice rp0 rl0 rc0) L := (hrow.alloc _).alloc _
  have ey : 55296 + ((x : Int) - 65536) / 1024 = ((55296 + y / 1024 : Nat) : Int) := by have := HY.out; omega
  rw [ey]
  refine (put1_any c (55296 + y / 1024) (by have := HY.out; omega) _ _ _ L (by omega) _ cb hb.1 hr0).mono ?_
  rintro e w1 ⟨rfl, hp⟩
  obtain ⟨r', q1, q2, q3, q4⟩ := hp.up
  have cb1 := hp.far hb.2 (by omega) (by intro h; have := hr.lt h; omega)
  obtain ⟨rp1, rl1, rc1, rfl⟩ := q2.form
  have Q1 := Lib.hid q1
  have Q2 := Lib.hid q2
  have Q3 := Lib.hid q3
  have Q4 := Lib.hid q4
  have CB1 := Lib.hid cb1
  clear hb cb hr0 hp hrow hi hz0 hz1 hz2 q1 q2 q3 q4 cb1 ey
  go_wp2_with fail
  have ez : wrap64 (56320 + bits .and .i64 ((x : Int) - 65536) 1023) = ((56320 + y % 1024 : Nat) : Int) := by
    have := HY.out
    rw [and_mask_i64 _ 10 (by decide) 1023 (by decide), show (56320 + ((x : Int) - 65536) % 2 ^ 10) = ((56320 + y % 1024 : Nat) : Int) by omega]
    unfold wrap64
    omega
  rw [ez]
  have hL2 : (L ++ u16b (c == 3) (55296 + y / 1024)).length ≤ 2199023255552 := by rw [List.length_append, u16b_length]; omega
  refine (put1_any c (56320 + y % 1024) (by omega) _ _ _ _ hL2 _ (cellOf CB1.out 0 rfl) Q1.out Q2.out).mono ?_
  rintro e w2 ⟨rfl, hp⟩
  obtain ⟨r2, p1, p2, p3, p4⟩ := hp
  obtain ⟨rp2, rl2, rc2, rfl⟩ := p2.form
  have c2 := cellOf p1 0 rfl
  have m2 : Mut (Value.slice rp0 rl0 rc0).ownBlock.toList w w2 := Q3.out.trans p3 (fun z hz => by
    simp at hz
    rcases hz with rfl | hz
    · exact .inr (Nat.le_refl _)
    · rcases Q4.out z hz with h | h
      · exact .inl (by simp [h])
      · exact .inr h)
  have M2 := Lib.hid m2
  have P2 := Lib.hid p2
  have P4 : Hid (∀ g, (Value.slice rp2 rl2 rc2).ownBlock = some g → (Value.slice rp0 rl0 rc0).ownBlock = some g ∨ w.heap.size ≤ g) := Lib.hid fun g hg => by
    rcases p4 g hg with h | h
    · exact Q4.out g h
    · have := Q3.out.size
      exact .inr (by omega)
  clear p1 p2 p3 p4 m2
  go_wp2_with fail
  have e : enc1 x c = u16b (c == 3) (55296 + y / 1024) ++ u16b (c == 3) (56320 + y % 1024) := by
    have := HY.out
    unfold enc1 enc16
    rw [if_neg (by omega), if_neg (by omega), if_neg x1, show x - 65536 = y by omega]
  rw [e, ← List.append_assoc]
  refine bodyPost_ret (v := .slice rp2 rl2 rc2) (results_tmp (t := 6) rfl _ _ _) rfl ⟨_, rfl, P2.out, M2.out, P4.out⟩

theorem put_any (c : Nat) (x : Nat) (hc : 1 ≤ c ∧ c ≤ 4) (hok : okRune x c) (r : Value) (L : List Nat) (hL : L.length ≤ 1099511627776) (w : World) (hr : BRow w r L) :
    Calls Try.prog 17 #[r, .int .i64 (x : Int), .int .i64 (c : Int)] w fun e w' => ∃ r', e = .returned r' ∧ BRow w' r' (L ++ enc1 x c) ∧ Mut r.ownBlock.toList w w' ∧ (∀ g, r'.ownBlock = some g → r.ownBlock = some g ∨ w.heap.size ≤ g) := by
  obtain ⟨o1, o2, o3, o4⟩ := hok
  rcases (show c = 4 ∨ c = 1 ∨ (c = 2 ∨ c = 3) by omega) with rfl | rfl | h
  · exact put_latin x (by have := o4 rfl; omega) r L hL w hr
  · by_cases x1 : x < 128
    · exact put_u1 x x1 r L hL w hr
    · by_cases x2 : x < 2048
      · exact put_u2 x x1 x2 r L hL w hr
      · by_cases x3 : x < 65536
        · exact put_u3 x x2 x3 r L hL w hr
        · exact put_u4 x x3 (by omega) r L hL w hr
  · by_cases x3 : x < 65536
    · exact put_w1 x c h x3 r L hL w hr
    · exact put_w2 x c h x3 (by omega) r L hL w hr

end Go.Proofs.Ytcnckpglicfolaa
