/- Walks over package ferretref07: Decode. -/
import Derived.Test.YtkoheodcledcfaaCodF4
import Derived.Test.YtkoheodcledcfaaCodF1
import Derived.Test.YtkoheodcledcfaaCodL1
import Derived.Deep.DeepCutAuto
import Derived.Deep.LoopGhost
namespace Go.Proofs.Ytkoheodcledcfaa
open Go.RowKit

/-- the reference's text, being laid -/
structure RMid (w0 w : World) (A : Nat) (c : Int) (mr mp r : Value) (R : List Int) (p : Value) (Q : List Int) (bad : Int) : Prop where
  mem : w.heap[A]? = some (.cells #[.int .i64 c, .int .i64 bad, mr, mp] 32 (0, 0))
  o1 : w.heap[w0.heap.size]? = some (.cells #[.int .i64 0, .int .i64 0, .slice none 0 0, .slice none 0 0] 32 (0, 0))
  lt : w0.heap.size < A
  kept : Mut [] w0 w
  rr : IRow w r R
  rp : IRow w p Q
  fr : ∀ g, r.ownBlock = some g → w0.heap.size ≤ g
  fp : ∀ g, p.ownBlock = some g → w0.heap.size ≤ g
  ne : ∀ g, r.ownBlock = some g → p.ownBlock ≠ some g

theorem RMid.step {w0 w w' : World} {A : Nat} {c : Int} {mr mp r p : Value} {R Q : List Int} {bad : Int} (h : RMid w0 w A c mr mp r R p Q bad) (m : Mut [] w w') : RMid w0 w' A c mr mp r R p Q bad :=
  ⟨m.get h.mem (by simp), m.get h.o1 (by simp), h.lt, h.kept.trans m (by simp), h.rr.mut m (by simp), h.rp.mut m (by simp), h.fr, h.fp, h.ne⟩

theorem RMid.set {w0 w : World} {A : Nat} {c : Int} {mr mp r p : Value} {R Q : List Int} {bad : Int} (h : RMid w0 w A c mr mp r R p Q bad) (i : Nat) (d : Value) {c' bad' : Int} {mr' mp' : Value} (he : (#[.int .i64 c, .int .i64 bad, mr, mp] : Array Value).setIfInBounds i d = #[.int .i64 c', .int .i64 bad', mr', mp']) :
    RMid w0 (w.setCell ⟨A, i, none⟩ d) A c' mr' mp' r R p Q bad' := by
  have hr := row_ne h.rr h.mem (by decide)
  have hp := row_ne h.rp h.mem (by decide)
  have hlt := h.lt
  refine ⟨?_, by rw [heap_set_ne (by omega)]; exact h.o1, h.lt, h.kept.setCell (.inr (Nat.le_of_lt hlt)) _, row_set_ne h.rr (fun g hg hga => hr (by rw [hg, hga])) _, row_set_ne h.rp (fun g hg hga => hp (by rw [hg, hga])) _, h.fr, h.fp, h.ne⟩
  rw [heap_set h.mem i _, he]

theorem RMid.app1 {w0 w w' : World} {A : Nat} {c : Int} {mr mp r p r' : Value} {R Q : List Int} {bad : Int} {o : Obj} (h : RMid w0 w A c mr mp r R p Q bad) (x : Int)
    (hr : w'.ownsRow 0 3 1 r' (R.length + 1) (R.map (Value.int .i64) ++ [.int .i64 x])) (hg : (w.alloc o).grownBy w' r.ownBlock) (hf : ∀ g, r'.ownBlock = some g → r.ownBlock = some g ∨ w.heap.size + 1 ≤ g) :
    RMid w0 w' A c mr mp r' (R ++ [x]) p Q bad := by
  have h := h.step ((Mut.refl [] w).alloc o)
  have hrm := row_ne h.rr h.mem (by decide)
  have hr1 := row_ne h.rr h.o1 (by decide)
  have hb : ∀ {b : Nat} {o' : Obj}, (w.alloc o).heap[b]? = some o' → r.ownBlock ≠ some b → w'.heap[b]? = some o' := fun h1 h2 => (hg.block _ (lt_of_heap h1) (fun e => h2 e.symm)).trans h1
  have hm : Mut r.ownBlock.toList (w.alloc o) w' := (Mut.refl _ _).grown hg (fun k hk => .inl (by simp [hk]))
  refine ⟨hb h.mem hrm, hb h.o1 hr1, h.lt, h.kept.trans hm (fun y hy => .inr (h.fr y (by simpa using hy))), by unfold IRow; rw [List.length_append, List.map_append]; exact hr, h.rp.mut hm (fun g hg' hy => h.ne g (by simpa using hy) hg'), fun g hg' => ?_, h.fp, fun g hg' hp => ?_⟩
  · rcases hf g hg' with e | e
    · exact h.fr g e
    · have := h.kept.size; rw [World.size_alloc] at this; omega
  · rcases hf g hg' with e | e
    · exact h.ne g e hp
    · have := h.rp.lt hp; rw [World.size_alloc] at this; omega

theorem RMid.app2 {w0 w w' : World} {A : Nat} {c : Int} {mr mp r p p' : Value} {R Q : List Int} {bad : Int} {o : Obj} (h : RMid w0 w A c mr mp r R p Q bad) (x : Int)
    (hr : w'.ownsRow 0 3 1 p' (Q.length + 1) (Q.map (Value.int .i64) ++ [.int .i64 x])) (hg : (w.alloc o).grownBy w' p.ownBlock) (hf : ∀ g, p'.ownBlock = some g → p.ownBlock = some g ∨ w.heap.size + 1 ≤ g) :
    RMid w0 w' A c mr mp r R p' (Q ++ [x]) bad := by
  have h := h.step ((Mut.refl [] w).alloc o)
  have hrm := row_ne h.rp h.mem (by decide)
  have hr1 := row_ne h.rp h.o1 (by decide)
  have hb : ∀ {b : Nat} {o' : Obj}, (w.alloc o).heap[b]? = some o' → p.ownBlock ≠ some b → w'.heap[b]? = some o' := fun h1 h2 => (hg.block _ (lt_of_heap h1) (fun e => h2 e.symm)).trans h1
  have hm : Mut p.ownBlock.toList (w.alloc o) w' := (Mut.refl _ _).grown hg (fun k hk => .inl (by simp [hk]))
  refine ⟨hb h.mem hrm, hb h.o1 hr1, h.lt, h.kept.trans hm (fun y hy => .inr (h.fp y (by simpa using hy))), h.rr.mut hm (fun g hg' hy => h.ne g hg' (by simpa using hy)), by unfold IRow; rw [List.length_append, List.map_append]; exact hr, h.fr, fun g hg' => ?_, fun g hg' hp => ?_⟩
  · rcases hf g hg' with e | e
    · exact h.fp g e
    · have := h.kept.size; rw [World.size_alloc] at this; omega
  · rcases hf g hp with e | e
    · exact h.ne g hg' e
    · have := h.rr.lt hg'; rw [World.size_alloc] at this; omega

theorem RMid.cells {w0 w : World} {A : Nat} {c : Int} {mr mp r p : Value} {R Q : List Int} {bad : Int} (h : RMid w0 w A c mr mp r R p Q bad) :
    w.cell? ⟨A, 0, none⟩ = some (.int .i64 c) ∧ w.cell? ⟨A, 1, none⟩ = some (.int .i64 bad) ∧ w.cell? ⟨A, 2, none⟩ = some mr ∧ w.cell? ⟨A, 3, none⟩ = some mp ∧
    w.frozen? ⟨A, 1, none⟩ = false ∧ w.frozen? ⟨A, 2, none⟩ = false ∧ w.frozen? ⟨A, 3, none⟩ = false :=
  ⟨cellOf h.mem 0 rfl, cellOf h.mem 1 rfl, cellOf h.mem 2 rfl, cellOf h.mem 3 rfl, frozenOf h.mem 1, frozenOf h.mem 2, frozenOf h.mem 3⟩

/-- the result's memory, when it has been stored -/
theorem RMid.out4 {w0 w : World} {A : Nat} {c : Int} {mr mp r p : Value} {R Q : List Int} {bad : Int} (h : RMid w0 w A c mr mp r R p Q bad) (a0 a1 a2 a3 : Value) {W : World} (hW : W = (((w.setCell ⟨w0.heap.size, 0, none⟩ a0).setCell ⟨w0.heap.size, 1, none⟩ a1).setCell ⟨w0.heap.size, 2, none⟩ a2).setCell ⟨w0.heap.size, 3, none⟩ a3) :
    W.heap[w0.heap.size]? = some (.cells #[a0, a1, a2, a3] 32 (0, 0)) ∧ Mut [] w0 W ∧ IRow W r R ∧ IRow W p Q := by
  subst hW
  have e1 := heap_set (heap_set (heap_set (heap_set h.o1 0 a0) 1 a1) 2 a2) 3 a3
  have n1 := row_ne h.rr h.o1 (by decide)
  have n3 := row_ne h.rp h.o1 (by decide)
  refine ⟨e1, ?_, ?_, ?_⟩
  · exact (((h.kept.setCell (.inr (Nat.le_refl _)) _).setCell (.inr (Nat.le_refl _)) _).setCell (.inr (Nat.le_refl _)) _).setCell (.inr (Nat.le_refl _)) _
  · have f1 : ∀ {W : World} (i : Nat) (d : Value), IRow W r R → IRow (W.setCell ⟨w0.heap.size, i, none⟩ d) r R := fun i d hW => row_set_ne hW (fun g hg e => n1 (by rw [hg, e])) _
    exact f1 _ _ (f1 _ _ (f1 _ _ (f1 _ _ h.rr)))
  · have f1 : ∀ {W : World} (i : Nat) (d : Value), IRow W p Q → IRow (W.setCell ⟨w0.heap.size, i, none⟩ d) p Q := fun i d hW => row_set_ne hW (fun g hg e => n3 (by rw [hg, e])) _
    exact f1 _ _ (f1 _ _ (f1 _ _ (f1 _ _ h.rp)))

/-- how the reference's Decode is given back -/
def RPost (k : Nat) (strict : Bool) (T : List (Int × Nat)) (size : Nat) (x : Value) (w' : World) : Prop :=
  (∃ D p E, T = D ++ p :: E ∧ badOf D = 0 ∧ p.1 < 0 ∧ strict = true ∧ x = .tuple #[.agg #[.int .i64 0, .int .i64 0, .slice none 0 0, .slice none 0 0], .int .i64 17, .int .i64 (p.2 : Int)]) ∨
  ((strict = true → badOf T = 0) ∧ ∃ vr vp, x = .tuple #[.agg #[.int .i64 (k : Int), .int .i64 (badOf T : Int), vr, vp], .int .i64 0, .int .i64 0] ∧ IRow w' vr (runesOf T) ∧ IRow w' vp (((placesOf T).map fun n : Nat => (n : Int)) ++ [(size : Int)]))

theorem rbegins_mark (s : ByteArray) (k : Nat) (w : World) : Calls Try.prog 24 #[.string s, .string (strOf (markB k))] w fun e w' => e = .returned (.bool (begins (bytesOf s) (markB k))) ∧ w = w' := by
  have h := rbegins_any s (strOf (markB k)) w
  rw [bytesOf_strOf _ (markB_lt k)] at h
  exact h

theorem rresults {tmps : Array Value} {w : World} {g1 : Nat} {a0 a1 a2 a3 b0 b1 : Value} (h1 : w.heap[g1]? = some (.cells #[a0, a1, a2, a3] 32 (0, 0)))
    (p1 : tmps.getD 6 undef = .pointer (some ⟨g1, 0, none⟩)) (p2 : tmps.getD 7 undef = b0) (p3 : tmps.getD 8 undef = b1) :
    (results Try.f12 tmps).run Try.prog w = .ok (.tuple #[.agg #[a0, a1, a2, a3], b0, b1]) w := by
  have q1 : tmps[6]?.getD undef = .pointer (some ⟨g1, 0, none⟩) := by simpa using p1
  have q2 : tmps[7]?.getD undef = b0 := by simpa using p2
  have q3 : tmps[8]?.getD undef = b1 := by simpa using p3
  have e1 := run_loadVar_row (P := Try.prog) w g1 32 32 #[a0, a1, a2, a3] (0, 0) _ h1 Try.underlying32 rfl (by kernel_rfl)
  simp [results, q1, q2, q3, asAddr, e1]

set_option maxHeartbeats 4000000 in
set_option maxRecDepth 1000000 in
theorem rdecode_go (s : ByteArray) (c : Nat) (strict : Bool) (hc4 : c ≤ 4) (hs : s.size ≤ 16777216) (w : World) :
    Calls Try.prog 12 #[.string s, .int .i64 c, .bool strict] w fun e w' => ∃ x, e = .returned x ∧ RPost (codingOf c (bytesOf s)) strict (told (codingOf c (bytesOf s)) (bytesOf s)) s.size x w' ∧ Mut [] w w' := by
  have hc0 : ¬ (c : Int) < 0 := by omega
  have hc4I : ¬ (4 : Int) < (c : Int) := by omega
  obtain ⟨k1, k4⟩ := codingOf_rng c (bytesOf s) hc4
  have HK0 : Hid (c = 0 → sniff (bytesOf s) = codingOf c (bytesOf s)) := Lib.hid fun h => by unfold codingOf; rw [if_pos h]
  have HK1 : Hid (¬ c = 0 → codingOf c (bytesOf s) = c) := Lib.hid fun h => by unfold codingOf; rw [if_neg h]
  generalize codingOf c (bytesOf s) = k at *
  have HI : Hid (told k (bytesOf s) = [] ++ decAll k ((bytesOf s).drop (startOf k (bytesOf s))) (startOf k (bytesOf s))) := Lib.hid rfl
  have HTL := Lib.hid (told_len k s)
  generalize told k (bytesOf s) = T at *
  have HO := Lib.hid (heap_alloc_new w (.cells #[.int .i64 0, .int .i64 0, .slice none 0 0, .slice none 0 0] 32))
  go_enter Try.func12, Try.ntmps12
  go_upto_if 22 with fail
  go_cut [1] (fun x wx => x = .int .i64 (k : Int) ∧ Hid (Mut [] (w.alloc (.cells #[.int .i64 0, .int .i64 0, .slice none 0 0, .slice none 0 0] 32)) wx))
  case first =>
    by_cases h : c = 0
    · subst h
      have hz : (((0 : Nat) : Int) == 0) = true := rfl
      have HKK := Lib.hid (HK0.out rfl)
      go_wp2_with fail
      go_loopw [1, 9] (fun cc x wx => ∃ j : Nat, cc = .int .i64 1 ∧ x = .int .i64 (j : Int) ∧ 1 ≤ j ∧ j ≤ 4 ∧ Hid (∀ i, 1 ≤ i → i < j → begins (bytesOf s) (markB i) = false) ∧ Hid (Mut [] (w.alloc (.cells #[.int .i64 0, .int .i64 0, .slice none 0 0, .slice none 0 0] 32)) wx)) (fun _ x _ => 4 - (intOf x).toNat)
      case atStart => exact ⟨1, rfl, rfl, by omega, by omega, Lib.hid (fun i h1 h2 => by omega), Lib.hid (Mut.refl _ _)⟩
      case round =>
        obtain ⟨j, rfl, rfl, hj1, hj4, HN, HM⟩ := hrel
        by_cases hj : j < 4
        · have hjI : (j : Int) < 4 := by omega
          go_wp2_with fail
          refine (rmark_any j hj4 _).mono ?_
          rintro e w1 ⟨rfl, m1⟩
          have HM1 := Lib.hid (HM.out.trans m1 (by simp))
          clear m1
          go_wp2_with fail
          refine (rbegins_mark s j _).mono ?_
          rintro e w2 ⟨rfl, rfl⟩
          cases hb : begins (bytesOf s) (markB j)
          · have HB := Lib.hid hb
            go_wp2_with fail
            exact ⟨⟨j + 1, rfl, by rw [Int.natCast_add]; rfl, by omega, by omega, Lib.hid (fun i h1 h2 => by
              by_cases e : i = j
              · rw [e]; exact HB.out
              · exact HN.out i h1 (by omega)), HM1⟩, by simp only [intOf]; omega⟩
          · have HKJ : Hid (k = j) := Lib.hid (by
              rw [← HKK.out]
              unfold sniff
              rcases (show j = 1 ∨ j = 2 ∨ j = 3 by omega) with rfl | rfl | rfl
              · rw [if_pos hb]
              · rw [if_neg (by rw [HN.out 1 (by omega) (by omega)]; decide), if_pos hb]
              · rw [if_neg (by rw [HN.out 1 (by omega) (by omega)]; decide), if_neg (by rw [HN.out 2 (by omega) (by omega)]; decide), if_pos hb])
            clear hb
            go_wp2_with fail
            go_meet
            exact ⟨by rw [HKJ.out], HM1⟩
        · have ej : j = 4 := by omega
          have hjI : ¬ (j : Int) < 4 := by omega
          have HKJ : Hid (k = 1) := Lib.hid (by
            rw [← HKK.out]
            unfold sniff
            rw [if_neg (by rw [HN.out 1 (by omega) (by omega)]; decide), if_neg (by rw [HN.out 2 (by omega) (by omega)]; decide), if_neg (by rw [HN.out 3 (by omega) (by omega)]; decide)])
          go_wp2_with fail
          go_meet
          exact ⟨by rw [HKJ.out]; rfl, HM⟩
    · have hc1 : ((c : Int) == 0) = false := by rw [beq_eq_false_iff_ne]; omega
      have HK := Lib.hid (HK1.out h)
      go_wp2_with fail
      go_meet
      rw [HK.out]
      exact ⟨rfl, Lib.hid (Mut.refl _ _)⟩
  case rest =>
    obtain ⟨rfl, HM⟩ := hcut
    obtain ⟨W1, hW1⟩ : ∃ W1, wc = W1 := ⟨_, rfl⟩
    subst hW1
    obtain ⟨b, hb⟩ : ∃ b, begins (bytesOf s) (markB k) = b := ⟨_, rfl⟩
    have HB := Lib.hid hb
    have hst : startOf k (bytesOf s) = if b then (markB k).length else 0 := by unfold startOf; rw [hb]
    have HST := Lib.hid hst
    have HR0 : Hid (RMid w (wc.alloc (.cells #[.int .i64 (k : Int), .int .i64 0, .slice none 0 0, .slice none 0 0] 32)) wc.heap.size (k : Int) (.slice none 0 0) (.slice none 0 0) (.slice none 0 0) [] (.slice none 0 0) [] 0) := Lib.hid (by
      have hm := HM.out
      have h1 : w.heap.size < wc.heap.size := by have := hm.size; rw [World.size_alloc] at this; omega
      exact ⟨heap_alloc_new wc _, (((Mut.refl [] _).alloc _)).get (hm.get HO.out (by simp)) (by simp), h1, (((Mut.refl [] w).alloc _).trans hm (by simp)).alloc _, IRow.nil _, IRow.nil _, by simp [Value.ownBlock], by simp [Value.ownBlock], by simp [Value.ownBlock]⟩)
    clear HK0 HK1 hc0 hc4I hc4 hb hst
    go_upto_if 37 with (first | (go_at_call 14; refine (rmark_any k k4 _).mono ?_; rintro e w1 ⟨rfl, m1⟩) | (go_at_call 24; refine (rbegins_mark s k _).mono ?_; rintro e w2 ⟨rfl, rfl⟩; rw [HB.out]))
    have HR1 := Lib.hid (HR0.out.step m1)
    clear m1 HR0
    generalize wc.heap.size = A at *
    go_cut [11] (fun a wx => a = .int .i64 (startOf k (bytesOf s) : Nat) ∧ Hid (RMid w wx A (k : Int) (.slice none 0 0) (.slice none 0 0) (.slice none 0 0) [] (.slice none 0 0) [] 0))
    case first =>
      cases b
      · go_wp2_with fail
        go_meet
        exact ⟨by rw [HST.out]; rfl, HR1⟩
      · have hsz : ((strOf (markB k)).size : Int) = ((markB k).length : Nat) := by rw [strOf_size]
        go_wp2_with fail
        refine (rmark_any k k4 _).mono ?_
        rintro e w2 ⟨rfl, m2⟩
        have HR2 := Lib.hid (HR1.out.step m2)
        clear m2
        go_wp2_with fail
        go_meet
        exact ⟨by rw [HST.out]; rfl, HR2⟩
    case rest =>
      obtain ⟨rfl, HR⟩ := hcut
      have hst := startOf_le k (bytesOf s)
      rw [bytesOf_length] at hst
      generalize startOf k (bytesOf s) = a0 at *
      go_wp2_with fail
      go_loopw [11, 12, 13] (fun at_ _ _ wx => ∃ (a : Nat) (D : List (Int × Nat)) (vr vp : Value), at_ = .int .i64 (a : Int) ∧ a ≤ s.size ∧ Hid (T = D ++ decAll k ((bytesOf s).drop a) a) ∧ Hid (strict = true → badOf D = 0) ∧ Hid (RMid w wx A (k : Int) vr vp vr (runesOf D) vp ((placesOf D).map fun n : Nat => (n : Int)) (badOf D : Nat))) (fun at_ _ _ _ => s.size - (intOf at_).toNat)
      case atStart => exact ⟨a0, [], _, _, rfl, hst, HI, Lib.hid fun _ => rfl, HR⟩
      case round =>
        obtain ⟨a, D, vr, vp, rfl, hal, HD, HB2, HX⟩ := hrel
        clear HI HST HB HR hst HM HR1
        have hDl : D.length ≤ 16777216 := by
          have h1 := HTL.out
          rw [HD.out, List.length_append] at h1
          omega
        have hRl : (runesOf D).length ≤ 16777216 := by rw [runesOf, List.length_map]; exact hDl
        have hPl : ((placesOf D).map fun n : Nat => (n : Int)).length ≤ 16777216 := by rw [List.length_map, placesOf, List.length_map]; exact hDl
        have hbl : badOf D ≤ 16777216 := Nat.le_trans (badOf_le D) hDl
        obtain ⟨i0, hi, hz0, hz1, hz2⟩ := info_parts info_int
        have HII := Lib.hid (⟨hi, hz0, hz1, hz2⟩ : _ ∧ _ ∧ _ ∧ _)
        clear hi hz0 hz1 hz2
        by_cases hend : a < s.size
        · have hendI : (a : Int) < (s.size : Int) := by omega
          have hx := rone_any s a k ⟨k1, k4⟩ hend hs wr
          have hne : (bytesOf s).drop a ≠ [] := by
            intro hn
            have := congrArg List.length hn
            rw [List.length_drop, bytesOf_length] at this
            simp at this
            omega
          have hlen := dec1_len k _ hne
          rw [List.length_drop, bytesOf_length] at hlen
          have HDC := Lib.hid (decAll_cons k ((bytesOf s).drop a) a hne)
          rw [List.drop_drop] at HDC
          generalize dec1 k ((bytesOf s).drop a) = q at *
          obtain ⟨v, n⟩ := q
          simp only at hlen
          clear hne
          have HC := Lib.hid hx
          clear hx
          go_wp2_with fail
          refine HC.out.mono ?_
          rintro e w1 ⟨rfl, nd, rfl⟩
          have H1 := Lib.hid (HX.out.step ((Mut.refl [] wr).drewN nd))
          clear HX HC
          generalize wr.drewN nd = w1 at *
          obtain ⟨bs, hbs⟩ : ∃ bs, decide (v < 0 ∧ strict = true) = bs := ⟨_, rfl⟩
          have HBS := Lib.hid hbs
          clear hbs
          go_upto_region 16 with fail
          go_cut [56] (fun x wx => x = .bool bs ∧ wx = w1)
          case first =>
            by_cases hv : v < 0
            · have hbs : bs = strict := by rw [← HBS.out]; cases strict <;> simp [hv]
              subst hbs
              go_wp2_with fail
              go_meet
              exact ⟨rfl, rfl⟩
            · have hbs : bs = false := by rw [← HBS.out]; simp [hv]
              subst hbs
              go_wp2_with fail
              go_meet
              exact ⟨rfl, rfl⟩
          case rest =>
            obtain ⟨rfl, rfl⟩ := hcut
            cases bs
            · have HNS : Hid (strict = true → 0 ≤ v) := Lib.hid fun h => by
                have := of_decide_eq_false HBS.out
                have : ¬ v < 0 := fun h2 => this ⟨h2, h⟩
                omega
              obtain ⟨W2, hW2⟩ : ∃ W2, wc = W2 := ⟨_, rfl⟩
              subst hW2
              go_upto_if 60 with fail
              go_cut [12] (fun x wx => x = .int .i64 (if v < 0 then 65533 else v) ∧ Hid (RMid w wx A (k : Int) vr vp vr (runesOf D) vp ((placesOf D).map fun n : Nat => (n : Int)) ((badOf D + (if v < 0 then 1 else 0) : Nat) : Int)))
              case first =>
                by_cases hv : v < 0
                · obtain ⟨c0, c1, c2, c3, f1, f2, f3⟩ := H1.out.cells
                  go_wp2_with fail
                  go_meet
                  exact ⟨by rw [if_pos hv], Lib.hid (H1.out.set 1 _ (by rw [if_pos hv]; rfl))⟩
                · have HV : Hid (0 ≤ v) := Lib.hid (by omega)
                  go_wp2_with fail
                  go_meet
                  have hv2 : ¬ v < 0 := by have := HV.out; omega
                  exact ⟨by rw [if_neg hv2], by rw [if_neg hv2]; exact H1⟩
              case rest =>
                obtain ⟨rfl, H2⟩ := hcut
                generalize hRR : runesOf D = RR at *
                generalize hPP : ((placesOf D).map fun n : Nat => (n : Int)) = PP at *
                generalize hz : (if v < 0 then 65533 else v) = z at *
                generalize hbd : ((badOf D + (if v < 0 then 1 else 0) : Nat) : Int) = bd at *
                have HRR := Lib.hid hRR
                have HPP := Lib.hid hPP
                have HZ := Lib.hid hz
                have HBD := Lib.hid hbd
                clear hRR hPP hz hbd H1
                obtain ⟨c0, c1, c2, c3, f1, f2, f3⟩ := H2.out.cells
                obtain ⟨hi, hz0, hz1, hz2⟩ := HII.out
                go_wp2_with (at_builtin; (refine wp_app rfl (.tmp 66) (.tmp 68) 23 23 rfl 3 i0 (.int .i64 0) 1 8 Try.underlying23 hi hz0 hz1 hz2 rfl (H2.out.rr.alloc _) rfl (src1 Try.underlying23 (heap_alloc_new _ _) rfl (one1 rfl)) rfl (by unfold maxLen; omega) (by omega) ?_))
                intro v1 w2 g1 g2 g3
                obtain ⟨ga, capa, rfl, -, -⟩ := row_some g1 (Nat.succ_pos _)
                have H3 := Lib.hid ((H2.out.app1 z g1 g2 g3).set 2 (.slice (some ⟨ga, 0, none⟩) (RR.length + 1) capa) rfl)
                have hc2 := cellOf (H2.out.app1 z g1 g2 g3).mem 2 rfl
                have hf2 := frozenOf (H2.out.app1 z g1 g2 g3).mem 2
                clear g1 g2 g3 c0 c1 c2 c3 f1 f2 f3
                go_upto_region 22 with fail
                generalize (w2.setCell ⟨A, 2, none⟩ (.slice (some ⟨ga, 0, none⟩) (RR.length + 1) capa)) = w3 at *
                clear hc2 hf2
                obtain ⟨d0, d1, d2, d3, e1, e2, e3⟩ := H3.out.cells
                go_wp2_with (at_builtin; (refine wp_app rfl (.tmp 72) (.tmp 74) 23 23 rfl 3 i0 (.int .i64 0) 1 8 Try.underlying23 hi hz0 hz1 hz2 rfl (H3.out.rp.alloc _) rfl (src1 Try.underlying23 (heap_alloc_new _ _) rfl (one1 rfl)) rfl (by unfold maxLen; omega) (by omega) ?_))
                intro v2 w4 g1 g2 g3
                obtain ⟨gb, capb, rfl, -, -⟩ := row_some g1 (Nat.succ_pos _)
                have H4 := Lib.hid ((H3.out.app2 (a : Int) g1 g2 g3).set 3 (.slice (some ⟨gb, 0, none⟩) (PP.length + 1) capb) rfl)
                have hc3 := cellOf (H3.out.app2 (a : Int) g1 g2 g3).mem 3 rfl
                have hf3 := frozenOf (H3.out.app2 (a : Int) g1 g2 g3).mem 3
                clear g1 g2 g3 d0 d1 d2 d3 e1 e2 e3
                go_wp2_with fail
                refine ⟨⟨a + n, D ++ [(v, a)], .slice (some ⟨ga, 0, none⟩) (RR.length + 1) capa, .slice (some ⟨gb, 0, none⟩) (PP.length + 1) capb, by rw [Int.natCast_add], by omega, Lib.hid (by rw [HD.out, HDC.out, List.append_assoc]; rfl), Lib.hid fun hst => ?_, Lib.hid ?_⟩, ?_⟩
                · have := HNS.out hst
                  have := HB2.out hst
                  rw [badOf_snoc, if_neg (by omega)]
                  omega
                · rw [runesOf_snoc, placesOf_snoc, badOf_snoc, List.map_append, HRR.out, HPP.out, HZ.out, HBD.out]
                  exact H4.out
                · simp only [intOf]
                  omega
            · obtain ⟨hv, hst⟩ := of_decide_eq_true HBS.out
              subst hst
              have HV := Lib.hid hv
              have hb0 : badOf D = 0 := HB2.out rfl
              have HB0 := Lib.hid hb0
              have HO1 := Lib.hid H1.out.o1
              have o0 := cellOf HO1.out 0 rfl
              have o1 := cellOf HO1.out 1 rfl
              have o2 := cellOf HO1.out 2 rfl
              have o3 := cellOf HO1.out 3 rfl
              have f0 := frozenOf HO1.out 0
              have f1 := frozenOf HO1.out 1
              have f2 := frozenOf HO1.out 2
              have f3 := frozenOf HO1.out 3
              clear hb0 hv
              go_wp2_with fail
              obtain ⟨q1, q2, -, -⟩ := H1.out.out4 (.int .i64 0) (.int .i64 0) (.slice none 0 0) (.slice none 0 0) rfl
              exact bodyPost_ret (rresults q1 rfl rfl rfl) rfl ⟨_, rfl, .inl ⟨D, (v, a), _, by rw [HD.out, HDC.out], HB0.out, HV.out, rfl, rfl⟩, q2⟩
        · have e : a = s.size := by omega
          have hendI : ¬ (a : Int) < (s.size : Int) := by omega
          generalize hRR : runesOf D = RR at *
          generalize hPP : ((placesOf D).map fun n : Nat => (n : Int)) = PP at *
          generalize hbd : (badOf D : Int) = bd at *
          have HRR := Lib.hid hRR
          have HPP := Lib.hid hPP
          have HBD := Lib.hid hbd
          clear hRR hPP hbd
          obtain ⟨rp0, rl0, rc0, rfl⟩ := HX.out.rr.form
          obtain ⟨c0, c1, c2, c3, f1, f2, f3⟩ := HX.out.cells
          obtain ⟨hi, hz0, hz1, hz2⟩ := HII.out
          go_wp2_with (at_builtin; (refine wp_app rfl (.tmp 81) (.tmp 84) 23 23 rfl 3 i0 (.int .i64 0) 1 8 Try.underlying23 hi hz0 hz1 hz2 rfl (HX.out.rp.alloc _) rfl (src1 Try.underlying23 (heap_alloc_new _ _) rfl (one1 rfl)) rfl (by unfold maxLen; omega) (by omega) ?_))
          intro v1 w1 g1 g2 g3
          obtain ⟨gg, cap, rfl, -, -⟩ := row_some g1 (Nat.succ_pos _)
          have HN := Lib.hid ((HX.out.app2 (s.size : Int) g1 g2 g3).set 3 (.slice (some ⟨gg, 0, none⟩) (PP.length + 1) cap) rfl)
          have hc3 := cellOf (HX.out.app2 (s.size : Int) g1 g2 g3).mem 3 rfl
          have hf3 := frozenOf (HX.out.app2 (s.size : Int) g1 g2 g3).mem 3
          clear g1 g2 g3 c0 c1 c2 c3 f1 f2 f3
          go_upto_region 25 with fail
          generalize (w1.setCell ⟨A, 3, none⟩ (.slice (some ⟨gg, 0, none⟩) (PP.length + 1) cap)) = w3 at *
          clear hc3 hf3
          obtain ⟨c0, c1, c2, c3, f1, f2, f3⟩ := HN.out.cells
          have o0 := cellOf HN.out.o1 0 rfl
          have o1 := cellOf HN.out.o1 1 rfl
          have o2 := cellOf HN.out.o1 2 rfl
          have o3 := cellOf HN.out.o1 3 rfl
          have p0 := frozenOf HN.out.o1 0
          have p1 := frozenOf HN.out.o1 1
          have p2 := frozenOf HN.out.o1 2
          have p3 := frozenOf HN.out.o1 3
          go_wp2_with fail
          obtain ⟨q1, q2, q3, q4⟩ := HN.out.out4 (.int .i64 (k : Int)) (.int .i64 bd) (.slice rp0 rl0 rc0) (.slice (some ⟨gg, 0, none⟩) (PP.length + 1) cap) rfl
          have hT : T = D := by
            rw [HD.out, e, List.drop_of_length_le (by rw [bytesOf_length]; exact Nat.le_refl _), decAll_nil, List.append_nil]
          subst hT
          exact bodyPost_ret (rresults q1 rfl rfl rfl) rfl ⟨_, rfl, .inr ⟨HB2.out, _, _, by rw [HBD.out]; rfl, by rw [HRR.out]; exact q3, by rw [HPP.out]; exact q4⟩, q2⟩

theorem rdecode_none (s : ByteArray) (c : Int) (strict : Bool) (hc : c < 0 ∨ 4 < c) (w : World) :
    Calls Try.prog 12 #[.string s, .int .i64 c, .bool strict] w fun e w' => e = .returned (.tuple #[.agg #[.int .i64 0, .int .i64 0, .slice none 0 0, .slice none 0 0], .int .i64 1, .int .i64 0]) ∧ Mut [] w w' := by
  have h0 := heap_alloc_new w (.cells #[.int .i64 0, .int .i64 0, .slice none 0 0, .slice none 0 0] 32)
  rcases hc with h | h
  · go_enter Try.func12, Try.ntmps12
    go_wp2_with fail
    exact bodyPost_ret (rresults h0 rfl rfl rfl) rfl ⟨rfl, (Mut.refl _ _).alloc _⟩
  · have h' : ¬ c < 0 := by omega
    go_enter Try.func12, Try.ntmps12
    go_wp2_with fail
    exact bodyPost_ret (rresults h0 rfl rfl rfl) rfl ⟨rfl, (Mut.refl _ _).alloc _⟩

end Go.Proofs.Ytkoheodcledcfaa
