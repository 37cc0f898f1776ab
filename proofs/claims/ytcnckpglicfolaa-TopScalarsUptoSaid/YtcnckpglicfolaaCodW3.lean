/- Walks over package coding: Decode. -/
import Derived.Test.YtcnckpglicfolaaCodR
import Derived.Deep.RegionLaw
import Derived.Deep.DeepCutAuto
import Derived.Deep.LoopGhost
namespace Go.Proofs.Ytcnckpglicfolaa
open Go.RowKit

/-- a text that is being laid -/
abbrev TxtIs (w0 w : World) (c : Int) (vr : Value) (R : List Int) (vp : Value) (Q : List Int) (bad : Int) : Prop := Mid w0 w c vr vp vr R vp Q bad none none

theorem text_new (w : World) (c : Int) : TxtIs w (((w.alloc (.cells #[.int .i64 0, .slice none 0 0, .slice none 0 0, .int .i64 0] 24)).alloc (.cells #[.int .i64 0, .int .i64 0] 27)).alloc (.cells #[.int .i64 c, .slice none 0 0, .slice none 0 0, .int .i64 0] 24)) c (.slice none 0 0) [] (.slice none 0 0) [] 0 := by
  have h0 := heap_alloc_new w (.cells #[.int .i64 0, .slice none 0 0, .slice none 0 0, .int .i64 0] 24)
  have h1 := heap_alloc_new (w.alloc (.cells #[.int .i64 0, .slice none 0 0, .slice none 0 0, .int .i64 0] 24)) (.cells #[.int .i64 0, .int .i64 0] 27)
  have h2 := heap_alloc_new ((w.alloc (.cells #[.int .i64 0, .slice none 0 0, .slice none 0 0, .int .i64 0] 24)).alloc (.cells #[.int .i64 0, .int .i64 0] 27)) (.cells #[.int .i64 c, .slice none 0 0, .slice none 0 0, .int .i64 0] 24)
  rw [World.size_alloc] at h1 h2
  rw [World.size_alloc] at h2
  exact ⟨h2, (((Mut.refl [] _).alloc _).alloc _).get h0 (by simp), ((Mut.refl [] _).alloc _).get h1 (by simp), (((Mut.refl [] w).alloc _).alloc _).alloc _, IRow.nil _, IRow.nil _, by simp [Value.ownBlock], by simp [Value.ownBlock], by simp [Value.ownBlock], trivial, trivial⟩

theorem codingOf_rng (c : Nat) (l : List Nat) (h : c ≤ 4) : 1 ≤ codingOf c l ∧ codingOf c l ≤ 4 := by
  unfold codingOf sniff
  split
  · split <;> (try split) <;> (try split) <;> omega
  · omega

theorem tell_enter (c : Nat) (x : Value) (W : World) : (callFunc (tellF c) #[x]).run Try.prog W = .ok (.enter (tellF c) #[x]) W := by
  unfold tellF
  split
  · kernel_rfl
  · split
    · kernel_rfl
    · split <;> kernel_rfl

theorem badOf_snoc (D : List (Int × Nat)) (v : Int) (a : Nat) : badOf (D ++ [(v, a)]) = badOf D + (if v < 0 then 1 else 0) := by
  unfold badOf
  rw [List.filter_append, List.length_append]
  by_cases h : v < 0 <;> simp [h]
theorem runesOf_snoc (D : List (Int × Nat)) (v : Int) (a : Nat) : runesOf (D ++ [(v, a)]) = runesOf D ++ [if v < 0 then 65533 else v] := by
  unfold runesOf
  rw [List.map_append]
  rfl
theorem placesOf_snoc (D : List (Int × Nat)) (v : Int) (a : Nat) : placesOf (D ++ [(v, a)]) = placesOf D ++ [a] := by
  unfold placesOf
  rw [List.map_append]
  rfl

theorem IRow.form {w : World} {v : Value} {L : List Int} (h : IRow w v L) : ∃ p l c, v = .slice p l c := by
  rcases h.2 with ⟨rfl, _⟩ | ⟨b, cap, cur, rfl, _⟩
  · exact ⟨_, _, _, rfl⟩
  · exact ⟨_, _, _, rfl⟩

/-- how Decode is given back -/
def DecPost (w : World) (k : Nat) (strict : Bool) (T : List (Int × Nat)) (size : Nat) (x : Value) (w' : World) : Prop :=
  (∃ D p E, T = D ++ p :: E ∧ badOf D = 0 ∧ p.1 < 0 ∧ strict = true ∧ x = .tuple #[.agg #[.int .i64 0, .slice none 0 0, .slice none 0 0, .int .i64 0], .agg #[.int .i64 17, .int .i64 (p.2 : Int)]]) ∨
  ((strict = true → badOf T = 0) ∧ ∃ vr vp, x = .tuple #[.agg #[.int .i64 (k : Int), vr, vp, .int .i64 (badOf T : Int)], .agg #[.int .i64 0, .int .i64 0]] ∧ IRow w' vr (runesOf T) ∧ IRow w' vp (((placesOf T).map fun n : Nat => (n : Int)) ++ [(size : Int)]) ∧
    (∀ g, vr.ownBlock = some g → w.heap.size ≤ g) ∧ (∀ g, vp.ownBlock = some g → w.heap.size ≤ g) ∧ (∀ g, vr.ownBlock = some g → vp.ownBlock ≠ some g))

theorem told_len (k : Nat) (s : ByteArray) : (told k (bytesOf s)).length ≤ s.size := by
  have := decAll_len k _ ((bytesOf s).drop (startOf k (bytesOf s))) (startOf k (bytesOf s)) (Nat.le_refl _)
  rw [List.length_drop, bytesOf_length] at this
  unfold told
  omega

/-- the cells of the text and of its results, as the walk asks for them -/
theorem Mid.cells2 {w0 w : World} {c : Int} {mr mp r p : Value} {R Q : List Int} {bad : Int} {B1 B2 : Option (Nat × Int)} (h : Mid w0 w c mr mp r R p Q bad B1 B2) :
    (w.cell? ⟨w0.heap.size, 0, none⟩ = some (.int .i64 0) ∧ w.cell? ⟨w0.heap.size, 1, none⟩ = some (.slice none 0 0) ∧ w.cell? ⟨w0.heap.size, 2, none⟩ = some (.slice none 0 0) ∧ w.cell? ⟨w0.heap.size, 3, none⟩ = some (.int .i64 0)) ∧
    (w.cell? ⟨w0.heap.size + 1, 0, none⟩ = some (.int .i64 0) ∧ w.cell? ⟨w0.heap.size + 1, 1, none⟩ = some (.int .i64 0)) ∧
    (w.frozen? ⟨w0.heap.size, 0, none⟩ = false ∧ w.frozen? ⟨w0.heap.size, 1, none⟩ = false ∧ w.frozen? ⟨w0.heap.size, 2, none⟩ = false ∧ w.frozen? ⟨w0.heap.size, 3, none⟩ = false) ∧
    (w.frozen? ⟨w0.heap.size + 1, 0, none⟩ = false ∧ w.frozen? ⟨w0.heap.size + 1, 1, none⟩ = false) :=
  ⟨⟨cellOf h.o1 0 rfl, cellOf h.o1 1 rfl, cellOf h.o1 2 rfl, cellOf h.o1 3 rfl⟩, ⟨cellOf h.o2 0 rfl, cellOf h.o2 1 rfl⟩, ⟨frozenOf h.o1 0, frozenOf h.o1 1, frozenOf h.o1 2, frozenOf h.o1 3⟩, ⟨frozenOf h.o2 0, frozenOf h.o2 1⟩⟩

/-- the results' memory, when they have been stored -/
theorem Mid.out6 {w0 w : World} {c : Int} {mr mp r p : Value} {R Q : List Int} {bad : Int} {B1 B2 : Option (Nat × Int)} (h : Mid w0 w c mr mp r R p Q bad B1 B2) (a0 a1 a2 a3 b0 b1 : Value) :
    ((((((w.setCell ⟨w0.heap.size, 0, none⟩ a0).setCell ⟨w0.heap.size, 1, none⟩ a1).setCell ⟨w0.heap.size, 2, none⟩ a2).setCell ⟨w0.heap.size, 3, none⟩ a3).setCell ⟨w0.heap.size + 1, 0, none⟩ b0).setCell ⟨w0.heap.size + 1, 1, none⟩ b1).heap[w0.heap.size]? = some (.cells #[a0, a1, a2, a3] 24 (0, 0)) ∧
    ((((((w.setCell ⟨w0.heap.size, 0, none⟩ a0).setCell ⟨w0.heap.size, 1, none⟩ a1).setCell ⟨w0.heap.size, 2, none⟩ a2).setCell ⟨w0.heap.size, 3, none⟩ a3).setCell ⟨w0.heap.size + 1, 0, none⟩ b0).setCell ⟨w0.heap.size + 1, 1, none⟩ b1).heap[w0.heap.size + 1]? = some (.cells #[b0, b1] 27 (0, 0)) ∧
    Mut [] w0 ((((((w.setCell ⟨w0.heap.size, 0, none⟩ a0).setCell ⟨w0.heap.size, 1, none⟩ a1).setCell ⟨w0.heap.size, 2, none⟩ a2).setCell ⟨w0.heap.size, 3, none⟩ a3).setCell ⟨w0.heap.size + 1, 0, none⟩ b0).setCell ⟨w0.heap.size + 1, 1, none⟩ b1) ∧
    IRow ((((((w.setCell ⟨w0.heap.size, 0, none⟩ a0).setCell ⟨w0.heap.size, 1, none⟩ a1).setCell ⟨w0.heap.size, 2, none⟩ a2).setCell ⟨w0.heap.size, 3, none⟩ a3).setCell ⟨w0.heap.size + 1, 0, none⟩ b0).setCell ⟨w0.heap.size + 1, 1, none⟩ b1) r R ∧
    IRow ((((((w.setCell ⟨w0.heap.size, 0, none⟩ a0).setCell ⟨w0.heap.size, 1, none⟩ a1).setCell ⟨w0.heap.size, 2, none⟩ a2).setCell ⟨w0.heap.size, 3, none⟩ a3).setCell ⟨w0.heap.size + 1, 0, none⟩ b0).setCell ⟨w0.heap.size + 1, 1, none⟩ b1) p Q := by
  have e1 := heap_set (heap_set (heap_set (heap_set h.o1 0 a0) 1 a1) 2 a2) 3 a3
  have e2 : (((((w.setCell ⟨w0.heap.size, 0, none⟩ a0).setCell ⟨w0.heap.size, 1, none⟩ a1).setCell ⟨w0.heap.size, 2, none⟩ a2).setCell ⟨w0.heap.size, 3, none⟩ a3)).heap[w0.heap.size + 1]? = some (.cells #[.int .i64 0, .int .i64 0] 27 (0, 0)) := by
    rw [heap_set_ne (by omega), heap_set_ne (by omega), heap_set_ne (by omega), heap_set_ne (by omega)]
    exact h.o2
  have e3 := heap_set (heap_set e2 0 b0) 1 b1
  have n1 := row_ne h.rr h.o1 (by decide)
  have n2 := row_ne h.rr h.o2 (by decide)
  have n3 := row_ne h.rp h.o1 (by decide)
  have n4 := row_ne h.rp h.o2 (by decide)
  refine ⟨?_, e3, ?_, ?_, ?_⟩
  · rw [heap_set_ne (by omega), heap_set_ne (by omega)]
    exact e1
  · exact (((((h.kept.setCell (.inr (Nat.le_refl _)) _).setCell (.inr (Nat.le_refl _)) _).setCell (.inr (Nat.le_refl _)) _).setCell (.inr (Nat.le_refl _)) _).setCell (.inr (Nat.le_succ _)) _).setCell (.inr (Nat.le_succ _)) _
  · have f1 : ∀ {W : World} (i : Nat) (d : Value), IRow W r R → IRow (W.setCell ⟨w0.heap.size, i, none⟩ d) r R := fun i d hW => row_set_ne hW (fun g hg e => n1 (by rw [hg, e])) _
    have f2 : ∀ {W : World} (i : Nat) (d : Value), IRow W r R → IRow (W.setCell ⟨w0.heap.size + 1, i, none⟩ d) r R := fun i d hW => row_set_ne hW (fun g hg e => n2 (by rw [hg, e])) _
    exact f2 _ _ (f2 _ _ (f1 _ _ (f1 _ _ (f1 _ _ (f1 _ _ h.rr)))))
  · have f1 : ∀ {W : World} (i : Nat) (d : Value), IRow W p Q → IRow (W.setCell ⟨w0.heap.size, i, none⟩ d) p Q := fun i d hW => row_set_ne hW (fun g hg e => n3 (by rw [hg, e])) _
    have f2 : ∀ {W : World} (i : Nat) (d : Value), IRow W p Q → IRow (W.setCell ⟨w0.heap.size + 1, i, none⟩ d) p Q := fun i d hW => row_set_ne hW (fun g hg e => n4 (by rw [hg, e])) _
    exact f2 _ _ (f2 _ _ (f1 _ _ (f1 _ _ (f1 _ _ (f1 _ _ h.rp)))))

theorem results_text {tmps : Array Value} {w : World} {g1 g2 : Nat} {a0 a1 a2 a3 b0 b1 : Value} (h1 : w.heap[g1]? = some (.cells #[a0, a1, a2, a3] 24 (0, 0))) (h2 : w.heap[g2]? = some (.cells #[b0, b1] 27 (0, 0)))
    (p1 : tmps.getD 6 undef = .pointer (some ⟨g1, 0, none⟩)) (p2 : tmps.getD 7 undef = .pointer (some ⟨g2, 0, none⟩)) :
    (results Try.f4 tmps).run Try.prog w = .ok (.tuple #[.agg #[a0, a1, a2, a3], .agg #[b0, b1]]) w := by
  have q1 : tmps[6]?.getD undef = .pointer (some ⟨g1, 0, none⟩) := by simpa using p1
  have q2 : tmps[7]?.getD undef = .pointer (some ⟨g2, 0, none⟩) := by simpa using p2
  have e1 := run_loadVar_row (P := Try.prog) w g1 24 24 #[a0, a1, a2, a3] (0, 0) _ h1 Try.underlying24 rfl (by kernel_rfl)
  have e2 := run_loadVar_row (P := Try.prog) w g2 27 27 #[b0, b1] (0, 0) _ h2 Try.underlying27 rfl (by kernel_rfl)
  simp [results, q1, q2, asAddr, e1, e2]

set_option maxHeartbeats 8000000 in
set_option maxRecDepth 1000000 in
theorem decode_go (s : ByteArray) (c : Nat) (strict : Bool) (hc4 : c ≤ 4) (hs : s.size ≤ 16777216) (w : World) :
    Calls Try.prog 4 #[.string s, .int .i64 c, .bool strict] w fun e w' => ∃ x, e = .returned x ∧ DecPost w (codingOf c (bytesOf s)) strict (told (codingOf c (bytesOf s)) (bytesOf s)) s.size x w' ∧ Mut [] w w' := by
  have hc0 : ¬ (c : Int) < 0 := by omega
  have hc4I : ¬ (4 : Int) < (c : Int) := by omega
  have H0 := Lib.hid (text_new w c)
  obtain ⟨k1, k4⟩ := codingOf_rng c (bytesOf s) hc4
  have HK0 : Hid (c = 0 → sniff (bytesOf s) = codingOf c (bytesOf s)) := Lib.hid fun h => by unfold codingOf; rw [if_pos h]
  have HK1 : Hid (¬ c = 0 → codingOf c (bytesOf s) = c) := Lib.hid fun h => by unfold codingOf; rw [if_neg h]
  generalize codingOf c (bytesOf s) = k at *
  have HI : Hid (told k (bytesOf s) = [] ++ decAll k ((bytesOf s).drop (startOf k (bytesOf s))) (startOf k (bytesOf s))) := Lib.hid rfl
  have HTL := Lib.hid (told_len k s)
  generalize told k (bytesOf s) = T at *
  go_enter Try.func4, Try.ntmps4
  go_upto_if 25 with fail
  go_cut [] (fun wx => Hid (TxtIs w wx (k : Nat) (.slice none 0 0) [] (.slice none 0 0) [] 0))
  case first =>
    by_cases h : c = 0
    · subst h
      have hz : (((0 : Nat) : Int) == 0) = true := rfl
      have HKK := Lib.hid (HK0.out rfl)
      generalize (((w.alloc (.cells #[.int .i64 0, .slice none 0 0, .slice none 0 0, .int .i64 0] 24)).alloc (.cells #[.int .i64 0, .int .i64 0] 27)).alloc (.cells #[.int .i64 ((0 : Nat) : Int), .slice none 0 0, .slice none 0 0, .int .i64 0] 24)) = W at *
      go_wp2_with fail
      refine (sniff_any s _).mono ?_
      rintro e w1 ⟨rfl, m1⟩
      rw [HKK.out]
      have H1 := Lib.hid (H0.out.step m1)
      have hm := H1.out.mem
      have c0 := cellOf hm 0 rfl
      have f0 := frozenOf hm 0
      clear m1 hm H0
      go_wp2_with fail
      go_meet
      exact Lib.hid (H1.out.set 0 _ rfl)
    · have hc1 : ((c : Int) == 0) = false := by rw [beq_eq_false_iff_ne]; omega
      have HK := Lib.hid (HK1.out h)
      go_wp2_with fail
      go_meet
      rw [HK.out]
      exact H0
  case rest =>
    have HT := hcut
    clear hcut
    have hm := HT.out.mem
    have c0 := cellOf hm 0 rfl
    clear hm
    obtain ⟨b, hb⟩ : ∃ b, begins (bytesOf s) (markB k) = b := ⟨_, rfl⟩
    have HB := Lib.hid hb
    have hst : startOf k (bytesOf s) = if b then (markB k).length else 0 := by unfold startOf; rw [hb]
    have HST := Lib.hid hst
    clear HK0 HK1 H0 hc0 hc4I hc4 hb hst
    go_upto_if 37 with (first | (go_at_call 10; refine (mark_any k k4 _).mono ?_; rintro e w1 ⟨rfl, rfl⟩) | (go_at_call 11; refine (hasp_mark s k b HB.out _).mono ?_; rintro e w1 ⟨rfl, rfl⟩))
    go_cut [9] (fun a wx => a = .int .i64 (startOf k (bytesOf s) : Nat) ∧ wx = wc)
    case first =>
      have hsz : ((strOf (markB k)).size : Int) = ((markB k).length : Nat) := by
        rw [strOf_size]
      cases b
      · go_wp2_with fail
        go_meet
        exact ⟨by rw [HST.out]; rfl, rfl⟩
      · go_wp2_with fail
        go_meet
        exact ⟨by rw [HST.out]; rfl, rfl⟩
    case rest =>
      obtain ⟨rfl, rfl⟩ := hcut
      go_wp2_with fail
      refine (scalarOf_any k k1 k4 _).mono ?_
      rintro e w1 ⟨rfl, rfl⟩
      have hst := startOf_le k (bytesOf s)
      rw [bytesOf_length] at hst
      generalize startOf k (bytesOf s) = a0 at *
      have HF := Lib.hid (tell_any k)
      have hent := tell_enter k
      generalize tellF k = F at *
      go_wp2_with fail
      go_loopw [9, 12, 13] (fun at_ _ _ wx => ∃ (a : Nat) (D : List (Int × Nat)) (vr vp : Value), at_ = .int .i64 (a : Int) ∧ a ≤ s.size ∧ Hid (T = D ++ decAll k ((bytesOf s).drop a) a) ∧ Hid (strict = true → badOf D = 0) ∧ Hid (TxtIs w wx (k : Nat) vr (runesOf D) vp ((placesOf D).map fun n : Nat => (n : Int)) (badOf D : Nat))) (fun at_ _ _ _ => s.size - (intOf at_).toNat)
      case atStart => exact ⟨a0, [], _, _, rfl, hst, HI, Lib.hid fun _ => rfl, HT⟩
      case round =>
        obtain ⟨a, D, vr, vp, rfl, hal, HD, HB2, HX⟩ := hrel
        clear c0 HI HST HB HT hst
        have hDl : D.length ≤ 16777216 := by
          have h1 := HTL.out
          rw [HD.out, List.length_append] at h1
          omega
        have hRl : (runesOf D).length ≤ 16777216 := by rw [runesOf, List.length_map]; exact hDl
        have hPl : ((placesOf D).map fun n : Nat => (n : Int)).length ≤ 16777216 := by rw [List.length_map, placesOf, List.length_map]; exact hDl
        have hbl : badOf D ≤ 16777216 := Nat.le_trans (badOf_le D) hDl
        by_cases hend : a < s.size
        · have hendI : (a : Int) < (s.size : Int) := by omega
          have hx := HF.out (s.extract a s.size) (by simp [ByteArray.size_extract]; omega) (by simp [ByteArray.size_extract]; omega) wr
          rw [bytesOf_extract, List.take_of_length_le (by rw [bytesOf_length]; exact Nat.le_refl _)] at hx
          have hne : (bytesOf s).drop a ≠ [] := by
            intro hn
            have := congrArg List.length hn
            rw [List.length_drop, bytesOf_length] at this
            simp at this
            omega
          have hlen := dec1_len k _ hne
          rw [List.length_drop, bytesOf_length] at hlen
          have HDC := Lib.hid (decAll_cons k ((bytesOf s).drop a) a hne)
          rw [List.drop_drop] at HDC
          generalize dec1 k ((bytesOf s).drop a) = q at *
          obtain ⟨v, n⟩ := q
          simp only at hlen
          clear hne
          have HC := Lib.hid hx
          clear hx
          go_wp2_with fail
          refine HC.out.mono ?_
          rintro e w1 ⟨rfl, m1⟩
          have H1 := Lib.hid (HX.out.step m1)
          clear m1 HX HC
          go_upto_if 56 with fail
          go_cut [12] (fun x wx => x = .int .i64 (if v < 0 then 65533 else v) ∧ Hid (strict = true → 0 ≤ v) ∧ Hid (TxtIs w wx (k : Nat) vr (runesOf D) vp ((placesOf D).map fun n : Nat => (n : Int)) ((badOf D + (if v < 0 then 1 else 0) : Nat) : Int)))
          case first =>
            by_cases hv : v < 0
            · cases strict
              · have c3 : w1.cell? ⟨w.heap.size + 1 + 1, 3, none⟩ = some (.int .i64 (badOf D : Nat)) := cellOf H1.out.mem 3 rfl
                have f3 : w1.frozen? ⟨w.heap.size + 1 + 1, 3, none⟩ = false := frozenOf H1.out.mem 3
                go_wp2_with fail
                go_meet
                exact ⟨by rw [if_pos hv], Lib.hid (fun h => by cases h), Lib.hid (H1.out.set 3 _ (by rw [if_pos hv]; rfl))⟩
              · obtain ⟨⟨x0, x1, x2, x3⟩, ⟨y0, y1⟩, ⟨z0, z1, z2, z3⟩, ⟨t0, t1⟩⟩ := H1.out.cells2
                go_wp2_with fail
                obtain ⟨q1, q2, q3, -, -⟩ := H1.out.out6 (.int .i64 0) (.slice none 0 0) (.slice none 0 0) (.int .i64 0) (.int .i64 17) (.int .i64 (a : Int))
                exact bodyPost_ret (results_text q1 q2 rfl rfl) rfl ⟨_, rfl, .inl ⟨D, (v, a), _, by rw [HD.out, HDC.out], HB2.out trivial, hv, rfl, rfl⟩, q3⟩
            · have HV : Hid (0 ≤ v) := Lib.hid (by omega)
              go_wp2_with fail
              go_meet
              have hv2 : ¬ v < 0 := by have := HV.out; omega
              exact ⟨by rw [if_neg hv2], Lib.hid fun _ => HV.out, by rw [if_neg hv2]; exact H1⟩
          case rest =>
            obtain ⟨rfl, HNS, H2⟩ := hcut
            generalize hRR : runesOf D = RR at *
            generalize hPP : ((placesOf D).map fun n : Nat => (n : Int)) = PP at *
            generalize hz : (if v < 0 then 65533 else v) = z at *
            generalize hbd : ((badOf D + (if v < 0 then 1 else 0) : Nat) : Int) = bd at *
            go_upto_region 18 with fail
            go_cut [] (fun wx => ∃ r' p', Hid (TxtIs w wx (k : Nat) r' (RR ++ [z]) p' (PP ++ [(a : Int)]) bd))
            case first =>
              have HM := Lib.hid (H2.out.step ((Mut.refl [] wc).drew))
              obtain ⟨c1, c2, d1, d2, e1, e2, f1, f2⟩ := H2.out.cells
              clear H1 HD HDC HB2 HF hent hRR hPP hz hbd HNS
              go_region_law (first
                | (refine step_row rfl (.tmp 66) (.tmp 68) rfl rfl rfl HM.out.rr HM.out.b1.1 (by omega) (by omega) ?_; intro v1 w1 g1 g2 g3; obtain ⟨gg, cap, rfl, -, -⟩ := row_some g1 (Nat.succ_pos _); have HN := Lib.hid (HM.out.app1 z g1 g2 g3); clear HM c1 c2 d1 d2 e1 e2 f1 f2 g1 g2 g3; have HM := HN; clear HN; obtain ⟨c1, c2, d1, d2, e1, e2, f1, f2⟩ := HM.out.cells)
                | (refine step_row rfl (.tmp 66) (.tmp 68) rfl rfl rfl (HM.out.build1 z).rr (HM.out.build1 z).b1.1 (by omega) (by omega) ?_; intro v1 w1 g1 g2 g3; obtain ⟨gg, cap, rfl, -, -⟩ := row_some g1 (Nat.succ_pos _); have HN := Lib.hid ((HM.out.build1 z).app1 z g1 g2 g3); clear HM c1 c2 d1 d2 e1 e2 f1 f2 g1 g2 g3; have HM := HN; clear HN; obtain ⟨c1, c2, d1, d2, e1, e2, f1, f2⟩ := HM.out.cells)
                | (refine step_row rfl (.tmp 66) (.tmp 68) rfl rfl rfl (HM.out.build12 z (a : Int)).rr (HM.out.build12 z (a : Int)).b1.1 (by omega) (by omega) ?_; intro v1 w1 g1 g2 g3; obtain ⟨gg, cap, rfl, -, -⟩ := row_some g1 (Nat.succ_pos _); have HN := Lib.hid ((HM.out.build12 z (a : Int)).app1 z g1 g2 g3); clear HM c1 c2 d1 d2 e1 e2 f1 f2 g1 g2 g3; have HM := HN; clear HN; obtain ⟨c1, c2, d1, d2, e1, e2, f1, f2⟩ := HM.out.cells)
                | (refine step_row rfl (.tmp 66) (.tmp 68) rfl rfl rfl (HM.out.build21 z (a : Int)).rr (HM.out.build21 z (a : Int)).b1.1 (by omega) (by omega) ?_; intro v1 w1 g1 g2 g3; obtain ⟨gg, cap, rfl, -, -⟩ := row_some g1 (Nat.succ_pos _); have HN := Lib.hid ((HM.out.build21 z (a : Int)).app1 z g1 g2 g3); clear HM c1 c2 d1 d2 e1 e2 f1 f2 g1 g2 g3; have HM := HN; clear HN; obtain ⟨c1, c2, d1, d2, e1, e2, f1, f2⟩ := HM.out.cells)
                | (refine step_row rfl (.tmp 71) (.tmp 73) rfl rfl rfl HM.out.rp HM.out.b2.1 (by omega) (by omega) ?_; intro v1 w1 g1 g2 g3; obtain ⟨gg, cap, rfl, -, -⟩ := row_some g1 (Nat.succ_pos _); have HN := Lib.hid (HM.out.app2 (a : Int) g1 g2 g3); clear HM c1 c2 d1 d2 e1 e2 f1 f2 g1 g2 g3; have HM := HN; clear HN; obtain ⟨c1, c2, d1, d2, e1, e2, f1, f2⟩ := HM.out.cells)
                | (refine step_row rfl (.tmp 71) (.tmp 73) rfl rfl rfl (HM.out.build2 (a : Int)).rp (HM.out.build2 (a : Int)).b2.1 (by omega) (by omega) ?_; intro v1 w1 g1 g2 g3; obtain ⟨gg, cap, rfl, -, -⟩ := row_some g1 (Nat.succ_pos _); have HN := Lib.hid ((HM.out.build2 (a : Int)).app2 (a : Int) g1 g2 g3); clear HM c1 c2 d1 d2 e1 e2 f1 f2 g1 g2 g3; have HM := HN; clear HN; obtain ⟨c1, c2, d1, d2, e1, e2, f1, f2⟩ := HM.out.cells)
                | (refine step_row rfl (.tmp 71) (.tmp 73) rfl rfl rfl (HM.out.build12 z (a : Int)).rp (HM.out.build12 z (a : Int)).b2.1 (by omega) (by omega) ?_; intro v1 w1 g1 g2 g3; obtain ⟨gg, cap, rfl, -, -⟩ := row_some g1 (Nat.succ_pos _); have HN := Lib.hid ((HM.out.build12 z (a : Int)).app2 (a : Int) g1 g2 g3); clear HM c1 c2 d1 d2 e1 e2 f1 f2 g1 g2 g3; have HM := HN; clear HN; obtain ⟨c1, c2, d1, d2, e1, e2, f1, f2⟩ := HM.out.cells)
                | (refine step_row rfl (.tmp 71) (.tmp 73) rfl rfl rfl (HM.out.build21 z (a : Int)).rp (HM.out.build21 z (a : Int)).b2.1 (by omega) (by omega) ?_; intro v1 w1 g1 g2 g3; obtain ⟨gg, cap, rfl, -, -⟩ := row_some g1 (Nat.succ_pos _); have HN := Lib.hid ((HM.out.build21 z (a : Int)).app2 (a : Int) g1 g2 g3); clear HM c1 c2 d1 d2 e1 e2 f1 f2 g1 g2 g3; have HM := HN; clear HN; obtain ⟨c1, c2, d1, d2, e1, e2, f1, f2⟩ := HM.out.cells))
              all_goals first
                | (go_meet; exact ⟨_, _, Lib.hid ((HM.out.set 1 _ rfl).set 2 _ rfl)⟩)
                | (go_step; go_meet; exact ⟨_, _, Lib.hid ((HM.out.set 1 _ rfl).set 2 _ rfl)⟩)
                | (simp only [Exit.then]; go_step; go_meet; exact ⟨_, _, Lib.hid ((HM.out.set 1 _ rfl).set 2 _ rfl)⟩)
                | (go_wp2_with fail; go_meet; exact ⟨_, _, Lib.hid ((HM.out.set 1 _ rfl).set 2 _ rfl)⟩)
                | skip
            case rest =>
              obtain ⟨r', p', H3⟩ := hcut
              go_wp2_with fail
              refine ⟨⟨a + n, D ++ [(v, a)], r', p', by rw [Int.natCast_add], by omega, Lib.hid (by rw [HD.out, HDC.out, List.append_assoc]; rfl), Lib.hid fun hst => ?_, Lib.hid ?_⟩, ?_⟩
              · have := HNS.out hst
                have := HB2.out hst
                rw [badOf_snoc, if_neg (by omega)]
                omega
              · rw [runesOf_snoc, placesOf_snoc, badOf_snoc, List.map_append, hRR, hPP, hz, hbd]
                exact H3.out
              · simp only [intOf]
                omega
        · have e : a = s.size := by omega
          have hendI : ¬ (a : Int) < (s.size : Int) := by omega
          generalize hRR : runesOf D = RR at *
          generalize hPP : ((placesOf D).map fun n : Nat => (n : Int)) = PP at *
          generalize hbd : (badOf D : Int) = bd at *
          obtain ⟨rp0, rl0, rc0, rfl⟩ := HX.out.rr.form
          obtain ⟨c1, c2, d1, d2, e1, e2, f1, f2⟩ := HX.out.cells
          obtain ⟨i0, hi, hz0, hz1, hz2⟩ := info_parts info_int
          have hrow := HX.out.rp
          go_wp2_with (at_builtin; refine wp_app rfl (.tmp 81) (.tmp 84) 22 22 rfl 3 i0 (.int .i64 0) 1 8 Try.underlying22 hi hz0 hz1 hz2 rfl (hrow.alloc _) rfl (src1 Try.underlying22 (heap_alloc_new _ _) rfl (one1 rfl)) rfl (by unfold maxLen; omega) (by omega) ?_)
          intro v1 w1 g1 g2 g3
          obtain ⟨gg, cap, rfl, -, -⟩ := row_some g1 (Nat.succ_pos _)
          have HN := Lib.hid ((HX.out.step ((Mut.refl [] _).alloc _)).app2 (s.size : Int) g1 g2 (fun g hg => (g3 g hg).imp id fun h => by rw [World.size_alloc]; exact h))
          clear HX c1 c2 d1 d2 e1 e2 f1 f2 g1 g2 g3
          obtain ⟨c1, c2, d1, d2, e1, e2, f1, f2⟩ := HN.out.cells
          obtain ⟨⟨x0, x1, x2, x3⟩, ⟨y0, y1⟩, ⟨z0, z1, z2, z3⟩, ⟨t0, t1⟩⟩ := HN.out.cells2
          have c0 := cellOf HN.out.mem 0 rfl
          have c3 := cellOf HN.out.mem 3 rfl
          have HE := Lib.hid (HN.out.set 2 (.slice (some ⟨gg, 0, none⟩) (PP.length + 1) cap) rfl)
          go_wp2_with fail
          obtain ⟨q1, q2, q3, q4, q5⟩ := HE.out.out6 (.int .i64 (k : Nat)) (.slice rp0 rl0 rc0) (.slice (some ⟨gg, 0, none⟩) (PP.length + 1) cap) (.int .i64 bd) (.int .i64 0) (.int .i64 0)
          have hT : T = D := by
            rw [HD.out, e, List.drop_of_length_le (by rw [bytesOf_length]; exact Nat.le_refl _), decAll_nil, List.append_nil]
          subst hT
          refine bodyPost_ret (results_text q1 q2 rfl rfl) rfl ⟨_, rfl, .inr ⟨HB2.out, _, _, by rw [hbd], by rw [hRR]; exact q4, by rw [hPP]; exact q5, HE.out.fr, HE.out.fp, HE.out.ne⟩, q3⟩

end Go.Proofs.Ytcnckpglicfolaa
