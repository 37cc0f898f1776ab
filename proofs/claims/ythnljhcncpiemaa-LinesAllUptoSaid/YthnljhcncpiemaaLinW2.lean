/- Walk over package lines: Split. -/
import Derived.Test.YthnljhcncpiemaaLinW1
import Derived.Test.YthnljhcncpiemaaLinR
import Derived.RangeFuncWrites
namespace Go.Proofs.Ythnljhcncpiemaa
open Go.RowKit Go.Shelf
set_option linter.unusedVariables false
attribute [local go_sem] Oper.semAt_some

theorem info_span : (Try.prog.info? 31).map (fun i => (i.zero, i.size, i.bytes)) = some (some (.agg #[.int .i64 0, .int .i64 0]), 2, 16) := by kernel_rfl

/-- between two lines: the box of the spans, of the place -/
structure SpAt (w0 : World) (s : ByteArray) (B : Nat) (k : Nat) (W : World) : Prop where
  row : ∃ v, W.heap[B]? = some (Obj.cells #[v] 23 (0, 0)) ∧ PRow 31 W v ((lns (bytesOf s)).take k) ∧ (∀ g, v.ownBlock = some g → w0.heap.size ≤ g ∧ g ≠ B + 2)
  place : ∃ p : Nat, W.heap[B + 1]? = some (Obj.cells #[.int .i64 (p : Int)] 3 (0, 0)) ∧ (k < (lns (bytesOf s)).length → p = ((lns (bytesOf s)).getD k (0, 0)).1)
  low : w0.heap.size ≤ B
  kept : Mut [] w0 W
  far : B + 2 < W.heap.size

theorem SpAt.turn {w0 : World} {s : ByteArray} {B k : Nat} {A C : World} (h : SpAt w0 s B k A) {row : Option Nat} (hg : A.grownBy C row) (hr : ∀ r, row = some r → w0.heap.size ≤ r ∧ (r = B + 2 ∨ ∃ o : Obj, A.heap[r]? = some o ∧ o.isCells = false)) : SpAt w0 s B k C := by
  obtain ⟨⟨v, h1, h2, h3⟩, ⟨p, h4, h5⟩, h6, h7, h8⟩ := h
  have keep : ∀ {b : Nat} {c : Array Value} {e : TypeId}, A.heap[b]? = some (Obj.cells c e (0, 0)) → b ≠ B + 2 → C.heap[b]? = some (Obj.cells c e (0, 0)) := fun {b c e} hb he => by
    refine (hg.block b (lt_of_heap hb) (fun e' => ?_)).trans hb
    rcases (hr b e'.symm).2 with h | ⟨o, ho, hc⟩
    · exact he h
    · rw [hb] at ho
      cases ho
      cases hc
  refine ⟨⟨v, keep h1 (by omega), h2.grown hg (fun k hk hv => ?_), h3⟩, ⟨p, keep h4 (by omega), h5⟩, h6, h7.grown hg (fun k hk => .inr (hr k hk).1), Nat.lt_of_lt_of_le h8 hg.size⟩
  rcases (hr k hk).2 with h | ⟨o, ho, hc⟩
  · exact (h3 k hv).2 h
  · obtain ⟨c, t, fr, hb⟩ := h2.cellsBlock hv
    rw [hb] at ho
    cases ho
    cases hc

/-- what is told of a line in the round -/
theorem line_facts (s : ByteArray) (k : Nat) (h : k < (lns (bytesOf s)).length) (a b : Nat) (ha : (lns (bytesOf s)).getD k (0, 0) = (a, b)) :
    a ≤ b ∧ b ≤ s.size ∧ 1 ≤ (lineOf s k).size ∧ (lineOf s k).size ≤ s.size ∧ ∃ q t, (((lineOf s k).extract ((lineOf s k).size - (⟨#[10]⟩ : ByteArray).size) (lineOf s k).size).toList == (⟨#[10]⟩ : ByteArray).toList) = q ∧
      (if q then (lineOf s k).extract 0 ((lineOf s k).size - (⟨#[10]⟩ : ByteArray).size) else lineOf s k) = t ∧ a + t.size = b ∧ (k + 1 < (lns (bytesOf s)).length → a + (lineOf s k).size = ((lns (bytesOf s)).getD (k + 1) (0, 0)).1) := by
  have he : (lns (bytesOf s))[k] = (a, b) := by
    rw [← ha, List.getD_eq_getElem?_getD, List.getElem?_eq_getElem h]
    rfl
  have hl := bytesOf_length s
  have hs1 : (⟨#[10]⟩ : ByteArray).size = 1 := rfl
  have hx : bytesOf (lineOf s k) = ((bytesOf s).take (b + 1)).drop a := by
    unfold lineOf
    rw [bytesOf_extract, ha]
  have hsz : (lineOf s k).size = min (b + 1) s.size - a := by
    have := congrArg List.length hx
    rw [bytesOf_length, List.length_drop, List.length_take, hl] at this
    exact this
  have hnext : k + 1 < (lns (bytesOf s)).length → a + (lineOf s k).size = ((lns (bytesOf s)).getD (k + 1) (0, 0)).1 ∧ True := by
    intro h1
    have := lns_next (bytesOf s) k h1
    rw [he] at this
    rw [List.getD_eq_getElem?_getD, List.getElem?_eq_getElem h1]
    have h2 := this.1
    have h3 := this.2
    have hab : a ≤ b := by
      have := (sq_get _ 0 k (lns_sq (bytesOf s)) h).2
      rw [he] at this
      exact this
    refine ⟨?_, trivial⟩
    simp only [Option.getD_some]
    rw [h2, hsz]
    omega
  have hlast : ∀ (y : ByteArray), 1 ≤ y.size → bytesOf (y.extract (y.size - 1) y.size) = [(bytesOf y).getD (y.size - 1) 0] := by
    intro y hy
    have hyl := bytesOf_length y
    rw [bytesOf_extract, List.take_of_length_le (by omega), List.drop_eq_getElem_cons (by omega : y.size - 1 < (bytesOf y).length), List.drop_of_length_le (by omega)]
    simp [List.getD, show y.size - 1 < (bytesOf y).length by omega]
  have hend := lns_end (bytesOf s) k h
  rw [he] at hend
  rcases hend with ⟨h1, h2, h3⟩ | ⟨h1, h2, h3⟩
  · simp only at h1 h2 h3
    have hz : (lineOf s k).size = b + 1 - a := by rw [hsz]; omega
    have hq : (((lineOf s k).extract ((lineOf s k).size - (⟨#[10]⟩ : ByteArray).size) (lineOf s k).size).toList == (⟨#[10]⟩ : ByteArray).toList) = true := by
      rw [hs1, str_eq_bytes, hlast _ (by omega), decide_eq_true_eq, hz, hx, List.getD_eq_getElem?_getD, List.getElem?_drop, List.getElem?_take, if_pos (by omega), show a + (b + 1 - a - 1) = b by omega, h3]
      rfl
    refine ⟨h1, by omega, by omega, by omega, true, _, hq, rfl, ?_, fun h => (hnext h).1⟩
    rw [if_pos rfl, ByteArray.size_extract, hs1, hz]
    omega
  · simp only at h1 h2 h3
    have hz : (lineOf s k).size = s.size - a := by rw [hsz]; omega
    have hq : (((lineOf s k).extract ((lineOf s k).size - (⟨#[10]⟩ : ByteArray).size) (lineOf s k).size).toList == (⟨#[10]⟩ : ByteArray).toList) = false := by
      rw [hs1, str_eq_bytes, hlast _ (by omega), decide_eq_false_iff_not, hz, hx, List.getD_eq_getElem?_getD, List.getElem?_drop, List.getElem?_take, if_pos (by omega)]
      intro e
      have h4 := h3 (a + (s.size - a - 1)) (by omega)
      rw [List.getElem?_eq_getElem (by omega)] at h4 e
      simp only [Option.getD_some] at e
      apply h4
      congr 1
      injection e
    refine ⟨by omega, by omega, by omega, by omega, false, _, hq, rfl, ?_, fun h => (hnext h).1⟩
    simp only [Bool.false_eq_true, if_false]
    omega

set_option maxHeartbeats 3200000 in
set_option maxRecDepth 100000 in
theorem split_any (s : ByteArray) (hz : s.size ≤ 1073741824) (w : World) :
    Calls Try.prog 8 #[.string s] w fun e w' => ∃ v, e = .returned v ∧ PRow 31 w' v (lns (bytesOf s)) ∧ (∀ g, v.ownBlock = some g → w.heap.size ≤ g) ∧ Mut [] w w' := by
  refine (callsIn_wide (n := 3)).1 ?_
  have HL := Lib.hid fun w => (callsIn_wide (n := 3 - 1)).2 (slines_any s w)
  refine callsIn_of_wp_marks Try.func8 rfl trivial ?_ rfl
  simp only [Try.ntmps8, List.size_toArray, List.length_cons, List.length_nil, Nat.reduceAdd, Nat.reduceSub, Array.replicate_succ, Array.replicate_zero, List.push_toArray, List.append_toArray, List.nil_append, List.cons_append]
  gi_wp2_with (refine ⟨trivial, ?_⟩; gi_at_call 13; refine (HL.out _).mono ?_; rintro e w' ⟨rfl, rfl⟩)
  have hm0 : Mut [] w (((w.alloc (.cells #[.slice none 0 0] 23)).alloc (.cells #[.int .i64 0] 3)).alloc (.cells #[.string s] 9)) := (((Mut.refl _ w).alloc _).alloc _).alloc _
  have hb0 := heap_alloc_new' w (.cells #[.slice none 0 0] 23)
  have hb1 := heap_alloc_new' (w.alloc (.cells #[.slice none 0 0] 23)) (.cells #[.int .i64 0] 3)
  have hb2 := heap_alloc_new' ((w.alloc (.cells #[.slice none 0 0] 23)).alloc (.cells #[.int .i64 0] 3)) (.cells #[.string s] 9)
  have hb0' := ((((Mut.refl [] (w.alloc (.cells #[.slice none 0 0] 23))).alloc (.cells #[.int .i64 0] 3)).alloc (.cells #[.string s] 9))).get hb0 (by simp)
  have hb1' := (((Mut.refl [] ((w.alloc (.cells #[.slice none 0 0] 23)).alloc (.cells #[.int .i64 0] 3))).alloc (.cells #[.string s] 9))).get hb1 (by simp)
  have hsz : (((w.alloc (.cells #[.slice none 0 0] 23)).alloc (.cells #[.int .i64 0] 3)).alloc (.cells #[.string s] 9)).heap.size = w.heap.size + 3 := by simp
  simp only [World.size_alloc] at hb1 hb2 hb1' hb0'
  clear hb0 hb1
  generalize ((w.alloc (.cells #[.slice none 0 0] 23)).alloc (.cells #[.int .i64 0] 3)).alloc (.cells #[.string s] 9) = w2 at *
  have h0 : SpAt w s w.heap.size 0 w2 := ⟨⟨_, hb0', PRow.nil _ _, by simp [Value.ownBlock]⟩, ⟨0, hb1', fun h => by
    have := lns_first (bytesOf s) h
    rw [List.getD_eq_getElem?_getD, List.getElem?_eq_getElem h]
    exact this.symm⟩, Nat.le_refl _, hm0, by omega⟩
  refine rangeSt (n := 3) (by decide) (gf := 17) (lb := #[.pointer (some ⟨w.heap.size + 2, 0, none⟩)]) rfl (enters_of Try.func17 (by kernel_rfl) rfl) (Bs := w.heap.size + 2) (by omega) (slines1_gives s hz _ _ (by decide) _ hb2) (fun _ => rfl)
    (fun k W => SpAt w s w.heap.size k W)
    ?abide h0 (fun k => { tmps := #[.string s, undef, .slice none 0 0, .pointer (some ⟨w.heap.size, 0, none⟩), .pointer (some ⟨w.heap.size + 1, 0, none⟩), .string (lineOf s k), undef, .string s, .func (.func 17) #[] #[.pointer (some ⟨w.heap.size + 1 + 1, 0, none⟩)], .string (lineOf s k), undef, undef, undef, undef, undef, undef, undef, undef, undef, undef, undef, undef, undef, undef, undef, undef], defers := [] }) ?assign ?body ?done
  case abide =>
    intro k A C row h hg hr
    refine h.turn hg (fun r hrr => ?_)
    rcases hr r hrr with h1 | ⟨h1, h2⟩
    · exact ⟨by omega, .inl h1⟩
    · exact ⟨by omega, .inr h2⟩
  case assign =>
    intro l k W K hkN hK
    gi_wp2
    exact hK
  case body =>
    intro l k W hkN hAt hD hL
    clear h0 hb2 hb0' hb1' hm0
    obtain ⟨⟨a, b⟩, hab⟩ : ∃ x, (lns (bytesOf s)).getD k (0, 0) = x := ⟨_, rfl⟩
    obtain ⟨f1, f2, f3, f4, q, t, f5, f6, f7, f8⟩ := line_facts s k hkN a b hab
    obtain ⟨⟨v, h1, h2, h3⟩, ⟨p, h4, h5⟩, h6, h7, h8⟩ := hAt
    obtain rfl : p = a := by rw [h5 hkN, hab]
    clear h5 HL h6
    have HSZ := Lib.hid hsz
    clear hsz
    have HT : Hid (∀ w, CallsIn (Fence.wide.inRound l) (3 - 1 - 1 - 1) Try.prog 14 #[.string (lineOf s k), .string ⟨#[10]⟩] w fun e w' => e = .returned (.string t) ∧ w' = w) :=
      Lib.hid fun w => CallsIn.inRound l (callsIn_wide.2 (by rw [← f6]; exact trim_any _ ⟨#[10]⟩ f3 (by omega) q f5 w))
    have HN := Lib.hid f8
    have HAB := Lib.hid hab
    have HD := Lib.hid hD
    have HL := Lib.hid hL
    have hsum : IntKind.i64.wrap ((p : Int) + (t.size : Int)) = (b : Int) := by rw [IntWalk.i64_in _ (by omega)]; omega
    have hps : wrap64 ((p : Int) + ((lineOf s k).size : Int)) = ((p + (lineOf s k).size : Nat) : Int) := by rw [IntWalk.wrap64_in _ (by omega)]; omega
    have hmx : Try.prog.follows .mixedOrders = true := by kernel_rfl
    have H2 := Lib.hid h2
    have H3 := Lib.hid h3
    have H7 := Lib.hid h7
    have HF := Lib.hid (And.intro f2 (And.intro f4 (And.intro f1 hkN)))
    clear f5 f6 f8 hab hD hL h2 h3 h7 f7 f2 f3 f4 f1 hkN
    generalize lineOf s k = x at *
    have hc0 := cellOf h1 0 (x := v) rfl
    have hf0 := frozenOf h1 0
    have hc1 := cellOf h4 0 (x := .int .i64 (p : Int)) rfl
    have hf1 := frozenOf h4 0
    gi_upto_region 5 with fail
    gi_cut [6] from 10 (fun q wx => wx = W.drew ∧ q = .int .i64 (b : Int))
    case first =>
      gi_region_with_o (refine ⟨trivial, ?_⟩; gi_at_call 14; refine (HT.out _).mono ?_; rintro e w' ⟨rfl, rfl⟩)
      all_goals gi_wp2
      all_goals gi_meet
      all_goals exact ⟨rfl, rfl⟩
    case rest =>
      obtain ⟨hw, rfl⟩ := hcut
      have HM := Lib.hid hw
      have hk1 : wc.heap = W.heap := by rw [hw]; rfl
      have h1' : wc.heap[w.heap.size]? = some (Obj.cells #[v] 23 (0, 0)) := by rw [hk1]; exact h1
      have h4' : wc.heap[w.heap.size + 1]? = some (Obj.cells #[.int .i64 (p : Int)] 3 (0, 0)) := by rw [hk1]; exact h4
      have hc0' := cellOf h1' 0 (x := v) rfl
      have hf0' := frozenOf h1' 0
      have hc1' := cellOf h4' 0 (x := .int .i64 (p : Int)) rfl
      have hf1' := frozenOf h4' 0
      have hr' : PRow 31 wc v ((lns (bytesOf s)).take k) := H2.out.mut (by rw [hw]; exact (Mut.refl [] W).drew) (by simp)
      have HR := Lib.hid hr'
      obtain ⟨i0, hi, hz0, hz1, hz2⟩ := info_parts info_span
      clear hc0 hf0 hc1 hf1 hsum hw hk1 hr' h1 h4
      gi_upto_region 6 with fail
      gi_wp2_with (gi_at_builtin; refine wpListIn_app rfl (.tmp 15) (.tmp 19) 23 23 rfl 31 i0 (.agg #[.int .i64 0, .int .i64 0]) 2 16 Try.underlying23 hi hz0 hz1 hz2 rfl (HR.out.mut ((Mut.refl [] wc).alloc _) (by simp)) rfl (src1 Try.underlying23 (heap_alloc_new wc _) rfl (sp_one (p, b))) rfl ?b1 ?b2 ?_)
      case b1 =>
        have := HF.out
        have h1 := lns_len (bytesOf s)
        rw [bytesOf_length] at h1
        rw [List.length_take]
        unfold maxLen
        omega
      case b2 =>
        have := HF.out
        have h1 := lns_len (bytesOf s)
        rw [bytesOf_length] at h1
        rw [List.length_take]
        omega
      intro v' w1 hr1 hg1 hf1
      have hsz1 : wc.heap.size = W.heap.size := by rw [HM.out]; rfl
      have hnB : v.ownBlock ≠ some w.heap.size := row_ne HR.out h1' (by decide)
      have hnB1 : v.ownBlock ≠ some (w.heap.size + 1) := row_ne HR.out h4' (by decide)
      have keep : ∀ j, j < wc.heap.size → v.ownBlock ≠ some j → w1.heap[j]? = wc.heap[j]? := fun j hj hne =>
        (hg1.block j (by simp; omega) (fun e => hne e.symm)).trans (Below.heap_alloc _ _ _ hj)
      have g1 := (keep _ (lt_of_heap h1') hnB).trans h1'
      have g4 := (keep _ (lt_of_heap h4') hnB1).trans h4'
      have HK := Lib.hid keep
      have hkin : min k (lns (bytesOf s)).length = k := by have := HF.out; omega
      rw [hkin] at hr1
      obtain ⟨g, cap, rfl, hgl, -⟩ := row_some hr1 (by omega)
      have hrow : PRow 31 w1 (.slice (some ⟨g, 0, none⟩) (k + 1) cap) ((lns (bytesOf s)).take (k + 1)) := by
        have hkN := HF.out.2.2.2
        have e : (lns (bytesOf s)).take (k + 1) = (lns (bytesOf s)).take k ++ [(p, b)] := by
          rw [List.take_succ_eq_append_getElem hkN]
          have := HAB.out
          rw [List.getD_eq_getElem?_getD, List.getElem?_eq_getElem hkN] at this
          simp only [Option.getD_some] at this
          rw [this]
        unfold PRow
        rw [e, spCells_snoc, List.length_append, List.length_take, hkin]
        exact hr1
      have HROW := Lib.hid hrow
      have HG := Lib.hid hg1
      have HFR := Lib.hid hf1
      have HNB := Lib.hid (And.intro hnB hnB1)
      have HS1 := Lib.hid hsz1
      have d0 := frozenOf g1 0
      have e0 := cellOf g1 0 (x := v) rfl
      have d1 := frozenOf g4 0
      have e1 := cellOf g4 0 (x := .int .i64 (p : Int)) rfl
      clear hr1 hg1 hf1 keep hrow hnB hnB1 h1' h4' hc0' hf0' hc1' hf1' hi hz0 hz1 hz2 hsz1
      gi_wp2
      have hw1 : Mut [] w w1 := by
        have h1 : Mut [] w wc := by rw [HM.out]; exact H7.out.drew
        exact (h1.alloc _).grown HG.out (fun k hk => .inr (H3.out k hk).1)
      have hgB : g ≠ w.heap.size ∧ g ≠ w.heap.size + 1 ∧ w.heap.size ≤ g ∧ g ≠ w.heap.size + 2 := by
        have h2 := HS1.out
        rcases HFR.out g rfl with h1 | h1
        · have h3 := H3.out g h1
          exact ⟨fun e => HNB.out.1 (by rw [h1, e]), fun e => HNB.out.2 (by rw [h1, e]), h3.1, h3.2⟩
        · exact ⟨by omega, by omega, by omega, by omega⟩
      have far : ∀ j, j ≠ w.heap.size → j ≠ w.heap.size + 1 → j < W.heap.size → v.ownBlock ≠ some j → ((w1.setCell ⟨w.heap.size, 0, none⟩ (.slice (some ⟨g, 0, none⟩) (k + 1) cap)).setCell ⟨w.heap.size + 1, 0, none⟩ (.int .i64 ((p : Int) + (x.size : Int)))).heap[j]? = W.heap[j]? := by
        intro j h1 h2 h3 h4
        rw [heap_set_ne h2, heap_set_ne h1, HK.out j (by rw [HS1.out]; exact h3) h4, HM.out]
        rfl
      have other : ∀ j, (∃ o : Obj, W.heap[j]? = some o ∧ o.isCells = false) → v.ownBlock ≠ some j := by
        rintro j ⟨o, ho, hc⟩ hv
        obtain ⟨c, t, fr, hb⟩ := H2.out.cellsBlock hv
        rw [hb] at ho
        cases ho
        cases hc
      have hs3 := HSZ.out
      refine ⟨far _ (by omega) (by omega) ?_ (other _ HD.out), far _ (by omega) (by omega) ?_ (other _ HL.out), far _ (by omega) (by omega) h8 (fun e => (H3.out _ e).2 rfl), ?_⟩
      · obtain ⟨o, ho, _⟩ := HD.out
        exact lt_of_heap ho
      · obtain ⟨o, ho, _⟩ := HL.out
        exact lt_of_heap ho
      · refine ⟨⟨.slice (some ⟨g, 0, none⟩) (k + 1) cap, ?_, ?_, ?_⟩, ⟨p + x.size, ?_, HN.out⟩, Nat.le_refl _, ?_, ?_⟩
        · rw [heap_set_ne (by omega)]
          simpa using heap_set g1 0 (.slice (some ⟨g, 0, none⟩) (k + 1) cap)
        · exact row_set_ne (row_set_ne HROW.out (fun g' h => by simp [Value.ownBlock] at h; omega) _) (fun g' h => by simp [Value.ownBlock] at h; omega) _
        · intro g' h
          simp [Value.ownBlock] at h
          omega
        · have := heap_set ((heap_set_ne (s := none) (i := 0) (show w.heap.size + 1 ≠ w.heap.size by omega) (.slice (some ⟨g, 0, none⟩) (k + 1) cap)).trans g4) 0 (.int .i64 ((p : Int) + (x.size : Int)))
          simpa using this
        · exact (hw1.setCell (.inr (Nat.le_refl _)) _).setCell (.inr (Nat.le_succ _)) _
        · have := HG.out.size
          have h2 := HS1.out
          simp at this
          simp [World.setCell]
          omega
  case done =>
    intro W hAt hK
    clear h0 hb2 hb0' hb1' hm0 HL
    obtain ⟨⟨v, h1, h2, h3⟩, -, h6, h7, h8⟩ := hAt
    rw [List.take_length] at h2
    have hc0 := cellOf h1 0 (x := v) rfl
    obtain ⟨pp, cc, rfl⟩ := h2.form
    have H2 := Lib.hid h2
    have H3 := Lib.hid h3
    clear h2 h3
    gi_wp2
    refine ⟨by simp, .inl ⟨_, _, rfl, run_takeDeferred hK, ?_⟩⟩
    refine ⟨_, results_tmp rfl _ _ _, .slice pp (lns (bytesOf s)).length cc, rfl, ?_, fun g hg => (H3.out g hg).1, ?_⟩
    · refine H2.out.grown (grownBy_putObj' W _ _) (fun k hk hv => ?_)
      cases hk
      obtain ⟨c, t, fr, hb⟩ := H2.out.cellsBlock hv
      rw [hb] at hK
      cases hK
    · exact h7.grown (grownBy_putObj' W _ _) (fun k hk => by cases hk; exact .inr (by omega))

end Go.Proofs.Ythnljhcncpiemaa
