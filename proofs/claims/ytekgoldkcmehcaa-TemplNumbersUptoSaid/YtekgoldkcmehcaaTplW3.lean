/- Walks over package templ: (*parser).text. -/
import Derived.Test.YtekgoldkcmehcaaTplW2
namespace Go.Proofs.Ytekgoldkcmehcaa
open Go.RowKit Go.Shelf
set_option linter.unusedVariables false

abbrev Pc := ByteArray × Int
def pcC (p : Pc) : List Value := [.string p.1, .int .i64 p.2]
def pcL (l : List Pc) : List Value := l.flatMap pcC
theorem pcL_app (a b : List Pc) : pcL (a ++ b) = pcL a ++ pcL b := by simp [pcL]
theorem pcL_len (l : List Pc) : (pcL l).length = 2 * l.length := by
  induction l with
  | nil => rfl
  | cons x r ih => rw [show pcL (x :: r) = pcC x ++ pcL r from rfl, List.length_append, ih]; simp [pcC]; omega
theorem pcL_at (T : List Pc) : ∀ (i : Nat) (hi : i < T.length) (j : Nat), j < 2 → (pcL T)[2 * i + j]? = (pcC (T[i]'hi))[j]? := by
  induction T with
  | nil => intro i hi; simp at hi
  | cons x r ih =>
    intro i hi j hj
    have e : pcL (x :: r) = pcC x ++ pcL r := rfl
    rw [e]
    cases i with
    | zero =>
      rw [List.getElem?_append_left (by simp [pcC]; omega)]
      simp
    | succ i =>
      rw [List.getElem?_append_right (by simp [pcC]; omega)]
      have : 2 * (i + 1) + j - (pcC x).length = 2 * i + j := by simp [pcC]; omega
      rw [this, ih i (by simpa using hi) j hj]
      simp

/-- what comes of a text that goes on -/
def addText (l : List Pc) (s : ByteArray) : List Pc :=
  match l.getLast? with
  | some (t, g) => if g = -1 then l.dropLast ++ [(t ++ s, -1)] else if s = .empty then l else l ++ [(s, -1)]
  | none => if s = .empty then l else l ++ [(s, -1)]

theorem info_pc : (Try.prog.info? 35).map (fun i => (i.zero, i.size, i.bytes)) = some (some (.agg #[.string .empty, .int .i64 0]), 2, 24) := by kernel_rfl

/-- the parser's box -/
structure PB (w0 : World) (b : Nat) (rest : ByteArray) (nv : Value) (l : List Pc) (w : World) : Prop where
  box : ∃ v, w.heap[b]? = some (.cells #[.string rest, nv, v] 40 (0, 0)) ∧ w.ownsRow 0 35 2 v l.length (pcL l) ∧ (∀ g, v.ownBlock = some g → w0.heap.size ≤ g)
  low : w0.heap.size ≤ b
  kept : Mut [] w0 w

theorem rowAt2 {w : World} {e : TypeId} {g n c : Nat} {T : List Pc} (h : w.ownsRow 0 e 2 (.slice (some ⟨g, 0, none⟩) n c) n (pcL T)) (i : Nat) (hi : i < T.length) :
    w.cell? ⟨g, i * 2, none⟩ = some (.string (T[i]'hi).1) ∧ w.cell? ⟨g, i * 2 + 1, none⟩ = some (.int .i64 (T[i]'hi).2) := by
  rcases h.2 with ⟨h1, _⟩ | ⟨g', cap, cur, h1, _, hh, r1, r2, r3, r4⟩
  · cases h1
  · simp only [Value.slice.injEq, Option.some.injEq, Addr.mk.injEq] at h1
    obtain ⟨⟨e1, -⟩, -, -⟩ := h1
    subst e1
    have key : ∀ j u, j < 2 → (pcC (T[i]'hi))[j]? = some u → w.cell? ⟨g, i * 2 + j, none⟩ = some u := by
      intro j u hj hu
      have h2 := pcL_at T i hi j hj
      rw [Nat.mul_comm 2 i, hu, ← r4, List.getElem?_take] at h2
      split at h2
      · exact cellOf hh _ (by simpa using h2)
      · simp at h2
    exact ⟨key 0 _ (by decide) rfl, key 1 _ (by decide) rfl⟩

theorem row_setN {w : World} {base size : Nat} {e : TypeId} {v : Value} {n : Nat} {xs : List Value} (h : w.ownsRow base e size v n xs) {g : Nat} (hg : v.ownBlock = some g) (i : Nat) (u : Value) :
    (w.setCell ⟨g, i, none⟩ u).ownsRow base e size v n (xs.set i u) := by
  refine ⟨by rw [List.length_set]; exact h.1, ?_⟩
  rcases h.2 with ⟨rfl, h0⟩ | ⟨g', cap, cur, rfl, hb, hh, r1, r2, r3, r4⟩
  · simp [Value.ownBlock] at hg
  · simp [Value.ownBlock] at hg
    subst hg
    refine .inr ⟨g', cap, _, rfl, hb, heap_set hh i u, r1, r2, by simpa using r3, ?_⟩
    rw [← r4, Array.toList_setIfInBounds, List.take_set]

theorem row_frozen {w : World} {base size : Nat} {e : TypeId} {g n c : Nat} {xs : List Value} (h : w.ownsRow base e size (.slice (some ⟨g, 0, none⟩) n c) n xs) (i : Nat) : w.frozen? ⟨g, i, none⟩ = false := by
  rcases h.2 with ⟨h1, _⟩ | ⟨g', cap, cur, h1, _, hh, _⟩
  · cases h1
  · cases h1
    exact frozenOf hh i

theorem addText_on (l : List Pc) (t s : ByteArray) : addText (l ++ [(t, -1)]) s = l ++ [(t ++ s, -1)] := by
  simp [addText]
theorem addText_nil (s : ByteArray) (h : s ≠ .empty) : addText [] s = [(s, -1)] := by simp [addText, h]
theorem addText_nil0 : addText [] .empty = [] := by simp [addText]
theorem addText_g (l : List Pc) (t s : ByteArray) (g : Int) (hg : g ≠ -1) (h : s ≠ .empty) : addText (l ++ [(t, g)]) s = l ++ [(t, g)] ++ [(s, -1)] := by
  simp [addText, hg, h]
theorem addText_g0 (l : List Pc) (t : ByteArray) (g : Int) (hg : g ≠ -1) : addText (l ++ [(t, g)]) .empty = l ++ [(t, g)] := by
  simp [addText, hg]

theorem pc_one (x : Pc) : ∀ u ∈ pcC x, u.oneCell' = true := by
  intro u hu
  simp [pcC] at hu
  rcases hu with rfl | rfl <;> rfl

theorem addText_split (l : List Pc) (s : ByteArray) : ∃ q : Bool, ((l.length = 0 ∧ q = false) ∨ (∃ l' t g, l = l' ++ [(t, g)] ∧ q = decide (g = -1))) ∧
    (q = true → ∃ l' t, l = l' ++ [(t, -1)] ∧ addText l s = l' ++ [(t ++ s, -1)]) ∧ (q = false → addText l s = if s = .empty then l else l ++ [(s, -1)]) := by
  rcases List.eq_nil_or_concat l with rfl | ⟨l, ⟨t, g⟩, rfl⟩
  · exact ⟨false, .inl ⟨rfl, rfl⟩, by simp, fun _ => rfl⟩
  · rw [List.concat_eq_append]
    refine ⟨decide (g = -1), .inr ⟨l, t, g, rfl, rfl⟩, fun h => ?_, fun h => ?_⟩
    · obtain rfl : g = -1 := by simpa using h
      exact ⟨l, t, rfl, addText_on l t s⟩
    · have : g ≠ -1 := by simpa using h
      simp [addText, this]

/-- a piece more, in the box -/
theorem PB.put {w0 w w1 : World} {b : Nat} {rest : ByteArray} {nv v v2 : Value} {l : List Pc} {x : Pc} (H1 : w.heap[b]? = some (.cells #[.string rest, nv, v] 40 (0, 0))) (h2 : w.ownsRow 0 35 2 v l.length (pcL l)) (h3 : ∀ g, v.ownBlock = some g → w0.heap.size ≤ g)
    (h5 : w0.heap.size ≤ b) (h6 : Mut [] w0 w) (o : Obj) (r1 : w1.ownsRow 0 35 2 v2 (l.length + 1) (pcL l ++ pcC x)) (r2 : (w.alloc o).grownBy w1 v.ownBlock) (r3 : ∀ g, v2.ownBlock = some g → v.ownBlock = some g ∨ w.heap.size + 1 ≤ g) :
    PB w0 b rest nv (l ++ [x]) (w1.setCell ⟨b, 2, none⟩ v2) ∧ w1.cell? ⟨b, 2, none⟩ = some v ∧ w1.frozen? ⟨b, 2, none⟩ = false := by
  have hnb : v.ownBlock ≠ some b := row_ne h2 H1 (by decide)
  have hm : Mut v.ownBlock.toList w w1 := ((Mut.refl _ w).alloc o).grown r2 (by intro g hg; simp [hg])
  have hb2 := hm.get H1 (by simpa using hnb)
  have hs : (w1.setCell ⟨b, 2, none⟩ v2).heap[b]? = some (.cells #[.string rest, nv, v2] 40 (0, 0)) := by simpa using heap_set hb2 2 v2
  refine ⟨⟨⟨_, hs, row_set_ne ?_ (fun g hg e => ?_) _, fun g hg => ?_⟩, h5, (h6.trans hm (fun x hx => .inr (h3 x (by simpa using hx)))).setCell (.inr h5) _⟩, cellOf hb2 2 rfl, frozenOf hb2 2⟩
  · rw [List.length_append, pcL_app]
    simpa [pcL] using r1
  · subst e
    exact row_ne r1 hb2 (by decide) hg
  · rcases r3 g hg with h | h
    · exact h3 g h
    · have := h6.size
      omega

set_option maxHeartbeats 1600000 in
set_option maxRecDepth 100000 in
theorem text_any (w0 : World) (b : Nat) (rest : ByteArray) (nv : Value) (l l2 : List Pc) (s : ByteArray) (h2 : addText l s = l2) (hs : s.size ≤ 1073741824) (hl : ∀ p ∈ l, p.1.size ≤ 1073741824) (hn : l.length ≤ 1048576) (w : World) (h : PB w0 b rest nv l w) :
    Calls Try.prog 10 #[.pointer (some ⟨b, 0, none⟩), .string s] w fun e w' => (∃ v, e = .returned v) ∧ PB w0 b rest nv l2 w' := by
  subst h2
  obtain ⟨⟨v, h1, h2, h3⟩, h5, h6⟩ := h
  have c2 := cellOf h1 2 (x := v) rfl
  have f2 := frozenOf h1 2
  obtain ⟨q, hq, hq1, hq0⟩ := addText_split l s
  obtain ⟨pp, cap, rfl⟩ : ∃ p c, v = .slice p l.length c := by
    rcases h2.2 with ⟨h, h'⟩ | ⟨g, cap, _, h, _⟩
    · exact ⟨none, 0, by rw [h, h']⟩
    · exact ⟨_, cap, h⟩
  have H1 := Lib.hid h1
  have H2 := Lib.hid h2
  have H3 := Lib.hid (And.intro h3 (And.intro h5 h6))
  have HQ1 := Lib.hid hq1
  have HQ0 := Lib.hid hq0
  clear h3 h5 h6 h1 hq1 hq0
  obtain ⟨n, hnl⟩ : ∃ n, l.length = n := ⟨_, rfl⟩
  have hnw : wrap64 (n : Int) = (n : Int) := IntWalk.wrap64_in _ (by omega)
  have HN := Lib.hid hnl
  have hn' : n ≤ 1048576 := by omega
  rw [hnl] at c2
  go_enter Try.func10, Try.ntmps10
  go_upto_region 1 with fail
  go_cut [23] (fun x wx => x = .bool q ∧ wx = w)
  case first =>
    rcases hq with ⟨h0, rfl⟩ | ⟨l', t, g, hl', hqd⟩
    · have h0' : ¬ (0 : Int) < (n : Int) := by omega
      clear hnl h0 hl h2 hn
      go_wp2_with fail
      go_meet
      exact ⟨rfl, rfl⟩
    · have hlen : l.length = l'.length + 1 := by rw [hl']; simp
      obtain ⟨G, cp, e1, -, -⟩ := row_some h2 (by omega)
      cases e1
      rw [hl', List.length_append] at h2
      obtain ⟨-, ce⟩ := rowAt2 (T := l' ++ [(t, g)]) (n := l'.length + 1) (by simpa using h2) l'.length (by simp)
      rw [List.getElem_append_right (Nat.le_refl _)] at ce
      simp only [Nat.sub_self, List.getElem_cons_zero] at ce
      have hm : l'.length = n - 1 := by omega
      rw [hm] at ce
      have h0' : (0 : Int) < (n : Int) := by omega
      clear hm
      clear hnl hlen hl hn h2 hl'
      by_cases hg : g = -1
      · subst hg
        obtain rfl : q = true := by rw [hqd]; rfl
        clear hqd
        go_wp2_with fail
        go_meet
        exact ⟨rfl, rfl⟩
      · have hgb : (g == -1) = false := by rw [beq_eq_false_iff_ne]; exact hg
        obtain rfl : q = false := by rw [hqd]; simp [hg]
        clear hg hqd
        go_wp2_with fail
        go_meet
        exact ⟨rfl, rfl⟩
  case rest =>
    obtain ⟨rfl, rfl⟩ := hcut
    clear hq
    cases q
    · clear hnw HQ1
      have HQ := Lib.hid (HQ0.out rfl)
      clear HQ0
      by_cases hse : s = .empty
      · subst hse
        have HQ' := Lib.hid (by have := HQ.out; rwa [if_pos rfl] at this : addText l .empty = l)
        clear HQ
        have he : (ByteArray.empty).toList = [] := by rw [str_toList]; rfl
        go_wp2_with fail
        go_end0
        refine ⟨⟨_, rfl⟩, ?_⟩
        rw [HQ'.out]
        exact ⟨⟨_, H1.out, H2.out, H3.out.1⟩, H3.out.2.1, H3.out.2.2⟩
      · have HQ' := Lib.hid (by have := HQ.out; rwa [if_neg hse] at this : addText l s = l ++ [(s, -1)])
        have hn0 : s.toList ≠ [] := fun e => hse (ByteArray.ext (Array.ext' (by rw [← str_toList, e]; rfl)))
        have he : s.toList.isEmpty = false := by
          cases h : s.toList with
          | nil => exact absurd h hn0
          | cons a r => rfl
        obtain ⟨i0, hi, hz0, hz1, hz2⟩ := info_parts info_pc
        clear HQ hse hl h2
        rw [← HN.out] at c2 hn'
        generalize Value.slice pp l.length cap = v at *
        go_wp2_with (at_builtin; refine wp_app rfl (.tmp 43) (.tmp 46) 24 24 rfl 35 i0 (.agg #[.string .empty, .int .i64 0]) 2 24 Try.underlying24 hi hz0 hz1 hz2 rfl (H2.out.alloc _) rfl (src1 Try.underlying24 (heap_alloc_new wc _) rfl (pc_one (s, -1))) rfl (by unfold maxLen; omega) (by omega) ?_)
        intro v2 w2 r1 r2 r3
        obtain ⟨HP, d1, d2⟩ := PB.put (x := (s, -1)) H1.out H2.out H3.out.1 H3.out.2.1 H3.out.2.2 _ (by rw [HN.out]; exact r1) r2 r3
        have HPH := Lib.hid HP
        obtain ⟨G2, cp2, rfl, -, -⟩ := row_some r1 (by omega)
        clear HP r1 r2 r3 hi hz0 hz1 hz2
        go_wp2_with fail
        go_end0
        refine ⟨⟨_, rfl⟩, ?_⟩
        rw [HQ'.out]
        exact HPH.out
    · obtain ⟨l', t, rfl, ha⟩ := HQ1.out rfl
      have HA := Lib.hid ha
      have hlen : l'.length + 1 = n := by rw [← hnl]; simp
      have ht : t.size ≤ 1073741824 := hl (t, -1) (by simp)
      have hts : t.size + s.size ≤ 2147483648 := by omega
      obtain ⟨G, cp, e1, -, -⟩ := row_some h2 (by simp)
      cases e1
      rw [List.length_append] at h2
      obtain ⟨ce, -⟩ := rowAt2 (T := l' ++ [(t, -1)]) (n := l'.length + 1) (by simpa using h2) l'.length (by simp)
      have cf := row_frozen (n := l'.length + 1) (by simpa using h2 : wc.ownsRow 0 35 2 (.slice (some ⟨G, 0, none⟩) (l'.length + 1) cap) (l'.length + 1) (pcL (l' ++ [(t, -1)]))) ((n - 1) * 2)
      rw [List.getElem_append_right (Nat.le_refl _)] at ce
      simp only [Nat.sub_self, List.getElem_cons_zero] at ce
      have hm : l'.length = n - 1 := by omega
      rw [hm] at ce
      have h0' : (0 : Int) < (n : Int) := by omega
      have HL := Lib.hid hlen
      have HR := Lib.hid h2
      clear hm hl HQ1 HQ0 ha hnl hn H2 HN h2 hlen
      go_wp2_with fail
      go_end0
      refine ⟨⟨_, rfl⟩, ?_⟩
      rw [HA.out]
      have hnb : G ≠ b := fun e => by
        subst e
        exact row_ne HR.out H1.out (by decide) rfl
      refine ⟨⟨.slice (some ⟨G, 0, none⟩) n cap, ?_, ?_, fun g hg => ?_⟩, H3.out.2.1, H3.out.2.2.setCell (.inr (H3.out.1 G rfl)) _⟩
      · rw [heap_set_ne (fun e => hnb e.symm), H1.out]
        simp [HL.out]
      · have := row_setN HR.out (g := G) rfl ((n - 1) * 2) (.string (t ++ s))
        have e : (pcL (l' ++ [(t, -1)])).set ((n - 1) * 2) (.string (t ++ s)) = pcL (l' ++ [(t ++ s, -1)]) := by
          have hl := pcL_len l'
          rw [pcL_app, pcL_app, List.set_append_right _ _ (by have := HL.out; omega)]
          have : (n - 1) * 2 - (pcL l').length = 0 := by have := HL.out; omega
          rw [this]
          rfl
        rw [e] at this
        have h2 := HL.out
        simp only [List.length_append, List.length_cons, List.length_nil, Nat.zero_add, h2] at this ⊢
        exact this
      · simp [Value.ownBlock] at hg
        subst hg
        exact H3.out.1 _ rfl

end Go.Proofs.Ytekgoldkcmehcaa
