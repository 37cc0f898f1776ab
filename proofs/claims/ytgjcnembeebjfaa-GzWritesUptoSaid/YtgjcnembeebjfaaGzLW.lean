/- A region that draws its order: an invariant over all that has come up, with all its values. No program. A slice of parts that came in, read. A slice of choices that came in, read. Walk over the law's function parts: two rows of the same parts. Walk over the law GzWrites. -/
import Derived.Test.YtgjcnembeebjfaaRegI
import Derived.Test.YtgjcnembeebjfaaGLaw
import Derived.Test.YtgjcnembeebjfaaGzA
import Derived.Deep.Slices
import Derived.OpenShut
import Derived.Test.YtgjcnembeebjfaaGPlain
import Derived.Test.YtgjcnembeebjfaaGzK
import Derived.Deep.RegionWith
import Derived.BigQuiet
import Derived.Deep.LoopGhost
import Derived.Test.YtgjcnembeebjfaaGzWW
import Derived.Deep.DeepCutAuto

namespace Go.Proofs.Ytgjcnembeebjfaa
open Go.RowKit
set_option linter.unusedVariables false

/-- what has come up has come up behind what it waits for -/
def ClosedR (ops : Array Oper) (listed : Array Bool) : Prop := ∀ (j : Nat) (o : Oper), ops[j]? = some o → listed.getD j false = true → ∀ e ∈ o.after, Region.binds .any e = true → listed.getD e.on false = true

theorem keep_set {listed : Array Bool} {i k : Nat} (hk : listed.getD k false = true) : (listed.setIfInBounds i true).getD k false = true := by
  by_cases e : i = k
  · subst e
    rw [Array.getD_eq_getD_getElem?] at hk ⊢
    cases hq : listed[i]? with
    | none => rw [hq] at hk; cases hk
    | some b =>
      have hlt := (Array.getElem?_eq_some_iff.1 hq).1
      rw [Array.getElem?_setIfInBounds_self_of_lt hlt]
      rfl
  · rw [Array.getD_eq_getD_getElem?, Array.getElem?_setIfInBounds_ne e, ← Array.getD_eq_getD_getElem?]
    exact hk
theorem set_true {listed : Array Bool} {i : Nat} (h : i < listed.size) : (listed.setIfInBounds i true).getD i false = true := by
  rw [Array.getD_eq_getD_getElem?, Array.getElem?_setIfInBounds_self_of_lt h]
  rfl

theorem wp_region_inv2 {P : Program} {ops : Array Oper} {id : Nat} {Q : Exit → Act → World → Prop} {a : Act} {w : World} (hm : P.follows .mixedOrders = true) (I : Array Bool → Act → World → Prop) (h0 : I (Array.replicate ops.size false) a w.drew)
    (hs : ∀ listed a w i o, listed.size = ops.size → I listed a w → listed.getD i true = false → ops[i]? = some o → (∀ e ∈ o.after, Region.binds .any e = true → listed.getD e.on false = true) → ClosedR ops listed → ∀ K : Act → World → Prop, (∀ a' w', I (listed.setIfInBounds i true) a' w' → K a' w') →
      if Region.wanted o (yielded ops a.tmps) = true then o.wp P a w K Q else K (a.put o.dst undef) w)
    (he : ∀ listed a w, listed.size = ops.size → I listed a w → Region.ready .any ops listed = [] → Q .normal a w) : (Code.region id ops true).wp P Q a w := by
  refine wp_region_inv hm (fun listed a w => I listed a w ∧ ClosedR ops listed) ⟨h0, fun j o _ h => by
    rw [Array.getD_eq_getD_getElem?, Array.getElem?_replicate] at h
    split at h <;> simp at h⟩ (fun listed a w i o hz hI hu ho hd K hK => hs listed a w i o hz hI.1 hu ho hd hI.2 K fun a' w' h => hK a' w' ⟨h, fun j oj hoj hl e he hb => ?_⟩) (fun listed a w hz hI hr => he listed a w hz hI.1 hr)
  rcases getD_set_true hl with rfl | h2
  · have : oj = o := Option.some.inj (hoj.symm.trans ho)
    subst this
    exact keep_set (hd e he hb)
  · exact keep_set (hI.2 j oj hoj h2 e he hb)

structure InvG (a0 : Act) (dl : List Nat) (vs : List Value) (listed : Array Bool) (a : Act) : Prop where
  df : a.defers = a0.defers
  sz : a.tmps.size = a0.tmps.size
  ln : vs.length = dl.length
  hi : ∀ i, listed.getD i false = true → ∀ (d : Nat) (u : Value), dl[i]? = some d → vs[i]? = some u → a.tmps.getD d undef = u
  ho : ∀ t, (∀ i, dl[i]? = some t → listed.getD i false = false) → a.tmps.getD t undef = a0.tmps.getD t undef

theorem InvG.step {a0 : Act} {dl : List Nat} {vs : List Value} {listed : Array Bool} {a : Act} (h : InvG a0 dl vs listed a) (hn : dl.Nodup) (hb : ∀ d ∈ dl, d < a0.tmps.size) (hz : listed.size = dl.length) (i d : Nat) (u : Value) (h1 : dl[i]? = some d) : InvG a0 dl (vs.set i u) (listed.setIfInBounds i true) (a.put (some d) u) where
  df := h.df
  sz := by rw [put_size]; exact h.sz
  ln := by rw [List.length_set]; exact h.ln
  hi := by
    intro j hj d' u' h1' h2'
    by_cases e : j = i
    · subst e
      rw [h1] at h1'
      cases h1'
      have hlt : j < vs.length := by rw [h.ln]; exact (List.getElem?_eq_some_iff.1 h1).1
      rw [List.getElem?_set_self hlt] at h2'
      cases h2'
      exact put_getD_same _ _ _ (by rw [h.sz]; exact hb _ (mem_get h1))
    · rw [put_getD_ne _ _ _ _ (fun e' => e (nodup_get hn h1' (by rw [e']; exact h1)))]
      rw [List.getElem?_set_ne (fun e' => e e'.symm)] at h2'
      exact h.hi j ((getD_set_true hj).resolve_left e) d' u' h1' h2'
  ho := by
    intro t ht
    have hne : t ≠ d := fun e => by
      subst e
      have := ht i h1
      rw [set_true (by rw [hz]; exact (List.getElem?_eq_some_iff.1 h1).1)] at this
      cases this
    rw [put_getD_ne _ _ _ _ hne]
    refine h.ho t fun j hj => ?_
    have h2 := ht j hj
    cases hl : listed.getD j false with
    | false => rfl
    | true => rw [keep_set hl] at h2; cases h2

theorem InvG.start (a0 : Act) (dl : List Nat) (n : Nat) : InvG a0 dl (List.replicate dl.length undef) (Array.replicate n false) a0 where
  df := rfl
  sz := rfl
  ln := by simp
  hi := by
    intro i hi
    rw [Array.getD_eq_getD_getElem?, Array.getElem?_replicate] at hi
    split at hi <;> simp at hi
  ho := fun _ _ => rfl

theorem InvG.done {a0 : Act} {dl : List Nat} {vs : List Value} {listed : Array Bool} {a : Act} (h : InvG a0 dl vs listed a) (hn : dl.Nodup) (hb : ∀ d ∈ dl, d < a0.tmps.size) (hall : ∀ i, i < dl.length → listed.getD i false = true) : a = fillA a0 dl vs :=
  fill_eq dl vs a0 a h.ln.symm hn hb h.sz h.df (fun i d u h1 h2 => h.hi i (hall i (List.getElem?_eq_some_iff.1 h1).1) d u h1 h2) (fun t ht => h.ho t fun i hi => absurd (mem_get hi) ht)

/-! two rows that grow in one statement: 'a, b = append(a, x), append(b, x)' -/
/-- two rows of the call's own -/
structure TwoR (w0 wx : World) (ta tb : TypeId) (k : Nat) (va vb : Value) (na nb : Nat) (A B : List Value) : Prop where
  a : wx.ownsRow 0 ta k va na A
  b : wx.ownsRow 0 tb k vb nb B
  fa : ∀ g, va.ownBlock = some g → w0.heap.size ≤ g
  fb : ∀ g, vb.ownBlock = some g → w0.heap.size ≤ g
  mu : Mut [] w0 wx

theorem rows_ne {w : World} {base base' : Nat} {e e' : TypeId} {k n n' : Nat} {v v' : Value} {xs ys : List Value} (h : w.ownsRow base e k v n xs) (h' : w.ownsRow base' e' k v' n' ys) (hne : e ≠ e') : ∀ g, v.ownBlock = some g → v'.ownBlock ≠ some g := by
  intro g hg hg'
  rcases h.2 with ⟨rfl, _⟩ | ⟨g1, c1, cur1, rfl, _, h1, _⟩
  · simp [Value.ownBlock] at hg
  rcases h'.2 with ⟨rfl, _⟩ | ⟨g2, c2, cur2, rfl, _, h2, _⟩
  · simp [Value.ownBlock] at hg'
  simp [Value.ownBlock] at hg hg'
  subst hg hg'
  rw [h1] at h2
  simp only [Option.some.injEq, Obj.cells.injEq] at h2
  exact hne h2.2.1

theorem TwoR.mut {w0 wx wy : World} {ta tb : TypeId} {k na nb : Nat} {va vb : Value} {A B : List Value} (h : TwoR w0 wx ta tb k va vb na nb A B) (m : Mut [] wx wy) : TwoR w0 wy ta tb k va vb na nb A B :=
  ⟨m.row h.a (by simp), m.row h.b (by simp), h.fa, h.fb, h.mu.trans' m⟩
theorem TwoR.appA {w0 wx w1 : World} {ta tb : TypeId} {k na nb na' : Nat} {va vb v' : Value} {A B A' : List Value} (hne : ta ≠ tb) (h : TwoR w0 wx ta tb k va vb na nb A B)
    (hr : w1.ownsRow 0 ta k v' na' A') (hg : wx.grownBy w1 va.ownBlock) (hf : ∀ g, v'.ownBlock = some g → va.ownBlock = some g ∨ wx.heap.size ≤ g) : TwoR w0 w1 ta tb k v' vb na' nb A' B := by
  have hm : Mut va.ownBlock.toList wx w1 := (Mut.refl _ wx).grown hg (fun k hk => .inl (by simp [hk]))
  exact ⟨hr, hm.row h.b (fun g hg hm' => rows_ne h.a h.b hne g (by simpa using hm') hg), fun g hg => (hf g hg).elim (fun h' => h.fa g h') (fun h' => by have := h.mu.size; omega), h.fb, h.mu.trans hm (fun y hy => .inr (h.fa y (by simpa using hy)))⟩
theorem TwoR.appB {w0 wx w1 : World} {ta tb : TypeId} {k na nb nb' : Nat} {va vb v' : Value} {A B B' : List Value} (hne : ta ≠ tb) (h : TwoR w0 wx ta tb k va vb na nb A B)
    (hr : w1.ownsRow 0 tb k v' nb' B') (hg : wx.grownBy w1 vb.ownBlock) (hf : ∀ g, v'.ownBlock = some g → vb.ownBlock = some g ∨ wx.heap.size ≤ g) : TwoR w0 w1 ta tb k va v' na nb' A B' := by
  have hm : Mut vb.ownBlock.toList wx w1 := (Mut.refl _ wx).grown hg (fun k hk => .inl (by simp [hk]))
  exact ⟨hm.row h.a (fun g hg hm' => rows_ne h.a h.b hne g hg (by simpa using hm')), hr, h.fa, fun g hg => (hf g hg).elim (fun h' => h.fb g h') (fun h' => by have := h.mu.size; omega), h.mu.trans hm (fun y hy => .inr (h.fb y (by simpa using hy)))⟩

/-- a box of one element that a row does not lie in -/
def Box1 (w : World) (e : TypeId) (cs : List Value) (v own : Value) : Prop := ∃ g, v = .slice (some ⟨g, 0, none⟩) 1 1 ∧ w.heap[g]? = some (.cells cs.toArray e (0, 0)) ∧ own.ownBlock ≠ some g
theorem Box1.new (w : World) (e : TypeId) (cs : List Value) (own : Value) (h : ∀ g, own.ownBlock = some g → g < w.heap.size) : Box1 (w.alloc (.cells cs.toArray e)) e cs (.slice (some ⟨w.heap.size, 0, none⟩) 1 1) own :=
  ⟨w.heap.size, rfl, heap_alloc_new' w _, fun hg => Nat.lt_irrefl _ (h _ hg)⟩
theorem Box1.mut {w w' : World} {e : TypeId} {cs : List Value} {v own : Value} {S : List Nat} (h : Box1 w e cs v own) (m : Mut S w w') (hS : ∀ g ∈ S, own.ownBlock = some g) : Box1 w' e cs v own := by
  obtain ⟨g, h1, h2, h3⟩ := h
  exact ⟨g, h1, m.get h2 (fun hg => h3 (hS g hg)), h3⟩
theorem Box1.mut' {w w' : World} {e e' : TypeId} {cs xs : List Value} {v own oth : Value} {k n base : Nat} (h : Box1 w e cs v own) (ho : w.ownsRow base e' k oth n xs) (hne : e' ≠ e) (m : Mut oth.ownBlock.toList w w') : Box1 w' e cs v own := by
  obtain ⟨g, h1, h2, h3⟩ := h
  exact ⟨g, h1, m.get h2 (fun hg => row_ne ho h2 hne (by simpa using hg)), h3⟩
theorem Box1.own {w : World} {e : TypeId} {cs : List Value} {v own own' : Value} (h : Box1 w e cs v own) (hf : ∀ g, own'.ownBlock = some g → own.ownBlock = some g ∨ w.heap.size ≤ g) : Box1 w e cs v own' := by
  obtain ⟨g, h1, h2, h3⟩ := h
  refine ⟨g, h1, h2, fun hg => (hf g hg).elim h3 fun h => ?_⟩
  have := lt_of_heap h2
  omega
theorem row_lt {w : World} {base : Nat} {e : TypeId} {k n : Nat} {v : Value} {xs : List Value} (h : w.ownsRow base e k v n xs) : ∀ g, v.ownBlock = some g → g < w.heap.size := by
  intro g hg
  rcases h.2 with ⟨rfl, _⟩ | ⟨g1, c1, cur1, rfl, _, h1, _⟩
  · simp [Value.ownBlock] at hg
  · simp [Value.ownBlock] at hg
    subst hg
    exact lt_of_heap h1

/-- how far the statement is: which boxes are laid, which rows have grown -/
structure J2 (w0 : World) (ta tb : TypeId) (k n : Nat) (a0 b0 : Value) (xs cs : List Value) (b5 b6 b12 b13 : Bool) (v5 v6 v12 v13 : Value) (w : World) : Prop where
  two : TwoR w0 w ta tb k (if b6 = true then v6 else a0) (if b13 = true then v13 else b0) (if b6 = true then n + 1 else n) (if b13 = true then n + 1 else n) (if b6 = true then xs ++ cs else xs) (if b13 = true then xs ++ cs else xs)
  x5 : b5 = true → b6 = false → Box1 w ta cs v5 a0
  x12 : b12 = true → b13 = false → Box1 w tb cs v12 b0

section
variable {w0 w w1 : World} {ta tb : TypeId} {k n : Nat} {a0 b0 : Value} {xs cs : List Value} {b5 b6 b12 b13 : Bool} {v5 v6 v12 v13 : Value}
theorem J2.start (h : TwoR w0 w ta tb k a0 b0 n n xs xs) : J2 w0 ta tb k n a0 b0 xs cs false false false false v5 v6 v12 v13 w where
  two := h
  x5 := fun h => by cases h
  x12 := fun h => by cases h
theorem J2.mut (h : J2 w0 ta tb k n a0 b0 xs cs b5 b6 b12 b13 v5 v6 v12 v13 w) (m : Mut [] w w1) : J2 w0 ta tb k n a0 b0 xs cs b5 b6 b12 b13 v5 v6 v12 v13 w1 :=
  ⟨h.two.mut m, fun hb hb' => (h.x5 hb hb').mut m (by simp), fun hb hb' => (h.x12 hb hb').mut m (by simp)⟩
theorem J2.box5 (h : J2 w0 ta tb k n a0 b0 xs cs b5 false b12 b13 v5 v6 v12 v13 w) : J2 w0 ta tb k n a0 b0 xs cs true false b12 b13 (.slice (some ⟨w.heap.size, 0, none⟩) 1 1) v6 v12 v13 (w.alloc (.cells cs.toArray ta)) :=
  ⟨h.two.mut ((Mut.refl [] w).alloc _), fun _ _ => Box1.new w ta cs _ (row_lt h.two.a), fun hb hb' => (h.x12 hb hb').mut ((Mut.refl [] w).alloc _) (by simp)⟩
theorem J2.box12 (h : J2 w0 ta tb k n a0 b0 xs cs b5 b6 b12 false v5 v6 v12 v13 w) : J2 w0 ta tb k n a0 b0 xs cs b5 b6 true false v5 v6 (.slice (some ⟨w.heap.size, 0, none⟩) 1 1) v13 (w.alloc (.cells cs.toArray tb)) :=
  ⟨h.two.mut ((Mut.refl [] w).alloc _), fun hb hb' => (h.x5 hb hb').mut ((Mut.refl [] w).alloc _) (by simp), fun _ _ => Box1.new w tb cs _ (row_lt h.two.b)⟩
theorem J2.app6 (hne : ta ≠ tb) (h : J2 w0 ta tb k n a0 b0 xs cs b5 false b12 b13 v5 v6 v12 v13 w) {v' : Value} (hr : w1.ownsRow 0 ta k v' (n + 1) (xs ++ cs)) (hg : w.grownBy w1 a0.ownBlock) (hf : ∀ g, v'.ownBlock = some g → a0.ownBlock = some g ∨ w.heap.size ≤ g) :
    J2 w0 ta tb k n a0 b0 xs cs b5 true b12 b13 v5 v' v12 v13 w1 := by
  have hm : Mut a0.ownBlock.toList w w1 := (Mut.refl _ w).grown hg (fun k hk => .inl (by simp [hk]))
  have ha := h.two.a
  simp only [Bool.false_eq_true, if_false] at ha
  exact ⟨TwoR.appA hne h.two hr hg hf, fun _ hb => (by cases hb), fun hb hb' => (h.x12 hb hb').mut' ha hne hm⟩
theorem J2.app13 (hne : ta ≠ tb) (h : J2 w0 ta tb k n a0 b0 xs cs b5 true b12 false v5 v6 v12 v13 w) {v' : Value} (hr : w1.ownsRow 0 tb k v' (n + 1) (xs ++ cs)) (hg : w.grownBy w1 b0.ownBlock) (hf : ∀ g, v'.ownBlock = some g → b0.ownBlock = some g ∨ w.heap.size ≤ g) :
    J2 w0 ta tb k n a0 b0 xs cs b5 true b12 true v5 v6 v12 v' w1 :=
  ⟨TwoR.appB hne h.two hr hg hf, fun _ hb => (by cases hb), fun _ hb => (by cases hb)⟩
end

theorem lget_ne {l : Array Bool} {i j : Nat} (h : i ≠ j) : (l.setIfInBounds i true).getD j false = l.getD j false := by
  rw [Array.getD_eq_getD_getElem?, Array.getElem?_setIfInBounds_ne h, ← Array.getD_eq_getD_getElem?]
theorem vget_ne {vs : List Value} {i j : Nat} {u : Value} (h : i ≠ j) : (vs.set i u).getD j undef = vs.getD j undef := by
  rw [List.getD_eq_getElem?_getD, List.getElem?_set_ne h, ← List.getD_eq_getElem?_getD]
theorem vget_same {vs : List Value} {i : Nat} {u : Value} (h : i < vs.length) : (vs.set i u).getD i undef = u := by
  rw [List.getD_eq_getElem?_getD, List.getElem?_set_self h]
  rfl

/-- where such a statement is: sixteen operations, 5 and 12 lay the boxes, 6 and 13 append, 14 and 15 hand over -/
structure S2 (a0 : Act) (dl : List Nat) (cl : List (Option Value)) (w0 : World) (ta tb : TypeId) (k n : Nat) (va vb : Value) (xs cs : List Value) (vs : List Value) (listed : Array Bool) (a : Act) (w : World) : Prop where
  g : InvG a0 dl vs listed a
  c : ∀ i x, cl[i]? = some (some x) → listed.getD i false = true → vs[i]? = some x
  e14 : listed.getD 14 false = true → vs.getD 14 undef = vs.getD 6 undef
  e15 : listed.getD 15 false = true → vs.getD 15 undef = vs.getD 13 undef
  j : J2 w0 ta tb k n va vb xs cs (listed.getD 5 false) (listed.getD 6 false) (listed.getD 12 false) (listed.getD 13 false) (vs.getD 5 undef) (vs.getD 6 undef) (vs.getD 12 undef) (vs.getD 13 undef) w

section
variable {a0 : Act} {dl : List Nat} {cl : List (Option Value)} {w0 w w1 : World} {ta tb : TypeId} {k n : Nat} {va vb : Value} {xs cs vs : List Value} {listed : Array Bool} {a : Act}

theorem S2.start (h : TwoR w0 w ta tb k va vb n n xs xs) : S2 a0 dl cl w0 ta tb k n va vb xs cs (List.replicate dl.length undef) (Array.replicate 16 false) a0 w where
  g := InvG.start a0 dl 16
  c := fun i x _ hl => by
    rw [Array.getD_eq_getD_getElem?, Array.getElem?_replicate] at hl
    split at hl <;> simp at hl
  e14 := fun hl => by
    rw [Array.getD_eq_getD_getElem?, Array.getElem?_replicate] at hl
    split at hl <;> simp at hl
  e15 := fun hl => by
    rw [Array.getD_eq_getD_getElem?, Array.getElem?_replicate] at hl
    split at hl <;> simp at hl
  j := J2.start h

theorem S2.cset (h : S2 a0 dl cl w0 ta tb k n va vb xs cs vs listed a w) (hz : listed.size = dl.length) (i : Nat) (u : Value) (hi : i < dl.length) (hu : ∀ x, cl[i]? = some (some x) → u = x) : ∀ j x, cl[j]? = some (some x) → (listed.setIfInBounds i true).getD j false = true → (vs.set i u)[j]? = some x := by
  intro j x hj hl
  by_cases e : i = j
  · subst e
    rw [List.getElem?_set_self (by rw [h.g.ln]; exact hi), hu x hj]
  · rw [List.getElem?_set_ne e]
    rw [lget_ne e] at hl
    exact h.c j x hj hl

theorem S2.pure (h : S2 a0 dl cl w0 ta tb k n va vb xs cs vs listed a w) (hn : dl.Nodup) (hb : ∀ d ∈ dl, d < a0.tmps.size) (hz : listed.size = dl.length) (i d : Nat) (u : Value) (hi : i ≠ 5 ∧ i ≠ 6 ∧ i ≠ 12 ∧ i ≠ 13 ∧ i ≠ 14 ∧ i ≠ 15) (hd : dl[i]? = some d) (hu : cl[i]? = some (some u)) :
    S2 a0 dl cl w0 ta tb k n va vb xs cs (vs.set i u) (listed.setIfInBounds i true) (a.put (some d) u) w := by
  have hlt := (List.getElem?_eq_some_iff.1 hd).1
  obtain ⟨h5, h6, h12, h13, h14, h15⟩ := hi
  refine ⟨h.g.step hn hb hz i d u hd, h.cset hz i u hlt (fun x hx => by rw [hu] at hx; cases hx; rfl), ?_, ?_, ?_⟩
  · rw [lget_ne h14, vget_ne h14, vget_ne h6]; exact h.e14
  · rw [lget_ne h15, vget_ne h15, vget_ne h13]; exact h.e15
  · rw [lget_ne h5, lget_ne h6, lget_ne h12, lget_ne h13, vget_ne h5, vget_ne h6, vget_ne h12, vget_ne h13]; exact h.j

theorem S2.as14 (h : S2 a0 dl cl w0 ta tb k n va vb xs cs vs listed a w) (hn : dl.Nodup) (hb : ∀ d ∈ dl, d < a0.tmps.size) (hz : listed.size = dl.length) (d : Nat) (hd : dl[14]? = some d) (hu : cl[14]? = some none) :
    S2 a0 dl cl w0 ta tb k n va vb xs cs (vs.set 14 (vs.getD 6 undef)) (listed.setIfInBounds 14 true) (a.put (some d) (vs.getD 6 undef)) w := by
  have hlt := (List.getElem?_eq_some_iff.1 hd).1
  refine ⟨h.g.step hn hb hz 14 d _ hd, h.cset hz 14 _ hlt (fun x hx => by rw [hu] at hx; cases hx), ?_, ?_, ?_⟩
  · intro _
    rw [vget_same (by rw [h.g.ln]; exact hlt), vget_ne (by decide)]
  · rw [lget_ne (by decide), vget_ne (by decide), vget_ne (by decide)]; exact h.e15
  · rw [lget_ne (by decide), lget_ne (by decide), lget_ne (by decide), lget_ne (by decide), vget_ne (by decide), vget_ne (by decide), vget_ne (by decide), vget_ne (by decide)]; exact h.j
theorem S2.as15 (h : S2 a0 dl cl w0 ta tb k n va vb xs cs vs listed a w) (hn : dl.Nodup) (hb : ∀ d ∈ dl, d < a0.tmps.size) (hz : listed.size = dl.length) (d : Nat) (hd : dl[15]? = some d) (hu : cl[15]? = some none) :
    S2 a0 dl cl w0 ta tb k n va vb xs cs (vs.set 15 (vs.getD 13 undef)) (listed.setIfInBounds 15 true) (a.put (some d) (vs.getD 13 undef)) w := by
  have hlt := (List.getElem?_eq_some_iff.1 hd).1
  refine ⟨h.g.step hn hb hz 15 d _ hd, h.cset hz 15 _ hlt (fun x hx => by rw [hu] at hx; cases hx), ?_, ?_, ?_⟩
  · rw [lget_ne (by decide), vget_ne (by decide), vget_ne (by decide)]; exact h.e14
  · intro _
    rw [vget_same (by rw [h.g.ln]; exact hlt), vget_ne (by decide)]
  · rw [lget_ne (by decide), lget_ne (by decide), lget_ne (by decide), lget_ne (by decide), vget_ne (by decide), vget_ne (by decide), vget_ne (by decide), vget_ne (by decide)]; exact h.j
theorem S2.at5 (h : S2 a0 dl cl w0 ta tb k n va vb xs cs vs listed a w) (hn : dl.Nodup) (hb : ∀ d ∈ dl, d < a0.tmps.size) (hz : listed.size = dl.length) (h6 : listed.getD 6 false = false) (d : Nat) (hd : dl[5]? = some d) (hu : cl[5]? = some none) :
    S2 a0 dl cl w0 ta tb k n va vb xs cs (vs.set 5 (.slice (some ⟨w.heap.size, 0, none⟩) 1 1)) (listed.setIfInBounds 5 true) (a.put (some d) (.slice (some ⟨w.heap.size, 0, none⟩) 1 1)) (w.alloc (.cells cs.toArray ta)) := by
  have hlt := (List.getElem?_eq_some_iff.1 hd).1
  refine ⟨h.g.step hn hb hz 5 d _ hd, h.cset hz 5 _ hlt (fun x hx => by rw [hu] at hx; cases hx), ?_, ?_, ?_⟩
  · rw [lget_ne (by decide), vget_ne (by decide), vget_ne (by decide)]; exact h.e14
  · rw [lget_ne (by decide), vget_ne (by decide), vget_ne (by decide)]; exact h.e15
  · rw [set_true (by rw [hz]; exact hlt), lget_ne (by decide), lget_ne (by decide), lget_ne (by decide), vget_same (by rw [h.g.ln]; exact hlt), vget_ne (by decide), vget_ne (by decide), vget_ne (by decide)]
    have hj := h.j
    rw [h6] at hj ⊢
    exact hj.box5
theorem S2.at12 (h : S2 a0 dl cl w0 ta tb k n va vb xs cs vs listed a w) (hn : dl.Nodup) (hb : ∀ d ∈ dl, d < a0.tmps.size) (hz : listed.size = dl.length) (h13 : listed.getD 13 false = false) (d : Nat) (hd : dl[12]? = some d) (hu : cl[12]? = some none) :
    S2 a0 dl cl w0 ta tb k n va vb xs cs (vs.set 12 (.slice (some ⟨w.heap.size, 0, none⟩) 1 1)) (listed.setIfInBounds 12 true) (a.put (some d) (.slice (some ⟨w.heap.size, 0, none⟩) 1 1)) (w.alloc (.cells cs.toArray tb)) := by
  have hlt := (List.getElem?_eq_some_iff.1 hd).1
  refine ⟨h.g.step hn hb hz 12 d _ hd, h.cset hz 12 _ hlt (fun x hx => by rw [hu] at hx; cases hx), ?_, ?_, ?_⟩
  · rw [lget_ne (by decide), vget_ne (by decide), vget_ne (by decide)]; exact h.e14
  · rw [lget_ne (by decide), vget_ne (by decide), vget_ne (by decide)]; exact h.e15
  · rw [lget_ne (by decide), lget_ne (by decide), set_true (by rw [hz]; exact hlt), lget_ne (by decide), vget_ne (by decide), vget_ne (by decide), vget_same (by rw [h.g.ln]; exact hlt), vget_ne (by decide)]
    have hj := h.j
    rw [h13] at hj ⊢
    exact hj.box12
theorem S2.at6 (hne : ta ≠ tb) (h : S2 a0 dl cl w0 ta tb k n va vb xs cs vs listed a w) (hn : dl.Nodup) (hb : ∀ d ∈ dl, d < a0.tmps.size) (hz : listed.size = dl.length) (h6 : listed.getD 6 false = false) (h14 : listed.getD 14 false = false) (d : Nat) (hd : dl[6]? = some d) (hu : cl[6]? = some none)
    {v' : Value} (hr : w1.ownsRow 0 ta k v' (n + 1) (xs ++ cs)) (hg : w.grownBy w1 va.ownBlock) (hf : ∀ g, v'.ownBlock = some g → va.ownBlock = some g ∨ w.heap.size ≤ g) :
    S2 a0 dl cl w0 ta tb k n va vb xs cs (vs.set 6 v') (listed.setIfInBounds 6 true) (a.put (some d) v') w1 := by
  have hlt := (List.getElem?_eq_some_iff.1 hd).1
  refine ⟨h.g.step hn hb hz 6 d _ hd, h.cset hz 6 _ hlt (fun x hx => by rw [hu] at hx; cases hx), ?_, ?_, ?_⟩
  · rw [lget_ne (by decide), h14]; intro h; cases h
  · rw [lget_ne (by decide), vget_ne (by decide), vget_ne (by decide)]; exact h.e15
  · rw [lget_ne (by decide), set_true (by rw [hz]; exact hlt), lget_ne (by decide), lget_ne (by decide), vget_ne (by decide), vget_same (by rw [h.g.ln]; exact hlt), vget_ne (by decide), vget_ne (by decide)]
    have hj := h.j
    rw [h6] at hj
    exact hj.app6 hne hr hg hf
theorem S2.at13 (hne : ta ≠ tb) (h : S2 a0 dl cl w0 ta tb k n va vb xs cs vs listed a w) (hn : dl.Nodup) (hb : ∀ d ∈ dl, d < a0.tmps.size) (hz : listed.size = dl.length) (h6 : listed.getD 6 false = true) (h13 : listed.getD 13 false = false) (h15 : listed.getD 15 false = false) (d : Nat) (hd : dl[13]? = some d) (hu : cl[13]? = some none)
    {v' : Value} (hr : w1.ownsRow 0 tb k v' (n + 1) (xs ++ cs)) (hg : w.grownBy w1 vb.ownBlock) (hf : ∀ g, v'.ownBlock = some g → vb.ownBlock = some g ∨ w.heap.size ≤ g) :
    S2 a0 dl cl w0 ta tb k n va vb xs cs (vs.set 13 v') (listed.setIfInBounds 13 true) (a.put (some d) v') w1 := by
  have hlt := (List.getElem?_eq_some_iff.1 hd).1
  refine ⟨h.g.step hn hb hz 13 d _ hd, h.cset hz 13 _ hlt (fun x hx => by rw [hu] at hx; cases hx), ?_, ?_, ?_⟩
  · rw [lget_ne (by decide), vget_ne (by decide), vget_ne (by decide)]; exact h.e14
  · rw [lget_ne (by decide), h15]; intro h; cases h
  · rw [lget_ne (by decide), lget_ne (by decide), lget_ne (by decide), set_true (by rw [hz]; exact hlt), vget_ne (by decide), vget_ne (by decide), vget_ne (by decide), vget_same (by rw [h.g.ln]; exact hlt)]
    have hj := h.j
    rw [h13, h6] at hj
    rw [h6]
    exact hj.app13 hne hr hg hf
/-- all sixteen have come up -/
theorem S2.final (h : S2 a0 dl cl w0 ta tb k n va vb xs cs vs listed a w) (hn : dl.Nodup) (hb : ∀ d ∈ dl, d < a0.tmps.size) (hl : dl.length = 16) (c0 c1 c2 c3 c4 c7 c8 c9 c10 c11 : Value) (hcl : cl = [some c0, some c1, some c2, some c3, some c4, none, none, some c7, some c8, some c9, some c10, some c11, none, none, none, none]) (hall : ∀ i, i < 16 → listed.getD i false = true) :
    ∃ v5 v6 v12 v13, a = fillA a0 dl [c0, c1, c2, c3, c4, v5, v6, c7, c8, c9, c10, c11, v12, v13, v6, v13] ∧ TwoR w0 w ta tb k v6 v13 (n + 1) (n + 1) (xs ++ cs) (xs ++ cs) := by
  have e := h.g.done hn hb (fun i hi => hall i (by omega))
  have hj := h.j.two
  rw [hall 6 (by decide), hall 13 (by decide)] at hj
  refine ⟨vs.getD 5 undef, vs.getD 6 undef, vs.getD 12 undef, vs.getD 13 undef, ?_, hj⟩
  rw [e]
  congr 1
  have hlen : vs.length = 16 := by rw [h.g.ln, hl]
  subst hcl
  have g := fun i (hi : i < 16) x (hx : _) => h.c i x hx (hall i hi)
  have e14 := h.e14 (hall 14 (by decide))
  have e15 := h.e15 (hall 15 (by decide))
  have g0 := g 0 (by decide) c0 rfl
  have g1 := g 1 (by decide) c1 rfl
  have g2 := g 2 (by decide) c2 rfl
  have g3 := g 3 (by decide) c3 rfl
  have g4 := g 4 (by decide) c4 rfl
  have g7 := g 7 (by decide) c7 rfl
  have g8 := g 8 (by decide) c8 rfl
  have g9 := g 9 (by decide) c9 rfl
  have g10 := g 10 (by decide) c10 rfl
  have g11 := g 11 (by decide) c11 rfl
  clear g
  match vs, hlen with
  | [x0, x1, x2, x3, x4, x5, x6, x7, x8, x9, x10, x11, x12, x13, x14, x15], _ =>
    simp at g0 g1 g2 g3 g4 g7 g8 g9 g10 g11 e14 e15
    simp [*]
end

end Go.Proofs.Ytgjcnembeebjfaa

namespace Go.Proofs.Ytgjcnembeebjfaa
open Go Go.ChangeShapes Go.WideShapes Go.ChangeAt Go.RowKit Go.Deep

/-- a slice of parts that came in -/
def PrtsI (w : World) (v : Value) (L : List GPart) : Prop :=
  ∃ ao cap, v = .slice ao L.length cap ∧ L.length ≤ cap ∧ cap ≤ maxLen ∧ (0 < L.length → ∃ b off, ao = some ⟨b, off, none⟩ ∧ b < w.heap.size ∧ ∀ i (h : i < L.length), ∀ j u, (gpC (L[i]'h))[j]? = some u → w.cell? ⟨b, off + (i * 9 + j), none⟩ = some u)

instance : Inhabited GPart := ⟨{}⟩

/-- how much they hold -/
def gpSum (L : List GPart) : Nat := (L.map fun p => p.name.size + p.comment.size + p.extra.size + p.data.size + 1).sum

set_option maxRecDepth 100000 in
theorem cells_prt : Try.prog.cellsOf 43 = 9 := by kernel_rfl
set_option maxRecDepth 100000 in
theorem cells_prtI : Try.prog.cellsOf 3 = 1 := by kernel_rfl
set_option maxRecDepth 100000 in
theorem cells_prtS : Try.prog.cellsOf 9 = 1 := by kernel_rfl
set_option maxRecDepth 100000 in
theorem cells_prtB : Try.prog.cellsOf 4 = 1 := by kernel_rfl

def prtData {H : Type} (p : GPart) : DataW H := .agg [.lit (.string p.name.data.toList), .lit (.string p.comment.data.toList), .lit (.string p.extra.data.toList), .lit (.bool p.text), .lit (.bool p.headSum), .lit (.int .i64 p.time), .lit (.int .i64 p.more), .lit (.int .i64 p.system), .lit (.string p.data.data.toList)]

theorem bulkAll_append' {H : Type} (l r : List (DataW H)) : Rows.uptoBulkAll (l ++ r) = Rows.uptoBulkAll l + Rows.uptoBulkAll r := by
  induction l with
  | nil => simp [Rows.uptoBulkAll]
  | cons x l ih => simp only [List.cons_append, Rows.uptoBulkAll, ih]; omega

theorem prt_bulk {H : Type} (f : Nat → GPart) (D : Nat → DataW H) (n : Nat) (hD : ∀ i, i < n → D i = prtData (f i)) : gpSum ((List.range n).map f) ≤ Rows.uptoBulkAll ((List.range n).map D) := by
  induction n with
  | zero => simp [gpSum]
  | succ n ih =>
    have h := ih fun i hi => hD i (by omega)
    have e : Rows.uptoBulkAll ([n].map D) ≥ (f n).name.size + (f n).comment.size + (f n).extra.size + (f n).data.size + 1 := by
      have z : ∀ s : ByteArray, s.data.toList.length = s.size := fun s => by simp
      simp only [List.map_cons, List.map_nil, Rows.uptoBulkAll, hD n (by omega), prtData, Rows.uptoBulk, z]
      omega
    rw [List.range_succ, List.map_append, List.map_append, bulkAll_append']
    unfold gpSum at *
    rw [List.map_append, List.sum_append]
    simp only [List.map_cons, List.map_nil, List.sum_cons, List.sum_nil] at e ⊢
    omega

set_option maxRecDepth 100000 in
theorem open_Prts {H : Type} {enc : TypeId × Value → H} {W : World} {r : Reach} {b0 : Nat} {v : Value} {d : DataW H} {p : List MemPlace}
    (hv : Value.okWide Try.prog W r b0 39 v) (h : DataW.Trod enc Try.prog W 0 (fun _ => true) true 39 v d p) : ∃ L, PrtsI W v L ∧ gpSum L ≤ Rows.uptoBulk d := by
  obtain ⟨a0, len0, cap0, rfl⟩ := okWide_slice Try.underlying39 hv
  obtain ⟨fuel, hf⟩ := h
  rcases open_slice Try.underlying39 hf with ⟨hcs, hx⟩ | ⟨a, len, cap, m, n, D, Pl, hcs, _, hl, hm, hmm, hx, hel⟩
  · simp [Value.cells] at hcs
    obtain ⟨rfl, rfl, rfl⟩ := hcs
    exact ⟨[], ⟨none, 0, rfl, Nat.le_refl _, Nat.zero_le _, fun h => absurd h (by simp)⟩, Nat.zero_le _⟩
  · simp [Value.cells] at hcs
    obtain ⟨rfl, rfl, rfl⟩ := hcs
    simp only [Prod.mk.injEq] at hx
    obtain ⟨rfl, _⟩ := hx
    simp only [if_true] at hmm
    subst hmm
    obtain ⟨f, hfi⟩ := choose_lt (α := GPart) (p := fun i x => D i = prtData x ∧ ∀ j, j < 9 → ∃ u, (gpC x)[j]? = some u ∧ W.cell? (a.add (i * 9 + j)) = some u) (n := m) (fun i hi => by
      obtain ⟨cs', hc, ht⟩ := hel i hi
      rw [cells_prt] at hc
      obtain ⟨_, hlen, hat⟩ := World.cells?_some hc
      obtain ⟨ys, n', _, hy, _, hyl, hf⟩ := DataW.trod_struct Try.underlying43 ht
      simp only [Prod.mk.injEq] at hy
      match cs', hlen with
      | [c0, c1, c2, c3, c4, c5, c6, c7, c8], _ =>
        match ys, hyl with
        | [y0, y1, y2, y3, y4, y5, y6, y7, y8], _ =>
          have g0 : DataW.trod enc Try.prog W 0 (fun _ => true) true n' 9 (([c0, c1, c2, c3, c4, c5, c6, c7, c8].drop 0).take (Try.prog.cellsOf 9)) = some y0 := hf 0 _ rfl
          have g1 : DataW.trod enc Try.prog W 0 (fun _ => true) true n' 9 (([c0, c1, c2, c3, c4, c5, c6, c7, c8].drop 1).take (Try.prog.cellsOf 9)) = some y1 := hf 1 _ rfl
          have g2 : DataW.trod enc Try.prog W 0 (fun _ => true) true n' 9 (([c0, c1, c2, c3, c4, c5, c6, c7, c8].drop 2).take (Try.prog.cellsOf 9)) = some y2 := hf 2 _ rfl
          have g3 : DataW.trod enc Try.prog W 0 (fun _ => true) true n' 4 (([c0, c1, c2, c3, c4, c5, c6, c7, c8].drop 3).take (Try.prog.cellsOf 4)) = some y3 := hf 3 _ rfl
          have g4 : DataW.trod enc Try.prog W 0 (fun _ => true) true n' 4 (([c0, c1, c2, c3, c4, c5, c6, c7, c8].drop 4).take (Try.prog.cellsOf 4)) = some y4 := hf 4 _ rfl
          have g5 : DataW.trod enc Try.prog W 0 (fun _ => true) true n' 3 (([c0, c1, c2, c3, c4, c5, c6, c7, c8].drop 5).take (Try.prog.cellsOf 3)) = some y5 := hf 5 _ rfl
          have g6 : DataW.trod enc Try.prog W 0 (fun _ => true) true n' 3 (([c0, c1, c2, c3, c4, c5, c6, c7, c8].drop 6).take (Try.prog.cellsOf 3)) = some y6 := hf 6 _ rfl
          have g7 : DataW.trod enc Try.prog W 0 (fun _ => true) true n' 3 (([c0, c1, c2, c3, c4, c5, c6, c7, c8].drop 7).take (Try.prog.cellsOf 3)) = some y7 := hf 7 _ rfl
          have g8 : DataW.trod enc Try.prog W 0 (fun _ => true) true n' 9 (([c0, c1, c2, c3, c4, c5, c6, c7, c8].drop 8).take (Try.prog.cellsOf 9)) = some y8 := hf 8 _ rfl
          rw [cells_prtS] at g0 g1 g2 g8
          rw [cells_prtB] at g3 g4
          rw [cells_prtI] at g5 g6 g7
          obtain ⟨z0, e0, r0, _⟩ := DataW.trod_string Try.underlying9 g0
          obtain ⟨z1, e1, r1, _⟩ := DataW.trod_string Try.underlying9 g1
          obtain ⟨z2, e2, r2, _⟩ := DataW.trod_string Try.underlying9 g2
          obtain ⟨z3, e3, r3⟩ := DataW.trod_bool Try.underlying4 g3
          obtain ⟨z4, e4, r4⟩ := DataW.trod_bool Try.underlying4 g4
          obtain ⟨z5, e5, r5, _⟩ := DataW.trod_int Try.underlying3 g5
          obtain ⟨z6, e6, r6, _⟩ := DataW.trod_int Try.underlying3 g6
          obtain ⟨z7, e7, r7, _⟩ := DataW.trod_int Try.underlying3 g7
          obtain ⟨z8, e8, r8, _⟩ := DataW.trod_string Try.underlying9 g8
          simp at e0 e1 e2 e3 e4 e5 e6 e7 e8
          subst e0 e1 e2 e3 e4 e5 e6 e7 e8 r0 r1 r2 r3 r4 r5 r6 r7 r8
          refine ⟨⟨z0, z1, z2, z3, z4, z5, z6, z7, z8⟩, by rw [hy.1]; rfl, fun j hj => ?_⟩
          have h := hat j hj
          rw [add_add] at h
          refine ⟨_, List.getElem?_eq_getElem (by simp [gpC]; exact hj), ?_⟩
          rw [h]
          rcases (by omega : j = 0 ∨ j = 1 ∨ j = 2 ∨ j = 3 ∨ j = 4 ∨ j = 5 ∨ j = 6 ∨ j = 7 ∨ j = 8) with rfl | rfl | rfl | rfl | rfl | rfl | rfl | rfl | rfl <;> rfl)
    have hlC : ((List.range len0).map f).length = len0 := by simp
    refine ⟨(List.range len0).map f, ⟨some a, m, by rw [hlC], by rw [hlC]; exact hl, hm, fun hp => ?_⟩, ?_⟩
    · rw [hlC] at hp
      obtain ⟨b, off, spot⟩ := a
      obtain ⟨u0, -, hu0⟩ := (hfi 0 (by omega)).2 0 (by decide)
      have hspot : spot = none := by simpa [Addr.add] using World.cell?_spot hu0
      subst hspot
      have pl : ∀ j, (⟨b, off, none⟩ : Addr).add j = ⟨b, off + j, none⟩ := fun j => add_plain b off j
      refine ⟨b, off, rfl, World.block_lt_of_cell? W ⟨b, off + (0 * 9 + 0), none⟩ (by rw [pl] at hu0; exact hu0), fun i hi j u hu => ?_⟩
      rw [hlC] at hi
      simp only [List.getElem_map, List.getElem_range] at hu
      have hj : j < 9 := by
        have := (List.getElem?_eq_some_iff.1 hu).1
        simpa [gpC] using this
      obtain ⟨u', h1, h2⟩ := (hfi i (by omega)).2 j hj
      rw [hu] at h1
      cases h1
      rw [pl] at h2
      exact h2
    · have := prt_bulk (H := H) f D len0 fun i hi => (hfi i (by omega)).1
      simp only [Rows.uptoBulk]
      omega

end Go.Proofs.Ytgjcnembeebjfaa

namespace Go.Proofs.Ytgjcnembeebjfaa
open Go Go.ChangeShapes Go.WideShapes Go.ChangeAt Go.RowKit Go.Deep

/-- a slice of choices that came in -/
def ChsZ (w : World) (v : Value) (C : List Ch) : Prop :=
  ∃ ao cap, v = .slice ao C.length cap ∧ C.length ≤ cap ∧ cap ≤ maxLen ∧ (0 < C.length → ∃ b off, ao = some ⟨b, off, none⟩ ∧ b < w.heap.size ∧ ∀ i (h : i < C.length), w.cell? ⟨b, off + i * 3, none⟩ = some (.int .i64 (C[i]'h).1) ∧ w.cell? ⟨b, off + i * 3 + 1, none⟩ = some (.int .i64 (C[i]'h).2.1) ∧ w.cell? ⟨b, off + i * 3 + 2, none⟩ = some (.int .i64 (C[i]'h).2.2)) ∧
    ∀ c ∈ C, -9223372036854775808 ≤ c.1 ∧ c.1 ≤ 9223372036854775807

set_option maxRecDepth 100000 in
theorem cells_chZ : Try.prog.cellsOf 47 = 3 := by kernel_rfl
set_option maxRecDepth 100000 in
theorem cells_chiZ : Try.prog.cellsOf 3 = 1 := by kernel_rfl

set_option maxRecDepth 100000 in
theorem open_ChsZ {H : Type} {enc : TypeId × Value → H} {W : World} {r : Reach} {b0 : Nat} {v : Value} {d : DataW H} {p : List MemPlace}
    (hv : Value.okWide Try.prog W r b0 40 v) (h : DataW.Trod enc Try.prog W 0 (fun _ => true) true 40 v d p) : ∃ C, ChsZ W v C ∧ C.length = dataLen d := by
  obtain ⟨a0, len0, cap0, rfl⟩ := okWide_slice Try.underlying40 hv
  obtain ⟨fuel, hf⟩ := h
  rcases open_slice Try.underlying40 hf with ⟨hcs, hx⟩ | ⟨a, len, cap, m, n, D, Pl, hcs, _, hl, hm, hmm, hx, hel⟩
  · simp [Value.cells] at hcs
    obtain ⟨rfl, rfl, rfl⟩ := hcs
    simp only [Prod.mk.injEq] at hx
    obtain ⟨rfl, _⟩ := hx
    exact ⟨[], ⟨none, 0, rfl, Nat.le_refl _, Nat.zero_le _, fun h => absurd h (by simp), by simp⟩, rfl⟩
  · simp [Value.cells] at hcs
    obtain ⟨rfl, rfl, rfl⟩ := hcs
    simp only [Prod.mk.injEq] at hx
    obtain ⟨rfl, _⟩ := hx
    simp only [if_true] at hmm
    subst hmm
    obtain ⟨f, hfi⟩ := choose_lt (α := Ch) (p := fun i x => (Lit.int .i64 x.1).wf = true ∧ W.cell? (a.add (i * 3)) = some (.int .i64 x.1) ∧ W.cell? (a.add (i * 3 + 1)) = some (.int .i64 x.2.1) ∧
        W.cell? (a.add (i * 3 + 2)) = some (.int .i64 x.2.2)) (n := m) (fun i hi => by
      obtain ⟨cs', hc, ht⟩ := hel i hi
      rw [cells_chZ] at hc
      obtain ⟨_, hlen, hat⟩ := World.cells?_some hc
      obtain ⟨ys, n', _, hy, _, hyl, hf⟩ := DataW.trod_struct Try.underlying47 ht
      simp only [Prod.mk.injEq] at hy
      match cs', hlen with
      | [c0, c1, c2], _ =>
        match ys, hyl with
        | [y0, y1, y2], _ =>
          have g0 : DataW.trod enc Try.prog W 0 (fun _ => true) true n' 3 (([c0, c1, c2].drop 0).take (Try.prog.cellsOf 3)) = some y0 := hf 0 _ rfl
          have g1 : DataW.trod enc Try.prog W 0 (fun _ => true) true n' 3 (([c0, c1, c2].drop 1).take (Try.prog.cellsOf 3)) = some y1 := hf 1 _ rfl
          have g2 : DataW.trod enc Try.prog W 0 (fun _ => true) true n' 3 (([c0, c1, c2].drop 2).take (Try.prog.cellsOf 3)) = some y2 := hf 2 _ rfl
          rw [cells_chiZ] at g0 g1 g2
          obtain ⟨z0, e0, r0, w0⟩ := DataW.trod_int Try.underlying3 g0
          obtain ⟨z1, e1, r1, w1⟩ := DataW.trod_int Try.underlying3 g1
          obtain ⟨z2, e2, r2, w2⟩ := DataW.trod_int Try.underlying3 g2
          simp at e0 e1 e2
          subst e0 e1 e2 r0 r1 r2
          refine ⟨(z0, z1, z2), w0, ?_, ?_, ?_⟩
          · have := hat 0 (by decide); rw [add_add] at this; simpa using this
          · have := hat 1 (by decide); rw [add_add] at this; simpa using this
          · have := hat 2 (by decide); rw [add_add] at this; simpa using this)
    have hlC : ((List.range len0).map f).length = len0 := by simp
    refine ⟨(List.range len0).map f, ⟨some a, m, by rw [hlC], by rw [hlC]; exact hl, hm, fun hp => ?_, fun c hc => ?_⟩, by rw [hlC]; simp [dataLen]⟩
    · rw [hlC] at hp
      obtain ⟨b, off, spot⟩ := a
      have hspot : spot = none := by simpa [Addr.add] using World.cell?_spot (hfi 0 (by omega)).2.1
      subst hspot
      have pl : ∀ j, (⟨b, off, none⟩ : Addr).add j = ⟨b, off + j, none⟩ := fun j => add_plain b off j
      refine ⟨b, off, rfl, World.block_lt_of_cell? W ⟨b, off + 0 * 3, none⟩ (by have := (hfi 0 (by omega)).2.1; rwa [pl] at this), fun i hi => ?_⟩
      rw [hlC] at hi
      obtain ⟨_, h0, h1, h2⟩ := hfi i (by omega)
      rw [pl] at h0 h1 h2
      simp only [List.getElem_map, List.getElem_range]
      exact ⟨h0, by rw [← h1, Nat.add_assoc], by rw [← h2, Nat.add_assoc]⟩
    · obtain ⟨i, hi, rfl⟩ := List.mem_map.1 hc
      exact bounds_i64 (hfi i (by have := List.mem_range.1 hi; omega)).1

end Go.Proofs.Ytgjcnembeebjfaa

namespace Go.Proofs.Ytgjcnembeebjfaa
open Go.RowKit
set_option linter.unusedVariables false

set_option maxHeartbeats 1600000 in
set_option maxRecDepth 100000 in
theorem parts_any (L : List GPart) (n : Nat) (hn : L.length = n) (hn2 : n ≤ 1073741824) (pa pb : Option Addr) (ca cb : Nat) (w : World) (ra : w.ownsRow 0 37 9 (.slice pa n ca) n (gpL L)) (rb : w.ownsRow 0 44 9 (.slice pb n cb) n (gpL L)) :
    Calls Try.prog 12 #[.slice pa n ca, .slice pb n cb] w fun e w' => e = .returned (.bool true) ∧ Mut [] w w' := by
  have HA := Lib.hid ra
  have HB := Lib.hid rb
  have HN := Lib.hid hn
  have HM := Lib.hid (Mut.refl [] w)
  have hnn : ((n : Int) == (n : Int)) = true := by simp
  clear ra rb hn
  go_enter Try.func12, Try.ntmps12
  go_wp2_with fail
  go_loopg [5] n (fun g c wr => ∃ i : Nat, g = n - i ∧ i ≤ n ∧ c = .int .i64 (i : Int) ∧ Hid (Mut [] w wr))
  case atStart => exact ⟨0, rfl, Nat.zero_le _, rfl, HM⟩
  case round =>
    obtain ⟨i, rfl, hi, rfl, HR⟩ := hrel
    clear HM
    by_cases hlt : i < n
    case neg =>
      obtain rfl : i = n := by omega
      have hI : ¬ (i : Int) < (i : Int) := by omega
      go_wp2_with fail
      exact bodyPost_ret (results_tmp rfl _ _ _) rfl ⟨rfl, HR.out⟩
    case pos =>
      have hI : (i : Int) < (n : Int) := by omega
      have hI0 : (0 : Int) ≤ (i : Int) := by omega
      have hil : i < L.length := by rw [HN.out]; exact hlt
      obtain ⟨G1, cp1, e1, -, -⟩ := row_some HA.out (by omega)
      cases e1
      obtain ⟨G2, cp2, e2, -, -⟩ := row_some HB.out (by omega)
      cases e2
      have d := rowAt9 (n := n) (HA.out.mut' HR.out (by simp)) i hil
      have d' := rowAt9 (n := n) (HB.out.mut' HR.out (by simp)) i hil
      generalize L[i] = p at *
      have x0 : ∀ j, (wr.drewN j).cell? ⟨G1, i * 9, none⟩ = some (.string p.name) := fun j => d 0 (.string p.name) (by decide) rfl
      have x1 : ∀ j, (wr.drewN j).cell? ⟨G1, i * 9 + 1, none⟩ = some (.string p.comment) := fun j => d 1 (.string p.comment) (by decide) rfl
      have x2 : ∀ j, (wr.drewN j).cell? ⟨G1, i * 9 + 2, none⟩ = some (.string p.extra) := fun j => d 2 (.string p.extra) (by decide) rfl
      have x3 : ∀ j, (wr.drewN j).cell? ⟨G1, i * 9 + 3, none⟩ = some (.bool p.text) := fun j => d 3 (.bool p.text) (by decide) rfl
      have x4 : ∀ j, (wr.drewN j).cell? ⟨G1, i * 9 + 4, none⟩ = some (.bool p.headSum) := fun j => d 4 (.bool p.headSum) (by decide) rfl
      have x5 : ∀ j, (wr.drewN j).cell? ⟨G1, i * 9 + 5, none⟩ = some (.int .i64 p.time) := fun j => d 5 (.int .i64 p.time) (by decide) rfl
      have x6 : ∀ j, (wr.drewN j).cell? ⟨G1, i * 9 + 6, none⟩ = some (.int .i64 p.more) := fun j => d 6 (.int .i64 p.more) (by decide) rfl
      have x7 : ∀ j, (wr.drewN j).cell? ⟨G1, i * 9 + 7, none⟩ = some (.int .i64 p.system) := fun j => d 7 (.int .i64 p.system) (by decide) rfl
      have x8 : ∀ j, (wr.drewN j).cell? ⟨G1, i * 9 + 8, none⟩ = some (.string p.data) := fun j => d 8 (.string p.data) (by decide) rfl
      have y0 : ∀ j, (wr.drewN j).cell? ⟨G2, i * 9, none⟩ = some (.string p.name) := fun j => d' 0 (.string p.name) (by decide) rfl
      have y1 : ∀ j, (wr.drewN j).cell? ⟨G2, i * 9 + 1, none⟩ = some (.string p.comment) := fun j => d' 1 (.string p.comment) (by decide) rfl
      have y2 : ∀ j, (wr.drewN j).cell? ⟨G2, i * 9 + 2, none⟩ = some (.string p.extra) := fun j => d' 2 (.string p.extra) (by decide) rfl
      have y3 : ∀ j, (wr.drewN j).cell? ⟨G2, i * 9 + 3, none⟩ = some (.bool p.text) := fun j => d' 3 (.bool p.text) (by decide) rfl
      have y4 : ∀ j, (wr.drewN j).cell? ⟨G2, i * 9 + 4, none⟩ = some (.bool p.headSum) := fun j => d' 4 (.bool p.headSum) (by decide) rfl
      have y5 : ∀ j, (wr.drewN j).cell? ⟨G2, i * 9 + 5, none⟩ = some (.int .i64 p.time) := fun j => d' 5 (.int .i64 p.time) (by decide) rfl
      have y6 : ∀ j, (wr.drewN j).cell? ⟨G2, i * 9 + 6, none⟩ = some (.int .i64 p.more) := fun j => d' 6 (.int .i64 p.more) (by decide) rfl
      have y7 : ∀ j, (wr.drewN j).cell? ⟨G2, i * 9 + 7, none⟩ = some (.int .i64 p.system) := fun j => d' 7 (.int .i64 p.system) (by decide) rfl
      have y8 : ∀ j, (wr.drewN j).cell? ⟨G2, i * 9 + 8, none⟩ = some (.string p.data) := fun j => d' 8 (.string p.data) (by decide) rfl
      have hss : ∀ s : ByteArray, (s.toList == s.toList) = true := fun s => by simp
      have hbb : ∀ s : Bool, (s == s) = true := fun s => by simp
      have hii : ∀ s : Int, (s == s) = true := fun s => by simp
      clear d d' hil
      go_wp2_with fail
      go_quiet (fail)
      have HR9 := Lib.hid (HR.out.drewN nq)
      clear x0 x1 x2 x3 x4 x5 x6 x7 x8 y0 y1 y2 y3 y4 y5 y6 y7 y8 HR
      go_wp2_with fail
      go_roundg (n - (i + 1))
      case measure => omega
      case rel => exact ⟨i + 1, rfl, by omega, by rw [Int.natCast_add]; rfl, HR9⟩

end Go.Proofs.Ytgjcnembeebjfaa

namespace Go.Proofs.Ytgjcnembeebjfaa
open Go.RowKit
set_option linter.unusedVariables false

set_option maxRecDepth 100000 in
theorem info_rgp : (Try.prog.info? 44).map (fun i => (i.zero, i.size, i.bytes)) = some (some (gpV {}), 9, 96) := by kernel_rfl
set_option maxRecDepth 100000 in
theorem info_chS5 : (Try.prog.info? 46).map (fun i => (i.zero, i.size, i.bytes)) = some (some (.agg #[.int .i64 0, .int .i64 0, .int .i64 0]), 3, 24) := by kernel_rfl
set_option maxRecDepth 100000 in
theorem info_chR5 : (Try.prog.info? 48).map (fun i => (i.zero, i.size, i.bytes)) = some (some (.agg #[.int .i64 0, .int .i64 0, .int .i64 0]), 3, 24) := by kernel_rfl
set_option maxRecDepth 100000 in
theorem run_bp (x0 x1 x2 x3 x4 x5 x6 x7 x8 : Value) (W : World) : (Instr.buildSlice 23 1 #[(0, .agg #[x0, x1, x2, x3, x4, x5, x6, x7, x8])]).run Try.prog W = .ok (.slice (some ⟨W.heap.size, 0, none⟩) 1 1) (W.alloc (.cells #[x0, x1, x2, x3, x4, x5, x6, x7, x8] 37)) := by kernel_rfl
set_option maxRecDepth 100000 in
theorem run_brp (x0 x1 x2 x3 x4 x5 x6 x7 x8 : Value) (W : World) : (Instr.buildSlice 29 1 #[(0, .agg #[x0, x1, x2, x3, x4, x5, x6, x7, x8])]).run Try.prog W = .ok (.slice (some ⟨W.heap.size, 0, none⟩) 1 1) (W.alloc (.cells #[x0, x1, x2, x3, x4, x5, x6, x7, x8] 44)) := by kernel_rfl
set_option maxRecDepth 100000 in
theorem run_bs (x0 x1 x2 : Value) (W : World) : (Instr.buildSlice 41 1 #[(0, .agg #[x0, x1, x2])]).run Try.prog W = .ok (.slice (some ⟨W.heap.size, 0, none⟩) 1 1) (W.alloc (.cells #[x0, x1, x2] 46)) := by kernel_rfl
set_option maxRecDepth 100000 in
theorem run_br (x0 x1 x2 : Value) (W : World) : (Instr.buildSlice 42 1 #[(0, .agg #[x0, x1, x2])]).run Try.prog W = .ok (.slice (some ⟨W.heap.size, 0, none⟩) 1 1) (W.alloc (.cells #[x0, x1, x2] 48)) := by kernel_rfl
theorem gpL_take (L : List GPart) (i : Nat) (h : i < L.length) : gpL (L.take (i + 1)) = gpL (L.take i) ++ gpC (L[i]'h) := by rw [List.take_succ_eq_append_getElem h, gpL_snoc]
theorem chC_take (C : List Ch) (i : Nat) (h : i < C.length) : chCells (C.take (i + 1)) = chCells (C.take i) ++ chCell (C[i]'h) := by rw [List.take_succ_eq_append_getElem h, chCells_snoc]
theorem gp_len (L : List GPart) (i : Nat) (h : i ≤ L.length) : (L.take i).length = i := by rw [List.length_take]; omega

set_option maxHeartbeats 12800000 in
set_option maxRecDepth 100000 in
theorem lawGzWrites {w : World} (v0 : Value) (L : List GPart) (h0 : PrtsI w v0 L) (hz0 : (L.map fun p => p.name.size + p.comment.size + p.extra.size + p.data.size + 1).sum ≤ 1048576) (v1 : Value) (C : List Ch) (h1 : ChsZ w v1 C) (hz1 : C.length ≤ 1048576) :
    Calls Try.prog 5 #[v0, v1] w fun e w' => e = .returned (.bool true) ∧ Below w.heap.size w w' := by
  obtain ⟨ao, cap, rfl, hcap, hmax, hcell⟩ := h0
  obtain ⟨co, ccap, rfl, hccap, hcmax, hccell, hck⟩ := h1
  obtain ⟨s, e, hW, hB⟩ := writes_plain L hz0 C hz1 hck
  have HW := Lib.hid hW
  have HBK := Lib.hid hB
  have HCELL := Lib.hid hcell
  have HCC := Lib.hid hccell
  have hLl : L.length ≤ 1048576 := by
    have : L.length ≤ (L.map fun p => p.name.size + p.comment.size + p.extra.size + p.data.size + 1).sum := by
      clear hz0 hcap hmax hcell hB hW HW HBK HCELL
      induction L with
      | nil => exact Nat.zero_le _
      | cons p r ih => rw [List.length_cons, List.map_cons, List.sum_cons]; omega
    omega
  have HZD : Hid ((L.map fun p => p.data.size).sum ≤ 1048576) := Lib.hid (Nat.le_trans (sum_le _ _ (fun p => by omega) L) hz0)
  have hcap' : cap ≤ 9223372036854775807 := by unfold maxLen at hmax; omega
  have hccap' : ccap ≤ 9223372036854775807 := by unfold maxLen at hcmax; omega
  have HS := Lib.hid (speaks5_any w)
  clear hcell hccell hck hW hB hz0 hmax hcmax
  go_enter Try.func5, Try.ntmps5
  go_wp2_with fail
  refine HS.out.mono ?_
  rintro e' w1 ⟨rfl, hm⟩
  have HT0 : Hid (TwoR w w1 37 44 9 (.slice none 0 0) (.slice none 0 0) 0 0 (gpL (L.take 0)) (gpL (L.take 0))) := Lib.hid ⟨World.ownsRow_nil _ _ _ _, World.ownsRow_nil _ _ _ _, by simp [Value.ownBlock], by simp [Value.ownBlock], hm⟩
  clear hm HS
  go_wp2_with fail
  go_loopg [5, 6, 9, 10] L.length (fun g a b z c wr => ∃ (i S : Nat) (pa : Option Addr) (qa : Nat) (pb : Option Addr) (qb : Nat), g = L.length - i ∧ a = .slice pa i qa ∧ b = .slice pb i qb ∧ z = .int .i64 (S : Int) ∧ c = .int .i64 (i : Int) ∧ i ≤ L.length ∧ S ≤ 1048576 ∧ Hid (((L.take i).map fun p => p.data.size).sum = S) ∧ Hid (TwoR w wr 37 44 9 (.slice pa i qa) (.slice pb i qb) i i (gpL (L.take i)) (gpL (L.take i))))
  case atStart => exact ⟨0, 0, none, 0, none, 0, rfl, rfl, rfl, rfl, rfl, Nat.zero_le _, by omega, Lib.hid rfl, HT0⟩
  case round =>
    obtain ⟨i, S, pa, qa, pb, qb, rfl, rfl, rfl, rfl, rfl, hi, hS, HSUM, HR⟩ := hrel
    clear HT0
    by_cases h1 : i < L.length
    case pos =>
      have h1I : (i : Int) < (L.length : Int) := by omega
      have hi0 : (0 : Int) ≤ (i : Int) := by omega
      obtain ⟨bl, off, rfl, hbl, hcc⟩ := HCELL.out (by omega)
      have hce := hcc i h1
      have HTK := Lib.hid (gpL_take L i h1)
      have hS2 : S + (L[i]'h1).data.size ≤ 1048576 := by
        have e1 : ((L.take (i + 1)).map fun p => p.data.size).sum ≤ (L.map fun p => p.data.size).sum := by
          have e : (L.map fun p => p.data.size).sum = ((L.take (i + 1)).map fun p => p.data.size).sum + ((L.drop (i + 1)).map fun p => p.data.size).sum := by
            rw [← List.sum_append, ← List.map_append, List.take_append_drop]
          omega
        rw [List.take_succ_eq_append_getElem h1, List.map_append, List.sum_append, HSUM.out] at e1
        have := HZD.out
        simp at e1
        omega
      have HSUM2 : Hid (((L.take (i + 1)).map fun p => p.data.size).sum = S + (L[i]'h1).data.size) := Lib.hid (by rw [List.take_succ_eq_append_getElem h1, List.map_append, List.sum_append, HSUM.out]; simp)
      obtain ⟨p, hp⟩ : ∃ p, L[i]'h1 = p := ⟨_, rfl⟩
      rw [hp] at hce HTK hS2 HSUM2
      have HCELL2 : Hid (∀ j, j < 9 → ∀ x, (gpC p)[j]? = some x → w.cell? ⟨bl, off + i * 9 + j, none⟩ = some x) := Lib.hid fun j hj x hx => by rw [Nat.add_assoc]; exact hce j x hx
      clear hcc hce hp HSUM
      go_upto_region 11 with fail
      go_cut [5, 6] (fun x y wx => ∃ (p1 : Option Addr) (q1 : Nat) (p2 : Option Addr) (q2 : Nat), x = .slice p1 (i + 1) q1 ∧ y = .slice p2 (i + 1) q2 ∧ Hid (TwoR w wx 37 44 9 (.slice p1 (i + 1) q1) (.slice p2 (i + 1) q2) (i + 1) (i + 1) (gpL (L.take (i + 1))) (gpL (L.take (i + 1)))))
      case first =>
        as_aux_lemma =>
        refine wp_region_inv2 (by kernel_rfl) (fun listed a u => ∃ vs, S2 _ [26, 27, 28, 29, 30, 31, 32, 33, 34, 35, 36, 37, 38, 39, 5, 6] [some (.slice pa i qa), some (.slice (some ⟨bl, off, none⟩) L.length cap), some (.int .i64 (i : Int)), some (.pointer (some ⟨bl, off + i * 9, none⟩)), some (.agg #[.string p.name, .string p.comment, .string p.extra, .bool p.text, .bool p.headSum, .int .i64 p.time, .int .i64 p.more, .int .i64 p.system, .string p.data]), none, none, some (.slice pb i qb), some (.slice (some ⟨bl, off, none⟩) L.length cap), some (.int .i64 (i : Int)), some (.pointer (some ⟨bl, off + i * 9, none⟩)), some (.agg #[.string p.name, .string p.comment, .string p.extra, .bool p.text, .bool p.headSum, .int .i64 p.time, .int .i64 p.more, .int .i64 p.system, .string p.data]), none, none, none, none] w 37 44 9 i (.slice pa i qa) (.slice pb i qb) (gpL (L.take i)) (gpC p) vs listed a u) ⟨_, S2.start (HR.out.mut ((Mut.refl [] wr).drew))⟩ ?st ?en
        case st =>
          intro listed a u io o hz ⟨vs, hS⟩ hun ho hdep hcl K hK
          have hnd : ([26, 27, 28, 29, 30, 31, 32, 33, 34, 35, 36, 37, 38, 39, 5, 6] : List Nat).Nodup := by decide
          have hlt : io < 16 := (Array.getElem?_eq_some_iff.1 ho).1
          have hul : listed.getD io false = false := by
            have h16 : io < listed.size := by rw [hz]; exact hlt
            rw [Array.getD_eq_getD_getElem?, Array.getElem?_eq_getElem h16, Option.getD_some] at hun ⊢
            exact hun
          have hno : ∀ (j : Nat) (oj : Oper) (e : _), _ → e ∈ oj.after → Region.binds .any e = true → e.on = io → listed.getD j false = false := fun j oj e hj he hb heq => by
            cases h : listed.getD j false with
            | false => rfl
            | true =>
              have h2 := hcl j oj hj h e he hb
              rw [heq, hul] at h2
              cases h2
          have F : ∀ (j d : Nat) (x : Value), _ → listed.getD j false = true → _ → a.tmps.getD d undef = x := fun j d x hc hl hd => hS.g.hi j hl d x hd (hS.c j x hc hl)
          have G : ∀ (j d : Nat), listed.getD j false = true → _ → a.tmps.getD d undef = vs.getD j undef := fun j d hl hd => hS.g.hi j hl d _ hd (by
            have hjl : j < vs.length := by rw [hS.g.ln]; exact (List.getElem?_eq_some_iff.1 hd).1
            rw [List.getD_eq_getElem?_getD, List.getElem?_eq_getElem hjl, Option.getD_some])
          have O : ∀ t, (∀ i, _ → listed.getD i false = false) → a.tmps.getD t undef = _ := fun t ht => hS.g.ho t ht
          have HF := Lib.hid F
          have HG := Lib.hid G
          have HO := Lib.hid O
          have HNO := Lib.hid hno
          have HCL := Lib.hid hcl
          clear F G O hno hcl
          have HCW := Lib.hid (fun j (hj : j < 9) x hx => hS.j.two.mu.cell (HCELL2.out j hj x hx) (by simp))
          rcases (by omega : io = 0 ∨ io = 1 ∨ io = 2 ∨ io = 3 ∨ io = 4 ∨ io = 5 ∨ io = 6 ∨ io = 7 ∨ io = 8 ∨ io = 9 ∨ io = 10 ∨ io = 11 ∨ io = 12 ∨ io = 13 ∨ io = 14 ∨ io = 15) with rfl | rfl | rfl | rfl | rfl | rfl | rfl | rfl | rfl | rfl | rfl | rfl | rfl | rfl | rfl | rfl
          all_goals simp only [List.getElem?_toArray, List.getElem?_cons_zero, List.getElem?_cons_succ, Option.some.injEq] at ho
          all_goals subst ho
          · have f5 := HO.out 5 (fun j hj => by
              have hj14 : j = 14 := nodup_get hnd hj rfl
              subst hj14
              exact HNO.out 14 _ ⟨0, .phase⟩ rfl (by simp) rfl rfl)
            simp at f5
            rw [if_pos (by simp [Region.wanted])]
            unfold Oper.wp
            simp [execOp, Act.eval, f5]
            exact hK _ _ ⟨_, hS.pure hnd (by simp) hz 0 26 _ (by decide) rfl rfl⟩
          · have f0 := HO.out 0 (fun j hj => absurd (mem_get hj) (by decide))
            simp at f0
            rw [if_pos (by simp [Region.wanted])]
            unfold Oper.wp
            simp [execOp, Act.eval, f0]
            exact hK _ _ ⟨_, hS.pure hnd (by simp) hz 1 27 _ (by decide) rfl rfl⟩
          · have f10 := HO.out 10 (fun j hj => absurd (mem_get hj) (by decide))
            simp at f10
            rw [if_pos (by simp [Region.wanted])]
            unfold Oper.wp
            simp [execOp, Act.eval, f10]
            exact hK _ _ ⟨_, hS.pure hnd (by simp) hz 2 28 _ (by decide) rfl rfl⟩
          · have fa := HF.out 1 27 _ rfl (hdep ⟨1, .data⟩ (by simp) rfl) rfl
            have fb := HF.out 2 28 _ rfl (hdep ⟨2, .data⟩ (by simp) rfl) rfl
            simp at fa fb
            rw [if_pos (by simp [Region.wanted])]
            unfold Oper.wp
            simp [execOp, Act.eval, fa, fb]
            go_simp
            exact hK _ _ ⟨_, hS.pure hnd (by simp) hz 3 29 _ (by decide) rfl rfl⟩
          · have fa := HF.out 3 29 _ rfl (hdep ⟨3, .data⟩ (by simp) rfl) rfl
            have e0 : u.cell? ⟨bl, off + i * 9, none⟩ = some (.string p.name) := HCW.out 0 (by decide) (.string p.name) rfl
            have e1 : u.cell? ⟨bl, off + i * 9 + 1, none⟩ = some (.string p.comment) := HCW.out 1 (by decide) (.string p.comment) rfl
            have e2 : u.cell? ⟨bl, off + i * 9 + 2, none⟩ = some (.string p.extra) := HCW.out 2 (by decide) (.string p.extra) rfl
            have e3 : u.cell? ⟨bl, off + i * 9 + 3, none⟩ = some (.bool p.text) := HCW.out 3 (by decide) (.bool p.text) rfl
            have e4 : u.cell? ⟨bl, off + i * 9 + 4, none⟩ = some (.bool p.headSum) := HCW.out 4 (by decide) (.bool p.headSum) rfl
            have e5 : u.cell? ⟨bl, off + i * 9 + 5, none⟩ = some (.int .i64 p.time) := HCW.out 5 (by decide) (.int .i64 p.time) rfl
            have e6 : u.cell? ⟨bl, off + i * 9 + 6, none⟩ = some (.int .i64 p.more) := HCW.out 6 (by decide) (.int .i64 p.more) rfl
            have e7 : u.cell? ⟨bl, off + i * 9 + 7, none⟩ = some (.int .i64 p.system) := HCW.out 7 (by decide) (.int .i64 p.system) rfl
            have e8 : u.cell? ⟨bl, off + i * 9 + 8, none⟩ = some (.string p.data) := HCW.out 8 (by decide) (.string p.data) rfl
            simp at fa
            rw [if_pos (by simp [Region.wanted])]
            unfold Oper.wp
            simp [execOp, Act.eval, fa]
            go_simp
            exact hK _ _ ⟨_, hS.pure hnd (by simp) hz 4 30 _ (by decide) rfl rfl⟩
          · have fa := HF.out 4 30 _ rfl (hdep ⟨4, .data⟩ (by simp) rfl) rfl
            simp at fa
            rw [if_pos (by simp [Region.wanted])]
            unfold Oper.wp
            simp [execOp, Act.eval, fa]
            rw [run_bp]
            exact hK _ _ ⟨_, hS.at5 hnd (by simp) hz (HNO.out 6 _ ⟨5, .data⟩ rfl (by simp) rfl rfl) 31 rfl rfl⟩
          · have fa := HF.out 0 26 _ rfl (hdep ⟨0, .data⟩ (by simp) rfl) rfl
            have fb := HG.out 5 31 (hdep ⟨5, .data⟩ (by simp) rfl) rfl
            obtain ⟨g3, hv3, hg3, -⟩ := hS.j.x5 (hdep ⟨5, .data⟩ (by simp) rfl) hul
            rw [hv3] at fb
            obtain ⟨i0, hi0, hz0, hz1, hz2⟩ := info_parts info_gp
            have hrow := hS.j.two.a
            rw [hul] at hrow
            simp only [Bool.false_eq_true, if_false] at hrow
            refine step_append rfl (.tmp 26) (.tmp 31) 23 23 rfl 37 i0 (gpV {}) 9 96 Try.underlying23 hi0 hz0 hz1 hz2 rfl hrow fa (src1 Try.underlying23 hg3 rfl (gp_one p)) fb ?b1 ?b2 ?_
            case b1 => unfold maxLen; omega
            case b2 => omega
            intro v1 u1 hr1 hg1 hf1
            exact hK _ _ ⟨_, hS.at6 (by decide) hnd (by simp) hz hul (HNO.out 14 _ ⟨6, .data⟩ rfl (by simp) rfl rfl) 32 rfl rfl hr1 hg1 hf1⟩
          · have f6 := HO.out 6 (fun j hj => by
              have hj14 : j = 15 := nodup_get hnd hj rfl
              subst hj14
              exact HNO.out 15 _ ⟨7, .phase⟩ rfl (by simp) rfl rfl)
            simp at f6
            rw [if_pos (by simp [Region.wanted])]
            unfold Oper.wp
            simp [execOp, Act.eval, f6]
            exact hK _ _ ⟨_, hS.pure hnd (by simp) hz 7 33 _ (by decide) rfl rfl⟩
          · have f0 := HO.out 0 (fun j hj => absurd (mem_get hj) (by decide))
            simp at f0
            rw [if_pos (by simp [Region.wanted])]
            unfold Oper.wp
            simp [execOp, Act.eval, f0]
            exact hK _ _ ⟨_, hS.pure hnd (by simp) hz 8 34 _ (by decide) rfl rfl⟩
          · have f10 := HO.out 10 (fun j hj => absurd (mem_get hj) (by decide))
            simp at f10
            rw [if_pos (by simp [Region.wanted])]
            unfold Oper.wp
            simp [execOp, Act.eval, f10]
            exact hK _ _ ⟨_, hS.pure hnd (by simp) hz 9 35 _ (by decide) rfl rfl⟩
          · have fa := HF.out 8 34 _ rfl (hdep ⟨8, .data⟩ (by simp) rfl) rfl
            have fb := HF.out 9 35 _ rfl (hdep ⟨9, .data⟩ (by simp) rfl) rfl
            simp at fa fb
            rw [if_pos (by simp [Region.wanted])]
            unfold Oper.wp
            simp [execOp, Act.eval, fa, fb]
            go_simp
            exact hK _ _ ⟨_, hS.pure hnd (by simp) hz 10 36 _ (by decide) rfl rfl⟩
          · have fa := HF.out 10 36 _ rfl (hdep ⟨10, .data⟩ (by simp) rfl) rfl
            have e0 : u.cell? ⟨bl, off + i * 9, none⟩ = some (.string p.name) := HCW.out 0 (by decide) (.string p.name) rfl
            have e1 : u.cell? ⟨bl, off + i * 9 + 1, none⟩ = some (.string p.comment) := HCW.out 1 (by decide) (.string p.comment) rfl
            have e2 : u.cell? ⟨bl, off + i * 9 + 2, none⟩ = some (.string p.extra) := HCW.out 2 (by decide) (.string p.extra) rfl
            have e3 : u.cell? ⟨bl, off + i * 9 + 3, none⟩ = some (.bool p.text) := HCW.out 3 (by decide) (.bool p.text) rfl
            have e4 : u.cell? ⟨bl, off + i * 9 + 4, none⟩ = some (.bool p.headSum) := HCW.out 4 (by decide) (.bool p.headSum) rfl
            have e5 : u.cell? ⟨bl, off + i * 9 + 5, none⟩ = some (.int .i64 p.time) := HCW.out 5 (by decide) (.int .i64 p.time) rfl
            have e6 : u.cell? ⟨bl, off + i * 9 + 6, none⟩ = some (.int .i64 p.more) := HCW.out 6 (by decide) (.int .i64 p.more) rfl
            have e7 : u.cell? ⟨bl, off + i * 9 + 7, none⟩ = some (.int .i64 p.system) := HCW.out 7 (by decide) (.int .i64 p.system) rfl
            have e8 : u.cell? ⟨bl, off + i * 9 + 8, none⟩ = some (.string p.data) := HCW.out 8 (by decide) (.string p.data) rfl
            simp at fa
            rw [if_pos (by simp [Region.wanted])]
            unfold Oper.wp
            simp [execOp, Act.eval, fa]
            go_simp
            exact hK _ _ ⟨_, hS.pure hnd (by simp) hz 11 37 _ (by decide) rfl rfl⟩
          · have fa := HF.out 11 37 _ rfl (hdep ⟨11, .data⟩ (by simp) rfl) rfl
            simp at fa
            rw [if_pos (by simp [Region.wanted])]
            unfold Oper.wp
            simp [execOp, Act.eval, fa]
            rw [run_brp]
            exact hK _ _ ⟨_, hS.at12 hnd (by simp) hz (HNO.out 13 _ ⟨12, .data⟩ rfl (by simp) rfl rfl) 38 rfl rfl⟩
          · have fa := HF.out 7 33 _ rfl (hdep ⟨7, .data⟩ (by simp) rfl) rfl
            have fb := HG.out 12 38 (hdep ⟨12, .data⟩ (by simp) rfl) rfl
            obtain ⟨g3, hv3, hg3, -⟩ := hS.j.x12 (hdep ⟨12, .data⟩ (by simp) rfl) hul
            rw [hv3] at fb
            obtain ⟨i0, hi0, hz0, hz1, hz2⟩ := info_parts info_rgp
            have hrow := hS.j.two.b
            rw [hul] at hrow
            simp only [Bool.false_eq_true, if_false] at hrow
            refine step_append rfl (.tmp 33) (.tmp 38) 29 29 rfl 44 i0 (gpV {}) 9 96 Try.underlying29 hi0 hz0 hz1 hz2 rfl hrow fa (src1 Try.underlying29 hg3 rfl (gp_one p)) fb ?b1 ?b2 ?_
            case b1 => unfold maxLen; omega
            case b2 => omega
            intro v1 u1 hr1 hg1 hf1
            exact hK _ _ ⟨_, hS.at13 (by decide) hnd (by simp) hz (hdep ⟨6, .chain⟩ (by simp) rfl) hul (HNO.out 15 _ ⟨13, .data⟩ rfl (by simp) rfl rfl) 39 rfl rfl hr1 hg1 hf1⟩
          · have fa := HG.out 6 32 (hdep ⟨6, .data⟩ (by simp) rfl) rfl
            rw [if_pos (by simp [Region.wanted])]
            unfold Oper.wp
            simp [execOp, Act.eval]
            simp at fa
            rw [fa]
            have := hS.as14 hnd (by simp) hz 5 rfl rfl
            simp at this
            exact hK _ _ ⟨_, this⟩
          · have fa := HG.out 13 39 (hdep ⟨13, .data⟩ (by simp) rfl) rfl
            rw [if_pos (by simp [Region.wanted])]
            unfold Oper.wp
            simp [execOp, Act.eval]
            simp at fa
            rw [fa]
            have := hS.as15 hnd (by simp) hz 6 rfl rfl
            simp at this
            exact hK _ _ ⟨_, this⟩
        case en =>
          intro listed a u hz ⟨vs, hS⟩ hr
          have hall := ready_all hz hr (by kernel_rfl)
          obtain ⟨v5, v6, v12, v13, e, hT⟩ := S2.final hS (by decide) (by simp) rfl _ _ _ _ _ _ _ _ _ _ rfl (fun i hi => hall i hi)
          obtain ⟨G6, c6, e6, -, -⟩ := row_some hT.a (by omega)
          obtain ⟨G13, c13, e13, -, -⟩ := row_some hT.b (by omega)
          subst e6 e13
          have HT := Lib.hid hT
          clear hS hall hr hT
          subst e
          simp only [fillA, Act.put, List.setIfInBounds_toArray, List.set_cons_succ, List.set_cons_zero]
          go_wp2_with fail
          go_meet
          exact ⟨_, _, _, _, rfl, rfl, Lib.hid (by rw [HTK.out]; exact HT.out)⟩
      case rest =>
      obtain ⟨p1, q1, p2, q2, rfl, rfl, HR2⟩ := hcut
      have e8 : wc.cell? ⟨bl, off + i * 9 + 8, none⟩ = some (.string p.data) := HR2.out.mu.cell (HCELL2.out 8 (by decide) (.string p.data) rfl) (by simp)
      clear HR
      go_wp2_with fail
      go_roundg (L.length - (i + 1))
      case measure => omega
      case rel => exact ⟨i + 1, S + p.data.size, p1, q1, p2, q2, rfl, rfl, rfl, by rw [Int.natCast_add], by rw [Int.natCast_add]; rfl, h1, hS2, HSUM2, HR2⟩
    case neg =>
      obtain rfl : i = L.length := by omega
      have hnI : ¬ (L.length : Int) < (L.length : Int) := by omega
      have hT := HR.out
      rw [List.take_length] at hT
      have hSv := HSUM.out
      rw [List.take_length] at hSv
      have HAB := Lib.hid hT
      have HSV := Lib.hid hSv
      have HC0 : Hid (TwoR wr wr 46 48 3 (.slice none 0 0) (.slice none 0 0) 0 0 (chCells (C.take 0)) (chCells (C.take 0))) := Lib.hid ⟨World.ownsRow_nil _ _ _ _, World.ownsRow_nil _ _ _ _, by simp [Value.ownBlock], by simp [Value.ownBlock], Mut.refl _ _⟩
      have HCC1 : Hid (0 < C.length → ∃ b off, co = some ⟨b, off, none⟩ ∧ ∀ i (h : i < C.length), wr.cell? ⟨b, off + i * 3, none⟩ = some (.int .i64 (C[i]'h).1) ∧ wr.cell? ⟨b, off + i * 3 + 1, none⟩ = some (.int .i64 (C[i]'h).2.1) ∧ wr.cell? ⟨b, off + i * 3 + 2, none⟩ = some (.int .i64 (C[i]'h).2.2)) := Lib.hid fun hp => by
        obtain ⟨b, off, e1, -, e2⟩ := HCC.out hp
        exact ⟨b, off, e1, fun i h => ⟨hT.mu.cell (e2 i h).1 (by simp), hT.mu.cell (e2 i h).2.1 (by simp), hT.mu.cell (e2 i h).2.2 (by simp)⟩⟩
      clear hT hSv HR HSUM HCELL HCC HZD
      obtain ⟨W1, hW1⟩ : ∃ W, wr = W := ⟨_, rfl⟩
      obtain ⟨n, hn⟩ : ∃ n, L.length = n := ⟨_, rfl⟩
      rw [hW1] at HAB HC0 HCC1
      have HWN := Lib.hid hn
      rw [hn] at HAB hnI hLl hcap hi
      rw [hn, hW1]
      clear hW1
      go_wp2_with fail
      go_loopg [7, 8, 11] C.length (fun g a b c wr => ∃ (i : Nat) (pa : Option Addr) (qa : Nat) (pb : Option Addr) (qb : Nat), g = C.length - i ∧ a = .slice pa i qa ∧ b = .slice pb i qb ∧ c = .int .i64 (i : Int) ∧ i ≤ C.length ∧ Hid (TwoR W1 wr 46 48 3 (.slice pa i qa) (.slice pb i qb) i i (chCells (C.take i)) (chCells (C.take i))))
      case atStart => exact ⟨0, none, 0, none, 0, rfl, rfl, rfl, rfl, Nat.zero_le _, HC0⟩
      case round =>
        obtain ⟨i, xa, ya, xb, yb, rfl, rfl, rfl, rfl, hi, HR⟩ := hrel
        clear HC0
        by_cases h1 : i < C.length
        case pos =>
          have h1I : (i : Int) < (C.length : Int) := by omega
          have hi0 : (0 : Int) ≤ (i : Int) := by omega
          obtain ⟨bl, off, rfl, hcc⟩ := HCC1.out (by omega)
          obtain ⟨d0, d1, d2⟩ := hcc i h1
          have HTK := Lib.hid (chC_take C i h1)
          obtain ⟨⟨X1, X2, X3⟩, hX⟩ : ∃ x, C[i]'h1 = x := ⟨_, rfl⟩
          rw [hX] at d0 d1 d2 HTK
          dsimp only at d0 d1 d2
          have HCELL2 : Hid (∀ j, j < 3 → ∀ x, (chCell (X1, X2, X3))[j]? = some x → W1.cell? ⟨bl, off + i * 3 + j, none⟩ = some x) := Lib.hid fun j hj x hx => by
            rcases (by omega : j = 0 ∨ j = 1 ∨ j = 2) with rfl | rfl | rfl
            · cases hx; exact d0
            · cases hx; exact d1
            · cases hx; exact d2
          clear hcc hX d0 d1 d2
          go_upto_region 16 with fail
          refine wp_region_inv2 (by kernel_rfl) (fun listed a u => ∃ vs, S2 _ [54, 55, 56, 57, 58, 59, 60, 61, 62, 63, 64, 65, 66, 67, 7, 8] [some (.slice xa i ya), some (.slice (some ⟨bl, off, none⟩) C.length ccap), some (.int .i64 (i : Int)), some (.pointer (some ⟨bl, off + i * 3, none⟩)), some (.agg #[.int .i64 X1, .int .i64 X2, .int .i64 X3]), none, none, some (.slice xb i yb), some (.slice (some ⟨bl, off, none⟩) C.length ccap), some (.int .i64 (i : Int)), some (.pointer (some ⟨bl, off + i * 3, none⟩)), some (.agg #[.int .i64 X1, .int .i64 X2, .int .i64 X3]), none, none, none, none] W1 46 48 3 i (.slice xa i ya) (.slice xb i yb) (chCells (C.take i)) (chCell (X1, X2, X3)) vs listed a u) ⟨_, S2.start (HR.out.mut ((Mut.refl [] wr).drew))⟩ ?st ?en
          case st =>
            intro listed a u io o hz ⟨vs, hS⟩ hun ho hdep hcl K hK
            have hnd : ([54, 55, 56, 57, 58, 59, 60, 61, 62, 63, 64, 65, 66, 67, 7, 8] : List Nat).Nodup := by decide
            have hlt : io < 16 := (Array.getElem?_eq_some_iff.1 ho).1
            have hul : listed.getD io false = false := by
              have h16 : io < listed.size := by rw [hz]; exact hlt
              rw [Array.getD_eq_getD_getElem?, Array.getElem?_eq_getElem h16, Option.getD_some] at hun ⊢
              exact hun
            have hno : ∀ (j : Nat) (oj : Oper) (e : _), _ → e ∈ oj.after → Region.binds .any e = true → e.on = io → listed.getD j false = false := fun j oj e hj he hb heq => by
              cases h : listed.getD j false with
              | false => rfl
              | true =>
                have h2 := hcl j oj hj h e he hb
                rw [heq, hul] at h2
                cases h2
            have F : ∀ (j d : Nat) (x : Value), _ → listed.getD j false = true → _ → a.tmps.getD d undef = x := fun j d x hc hl hd => hS.g.hi j hl d x hd (hS.c j x hc hl)
            have G : ∀ (j d : Nat), listed.getD j false = true → _ → a.tmps.getD d undef = vs.getD j undef := fun j d hl hd => hS.g.hi j hl d _ hd (by
              have hjl : j < vs.length := by rw [hS.g.ln]; exact (List.getElem?_eq_some_iff.1 hd).1
              rw [List.getD_eq_getElem?_getD, List.getElem?_eq_getElem hjl, Option.getD_some])
            have O : ∀ t, (∀ i, _ → listed.getD i false = false) → a.tmps.getD t undef = _ := fun t ht => hS.g.ho t ht
            have HF := Lib.hid F
            have HG := Lib.hid G
            have HO := Lib.hid O
            have HNO := Lib.hid hno
            have HCL := Lib.hid hcl
            clear F G O hno hcl
            have HCW := Lib.hid (fun j (hj : j < 3) x hx => hS.j.two.mu.cell (HCELL2.out j hj x hx) (by simp))
            rcases (by omega : io = 0 ∨ io = 1 ∨ io = 2 ∨ io = 3 ∨ io = 4 ∨ io = 5 ∨ io = 6 ∨ io = 7 ∨ io = 8 ∨ io = 9 ∨ io = 10 ∨ io = 11 ∨ io = 12 ∨ io = 13 ∨ io = 14 ∨ io = 15) with rfl | rfl | rfl | rfl | rfl | rfl | rfl | rfl | rfl | rfl | rfl | rfl | rfl | rfl | rfl | rfl
            all_goals simp only [List.getElem?_toArray, List.getElem?_cons_zero, List.getElem?_cons_succ, Option.some.injEq] at ho
            all_goals subst ho
            · have f7 := HO.out 7 (fun j hj => by
                have hj14 : j = 14 := nodup_get hnd hj rfl
                subst hj14
                exact HNO.out 14 _ ⟨0, .phase⟩ rfl (by simp) rfl rfl)
              simp at f7
              rw [if_pos (by simp [Region.wanted])]
              unfold Oper.wp
              simp [execOp, Act.eval, f7]
              exact hK _ _ ⟨_, hS.pure hnd (by simp) hz 0 54 _ (by decide) rfl rfl⟩
            · have f1 := HO.out 1 (fun j hj => absurd (mem_get hj) (by decide))
              simp at f1
              rw [if_pos (by simp [Region.wanted])]
              unfold Oper.wp
              simp [execOp, Act.eval, f1]
              exact hK _ _ ⟨_, hS.pure hnd (by simp) hz 1 55 _ (by decide) rfl rfl⟩
            · have f11 := HO.out 11 (fun j hj => absurd (mem_get hj) (by decide))
              simp at f11
              rw [if_pos (by simp [Region.wanted])]
              unfold Oper.wp
              simp [execOp, Act.eval, f11]
              exact hK _ _ ⟨_, hS.pure hnd (by simp) hz 2 56 _ (by decide) rfl rfl⟩
            · have fa := HF.out 1 55 _ rfl (hdep ⟨1, .data⟩ (by simp) rfl) rfl
              have fb := HF.out 2 56 _ rfl (hdep ⟨2, .data⟩ (by simp) rfl) rfl
              simp at fa fb
              rw [if_pos (by simp [Region.wanted])]
              unfold Oper.wp
              simp [execOp, Act.eval, fa, fb]
              go_simp
              exact hK _ _ ⟨_, hS.pure hnd (by simp) hz 3 57 _ (by decide) rfl rfl⟩
            · have fa := HF.out 3 57 _ rfl (hdep ⟨3, .data⟩ (by simp) rfl) rfl
              have e0 : u.cell? ⟨bl, off + i * 3, none⟩ = some (.int .i64 X1) := HCW.out 0 (by decide) (.int .i64 X1) rfl
              have e1 : u.cell? ⟨bl, off + i * 3 + 1, none⟩ = some (.int .i64 X2) := HCW.out 1 (by decide) (.int .i64 X2) rfl
              have e2 : u.cell? ⟨bl, off + i * 3 + 2, none⟩ = some (.int .i64 X3) := HCW.out 2 (by decide) (.int .i64 X3) rfl
              simp at fa
              rw [if_pos (by simp [Region.wanted])]
              unfold Oper.wp
              simp [execOp, Act.eval, fa]
              go_simp
              exact hK _ _ ⟨_, hS.pure hnd (by simp) hz 4 58 _ (by decide) rfl rfl⟩
            · have fa := HF.out 4 58 _ rfl (hdep ⟨4, .data⟩ (by simp) rfl) rfl
              simp at fa
              rw [if_pos (by simp [Region.wanted])]
              unfold Oper.wp
              simp [execOp, Act.eval, fa]
              rw [run_bs]
              exact hK _ _ ⟨_, hS.at5 hnd (by simp) hz (HNO.out 6 _ ⟨5, .data⟩ rfl (by simp) rfl rfl) 59 rfl rfl⟩
            · have fa := HF.out 0 54 _ rfl (hdep ⟨0, .data⟩ (by simp) rfl) rfl
              have fb := HG.out 5 59 (hdep ⟨5, .data⟩ (by simp) rfl) rfl
              obtain ⟨g3, hv3, hg3, -⟩ := hS.j.x5 (hdep ⟨5, .data⟩ (by simp) rfl) hul
              rw [hv3] at fb
              obtain ⟨i0, hi0, hz0, hz1, hz2⟩ := info_parts info_chS5
              have hrow := hS.j.two.a
              rw [hul] at hrow
              simp only [Bool.false_eq_true, if_false] at hrow
              refine step_append rfl (.tmp 54) (.tmp 59) 41 41 rfl 46 i0 (.agg #[.int .i64 0, .int .i64 0, .int .i64 0]) 3 24 Try.underlying41 hi0 hz0 hz1 hz2 rfl hrow fa (src1 Try.underlying41 hg3 rfl (ch_one X1 X2 X3)) fb ?b1 ?b2 ?_
              case b1 => unfold maxLen; omega
              case b2 => omega
              intro v1 u1 hr1 hg1 hf1
              exact hK _ _ ⟨_, hS.at6 (by decide) hnd (by simp) hz hul (HNO.out 14 _ ⟨6, .data⟩ rfl (by simp) rfl rfl) 60 rfl rfl hr1 hg1 hf1⟩
            · have f8 := HO.out 8 (fun j hj => by
                have hj14 : j = 15 := nodup_get hnd hj rfl
                subst hj14
                exact HNO.out 15 _ ⟨7, .phase⟩ rfl (by simp) rfl rfl)
              simp at f8
              rw [if_pos (by simp [Region.wanted])]
              unfold Oper.wp
              simp [execOp, Act.eval, f8]
              exact hK _ _ ⟨_, hS.pure hnd (by simp) hz 7 61 _ (by decide) rfl rfl⟩
            · have f1 := HO.out 1 (fun j hj => absurd (mem_get hj) (by decide))
              simp at f1
              rw [if_pos (by simp [Region.wanted])]
              unfold Oper.wp
              simp [execOp, Act.eval, f1]
              exact hK _ _ ⟨_, hS.pure hnd (by simp) hz 8 62 _ (by decide) rfl rfl⟩
            · have f11 := HO.out 11 (fun j hj => absurd (mem_get hj) (by decide))
              simp at f11
              rw [if_pos (by simp [Region.wanted])]
              unfold Oper.wp
              simp [execOp, Act.eval, f11]
              exact hK _ _ ⟨_, hS.pure hnd (by simp) hz 9 63 _ (by decide) rfl rfl⟩
            · have fa := HF.out 8 62 _ rfl (hdep ⟨8, .data⟩ (by simp) rfl) rfl
              have fb := HF.out 9 63 _ rfl (hdep ⟨9, .data⟩ (by simp) rfl) rfl
              simp at fa fb
              rw [if_pos (by simp [Region.wanted])]
              unfold Oper.wp
              simp [execOp, Act.eval, fa, fb]
              go_simp
              exact hK _ _ ⟨_, hS.pure hnd (by simp) hz 10 64 _ (by decide) rfl rfl⟩
            · have fa := HF.out 10 64 _ rfl (hdep ⟨10, .data⟩ (by simp) rfl) rfl
              have e0 : u.cell? ⟨bl, off + i * 3, none⟩ = some (.int .i64 X1) := HCW.out 0 (by decide) (.int .i64 X1) rfl
              have e1 : u.cell? ⟨bl, off + i * 3 + 1, none⟩ = some (.int .i64 X2) := HCW.out 1 (by decide) (.int .i64 X2) rfl
              have e2 : u.cell? ⟨bl, off + i * 3 + 2, none⟩ = some (.int .i64 X3) := HCW.out 2 (by decide) (.int .i64 X3) rfl
              simp at fa
              rw [if_pos (by simp [Region.wanted])]
              unfold Oper.wp
              simp [execOp, Act.eval, fa]
              go_simp
              exact hK _ _ ⟨_, hS.pure hnd (by simp) hz 11 65 _ (by decide) rfl rfl⟩
            · have fa := HF.out 11 65 _ rfl (hdep ⟨11, .data⟩ (by simp) rfl) rfl
              simp at fa
              rw [if_pos (by simp [Region.wanted])]
              unfold Oper.wp
              simp [execOp, Act.eval, fa]
              rw [run_br]
              exact hK _ _ ⟨_, hS.at12 hnd (by simp) hz (HNO.out 13 _ ⟨12, .data⟩ rfl (by simp) rfl rfl) 66 rfl rfl⟩
            · have fa := HF.out 7 61 _ rfl (hdep ⟨7, .data⟩ (by simp) rfl) rfl
              have fb := HG.out 12 66 (hdep ⟨12, .data⟩ (by simp) rfl) rfl
              obtain ⟨g3, hv3, hg3, -⟩ := hS.j.x12 (hdep ⟨12, .data⟩ (by simp) rfl) hul
              rw [hv3] at fb
              obtain ⟨i0, hi0, hz0, hz1, hz2⟩ := info_parts info_chR5
              have hrow := hS.j.two.b
              rw [hul] at hrow
              simp only [Bool.false_eq_true, if_false] at hrow
              refine step_append rfl (.tmp 61) (.tmp 66) 42 42 rfl 48 i0 (.agg #[.int .i64 0, .int .i64 0, .int .i64 0]) 3 24 Try.underlying42 hi0 hz0 hz1 hz2 rfl hrow fa (src1 Try.underlying42 hg3 rfl (ch_one X1 X2 X3)) fb ?b1 ?b2 ?_
              case b1 => unfold maxLen; omega
              case b2 => omega
              intro v1 u1 hr1 hg1 hf1
              exact hK _ _ ⟨_, hS.at13 (by decide) hnd (by simp) hz (hdep ⟨6, .chain⟩ (by simp) rfl) hul (HNO.out 15 _ ⟨13, .data⟩ rfl (by simp) rfl rfl) 67 rfl rfl hr1 hg1 hf1⟩
            · have fa := HG.out 6 60 (hdep ⟨6, .data⟩ (by simp) rfl) rfl
              rw [if_pos (by simp [Region.wanted])]
              unfold Oper.wp
              simp [execOp, Act.eval]
              simp at fa
              rw [fa]
              have := hS.as14 hnd (by simp) hz 7 rfl rfl
              simp at this
              exact hK _ _ ⟨_, this⟩
            · have fa := HG.out 13 67 (hdep ⟨13, .data⟩ (by simp) rfl) rfl
              rw [if_pos (by simp [Region.wanted])]
              unfold Oper.wp
              simp [execOp, Act.eval]
              simp at fa
              rw [fa]
              have := hS.as15 hnd (by simp) hz 8 rfl rfl
              simp at this
              exact hK _ _ ⟨_, this⟩
          case en =>
            intro listed a u hz ⟨vs, hS⟩ hr
            have hall := ready_all hz hr (by kernel_rfl)
            obtain ⟨v5, v6, v12, v13, e, hT⟩ := S2.final hS (by decide) (by simp) rfl _ _ _ _ _ _ _ _ _ _ rfl (fun i hi => hall i hi)
            obtain ⟨G6, c6, e6, -, -⟩ := row_some hT.a (by omega)
            obtain ⟨G13, c13, e13, -, -⟩ := row_some hT.b (by omega)
            subst e6 e13
            have HT := Lib.hid hT
            clear hS hall hr hT
            subst e
            simp only [fillA, Act.put, List.setIfInBounds_toArray, List.set_cons_succ, List.set_cons_zero]
            have HT2 : Hid (TwoR W1 u 46 48 3 (.slice (some ⟨G6, 0, none⟩) (i + 1) c6) (.slice (some ⟨G13, 0, none⟩) (i + 1) c13) (i + 1) (i + 1) (chCells (C.take (i + 1))) (chCells (C.take (i + 1)))) := Lib.hid (by rw [HTK.out]; exact HT.out)
            clear HT HR
            go_wp2_with fail
            go_roundg (C.length - (i + 1))
            case measure => omega
            case rel => exact ⟨i + 1, _, _, _, _, rfl, rfl, rfl, by rw [Int.natCast_add]; rfl, h1, HT2⟩
        case neg =>
          obtain rfl : i = C.length := by omega
          have hcI : ¬ (C.length : Int) < (C.length : Int) := by omega
          have hT := HR.out
          rw [List.take_length] at hT
          have HXY := Lib.hid hT
          have hNN := HWN.out
          have hw1 : Calls Try.prog 16 #[.slice pa n qa, .slice xa C.length ya] wr fun r w' => r = .returned (.tuple #[.string s, .int .i64 (e : Int)]) ∧ Mut [] wr w' := by
            have h := HW.out.1 pa qa (.slice xa C.length ya) wr
            rw [hNN] at h
            exact h (HAB.out.a.mut' hT.mu (by simp)) hT.a
          have HW1 := Lib.hid hw1
          have HW2 : Hid (∀ W, Mut [] wr W → Calls Try.prog 17 #[.slice pb n qb, .slice xb C.length yb] W fun r w' => r = .returned (.tuple #[.string s, .int .i64 (e : Int)]) ∧ Mut [] W w') := Lib.hid fun W m => by
            have h := HW.out.2 pb qb (.slice xb C.length yb) W
            rw [hNN] at h
            exact h (HAB.out.b.mut' (hT.mu.trans' m) (by simp)) (m.row hT.b (by simp))
          have HPA : Hid (∀ W, Mut [] wr W → Calls Try.prog 12 #[.slice pa n qa, .slice pb n qb] W fun r w' => r = .returned (.bool true) ∧ Mut [] W w') := Lib.hid fun W m =>
            parts_any L n hNN (by omega) pa pb qa qb W (HAB.out.a.mut' (hT.mu.trans' m) (by simp)) (HAB.out.b.mut' (hT.mu.trans' m) (by simp))
          have HPB : Hid (∀ p c W, W.ownsRow 0 37 9 (.slice p n c) n (gpL L) → Mut [] wr W → Calls Try.prog 12 #[.slice p n c, .slice pb n qb] W fun r w' => r = .returned (.bool true) ∧ Mut [] W w') := Lib.hid fun p c W hr m =>
            parts_any L n hNN (by omega) p pb c qb W hr (HAB.out.b.mut' (hT.mu.trans' m) (by simp))
          have HM0 : Hid (Mut [] w wr) := Lib.hid (HAB.out.mu.trans' hT.mu)
          have hss : (s.toList == s.toList) = true := by simp
          have hee : ((e : Int) == (e : Int)) = true := by simp
          clear hT hw1 HR HXY HAB HW HCC1
          go_wp2_with fail
          refine HW1.out.mono ?_
          rintro e' w2 ⟨rfl, hm⟩
          have HM2 := Lib.hid hm
          clear hm HW1
          go_wp2_with fail
          refine (HW2.out _ HM2.out).mono ?_
          rintro e' w3 ⟨rfl, hm⟩
          have HM3 := Lib.hid (HM2.out.trans' hm)
          clear hm HW2 HM2
          go_upto_region 19 with fail
          go_cut [93] (fun x wx => x = .bool false ∧ Hid (Mut [] wr wx))
          case first =>
            as_aux_lemma =>
            go_wp2_with fail
            refine (HPA.out _ HM3.out).mono ?_
            rintro e' w4 ⟨rfl, hm⟩
            have HM4 := Lib.hid (HM3.out.trans' hm)
            clear hm
            go_wp2_with fail
            go_meet
            exact ⟨rfl, HM4⟩
          case rest =>
          obtain ⟨rfl, HM4⟩ := hcut
          clear HPA HM3 hss hee
          by_cases he : e = 0
          case neg =>
            have heI : ((e : Int) == 0) = false := by rw [beq_eq_false_iff_ne]; omega
            go_wp2_with fail
            go_ret
            exact ⟨rfl, (HM0.out.trans' HM4.out).nil (by simp)⟩
          case pos =>
          obtain ⟨hM, hRd⟩ := HBK.out he
          rw [HSV.out, hNN] at hRd
          have HRD := Lib.hid hRd
          have HIS := Lib.hid (fun W => gz_is_any s true hM W)
          subst he
          clear hM hRd HBK
          go_wp2_with fail
          refine (HRD.out.2 _).mono ?_
          rintro e' w5 ⟨p5, c5, rfl, hr5, hm⟩
          have HM5 := Lib.hid ((HM4.out.trans' hm).alloc (.cells #[.int .i64 0, .int .i64 0] 26))
          have HR5 := Lib.hid (hr5.mut' ((Mut.refl [] w5).alloc (.cells #[.int .i64 0, .int .i64 0] 26)) (by simp))
          obtain ⟨c0, c1, -, -⟩ := cells2 (heap_alloc_new w5 (.cells #[.int .i64 0, .int .i64 0] 26))
          clear hm hr5 HRD HM4
          go_upto_region 24 with fail
          generalize w5.alloc (.cells #[.int .i64 0, .int .i64 0] 26) = w6 at *
          generalize w5.heap.size = g6 at *
          go_wp2_with fail
          refine (HPB.out _ _ _ HR5.out HM5.out).mono ?_
          rintro e' w7 ⟨rfl, hm⟩
          have HM7 := Lib.hid (HM5.out.trans' hm)
          clear hm HPB
          go_wp2_with fail
          refine (HIS.out _).mono ?_
          rintro e' w8 ⟨rfl, rfl⟩
          go_wp2_with fail
          go_ret
          exact ⟨rfl, (HM0.out.trans' HM7.out).nil (by simp)⟩

end Go.Proofs.Ytgjcnembeebjfaa
