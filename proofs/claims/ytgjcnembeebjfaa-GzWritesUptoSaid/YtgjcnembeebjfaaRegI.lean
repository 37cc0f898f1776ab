/- A region that draws its order: an invariant over what has come up, whatever the order. No program. -/
import Derived.Test.YtgjcnembeebjfaaBase
import Derived.Orders
import Derived.Still
namespace Go.Proofs.Ytgjcnembeebjfaa
open Go.RowKit
set_option linter.unusedVariables false

theorem count_set {l : List Bool} {i : Nat} (hi : i < l.length) (h : l[i] = false) : ((l.set i true).filter fun b => !b).length + 1 = (l.filter fun b => !b).length := by
  induction l generalizing i with
  | nil => simp at hi
  | cons x r ih =>
    cases i with
    | zero =>
      simp at h
      subst h
      simp
    | succ i =>
      have := ih (i := i) (by simpa using hi) (by simpa using h)
      cases x
      · simp only [List.set_cons_succ, List.filter_cons, Bool.not_false, if_true, List.length_cons]
        omega
      · simp only [List.set_cons_succ, List.filter_cons, Bool.not_true, Bool.false_eq_true, if_false]
        exact this

theorem wp_region_inv {P : Program} {ops : Array Oper} {id : Nat} {Q : Exit → Act → World → Prop} {a : Act} {w : World} (hm : P.follows .mixedOrders = true) (I : Array Bool → Act → World → Prop) (h0 : I (Array.replicate ops.size false) a w.drew)
    (hs : ∀ listed a w i o, listed.size = ops.size → I listed a w → listed.getD i true = false → ops[i]? = some o → (∀ e ∈ o.after, Region.binds .any e = true → listed.getD e.on false = true) → ∀ K : Act → World → Prop, (∀ a' w', I (listed.setIfInBounds i true) a' w' → K a' w') →
      if Region.wanted o (yielded ops a.tmps) = true then o.wp P a w K Q else K (a.put o.dst undef) w)
    (he : ∀ listed a w, listed.size = ops.size → I listed a w → Region.ready .any ops listed = [] → Q .normal a w) : (Code.region id ops true).wp P Q a w := by
  refine wp_region_any hm ?_
  have go : ∀ (fuel : Nat) (listed : Array Bool) (a : Act) (w : World), listed.size = ops.size → (listed.toList.filter fun b => !b).length ≤ fuel → I listed a w → wpAny P .any ops Q fuel listed a w := by
    intro fuel
    induction fuel with
    | zero =>
      intro listed a w hz hc hI
      have hr : Region.ready .any ops listed = [] := by
        cases hr : Region.ready .any ops listed with
        | nil => rfl
        | cons i r =>
          exfalso
          have hi : i ∈ Region.ready .any ops listed := by rw [hr]; simp
          obtain ⟨h1, oi, h2, -⟩ := mem_ready.1 hi
          have hlt : i < listed.size := by rw [hz]; exact (Array.getElem?_eq_some_iff.1 h2).1
          have h3 : listed.toList.filter (fun b => !b) = [] := List.eq_nil_of_length_eq_zero (Nat.le_zero.1 hc)
          rw [List.filter_eq_nil_iff] at h3
          have h4 := h3 listed[i] (by simp)
          rw [Array.getD_eq_getD_getElem?, Array.getElem?_eq_getElem hlt, Option.getD_some] at h1
          rw [h1] at h4
          simp at h4
      exact ⟨hr, he listed a w hz hI hr⟩
    | succ fuel ih =>
      intro listed a w hz hc hI
      refine ⟨fun hr => he listed a w hz hI hr, fun i hi => ?_⟩
      obtain ⟨h1, oi, h2, h3⟩ := mem_ready.1 hi
      have hlt : i < listed.size := by rw [hz]; exact (Array.getElem?_eq_some_iff.1 h2).1
      have h4 : listed[i] = false := by rw [Array.getD_eq_getD_getElem?, Array.getElem?_eq_getElem hlt, Option.getD_some] at h1; exact h1
      have h5 := hs listed a w i oi hz hI h1 h2 h3 (wpAny P .any ops Q fuel (listed.setIfInBounds i true)) (fun a' w' hI' => ih _ a' w' (by simpa using hz) (by
        have := count_set (l := listed.toList) (i := i) (by simpa using hlt) (by simpa using h4)
        rw [Array.toList_setIfInBounds]
        omega) hI')
      unfold wpOp
      rw [h2]
      simp only []
      split
      · rename_i hw
        rw [if_pos hw] at h5
        exact .inl h5
      · rename_i hw
        rw [if_neg hw] at h5
        exact h5
  exact go ops.size _ a _ (by simp) (by simp) h0

/-- the frame with these slots written -/
def fillA : Act → List Nat → List Value → Act
  | a, d :: r, u :: s => fillA (a.put (some d) u) r s
  | a, _, _ => a

theorem put_getD_same (a : Act) (d : Nat) (u : Value) (h : d < a.tmps.size) : (a.put (some d) u).tmps.getD d undef = u := by
  simp [Act.put, Array.getD_eq_getD_getElem?, h]
theorem put_getD_ne (a : Act) (d t : Nat) (u : Value) (h : t ≠ d) : (a.put (some d) u).tmps.getD t undef = a.tmps.getD t undef := by
  simp [Act.put, Array.getD_eq_getD_getElem?, Array.getElem?_setIfInBounds_ne (fun e => h e.symm)]
theorem put_size (a : Act) (d : Nat) (u : Value) : (a.put (some d) u).tmps.size = a.tmps.size := by simp [Act.put]
theorem put_defers (a : Act) (d : Nat) (u : Value) : (a.put (some d) u).defers = a.defers := rfl

theorem act_eq {a b : Act} (hs : a.tmps.size = b.tmps.size) (hd : a.defers = b.defers) (h : ∀ t, a.tmps.getD t undef = b.tmps.getD t undef) : a = b := by
  cases a with
  | mk ta da =>
  cases b with
  | mk tb db =>
  simp only at hs hd h
  subst hd
  congr 1
  apply Array.ext hs
  intro i h1 h2
  have := h i
  rw [Array.getD_eq_getD_getElem?, Array.getD_eq_getD_getElem?, Array.getElem?_eq_getElem h1, Array.getElem?_eq_getElem h2] at this
  exact this

theorem fill_eq : ∀ (dl : List Nat) (vs : List Value) (a0 a : Act), dl.length = vs.length → dl.Nodup → (∀ d ∈ dl, d < a0.tmps.size) → a.tmps.size = a0.tmps.size → a.defers = a0.defers →
    (∀ (i d : Nat) (u : Value), dl[i]? = some d → vs[i]? = some u → a.tmps.getD d undef = u) → (∀ t, t ∉ dl → a.tmps.getD t undef = a0.tmps.getD t undef) → a = fillA a0 dl vs
  | [], vs, a0, a, _, _, _, hs, hd, _, ho => by
    have e : fillA a0 [] vs = a0 := by cases vs <;> rfl
    rw [e]
    exact act_eq hs hd fun t => ho t (by simp)
  | d :: r, [], a0, a, hl, _, _, _, _, _, _ => by simp at hl
  | d :: r, u :: s, a0, a, hl, hn, hb, hs, hd, hi, ho => by
    rw [fillA]
    have hn' := List.nodup_cons.1 hn
    refine fill_eq r s (a0.put (some d) u) a (by simpa using hl) hn'.2 (fun x hx => by rw [put_size]; exact hb x (by simp [hx])) (by rw [put_size]; exact hs) (by rw [put_defers]; exact hd) (fun i x y h1 h2 => hi (i + 1) x y (by simpa using h1) (by simpa using h2)) fun t ht => ?_
    by_cases e : t = d
    · subst e
      rw [put_getD_same _ _ _ (hb t (by simp))]
      exact hi 0 t u rfl rfl
    · rw [put_getD_ne _ _ _ _ e]
      exact ho t (by simp [e, ht])

/-- what has come up holds its value; one value, of the operation 'k', may hang on the world -/
structure InvV (a0 : Act) (w1 : World) (dl : List Nat) (vl : Value → List Value) (R : Value → World → Prop) (k : Nat) (v : Value) (listed : Array Bool) (a : Act) (w : World) : Prop where
  mu : Mut [] w1 w
  df : a.defers = a0.defers
  sz : a.tmps.size = a0.tmps.size
  hi : ∀ i, listed.getD i false = true → ∀ (d : Nat) (u : Value), dl[i]? = some d → (vl v)[i]? = some u → a.tmps.getD d undef = u
  ho : ∀ t, t ∉ dl → a.tmps.getD t undef = a0.tmps.getD t undef
  hR : listed.getD k false = true → R v w

theorem getD_set_true {l : Array Bool} {i j : Nat} (h : (l.setIfInBounds i true).getD j false = true) : j = i ∨ l.getD j false = true := by
  by_cases e : i = j
  · exact .inl e.symm
  · right
    rw [Array.getD_eq_getD_getElem?, Array.getElem?_setIfInBounds_ne e, ← Array.getD_eq_getD_getElem?] at h
    exact h
theorem nodup_get {dl : List Nat} (hn : dl.Nodup) {i j d : Nat} (h1 : dl[i]? = some d) (h2 : dl[j]? = some d) : i = j := by
  obtain ⟨hi, e1⟩ := List.getElem?_eq_some_iff.1 h1
  obtain ⟨hj, e2⟩ := List.getElem?_eq_some_iff.1 h2
  exact (List.getElem_inj hn).1 (e1.trans e2.symm)
theorem mem_get {dl : List Nat} {i d : Nat} (h : dl[i]? = some d) : d ∈ dl := List.mem_of_getElem? h

/-- an operation whose value hangs on no world -/
theorem InvV.step {a0 : Act} {w1 : World} {dl : List Nat} {vl : Value → List Value} {R : Value → World → Prop} {k : Nat} {v : Value} {listed : Array Bool} {a : Act} {w w' : World} (h : InvV a0 w1 dl vl R k v listed a w) (hn : dl.Nodup) (hb : ∀ d ∈ dl, d < a0.tmps.size)
    (hR : ∀ v w w', Mut [] w w' → R v w → R v w') (i d : Nat) (u : Value) (hik : i ≠ k) (h1 : dl[i]? = some d) (h2 : (vl v)[i]? = some u) (m : Mut [] w w') : InvV a0 w1 dl vl R k v (listed.setIfInBounds i true) (a.put (some d) u) w' where
  mu := h.mu.trans' m
  df := h.df
  sz := by rw [put_size]; exact h.sz
  hi := by
    intro j hj d' u' h1' h2'
    by_cases e : j = i
    · subst e
      rw [h1] at h1'
      rw [h2] at h2'
      cases h1'
      cases h2'
      exact put_getD_same _ _ _ (by rw [h.sz]; exact hb _ (mem_get h1))
    · rw [put_getD_ne _ _ _ _ (fun e' => e (nodup_get hn h1' (by rw [e']; exact h1)))]
      exact h.hi j ((getD_set_true hj).resolve_left e) d' u' h1' h2'
  ho := by
    intro t ht
    rw [put_getD_ne _ _ _ _ (fun e' => ht (by rw [e']; exact mem_get h1))]
    exact h.ho t ht
  hR := fun hk => hR _ _ _ m (h.hR ((getD_set_true hk).resolve_left (fun e => hik e.symm)))

/-- the operation whose value hangs on the world -/
theorem InvV.stepK {a0 : Act} {w1 : World} {dl : List Nat} {vl : Value → List Value} {R : Value → World → Prop} {k : Nat} {v : Value} {listed : Array Bool} {a : Act} {w w' : World} (h : InvV a0 w1 dl vl R k v listed a w) (hn : dl.Nodup) (hb : ∀ d ∈ dl, d < a0.tmps.size)
    (hdep : ∀ j, listed.getD j false = true → ∀ u, (vl u)[j]? = (vl v)[j]?) (d : Nat) (u : Value) (h1 : dl[k]? = some d) (h2 : (vl u)[k]? = some u) (m : Mut [] w w') (hR : R u w') : InvV a0 w1 dl vl R k u (listed.setIfInBounds k true) (a.put (some d) u) w' where
  mu := h.mu.trans' m
  df := h.df
  sz := by rw [put_size]; exact h.sz
  hi := by
    intro j hj d' u' h1' h2'
    by_cases e : j = k
    · subst e
      rw [h1] at h1'
      rw [h2] at h2'
      cases h1'
      cases h2'
      exact put_getD_same _ _ _ (by rw [h.sz]; exact hb _ (mem_get h1))
    · rw [put_getD_ne _ _ _ _ (fun e' => e (nodup_get hn h1' (by rw [e']; exact h1)))]
      have hl := (getD_set_true hj).resolve_left e
      exact h.hi j hl d' u' h1' (by rw [← hdep j hl u]; exact h2')
  ho := by
    intro t ht
    rw [put_getD_ne _ _ _ _ (fun e' => ht (by rw [e']; exact mem_get h1))]
    exact h.ho t ht
  hR := fun _ => hR

theorem InvV.start {a0 : Act} {w1 : World} {dl : List Nat} {vl : Value → List Value} {R : Value → World → Prop} {k n : Nat} (v : Value) (w : World) (m : Mut [] w1 w) : InvV a0 w1 dl vl R k v (Array.replicate n false) a0 w where
  mu := m
  df := rfl
  sz := rfl
  hi := by
    intro i hi
    rw [Array.getD_eq_getD_getElem?, Array.getElem?_replicate] at hi
    split at hi <;> simp at hi
  ho := fun _ _ => rfl
  hR := by
    intro hi
    rw [Array.getD_eq_getD_getElem?, Array.getElem?_replicate] at hi
    split at hi <;> simp at hi

theorem InvV.done {a0 : Act} {w1 : World} {dl : List Nat} {vl : Value → List Value} {R : Value → World → Prop} {k : Nat} {v : Value} {listed : Array Bool} {a : Act} {w : World} (h : InvV a0 w1 dl vl R k v listed a w) (hn : dl.Nodup) (hb : ∀ d ∈ dl, d < a0.tmps.size) (hl : dl.length = (vl v).length)
    (hall : ∀ i, i < dl.length → listed.getD i false = true) : a = fillA a0 dl (vl v) :=
  fill_eq dl (vl v) a0 a hl hn hb h.sz h.df (fun i d u h1 h2 => h.hi i (hall i (List.getElem?_eq_some_iff.1 h1).1) d u h1 h2) h.ho

theorem ready_all {ops : Array Oper} {listed : Array Bool} (hz : listed.size = ops.size) (h : Region.ready .any ops listed = []) (hB : ((List.range ops.size).all fun i => match ops[i]? with | some o => o.after.all fun e => decide (e.on < i) | none => true) = true) : ∀ i, i < ops.size → listed.getD i false = true := by
  have hord : ∀ (i : Nat) (o : Oper), ops[i]? = some o → ∀ e ∈ o.after, Region.binds .any e = true → e.on < i := by
    intro i o ho e he _
    have h1 := List.all_eq_true.1 hB i (List.mem_range.2 (Array.getElem?_eq_some_iff.1 ho).1)
    rw [ho] at h1
    simp only [] at h1
    obtain ⟨k, hk, rfl⟩ := Array.getElem_of_mem he
    have h2 := Array.all_eq_true.1 h1 k hk
    exact of_decide_eq_true h2
  intro i
  induction i using Nat.strongRecOn with
  | _ i ih =>
    intro hi
    cases hl : listed.getD i false with
    | true => rfl
    | false =>
      exfalso
      have hlt : i < listed.size := by omega
      have h1 : listed.getD i true = false := by
        rw [Array.getD_eq_getD_getElem?, Array.getElem?_eq_getElem hlt, Option.getD_some] at hl ⊢
        exact hl
      have : i ∈ Region.ready .any ops listed := mem_ready.2 ⟨h1, ops[i], Array.getElem?_eq_getElem hi, fun e he hb => ih e.on (hord i _ (Array.getElem?_eq_getElem hi) e he hb) (by have := hord i _ (Array.getElem?_eq_getElem hi) e he hb; omega)⟩
      rw [h] at this
      cases this

end Go.Proofs.Ytgjcnembeebjfaa
