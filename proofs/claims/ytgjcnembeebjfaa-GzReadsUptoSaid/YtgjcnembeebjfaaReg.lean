/- A region that draws its order, with one operation that all the later ones wait for and that waits for all the earlier ones: the earlier ones and the later ones only read, that one may write. No program. -/
import Derived.Test.YtgjcnembeebjfaaBase
import Derived.StillTail
import Derived.OrdersHeld
import Derived.Deep.QuietTactic
import Derived.BigQuiet
namespace Go.Proofs.Ytgjcnembeebjfaa
open Go.RowKit
set_option linter.unusedVariables false

section
variable {P : Program} {ops : Array Oper} {md : Region.Mode} {C : World → Prop}

def lateB (md : Region.Mode) (ops : Array Oper) (n : Nat) : Bool :=
  (List.range ops.size).all fun t => decide (t ≤ n) || (List.range t).any fun t' => decide (n ≤ t') && Region.waitsFor md ops t t'

def headB (md : Region.Mode) (ops : Array Oper) : Nat → Nat → Array Bool → Bool
  | 0, k, listed => decide (Region.ready md ops listed = [k]) && Region.lexFrom md ops (ops.size - (k + 1)) (k + 1) (listed.setIfInBounds k true)
  | f + 1, k, listed => (Region.ready md ops listed).contains k && Region.free md ops listed k && headB md ops f (k + 1) (listed.setIfInBounds k true)

def barB (md : Region.Mode) (ops : Array Oper) (n : Nat) : Bool :=
  Region.noSelect ops && decide (n < ops.size) && Region.sinkB md ops n && lateB md ops n && headB md ops n 0 (Array.replicate ops.size false)

theorem bar_waits {n : Nat} {listed : Array Bool} (hs : Region.sinkB md ops n = true) (hc : lateB md ops n = true) (hn : n < ops.size) (inv : HeadInv md ops n listed) :
    ∀ (d i : Nat), n - i = d → i < n → listed.getD i true = false → ∀ t, n ≤ t → t ∉ Region.ready md ops listed := by
  intro d
  induction d using Nat.strongRecOn with
  | _ d ih =>
    intro i hd hi hun t ht hr
    obtain ⟨_, ot, hot, hall⟩ := mem_ready.1 hr
    have htlt : t < ops.size := (Array.getElem?_eq_some_iff.1 hot).1
    by_cases htn : t = n
    · subst htn
      have h1 := List.all_eq_true.1 hs i (List.mem_range.2 hi)
      obtain ⟨j, hj, hj2⟩ := List.any_eq_true.1 h1
      simp only [Bool.and_eq_true, decide_eq_true_eq] at hj2
      obtain ⟨oj, hoj, e, he, hb, hon⟩ := Region.waitsFor_spec hj2.2
      have hjle : j ≤ t := by have := List.mem_range.1 hj; omega
      by_cases hjt : j = t
      · subst hjt
        have : oj = ot := Option.some.inj (hoj.symm.trans hot)
        subst this
        have h2 := hall e he hb
        rw [hon, getD_both hun] at h2
        cases h2
      · cases hl : listed.getD j false with
        | true =>
          have h2 := inv.closed j oj hoj hl e he hb
          rw [hon, getD_both hun] at h2
          cases h2
        | false =>
          have hjs : j < listed.size := by rw [inv.size]; omega
          exact ih (t - j) (by omega) j rfl (by omega) (getD_in hjs hl) t (Nat.le_refl _) hr
    · have h1 := List.all_eq_true.1 hc t (List.mem_range.2 htlt)
      simp only [Bool.or_eq_true, decide_eq_true_eq] at h1
      rcases h1 with h1 | h1
      · omega
      · obtain ⟨t', ht', h3⟩ := List.any_eq_true.1 h1
        simp only [Bool.and_eq_true, decide_eq_true_eq] at h3
        have := List.mem_range.1 ht'
        obtain ⟨o', ho', e, he, hb, hon⟩ := Region.waitsFor_spec h3.2
        have : o' = ot := Option.some.inj (ho'.symm.trans hot)
        subst this
        have h2 := hall e he hb
        rw [hon, getD_both (inv.tail t' h3.1 (by omega))] at h2
        cases h2

/-- the same, but for operations that hang on no world -/
def sinkE (md : Region.Mode) (ops : Array Oper) (n : Nat) (ex : List Nat) : Bool :=
  (List.range n).all fun i => ex.contains i || (List.range (n + 1)).any fun j => decide (i < j) && (!ex.contains j) && Region.waitsFor md ops j i

theorem bar_waitsE {n : Nat} {ex : List Nat} {listed : Array Bool} (hs : sinkE md ops n ex = true) (hc : lateB md ops n = true) (hn : n < ops.size) (inv : HeadInv md ops n listed) :
    ∀ (d i : Nat), n - i = d → i < n → ex.contains i = false → listed.getD i true = false → ∀ t, n ≤ t → t ∉ Region.ready md ops listed := by
  intro d
  induction d using Nat.strongRecOn with
  | _ d ih =>
    intro i hd hi hex hun t ht hr
    obtain ⟨_, ot, hot, hall⟩ := mem_ready.1 hr
    have htlt : t < ops.size := (Array.getElem?_eq_some_iff.1 hot).1
    by_cases htn : t = n
    · subst htn
      have h1 := List.all_eq_true.1 hs i (List.mem_range.2 hi)
      rw [hex, Bool.false_or] at h1
      obtain ⟨j, hj, hj2⟩ := List.any_eq_true.1 h1
      simp only [Bool.and_eq_true, decide_eq_true_eq, Bool.not_eq_true'] at hj2
      obtain ⟨⟨hij, hjx⟩, hw⟩ := hj2
      obtain ⟨oj, hoj, e, he, hb, hon⟩ := Region.waitsFor_spec hw
      have hjle : j ≤ t := by have := List.mem_range.1 hj; omega
      by_cases hjt : j = t
      · subst hjt
        have : oj = ot := Option.some.inj (hoj.symm.trans hot)
        subst this
        have h2 := hall e he hb
        rw [hon, getD_both hun] at h2
        cases h2
      · cases hl : listed.getD j false with
        | true =>
          have h2 := inv.closed j oj hoj hl e he hb
          rw [hon, getD_both hun] at h2
          cases h2
        | false =>
          have hjs : j < listed.size := by rw [inv.size]; omega
          exact ih (t - j) (by omega) j rfl (by omega) hjx (getD_in hjs hl) t (Nat.le_refl _) hr
    · have h1 := List.all_eq_true.1 hc t (List.mem_range.2 htlt)
      simp only [Bool.or_eq_true, decide_eq_true_eq] at h1
      rcases h1 with h1 | h1
      · omega
      · obtain ⟨t', ht', h3⟩ := List.any_eq_true.1 h1
        simp only [Bool.and_eq_true, decide_eq_true_eq] at h3
        have := List.mem_range.1 ht'
        obtain ⟨o', ho', e, he, hb, hon⟩ := Region.waitsFor_spec h3.2
        have : o' = ot := Option.some.inj (ho'.symm.trans hot)
        subst this
        have h2 := hall e he hb
        rw [hon, getD_both (inv.tail t' h3.1 (by omega))] at h2
        cases h2

/-- the earlier ones, in whatever order, and then L -/
def wpAnyLC (P : Program) (md : Region.Mode) (ops : Array Oper) (C : World → Prop) (n : Nat) (L : Array Bool → Act → Prop) : Nat → Array Bool → Act → Prop
  | 0, listed, a => L listed a
  | f + 1, listed, a => Region.ready md ops listed ≠ [] ∧ ∀ i ∈ Region.ready md ops listed, i < n ∧ qOp P ops C i (wpAnyLC P md ops C n L f (listed.setIfInBounds i true)) a

theorem wpAny_of_headC {n g : Nat} {L : Array Bool → Act → Prop} {Q' : Exit → Act → World → Prop} (hL : ∀ listed a w, C w → L listed a → wpAny P md ops Q' g listed a w) :
    ∀ (f : Nat) (listed : Array Bool) (a : Act) (w : World), C w → wpAnyLC P md ops C n L f listed a → wpAny P md ops Q' (f + g) listed a w
  | 0, listed, a, w, hw, h => by rw [Nat.zero_add]; exact hL _ _ _ hw h
  | f + 1, listed, a, w, hw, h => by
    rw [show f + 1 + g = (f + g) + 1 by omega]
    exact ⟨fun h0 => absurd h0 h.1, fun i hi => wpOp_of_qOp hw (fun a' w' hw' h' => wpAny_of_headC hL f _ a' w' hw' h') (h.2 i hi).2⟩

theorem wpAnyLC_first {n i : Nat} {oi : Oper} {v : Value} {L : Array Bool → Act → Prop} (hi : ops[i]? = some oi) (hsel : ∀ (j : Nat) (o : Oper) cs b, ops[j]? = some o → o.op ≠ .select cs b)
    (hs : Region.sinkB md ops n = true) (hc : lateB md ops n = true) (hn : n < ops.size) (hin : i < n)
    (hdone : ∀ listed a, L listed a → ∀ j ∈ Region.ready md ops listed, n ≤ j) :
    ∀ (f : Nat) (listed : Array Bool) (a : Act), HeadInv md ops n listed →
      (∀ j oj, ops[j]? = some oj → j ≠ i → listed.getD j true = false → (∀ e ∈ oj.after, Region.binds md e = true → e.on ≠ i) → oi.apart ops oj = true) →
      i ∈ Region.ready md ops listed → YieldsIn P ops C oi v a →
      wpAnyLC P md ops C n L f (listed.setIfInBounds i true) (a.put oi.dst v) → wpAnyLC P md ops C n L (f + 1) listed a := by
  intro f
  induction f with
  | zero =>
    intro listed a inv _ hr hy H
    have hun := (mem_ready.1 hr).1
    refine ⟨fun h => (by rw [h] at hr; cases hr), fun j hj => ?_⟩
    have hjn : j < n := by
      rcases Nat.lt_or_ge j n with h | h
      · exact h
      · exact absurd hj (bar_waits hs hc hn inv _ i rfl hin hun j h)
    refine ⟨hjn, ?_⟩
    by_cases hji : j = i
    · subst hji; exact hy.qOp hi H
    · have := hdone _ _ H j (ready_mono hj hji)
      omega
  | succ f ih =>
    intro listed a inv hfree hr hy H
    have hun := (mem_ready.1 hr).1
    refine ⟨fun h => (by rw [h] at hr; cases hr), fun j hj => ?_⟩
    have hjn : j < n := by
      rcases Nat.lt_or_ge j n with h | h
      · exact h
      · exact absurd hj (bar_waits hs hc hn inv _ i rfl hin hun j h)
    refine ⟨hjn, ?_⟩
    by_cases hji : j = i
    · subst hji; exact hy.qOp hi H
    · have h1 := (H.2 j (ready_mono hj hji)).2
      obtain ⟨hjun, oj, hoj, hall⟩ := mem_ready.1 hj
      have hnot : ∀ e ∈ oj.after, Region.binds md e = true → e.on ≠ i := fun e he hb heq => by
        have h1 := hall e he hb
        rw [heq, getD_both hun] at h1
        cases h1
      have h2 := qOp_put hoj (hfree j oj hoj hji hjun hnot) (fun cs b => hsel i oi cs b hi) (fun cs b => hsel j oj cs b hoj) hy h1
      have hfree' : ∀ k ok, ops[k]? = some ok → k ≠ i → (listed.setIfInBounds j true).getD k true = false →
          (∀ e ∈ ok.after, Region.binds md e = true → e.on ≠ i) → oi.apart ops ok = true := fun k ok hk hki hun hno => by
        refine hfree k ok hk hki ?_ hno
        by_cases hjk : j = k
        · subst hjk; exact hjun
        · rw [getD_set_ne true hjk] at hun; exact hun
      refine qOp_mono (fun a' h3 => ih (listed.setIfInBounds j true) a' (inv.set hj hjn) hfree' (ready_mono hr (Ne.symm hji)) h3.1 ?_) h2
      rw [Array.setIfInBounds_comm _ _ hji]
      exact h3.2

theorem wpAnyLC_lex {n : Nat} {Lq : Act → Prop} (hsel : Region.noSelect ops = true) (hs : Region.sinkB md ops n = true) (hc : lateB md ops n = true) (hn : n < ops.size) :
    ∀ (l : List Oper) (k : Nat) (listed : Array Bool) (a : Act), (∀ j, j < l.length → l[j]? = ops[k + j]?) → k + l.length = n → HeadInv md ops n listed →
    headB md ops l.length k listed = true → wpQuiet P ops C Lq l a →
    wpAnyLC P md ops C n (fun listed' a' => headB md ops 0 n listed' = true ∧ Lq a') l.length listed a
  | [], k, listed, a, _, hk, _, hB, h => by
    have : k = n := by simpa using hk
    subst this
    exact ⟨hB, h⟩
  | o :: l, k, listed, a, hl, hk, inv, hB, h => by
    have h0 : ops[k]? = some o := by simpa using (hl 0 (by simp)).symm
    simp only [List.length_cons, headB, Bool.and_eq_true] at hB
    obtain ⟨⟨hr, hf⟩, hB'⟩ := hB
    have hkn : k < n := by simp only [List.length_cons] at hk; omega
    have hr' : k ∈ Region.ready md ops listed := by simpa using hr
    have hst : qOp P ops C k (wpQuiet P ops C Lq l) a := by unfold qOp; simp only [h0]; exact h
    obtain ⟨v, hy, hK⟩ := yieldsIn_of_qOp h0 hst
    exact wpAnyLC_first h0 (Region.noSelect_spec hsel) hs hc hn hkn (fun listed' a' hL j hj => by
        have h1 := hL.1
        simp only [headB, Bool.and_eq_true, decide_eq_true_eq] at h1
        rw [h1.1] at hj
        have : j = n := by simpa using hj
        omega) l.length listed a inv (Region.free_spec h0 hf) hr' hy
      (wpAnyLC_lex hsel hs hc hn l (k + 1) _ _ (fun j hj => by have := hl (j + 1) (by simp; omega); simpa [Nat.add_assoc, Nat.add_comm 1 j] using this) (by simp only [List.length_cons] at hk; omega) (inv.set hr' hkn) hB' hK)

/-- ONE OPERATION THAT MAY WRITE, between earlier ones and later ones that only read. -/
theorem wp_region_bar {id : Nat} {Q : Exit → Act → World → Prop} {a : Act} {w : World} {l : List Oper} (n : Nat) (o : Oper) (ho : l[n]? = some o)
    (hm : P.follows .mixedOrders = true) (hB : barB .any l.toArray n = true)
    (h : wpQuiet P l.toArray (fun w' => ∃ k, w' = w.drewN k) (fun a' => ∀ w', (∃ k, w' = w.drewN k) → ∀ K : Act → World → Prop,
      (∀ a'' w'', wpQuiet P l.toArray (fun w3 => ∃ k, w3 = w''.drewN k) (fun a3 => ∀ w3, (∃ k, w3 = w''.drewN k) → Q .normal a3 w3) (l.drop (n + 1)) a'' → K a'' w'') →
      if Region.wanted o (yielded l.toArray a'.tmps) = true then Oper.wp P o a' w' K Q else K (a'.put o.dst undef) w') (l.take n) a) : (Code.region id l.toArray true).wp P Q a w := by
  simp only [barB, Bool.and_eq_true, decide_eq_true_eq] at hB
  obtain ⟨⟨⟨⟨hsel, hn⟩, hs⟩, hc⟩, hlex⟩ := hB
  have hn' : n < l.length := by simpa using hn
  have htl : (l.take n).length = n := by simp; omega
  have hdl : (l.drop (n + 1)).length = l.toArray.size - (n + 1) := by simp
  have inv0 : HeadInv .any l.toArray n (Array.replicate l.toArray.size false) :=
    ⟨by simp, fun j oj _ hl => (by rw [getD_replicate_false] at hl; cases hl), fun t _ ht => getD_in (by simpa using ht) (getD_replicate_false _ _)⟩
  have H := wpAnyLC_lex (md := .any) (C := fun w' => ∃ k, w' = w.drewN k) hsel hs hc hn (l.take n) 0 _ a (fun j hj => by
    have hj' : j < n := by rw [htl] at hj; exact hj
    simp [hj']) (by simpa using htl) inv0 (by rw [htl]; exact hlex) h
  refine wp_region_any hm ?_
  rw [htl] at H
  have := wpAny_of_headC (Q' := Q) (g := l.toArray.size - (n + 1) + 1) ?_ _ _ _ { w with drawn := w.drawn + 1 } ⟨1, rfl⟩ H
  · rw [show n + (l.toArray.size - (n + 1) + 1) = l.toArray.size by omega] at this
    exact this
  · intro listed a' w' hw' hL
    obtain ⟨h1, h2⟩ := hL
    simp only [headB, Bool.and_eq_true, decide_eq_true_eq] at h1
    refine ⟨fun h0 => (by rw [h1.1] at h0; cases h0), fun i hi => ?_⟩
    rw [h1.1] at hi
    have hik : i = n := by simpa using hi
    subst hik
    have h3 := h2 w' hw' (wpAny P .any l.toArray Q (l.toArray.size - (i + 1)) (listed.setIfInBounds i true)) (fun a'' w'' h4 => by
      have h5 := wpAnyQ_lex (md := .any) hsel (l.drop (i + 1)) (i + 1) (listed.setIfInBounds i true) a'' (fun j => by simp [List.getElem?_drop]) (by rw [hdl]; exact h1.2) h4
      rw [hdl] at h5
      exact wpAny_of_quiet (Q := fun a3 => ∀ w3, (∃ k, w3 = w''.drewN k) → Q .normal a3 w3) (fun a3 w3 hw3 h6 => h6 w3 hw3) _ _ _ _ ⟨0, rfl⟩ h5)
    have ho' : l.toArray[i]? = some o := by simpa using ho
    unfold wpOp
    simp only [ho']
    split
    · rename_i hw
      rw [if_pos hw] at h3
      exact .inl h3
    · rename_i hw
      rw [if_neg hw] at h3
      exact h3

/-! operations that only read, and a chain of operations that may write: the reads may come up before or behind them -/

/-- it yields a value or nothing: no call of a Go function -/
def plainB : Op → Bool
  | .move _ | .assign _ | .load _ _ | .fieldAddr _ _ _ | .indexAddr _ _ _ | .index _ _ _ | .binOp _ _ _ _ _ | .unOp _ _ _ | .convert _ _ _ | .slice _ _ _ _ _ | .field _ _ _ | .extract _ _ | .nilCheck _ => true
  | .call c => match c.callee with
    | .builtin .len | .builtin .cap => true
    | _ => false
  | _ => false

def OnlyValue (P : Program) (s : Sem Next) : Prop := ∀ w n w', s.run P w = .ok n w' → ∃ v, n = .value v

theorem only_v {P : Program} (s : Sem Value) : OnlyValue P (do pure (.value (← s))) := by
  intro w n w' h
  rw [Sem.run_bind] at h
  cases hr : s.run P w with
  | ok x w1 =>
    rw [hr] at h
    simp only [Result.andThen] at h
    cases h
    exact ⟨_, rfl⟩
  | halt x w1 =>
    rw [hr] at h
    cases h

theorem only_bind {P : Program} {α : Type} (s : Sem α) (f : α → Sem Next) (hf : ∀ a, OnlyValue P (f a)) : OnlyValue P (s >>= f) := by
  intro w n w' h
  rw [Sem.run_bind] at h
  cases hr : s.run P w with
  | ok x w1 =>
    rw [hr] at h
    exact hf x w1 n w' h
  | halt x w1 =>
    rw [hr] at h
    cases h

theorem only_ret {P : Program} (v : Value) : OnlyValue P (pure (.value v)) := by
  intro w n w' h
  cases h
  exact ⟨_, rfl⟩

theorem only_halt {P : Program} (x : Halt) : OnlyValue P (Sem.halt x) := by
  intro w n w' h
  cases h

theorem only_plain {P : Program} (ρ : Operand → Value) (o : Oper) (h : plainB o.op = true) : OnlyValue P (execOp ρ o) := by
  unfold execOp
  cases ho : o.op <;> rw [ho] at h <;> try (simp only [plainB, Bool.false_eq_true] at h)
  all_goals simp only
  case move x => intro w n w' h; cases h; exact ⟨_, rfl⟩
  case assign x => intro w n w' h; cases h; exact ⟨_, rfl⟩
  case nilCheck x =>
    split
    · exact only_bind _ _ fun _ => only_halt _
    · exact only_bind _ _ fun _ => only_halt _
    · exact only_bind _ _ fun _ => only_halt _
    · split
      · exact only_bind _ _ fun _ => only_halt _
      · refine only_bind _ _ fun r => ?_
        refine only_bind _ _ fun r => ?_
        split
        · exact only_bind _ _ fun _ => only_ret _
        · exact only_ret _
      · exact only_ret _
    · exact only_ret _
  case call c =>
    obtain ⟨callee, args, types⟩ := c
    cases callee with
    | builtin b =>
      cases b <;> simp only [Bool.false_eq_true] at h
      · exact only_v (Builtin.cap_ types o.type (args.map ρ))
      · exact only_v (Builtin.len_ types o.type (args.map ρ))
    | _ => simp at h
  all_goals exact only_v _

/-- a world of which a fact is known -/
structure WIn (F : World → Prop) where
  w : World
  ok : F w

/-- the chain of operations that may write; what the reads lean on is shown anew behind the first q of them -/
def wpMov (P : Program) (ops : Array Oper) (Q : Exit → Act → World → Prop) (S : World → Prop) : Nat → List Oper → Act → World → Prop
  | _, [], a, w => Q .normal a w
  | q, o :: rest, a, w => ∀ K : Act → World → Prop, (∀ a' w', (0 < q → S w') → wpMov P ops Q S (q - 1) rest a' w' → K a' w') →
      if Region.wanted o (yielded ops a.tmps) = true then Oper.wp P o a w K Q else K (a.put o.dst undef) w

def wpAnyD (P : Program) (md : Region.Mode) (ops : Array Oper) (Q : Exit → Act → World → Prop) (S : World → Prop) (last : Nat) : Nat → Array Bool → Act → World → Prop
  | 0, listed, a, w => Region.ready md ops listed = [] ∧ Q .normal a w
  | f + 1, listed, a, w => (Region.ready md ops listed = [] → Q .normal a w) ∧
    ∀ i ∈ Region.ready md ops listed, wpOp P ops Q i (fun a' w' => (i < last → S w') ∧ wpAnyD P md ops Q S last f (listed.setIfInBounds i true) a' w') a w

theorem wpAny_of_D {Q : Exit → Act → World → Prop} {S : World → Prop} {last : Nat} : ∀ (f : Nat) (listed : Array Bool) (a : Act) (w : World), wpAnyD P md ops Q S last f listed a w → wpAny P md ops Q f listed a w
  | 0, _, _, _, h => h
  | f + 1, _, _, _, h => ⟨h.1, fun i hi => wpOp_mono (fun a' w' h' => wpAny_of_D f _ a' w' h'.2) (h.2 i hi)⟩

theorem wpAnyD_first {Q : Exit → Act → World → Prop} {S : World → Prop} {last i : Nat} {oi : Oper} {v : Value} (hi : ops[i]? = some oi) (hsel : ∀ (j : Nat) (o : Oper) cs b, ops[j]? = some o → o.op ≠ .select cs b)
    {ex : List Nat} (hs : sinkE md ops last ex = true) (hex : ex.contains i = false) (hc : lateB md ops last = true) (hn : last < ops.size) (hin : i < last) (hQ : ∀ c a w, Q (.panic c) (a.put oi.dst v) w → Q (.panic c) a w) :
    ∀ (f : Nat) (listed : Array Bool) (a : Act) (w : World), HeadInv md ops last listed →
      (∀ j oj, ops[j]? = some oj → j ≠ i → listed.getD j true = false → (∀ e ∈ oj.after, Region.binds md e = true → e.on ≠ i) → oi.apart ops oj = true) →
      i ∈ Region.ready md ops listed → YieldsIf P ops S oi v a → S w →
      wpAnyD P md ops Q S last f (listed.setIfInBounds i true) (a.put oi.dst v) w → wpAnyD P md ops Q S last (f + 1) listed a w := by
  intro f
  induction f with
  | zero =>
    intro listed a w inv _ hr hy hS H
    have hun := (mem_ready.1 hr).1
    refine ⟨fun h => (by rw [h] at hr; cases hr), fun j hj => ?_⟩
    by_cases hji : j = i
    · subst hji; exact hy.wpOp hi hS ⟨fun _ => hS, H⟩
    · have := ready_mono hj hji
      rw [H.1] at this
      cases this
  | succ f ih =>
    intro listed a w inv hfree hr hy hS H
    have hun := (mem_ready.1 hr).1
    refine ⟨fun h => (by rw [h] at hr; cases hr), fun j hj => ?_⟩
    have hjn : j < last := by
      rcases Nat.lt_or_ge j last with h | h
      · exact h
      · exact absurd hj (bar_waitsE hs hc hn inv _ i rfl hin hex hun j h)
    by_cases hji : j = i
    · subst hji; exact hy.wpOp hi hS ⟨fun _ => hS, H⟩
    · have h1 := H.2 j (ready_mono hj hji)
      obtain ⟨hjun, oj, hoj, hall⟩ := mem_ready.1 hj
      have hnot : ∀ e ∈ oj.after, Region.binds md e = true → e.on ≠ i := fun e he hb heq => by
        have h1 := hall e he hb
        rw [heq, getD_both hun] at h1
        cases h1
      have h2 := wpOp_putIf hoj (hfree j oj hoj hji hjun hnot) (fun cs b => hsel i oi cs b hi) (fun cs b => hsel j oj cs b hoj) hQ hy h1
      have hfree' : ∀ k ok, ops[k]? = some ok → k ≠ i → (listed.setIfInBounds j true).getD k true = false →
          (∀ e ∈ ok.after, Region.binds md e = true → e.on ≠ i) → oi.apart ops ok = true := fun k ok hk hki hun hno => by
        refine hfree k ok hk hki ?_ hno
        by_cases hjk : j = k
        · subst hjk; exact hjun
        · rw [getD_set_ne true hjk] at hun; exact hun
      refine wpOp_mono (fun a' w' h3 => ⟨fun hjl => h3.2.1 hjl, ih (listed.setIfInBounds j true) a' w' (inv.set hj hjn) hfree' (ready_mono hr (Ne.symm hji)) h3.1 (h3.2.1 hjn) ?_⟩) h2
      rw [Array.setIfInBounds_comm _ _ hji]
      exact h3.2.2

def movB (md : Region.Mode) (ops : Array Oper) (last : Nat) : Nat → List Nat → Array Bool → Bool
  | _, [], listed => (Region.ready md ops listed).isEmpty
  | q, i :: rest, listed => decide (Region.ready md ops listed = [i]) && decide (0 < q ∨ last ≤ i) && movB md ops last (q - 1) rest (listed.setIfInBounds i true)

def floatB (md : Region.Mode) (ops : Array Oper) (last q : Nat) (ex mi : List Nat) : List Nat → Array Bool → Bool
  | [], listed => movB md ops last q mi listed
  | i :: rest, listed => (Region.ready md ops listed).contains i && Region.free md ops listed i && decide (i < last) && (!ex.contains i) && floatB md ops last q ex mi rest (listed.setIfInBounds i true)

def preB (md : Region.Mode) (ops : Array Oper) (last q : Nat) (ex mi hi : List Nat) : List Nat → Array Bool → Bool
  | [], listed => floatB md ops last q ex mi hi listed
  | i :: rest, listed => (Region.ready md ops listed).contains i && Region.free md ops listed i && decide (i < last) && preB md ops last q ex mi hi rest (listed.setIfInBounds i true)

def mixB (md : Region.Mode) (ops : Array Oper) (last q : Nat) (pre hi mi : List Nat) : Bool :=
  Region.noSelect ops && decide (last < ops.size) && decide (pre.length + (hi.length + mi.length) = ops.size) && sinkE md ops last pre && lateB md ops last && preB md ops last q pre mi hi pre (Array.replicate ops.size false)

theorem wpAnyD_mov {Q : Exit → Act → World → Prop} {S : World → Prop} {last : Nat} : ∀ (q : Nat) (mi : List Nat) (movers : List Oper) (listed : Array Bool) (a : Act) (w : World), mi.map (fun i => ops[i]?) = movers.map some →
    movB md ops last q mi listed = true → wpMov P ops Q S q movers a w → wpAnyD P md ops Q S last mi.length listed a w
  | _, [], [], _, _, _, _, hB, h => ⟨by simpa [movB] using hB, h⟩
  | _, [], _ :: _, _, _, _, hm, _, _ => by simp at hm
  | _, _ :: _, [], _, _, _, hm, _, _ => by simp at hm
  | q, i :: mi, o :: movers, listed, a, w, hm, hB, h => by
    simp only [List.map_cons, List.cons.injEq] at hm
    simp only [movB, Bool.and_eq_true, decide_eq_true_eq] at hB
    obtain ⟨⟨hr, hq⟩, hB'⟩ := hB
    refine ⟨fun h1 => (by rw [h1] at hr; cases hr), fun j hj => ?_⟩
    rw [hr] at hj
    have hji : j = i := by simpa using hj
    subst hji
    have h1 := h (fun a' w' => (j < last → S w') ∧ wpAnyD P md ops Q S last mi.length (listed.setIfInBounds j true) a' w') (fun a' w' hS hw => ⟨fun hjl => hS (by
      rcases hq with h2 | h2
      · exact h2
      · omega), wpAnyD_mov (q - 1) mi movers _ a' w' hm.2 hB' hw⟩)
    unfold wpOp
    simp only [hm.1]
    split
    · rename_i hw
      rw [if_pos hw] at h1
      exact .inl h1
    · rename_i hw
      rw [if_neg hw] at h1
      exact h1

theorem yields_plain {C : World → Prop} {o : Oper} {v : Value} {a : Act} (hp : plainB o.op = true) (hy : YieldsIn P ops C o v a) : YieldsIf P ops C o v a := by
  rcases hy with ⟨h1, h2⟩ | h2
  · refine .inl ⟨h1, fun w' hw' => ?_⟩
    have h3 := h2 w' hw'
    have h4 := only_plain (P := P) a.eval o hp w'
    unfold Oper.quietAt at h3
    generalize (execOp a.eval o).run P w' = r at *
    cases r with
    | ok n w1 =>
      obtain ⟨u, rfl⟩ := h4 n w1 rfl
      simp only [Oper.quietUpon] at h3
      rw [h3.1, h3.2]
    | halt x w1 => simp only [Oper.quietUpon] at h3
  · exact .inr h2

theorem wpAnyD_heads {Q : Exit → Act → World → Prop} {S : World → Prop} {last q : Nat} {ex : List Nat} (hsel : Region.noSelect ops = true) (hs : sinkE md ops last ex = true) (hc : lateB md ops last = true) (hn : last < ops.size) (mi : List Nat) (movers : List Oper) (hmv : mi.map (fun i => ops[i]?) = movers.map some)
    (hQ : ∀ c a w (t : Nat) v, Q (.panic c) (a.put (some t) v) w → Q (.panic c) a w) (w : World) (hS : S w) :
    ∀ (hi : List Nat) (heads : List Oper) (listed : Array Bool) (a : Act), hi.map (fun i => ops[i]?) = heads.map some → (heads.all fun o => plainB o.op) = true → HeadInv md ops last listed →
      floatB md ops last q ex mi hi listed = true → wpQuiet P ops S (fun a' => wpMov P ops Q S q movers a' w) heads a → wpAnyD P md ops Q S last (hi.length + mi.length) listed a w
  | [], [], listed, a, _, _, _, hB, h => by
    rw [List.length_nil, Nat.zero_add]
    exact wpAnyD_mov q mi movers listed a w hmv hB h
  | [], _ :: _, _, _, hm, _, _, _, _ => by simp at hm
  | _ :: _, [], _, _, hm, _, _, _, _ => by simp at hm
  | i :: hi, o :: heads, listed, a, hm, hp, inv, hB, h => by
    simp only [List.map_cons, List.cons.injEq] at hm
    simp only [List.all_cons, Bool.and_eq_true] at hp
    simp only [floatB, Bool.and_eq_true, decide_eq_true_eq, Bool.not_eq_true'] at hB
    obtain ⟨⟨⟨⟨hr, hf⟩, hil⟩, hex⟩, hB'⟩ := hB
    have hr' : i ∈ Region.ready md ops listed := by simpa using hr
    have hst : qOp P ops S i (wpQuiet P ops S (fun a' => wpMov P ops Q S q movers a' w) heads) a := by unfold qOp; simp only [hm.1]; exact h
    obtain ⟨v, hy, hK⟩ := yieldsIn_of_qOp hm.1 hst
    rw [List.length_cons, show hi.length + 1 + mi.length = (hi.length + mi.length) + 1 by omega]
    exact wpAnyD_first hm.1 (Region.noSelect_spec hsel) hs hex hc hn hil (fun c a w hq => by
        cases hd : o.dst with
        | none => rw [hd] at hq; exact hq
        | some t => rw [hd] at hq; exact hQ c a w _ _ hq) _ listed a w inv (Region.free_spec hm.1 hf) hr' (yields_plain hp.1 hy) hS
      (wpAnyD_heads hsel hs hc hn mi movers hmv hQ w hS hi heads _ _ hm.2 hp.2 (inv.set hr' hil) hB' hK)

theorem wpAny_pre {Q : Exit → Act → World → Prop} {L : Act → Prop} {last q f : Nat} {ex mi hi : List Nat} (hsel : Region.noSelect ops = true) (hQ : ∀ c a w (t : Nat) v, Q (.panic c) (a.put (some t) v) w → Q (.panic c) a w) (w : World)
    (hL : ∀ listed a, L a → HeadInv md ops last listed → floatB md ops last q ex mi hi listed = true → wpAny P md ops Q f listed a w) :
    ∀ (pre : List Nat) (plist : List Oper) (listed : Array Bool) (a : Act), pre.map (fun i => ops[i]?) = plist.map some → (plist.all fun o => plainB o.op) = true → HeadInv md ops last listed →
      preB md ops last q ex mi hi pre listed = true → wpQuiet P ops (fun w' => ∃ x : World, w' = x) L plist a → wpAny P md ops Q (pre.length + f) listed a w
  | [], [], listed, a, _, _, inv, hB, h => by
    rw [List.length_nil, Nat.zero_add]
    exact hL listed a h inv hB
  | [], _ :: _, _, _, hm, _, _, _, _ => by simp at hm
  | _ :: _, [], _, _, hm, _, _, _, _ => by simp at hm
  | i :: pre, o :: plist, listed, a, hm, hp, inv, hB, h => by
    simp only [List.map_cons, List.cons.injEq] at hm
    simp only [List.all_cons, Bool.and_eq_true] at hp
    simp only [preB, Bool.and_eq_true, decide_eq_true_eq] at hB
    obtain ⟨⟨⟨hr, hf⟩, hil⟩, hB'⟩ := hB
    have hr' : i ∈ Region.ready md ops listed := by simpa using hr
    have hst : qOp P ops (fun w' => ∃ x : World, w' = x) i (wpQuiet P ops (fun w' => ∃ x : World, w' = x) L plist) a := by unfold qOp; simp only [hm.1]; exact h
    obtain ⟨v, hy, hK⟩ := yieldsIn_of_qOp hm.1 hst
    have hy' : Yields P ops o v a := by
      rcases yields_plain hp.1 hy with ⟨h1, h2⟩ | h2
      · exact .inl ⟨h1, fun w => h2 w ⟨w, rfl⟩⟩
      · exact .inr h2
    rw [List.length_cons, show pre.length + 1 + f = (pre.length + f) + 1 by omega]
    exact wpAny_first hm.1 (Region.noSelect_spec hsel) (fun c a w hq => by
        cases hd : o.dst with
        | none => rw [hd] at hq; exact hq
        | some t => rw [hd] at hq; exact hQ c a w _ _ hq) _ listed a w (Region.free_spec hm.1 hf) hr' hy'
      (wpAny_pre hsel hQ w hL pre plist _ _ hm.2 hp.2 (inv.set hr' hil) hB' hK)

/-- READS AND A CHAIN: first what hangs on no world ('pre'); then the reads, shown in every world of which S holds ('hi'); then the chain, walked behind all reads ('mi'); 'last': the first operation behind which no read may come up; S is shown anew behind the first q of the chain. -/
theorem wp_region_mix {id : Nat} {Q : Exit → Act → World → Prop} {a : Act} {w : World} {l : List Oper} (S : World → Prop) (last q : Nat) (pre hi mi : List Nat) (pf hf mf : List Oper → List Oper) (hpp : pre.map (fun i => l[i]?) = (pf l).map some) (hh : hi.map (fun i => l[i]?) = (hf l).map some) (hmv : mi.map (fun i => l[i]?) = (mf l).map some)
    (hp0 : ((pf l).all fun o => plainB o.op) = true) (hp : ((hf l).all fun o => plainB o.op) = true) (hm : P.follows .mixedOrders = true) (hB : mixB .any l.toArray last q pre hi mi = true) (hQ : ∀ c a w (t : Nat) v, Q (.panic c) (a.put (some t) v) w → Q (.panic c) a w) (hS : S w.drew)
    (h : wpQuiet P l.toArray (fun w' => ∃ x : World, w' = x) (fun a0 => wpQuiet P l.toArray S (fun a' => wpMov P l.toArray Q S q (mf l) a' w.drew) (hf l) a0) (pf l) a) : (Code.region id l.toArray true).wp P Q a w := by
  simp only [mixB, Bool.and_eq_true, decide_eq_true_eq] at hB
  obtain ⟨⟨⟨⟨⟨hsel, hn⟩, hlen⟩, hs⟩, hc⟩, hB⟩ := hB
  have inv0 : HeadInv .any l.toArray last (Array.replicate l.toArray.size false) :=
    ⟨by simp, fun j oj _ hl => (by rw [getD_replicate_false] at hl; cases hl), fun t _ ht => getD_in (by simpa using ht) (getD_replicate_false _ _)⟩
  refine wp_region_any hm ?_
  have := wpAny_pre (md := .any) (f := hi.length + mi.length) hsel hQ w.drew (fun listed a0 h0 inv hfl => wpAny_of_D (S := S) (last := last) _ _ _ _ (wpAnyD_heads hsel hs hc hn mi (mf l) (by simpa using hmv) hQ _ hS hi (hf l) listed a0 (by simpa using hh) hp inv hfl h0)) pre (pf l) _ a (by simpa using hpp) hp0 inv0 hB h
  rw [hlen] at this
  exact this

/-- an append to a row of the call's own, as a step -/
theorem step_append {ops : Array Oper} {o : Oper} {a : Act} {w : World} {K : Act → World → Prop} {Q : Exit → Act → World → Prop} {E : Prop}
    (hg : o.guard = none) (s x : Operand) (t tx : TypeId) (hop : o.op = Op.call { callee := Callee.builtin Builtin.append, args := #[s, x], argTypes := #[t, tx] })
    (e : TypeId) (i : TypeInfo) (z : Value) (size bytes : Nat) (h1 : P.underlying t = some (.slice e)) (h2 : P.info? e = some i) (h3 : i.zero = some z) (h4 : i.size = size) (h5 : i.bytes = bytes) (h6 : z.cells.size = size)
    {v : Value} {n : Nat} {xs : List Value} (hown : w.ownsRow 0 e size v n xs) (hs : a.eval s = v)
    {vx : Value} {m : Nat} {news : List Value} (hsrc : Src P size tx vx m news w) (hx : a.eval x = vx)
    (b1 : n + m ≤ maxLen) (b2 : (n + m) * bytes ≤ 140737488355328)
    (hK : ∀ v' w', w'.ownsRow 0 e size v' (n + m) (xs ++ news) → w.grownBy w' v.ownBlock → (∀ g, v'.ownBlock = some g → v.ownBlock = some g ∨ w.heap.size ≤ g) → K (a.put o.dst v') w') :
    if Region.wanted o (yielded ops a.tmps) = true then Oper.wp P o a w K Q else E := by
  have hw : Region.wanted o (yielded ops a.tmps) = true := by simp [Region.wanted, hg]
  rw [if_pos hw]
  obtain ⟨v', w', hrun, r1, r2, r3⟩ := run_app (P := P) w t tx o.type e i z size bytes h1 h2 h3 h4 h5 h6 v n xs hown vx m news hsrc b1 b2
  unfold Oper.wp
  simp [execOp, hop, resolve, invoke, builtin, hs, hx, hrun, Result.andThen]
  exact hK _ _ r1 r2 r3
end
end Go.Proofs.Ytgjcnembeebjfaa
