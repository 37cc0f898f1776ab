/- A range over a function whose iterator keeps its state in a cell (block Bs): the statement's law, for rounds that all go on. -/
import Derived.Test.YthnljhcncpiemaaBase
import Derived.RangeFuncNested
import Derived.RangeFuncBound
import Derived.RangeFuncCalls
import Derived.RangeFuncLeaves
import Derived.Shelf.Abstract
import Derived.Shelf.RegionOpen
import Derived.OwnWalkIn
import Derived.TacticsInMore
import Derived.LoopNIn
import Derived.LoopIn
namespace Go.Proofs.Ythnljhcncpiemaa
open Go.RowKit
set_option linter.unusedVariables false

/-- what an iterator promises whose rounds are N, and which writes block Bs alone -/
def Gives (n : Nat) (P : Program) (g : Nat) (lb : Array Value) (encs : Nat → Array Value) (Bs N : Nat) (w : World) : Prop :=
  ∀ (l : Nat) (J : Nat → World → Prop) (W : World), Below w.heap.size w W →
    (∀ k A B row, J k A → A.grownBy B row → (∀ r, row = some r → r = Bs) → J k B) →
    (∀ k W1, k < N → J k W1 → YieldAt Fence.wide (n - 1) P l (encs k) W1 fun e W' => e = .returned (.bool true) ∧ J (k + 1) W' ∧ W'.heap[Bs]? = W1.heap[Bs]?) →
    J 0 W → CallsIn Fence.wide n P g (#[.func (.yield l) #[] #[]] ++ lb) W fun e W' => (∃ v, e = .returned v) ∧ J N W'

def roundEnd (I : World → Prop) (Bs D : Nat) (W : World) : Exit → Act → World → Prop
  | .normal, _, W' => W'.heap[D]? = W.heap[D]? ∧ W'.heap[D + 1]? = W.heap[D + 1]? ∧ W'.heap[Bs]? = W.heap[Bs]? ∧ I W'
  | _, _, _ => False

theorem rangeSt {n : Nat} {P : Program} {g : Operand} {ps : Array Tmp} {assign body : Code} {Q : Exit → Act → World → Prop} {a : Act} {w : World} (h1 : 1 ≤ n)
    {gf : Nat} {lb : Array Value} (hg : a.eval g = .func (.func gf) #[] lb) (eg : ∀ args w, (callFunc gf args).run P w = .ok (.enter gf args) w)
    {encs : Nat → Array Value} {Bs N : Nat} (hB : Bs < w.heap.size) (hseq : Gives (n - 1) P gf lb encs Bs N w) (hps : ∀ k, (encs k).size = ps.size)
    (I : Nat → World → Prop) (hI : ∀ k A B row, I k A → A.grownBy B row → (∀ r, row = some r → r = Bs ∨ ((r = w.heap.size ∨ r = w.heap.size + 1) ∧ ∃ o : Obj, A.heap[r]? = some o ∧ o.isCells = false)) → I k B) (h0 : I 0 w) (a₁ : Nat → Act)
    (hassign : ∀ (l k : Nat) (W : World) (K : Act → World → Prop), k < N → K (a₁ k) W →
      assign.wpIn (Fence.wide.inRound l) (n - 1 - 1) P (Exit.then K (fun _ _ _ => False)) { tmps := (ps.zip (encs k)).foldl (fun t (p, v) => t.setIfInBounds p v) a.tmps, defers := [] } W)
    (hbody : ∀ (l k : Nat) (W : World), k < N → I k W → (∃ o : Obj, W.heap[w.heap.size]? = some o ∧ o.isCells = false) → (∃ o : Obj, W.heap[w.heap.size + 1]? = some o ∧ o.isCells = false) →
      body.wpIn (Fence.wide.inRound l) (n - 1 - 1) P (roundEnd (I (k + 1)) Bs w.heap.size W) (a₁ k) W)
    (hdone : ∀ (W : World), I N W → W.heap[w.heap.size]? = some (.deferred (some [])) → Q .normal { a with defers := { target := .collected w.heap.size, args := #[] } :: a.defers } W) :
    (Code.rangeFunc g ps assign body).wpIn Fence.wide n P Q a w := by
  refine wpIn_rangeFunc ?_
  intro fn hfn
  rw [show Fence.wide.round = none from rfl]
  obtain ⟨rec, hrec⟩ : ∃ rec : LoopState → Option Code → Loop, rec = fun st pe => { state := st, pending := pe, fn, tmps := a.tmps, params := ps, assign, body, defers := w.heap.size } := ⟨_, rfl⟩
  obtain ⟨W1, hW1⟩ : ∃ W1, (w.alloc (.deferred (some []))).alloc (.loop (rec .ready none)) = W1 := ⟨_, rfl⟩
  have hL1 : W1.heap[w.heap.size + 1]? = some (.loop (rec .ready none)) := by
    rw [← hW1]; have := World.alloc_heap_new (w.alloc (.deferred (some []))) (.loop (rec .ready none)); rwa [World.size_alloc] at this
  have hK1 : W1.heap[w.heap.size]? = some (.deferred (some [])) := by
    rw [← hW1]; exact (Below.heap_alloc _ _ _ (by simp)).trans (World.alloc_heap_new w _)
  have hI1 : I 0 W1 := by rw [← hW1]; exact hI _ _ _ none (hI _ _ _ none h0 (World.grownBy_alloc _ _ _) (by simp)) (World.grownBy_alloc _ _ _) (by simp)
  have hb1 : Below w.heap.size w W1 := by
    rw [← hW1]; exact ((Below.refl _ w).alloc (Nat.le_refl _) _).alloc (by simp) _
  refine ⟨w.heap.size + 1, [{ target := .collected w.heap.size, args := #[] }], W1, { target := .fn (.func gf) lb, args := #[.func (.yield (w.heap.size + 1)) #[] #[]] }, W1, gf,
    #[.func (.yield (w.heap.size + 1)) #[] #[]] ++ lb, W1, ?_, ?_, ?_, ?_, fun _ => h1, ?_⟩
  · rw [← hW1, hrec]; exact run_enterLoop_outer _ _ _ _ _
  · simp only [resolve, hg]
    simp [go_sem]
  · intro f' hf'; trivial
  · simp [invoke, go_sem, eg]
  · refine (hseq (w.heap.size + 1)
      (fun k W => I k W ∧ W.heap[w.heap.size + 1]? = some (.loop (rec .ready none)) ∧ W.heap[w.heap.size]? = some (.deferred (some [])))
      W1 hb1 ?_ ?_ ⟨hI1, hL1, hK1⟩).mono ?_
    · intro k A B row hs hgr hr
      have hk : ∀ j, w.heap.size ≤ j → j < A.heap.size → B.heap[j]? = A.heap[j]? := fun j hj hlt => hgr.block j hlt (fun e => by have := hr j e.symm; omega)
      exact ⟨hI k A B row hs.1 hgr (fun r e => .inl (hr r e)), (hk _ (by omega) (lt_of_heap hs.2.1)).trans hs.2.1, (hk _ (by omega) (lt_of_heap hs.2.2)).trans hs.2.2⟩
    · rintro k W hkN ⟨hi, hl, hk⟩
      have hlt := lt_of_heap hl
      have hy := run_yield (P := P) (args := encs k) hl (by rw [hrec]; exact hps k)
      rw [hrec] at hy
      refine ⟨fn, _, assign, body, hy, roundIn_of_wpIn hfn (hassign _ k W _ hkN ⟨_, run_beginRound hl (by rw [hrec]), ?_⟩)⟩
      obtain ⟨W2, hW2⟩ : ∃ W2, W.putObj (w.heap.size + 1) (.loop { rec .ready none with state := .busy }) = W2 := ⟨_, rfl⟩
      have hl2 : W2.heap[w.heap.size + 1]? = some (.loop { rec .ready none with state := .busy }) := by rw [← hW2]; exact World.putObj_heap_same hlt
      have hk2 : W2.heap[w.heap.size]? = some (.deferred (some [])) := by rw [← hW2]; exact (World.putObj_heap_other (by omega)).trans hk
      have hbs2 : W2.heap[Bs]? = W.heap[Bs]? := by rw [← hW2]; exact World.putObj_heap_other (by omega)
      have hi2 : I k W2 := by rw [← hW2]; exact hI _ _ _ (some (w.heap.size + 1)) hi (grownBy_putObj' W _ _) (fun r e => by cases e; exact .inr ⟨.inr rfl, _, hl, rfl⟩)
      rw [hW2]
      refine wpIn_mono (hbody _ k W2 hkN hi2 ⟨_, hk2, rfl⟩ ⟨_, hl2, rfl⟩) ?_
      rintro e a3 W3 hp
      cases e with
      | normal =>
        obtain ⟨hd3, hl3', hb3, hi3⟩ := hp
        have hl3 := hl3'.trans hl2
        have hk3 := hd3.trans hk2
        have hr := run_endRound (P := P) none hl3
        rw [hrec] at hr hl3 ⊢
        refine ⟨_, _, hr, rfl, ⟨hI _ _ _ (some (w.heap.size + 1)) hi3 (grownBy_putObj' W3 _ _) (fun r e => by cases e; exact .inr ⟨.inr rfl, _, hl3, rfl⟩), World.putObj_heap_same (lt_of_heap hl3), (World.putObj_heap_other (by omega)).trans hk3⟩, ?_⟩
        exact ((World.putObj_heap_other (by omega)).trans hb3).trans hbs2
      | ret => exact hp.elim
      | exit id => exact hp.elim
      | goto t => exact hp.elim
      | panic ch => exact hp.elim
      | outgrown => exact hp.elim
    · rintro e W2 ⟨⟨v, rfl⟩, hi, hl, hk⟩
      exact ⟨none, _, by have := run_endLoop (P := P) hl (by rw [hrec]; simp); rw [hrec] at this; exact this,
        hdone _ (hI _ _ _ (some (w.heap.size + 1)) hi (grownBy_putObj' W2 _ _) (fun r e => by cases e; exact .inr ⟨.inr rfl, _, hl, rfl⟩)) ((World.putObj_heap_other (by omega)).trans hk)⟩

/-- 'append' to a row of the call's own, inside a fence -/
theorem wpListIn_app {F : Fence} {n : Nat} {P : Program} {w : World} {ops : Array Oper} {rest : List Oper} {o : Oper} {a : Act} {Q : Exit → Act → World → Prop}
    (hg : o.guard = none) (s x : Operand) (t tx : TypeId) (hop : o.op = Op.call { callee := Callee.builtin Builtin.append, args := #[s, x], argTypes := #[t, tx] })
    (e : TypeId) (i : TypeInfo) (z : Value) (size bytes : Nat) (h1 : P.underlying t = some (.slice e)) (h2 : P.info? e = some i) (h3 : i.zero = some z) (h4 : i.size = size) (h5 : i.bytes = bytes) (h6 : z.cells.size = size)
    {v : Value} {k : Nat} {xs : List Value} (hown : w.ownsRow 0 e size v k xs) (hs : a.eval s = v)
    {vx : Value} {m : Nat} {news : List Value} (hsrc : Src P size tx vx m news w) (hx : a.eval x = vx)
    (b1 : k + m ≤ maxLen) (b2 : (k + m) * bytes ≤ 140737488355328)
    (hK : ∀ v' w', w'.ownsRow 0 e size v' (k + m) (xs ++ news) → w.grownBy w' v.ownBlock → (∀ g, v'.ownBlock = some g → v.ownBlock = some g ∨ w.heap.size ≤ g) → wpListIn F n P ops Q rest (a.put o.dst v') w') :
    wpListIn F n P ops Q (o :: rest) a w := by
  refine wpListIn_plain hg fun K hK' => ?_
  obtain ⟨v', w', hrun, r1, r2, r3⟩ := run_app (P := P) w t tx o.type e i z size bytes h1 h2 h3 h4 h5 h6 v k xs hown vx m news hsrc b1 b2
  unfold Oper.wpIn
  refine ⟨?_, ?_⟩
  · simp [Oper.about, hop, resolve, Target.leads, Sem.run_pure]
  · rw [Oper.semAt_plain F _ _ (by rw [hop]; intro c hc'; cases hc')]
    simp [execOp, hop, resolve, invoke, builtin, hs, hx, hrun, Result.andThen]
    exact hK' _ _ (hK v' w' r1 r2 r3)

end Go.Proofs.Ythnljhcncpiemaa
