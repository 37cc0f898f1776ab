/- Arrays of two numbers, of three strings, that came in. -/
import Derived.Test.YtcdoamaljgjojaaLaw
import Derived.ChangeSame
import Derived.Laws.IdiomArrays
namespace Go.Proofs.Ytcdoamaljgjojaa
open Go.ChangeShapes Go.WideShapes Go.ChangeAt Go.RowKit

theorem trod_array2 {H : Type} {enc : TypeId × Value → H} {P : Program} {w : World} {base : Nat} {spare : Nat → Bool} {held : Bool} {t e : TypeId} {fuel : Nat} {c0 c1 : Value} {x : DataW H × List MemPlace} (ht : P.underlying t = some (.array 2 e)) (hce : P.cellsOf e = 1)
    (h : DataW.trod enc P w base spare held fuel t [c0, c1] = some x) :
    ∃ y0 y1 n, x = (.agg [y0.1, y1.1], y0.2 ++ y1.2) ∧ DataW.trod enc P w base spare held n e [c0] = some y0 ∧ DataW.trod enc P w base spare held n e [c1] = some y1 := by
  cases fuel with
  | zero => simp [DataW.trod] at h
  | succ n =>
    unfold DataW.trod at h
    rw [ht] at h
    have r2 : List.range 2 = [0, 1] := rfl
    simp [r2, hce] at h
    obtain ⟨_, h⟩ := h
    cases h0 : DataW.trod enc P w base spare held n e [c0] with
    | none => simp [h0] at h
    | some y0 =>
      cases h1 : DataW.trod enc P w base spare held n e [c1] with
      | none => simp [h0, h1] at h
      | some y1 =>
        simp [h0, h1] at h
        exact ⟨y0, y1, n, h.symm, h0, h1⟩

theorem okWide_array {P : Program} {w : World} {r : Reach} {base : Nat} {t e : TypeId} {v : Value} {n : Nat} (ht : P.underlying t = some (.array n e)) (h : Value.okWide P w r base t v) : ∃ cs, v = .agg cs ∧ cs.size = P.cellsOf t := by
  simp only [Value.okWide, ht] at h
  obtain ⟨cs, h1, h2, _⟩ := h
  exact ⟨cs, h1, h2⟩

theorem open_pair {H : Type} {enc : TypeId × Value → H} {P : Program} {W : World} {r : Reach} {b0 : Nat} {t e : TypeId} {k : IntKind} {v : Value} {d : DataW H} {p : List MemPlace} (ht : P.underlying t = some (.array 2 e)) (he : P.underlying e = some (.int k)) (hc : P.cellsOf e = 1) (hc2 : P.cellsOf t = 2)
    (hv : Value.okWide P W r b0 t v) (h : DataW.Trod enc P W 0 (fun _ => true) true t v d p) : ∃ a b, v = .agg #[.int k a, .int k b] ∧ (Lit.int k a).wf = true ∧ (Lit.int k b).wf = true := by
  obtain ⟨cs, rfl, hs⟩ := okWide_array ht hv
  rw [hc2] at hs
  obtain ⟨fuel, hf⟩ := h
  obtain ⟨l⟩ := cs
  match l, hs with
  | [c0, c1], _ =>
    obtain ⟨y0, y1, n, -, h0, h1⟩ := trod_array2 ht hc hf
    obtain ⟨z0, e0, _, w0⟩ := DataW.trod_int he h0
    obtain ⟨z1, e1, _, w1⟩ := DataW.trod_int he h1
    simp at e0 e1
    subst e0 e1
    exact ⟨z0, z1, rfl, w0, w1⟩

theorem open_three {H : Type} {enc : TypeId × Value → H} {P : Program} {W : World} {r : Reach} {b0 : Nat} {t e : TypeId} {v : Value} {d : DataW H} {p : List MemPlace} (ht : P.underlying t = some (.array 3 e)) (he : P.underlying e = some .string) (hc : P.cellsOf e = 1) (hc2 : P.cellsOf t = 3)
    (hv : Value.okWide P W r b0 t v) (h : DataW.Trod enc P W 0 (fun _ => true) true t v d p) : ∃ a b c : ByteArray, v = .agg #[.string a, .string b, .string c] ∧ a.size + b.size + c.size ≤ Rows.uptoBulk d := by
  obtain ⟨cs, rfl, hs⟩ := okWide_array ht hv
  rw [hc2] at hs
  obtain ⟨fuel, hf⟩ := h
  obtain ⟨l⟩ := cs
  match l, hs with
  | [c0, c1, c2], _ =>
    obtain ⟨y0, y1, y2, n, e, h0, h1, h2⟩ := trod_array3 ht hc hf
    obtain ⟨z0, e0, r0, _⟩ := DataW.trod_string he h0
    obtain ⟨z1, e1, r1, _⟩ := DataW.trod_string he h1
    obtain ⟨z2, e2, r2, _⟩ := DataW.trod_string he h2
    simp at e0 e1 e2
    subst e0 e1 e2 r0 r1 r2
    refine ⟨z0, z1, z2, rfl, ?_⟩
    simp only [Prod.mk.injEq] at e
    rw [e.1]
    simp only [Rows.uptoBulk, Rows.uptoBulkAll, Array.length_toList]
    have q0 : z0.data.size = z0.size := rfl
    have q1 : z1.data.size = z1.size := rfl
    have q2 : z2.data.size = z2.size := rfl
    omega

end Go.Proofs.Ytcdoamaljgjojaa
