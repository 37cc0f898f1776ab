/- A slice of steps that came in, read. -/
import Derived.Test.YtlcfegckjkemhaaLaw
import Derived.Deep.Slices
namespace Go.Proofs.Ytlcfegckjkemhaa
open Go.ChangeShapes Go.WideShapes Go.ChangeAt Go.RowKit Go.Deep

structure ActD where
  what : Int
  n : Int
  v : Int
  text : ByteArray

instance : Inhabited ActD := ⟨⟨0, 0, 0, ByteArray.empty⟩⟩

/-- the steps' texts' lengths, and some, up to place k -/
def actSum (f : Nat → ActD) : Nat → Nat
  | 0 => 0
  | k + 1 => actSum f k + ((f k).text.size + 5)

def ActAt (w : World) (b o : Nat) (a : ActD) : Prop :=
  w.cell? ⟨b, o, none⟩ = some (.int .i64 a.what) ∧ w.cell? ⟨b, o + 1, none⟩ = some (.int .i64 a.n) ∧ w.cell? ⟨b, o + 2, none⟩ = some (.int .i64 a.v) ∧ w.cell? ⟨b, o + 3, none⟩ = some (.string a.text)

def ActWf (a : ActD) : Prop := (Lit.int .i64 a.what).wf = true ∧ (Lit.int .i64 a.n).wf = true ∧ (Lit.int .i64 a.v).wf = true

/-- A slice of steps that came in, read. -/
def Acts (w : World) (v : Value) (n : Nat) (f : Nat → ActD) : Prop :=
  ∃ ao cap, v = .slice ao n cap ∧ n ≤ cap ∧ cap ≤ maxLen ∧ (0 < n → ∃ b off, ao = some ⟨b, off, none⟩ ∧ b < w.heap.size ∧ ∀ i, i < n → ActAt w b (off + i * 4) (f i)) ∧ ∀ i, i < n → ActWf (f i)

theorem cells_act : Try.prog.cellsOf 33 = 4 := by kernel_rfl
theorem cells_int : Try.prog.cellsOf 3 = 1 := by kernel_rfl
theorem cells_str : Try.prog.cellsOf 9 = 1 := by kernel_rfl

def actData {H : Type} (a : ActD) : DataW H := .agg [.lit (.int .i64 a.what), .lit (.int .i64 a.n), .lit (.int .i64 a.v), .lit (.string a.text.data.toList)]

theorem bulkAll_append {H : Type} (l r : List (DataW H)) : Rows.uptoBulkAll (l ++ r) = Rows.uptoBulkAll l + Rows.uptoBulkAll r := by
  induction l with
  | nil => simp [Rows.uptoBulkAll]
  | cons x l ih => simp only [List.cons_append, Rows.uptoBulkAll, ih]; omega

theorem act_bulk {H : Type} (f : Nat → ActD) (D : Nat → DataW H) (n : Nat) (hD : ∀ i, i < n → D i = actData (f i)) : actSum f n ≤ Rows.uptoBulkAll ((List.range n).map D) := by
  induction n with
  | zero => simp [actSum]
  | succ n ih =>
    rw [List.range_succ, List.map_append, bulkAll_append]
    have h := ih fun i hi => hD i (by omega)
    have e : Rows.uptoBulkAll ([n].map D) = (f n).text.size + 5 := by
      simp only [List.map_cons, List.map_nil, Rows.uptoBulkAll, hD n (by omega), actData, Rows.uptoBulk, Array.length_toList]
      have : (f n).text.data.size = (f n).text.size := rfl
      omega
    simp only [actSum]
    omega

theorem open_Acts {H : Type} {enc : TypeId × Value → H} {W : World} {r : Reach} {b0 : Nat} {v : Value} {d : DataW H} {p : List MemPlace}
    (hv : Value.okWide Try.prog W r b0 29 v) (h : DataW.Trod enc Try.prog W 0 (fun _ => true) true 29 v d p) : ∃ n f, Acts W v n f ∧ actSum f n ≤ Rows.uptoBulk d := by
  obtain ⟨a0, len0, cap0, rfl⟩ := okWide_slice Try.underlying29 hv
  obtain ⟨fuel, hf⟩ := h
  rcases open_slice Try.underlying29 hf with ⟨hcs, hx⟩ | ⟨a, len, cap, m, n, D, Pl, hcs, _, hl, hm, hmm, hx, hel⟩
  · simp [Value.cells] at hcs
    obtain ⟨rfl, rfl, rfl⟩ := hcs
    exact ⟨0, fun _ => default, ⟨none, 0, rfl, Nat.le_refl _, Nat.zero_le _, fun h => absurd h (by simp), fun i hi => absurd hi (by simp)⟩, Nat.zero_le _⟩
  · simp [Value.cells] at hcs
    obtain ⟨rfl, rfl, rfl⟩ := hcs
    simp only [Prod.mk.injEq] at hx
    obtain ⟨rfl, _⟩ := hx
    simp only [if_true] at hmm
    subst hmm
    obtain ⟨f, hfi⟩ := choose_lt (α := ActD) (p := fun i x => D i = actData x ∧ ActWf x ∧ W.cell? (a.add (i * 4)) = some (.int .i64 x.what) ∧ W.cell? (a.add (i * 4 + 1)) = some (.int .i64 x.n) ∧
        W.cell? (a.add (i * 4 + 2)) = some (.int .i64 x.v) ∧ W.cell? (a.add (i * 4 + 3)) = some (.string x.text)) (n := m) (fun i hi => by
      obtain ⟨cs', hc, ht⟩ := hel i hi
      rw [cells_act] at hc
      obtain ⟨_, hlen, hat⟩ := World.cells?_some hc
      obtain ⟨ys, n', _, hy, _, hyl, hf⟩ := DataW.trod_struct Try.underlying33 ht
      simp only [Prod.mk.injEq] at hy
      match cs', hlen with
      | [c0, c1, c2, c3], _ =>
        match ys, hyl with
        | [y0, y1, y2, y3], _ =>
          have g0 : DataW.trod enc Try.prog W 0 (fun _ => true) true n' 3 (([c0, c1, c2, c3].drop 0).take (Try.prog.cellsOf 3)) = some y0 := hf 0 _ rfl
          have g1 : DataW.trod enc Try.prog W 0 (fun _ => true) true n' 3 (([c0, c1, c2, c3].drop 1).take (Try.prog.cellsOf 3)) = some y1 := hf 1 _ rfl
          have g2 : DataW.trod enc Try.prog W 0 (fun _ => true) true n' 3 (([c0, c1, c2, c3].drop 2).take (Try.prog.cellsOf 3)) = some y2 := hf 2 _ rfl
          have g3 : DataW.trod enc Try.prog W 0 (fun _ => true) true n' 9 (([c0, c1, c2, c3].drop 3).take (Try.prog.cellsOf 9)) = some y3 := hf 3 _ rfl
          rw [cells_int] at g0 g1 g2
          rw [cells_str] at g3
          obtain ⟨z0, e0, r0, w0⟩ := DataW.trod_int Try.underlying3 g0
          obtain ⟨z1, e1, r1, w1⟩ := DataW.trod_int Try.underlying3 g1
          obtain ⟨z2, e2, r2, w2⟩ := DataW.trod_int Try.underlying3 g2
          obtain ⟨s3, e3, r3, _⟩ := DataW.trod_string Try.underlying9 g3
          simp at e0 e1 e2 e3
          subst e0 e1 e2 e3 r0 r1 r2 r3
          refine ⟨⟨z0, z1, z2, s3⟩, by rw [hy.1]; rfl, ⟨w0, w1, w2⟩, ?_, ?_, ?_, ?_⟩
          · have := hat 0 (by decide); rw [add_add] at this; simpa using this
          · have := hat 1 (by decide); rw [add_add] at this; simpa using this
          · have := hat 2 (by decide); rw [add_add] at this; simpa using this
          · have := hat 3 (by decide); rw [add_add] at this; simpa using this)
    refine ⟨len0, f, ⟨some a, m, rfl, hl, hm, fun hp => ?_, fun i hi => (hfi i (by omega)).2.1⟩, ?_⟩
    · obtain ⟨b, off, spot⟩ := a
      have hspot : spot = none := by simpa [Addr.add] using World.cell?_spot (hfi 0 (by omega)).2.2.1
      subst hspot
      have pl : ∀ j, (⟨b, off, none⟩ : Addr).add j = ⟨b, off + j, none⟩ := fun j => add_plain b off j
      refine ⟨b, off, rfl, World.block_lt_of_cell? W ⟨b, off + 0 * 4, none⟩ (by have := (hfi 0 (by omega)).2.2.1; rwa [pl] at this), fun i hi => ?_⟩
      obtain ⟨_, _, h0, h1, h2, h3⟩ := hfi i (by omega)
      rw [pl] at h0 h1 h2 h3
      exact ⟨h0, by rw [← h1, Nat.add_assoc], by rw [← h2, Nat.add_assoc], by rw [← h3, Nat.add_assoc]⟩
    · have := act_bulk (H := H) f D len0 fun i hi => (hfi i (by omega)).1
      simp only [Rows.uptoBulk]
      omega

end Go.Proofs.Ytlcfegckjkemhaa
