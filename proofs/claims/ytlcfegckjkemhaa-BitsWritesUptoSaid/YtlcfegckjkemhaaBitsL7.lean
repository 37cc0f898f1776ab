/- For the law BitsWrites: a writer, a row of bits beside it, and the step at hand. -/
import Derived.Test.YtlcfegckjkemhaaBitsL1
import Derived.Test.YtlcfegckjkemhaaBitsG
import Derived.Test.YtlcfegckjkemhaaBitsA
namespace Go.Proofs.Ytlcfegckjkemhaa
open Go.RowKit

structure WB (w wr : World) (A : Nat) (L : List Bool) (vb : Value) (M : List Bool) (act : Option (Nat × Array Value)) : Prop where
  wri : ∃ r, WrIs wr A r L ∧ ∀ g, r = some g → w.heap.size ≤ g
  row : BRow wr vb M
  own : ∀ g, vb.ownBlock = some g → w.heap.size ≤ g
  base : w.heap.size ≤ A
  sf : Sofar w wr
  act : ∀ B C, act = some (B, C) → wr.heap[B]? = some (.cells C 33 (0, 0))

theorem WrIs.row_cells {w : World} {b : Nat} {r : Option Nat} {l : List Bool} (h : WrIs w b r l) : ∀ g, r = some g → ∃ c, w.heap[g]? = some (.cells c 5 (0, 0)) := by
  obtain ⟨v, _, h2, rfl⟩ := h
  intro g hg
  rcases h2.2 with ⟨rfl, _⟩ | ⟨g', cap, cur, rfl, _, hh, _⟩
  · simp [Value.ownBlock] at hg
  · simp [Value.ownBlock] at hg
    subst hg
    exact ⟨cur, hh⟩

theorem heap_ne {w : World} {b b' : Nat} {c c' : Array Value} {t t' : TypeId} {f f' : Nat × Nat} (h : w.heap[b]? = some (.cells c t f)) (h' : w.heap[b']? = some (.cells c' t' f')) (hne : t ≠ t') : b ≠ b' := by
  intro e
  subst e
  rw [h] at h'
  simp at h'
  exact hne h'.2.1

theorem WB.to {w wr w' : World} {A : Nat} {L L' : List Bool} {vb : Value} {M : List Bool} {act : Option (Nat × Array Value)} (h : WB w wr A L vb M act) (k : ∃ r, WrIs wr A r L ∧ (∀ g, r = some g → w.heap.size ≤ g) ∧ WrTo wr A r L' w') : WB w w' A L' vb M act := by
  obtain ⟨r, h1, h2, r', k1, k2, k3⟩ := k
  obtain ⟨c, hc⟩ := h1.heap
  refine ⟨⟨r', k1, fun g hg => ?_⟩, h.row.mut k3 fun g hg hm => ?_, h.own, h.base, h.sf.step k3 fun x hx => ?_, fun B C hB => ?_⟩
  · rcases k2 g hg with h3 | h3
    · exact h2 g h3
    · exact Nat.le_trans h.sf.size h3
  · rcases List.mem_cons.1 hm with e | e
    · exact row_ne h.row hc (by decide) (by rw [hg, e])
    · have e' : r = some g := by simpa using e
      obtain ⟨c', hc'⟩ := h1.row_cells g e'
      exact row_ne h.row hc' (by decide) hg
  · rcases List.mem_cons.1 hx with e | e
    · rw [e]; exact h.base
    · exact h2 x (by simpa using e)
  · have hh := h.act B C hB
    refine k3.get hh fun hm => ?_
    rcases List.mem_cons.1 hm with e | e
    · exact heap_ne hh hc (by decide) e
    · have e' : r = some B := by simpa using e
      obtain ⟨c', hc'⟩ := h1.row_cells B e'
      exact heap_ne hh hc' (by decide) rfl

theorem wb_put {w wr : World} {A : Nat} {L : List Bool} {vb : Value} {M : List Bool} {act : Option (Nat × Array Value)} (h : WB w wr A L vb M act) (v : Int) (n : Nat) (hl : L.length ≤ 1125899906841000) (hn : n ≤ 32) :
    Calls Try.prog 12 #[.pointer (some ⟨A, 0, none⟩), .int .i64 v, .int .i64 (n : Int)] wr fun e w' => e = .returned (.tuple #[]) ∧ WB w w' A (L ++ lowBits v n) vb M act := by
  obtain ⟨r, h1, h2⟩ := h.wri
  exact (put_any A r L v n wr h1 hl hn).mono fun e w' ⟨he, hk⟩ => ⟨he, h.to ⟨r, h1, h2, hk⟩⟩

theorem wb_code {w wr : World} {A : Nat} {L : List Bool} {vb : Value} {M : List Bool} {act : Option (Nat × Array Value)} (h : WB w wr A L vb M act) (v : Int) (n : Nat) (hl : L.length ≤ 1125899906841000) (hn : n ≤ 32) :
    Calls Try.prog 11 #[.pointer (some ⟨A, 0, none⟩), .int .i64 v, .int .i64 (n : Int)] wr fun e w' => e = .returned (.tuple #[]) ∧ WB w w' A (L ++ highBits v n) vb M act := by
  obtain ⟨r, h1, h2⟩ := h.wri
  exact (code_any A r L v n wr h1 hl hn).mono fun e w' ⟨he, hk⟩ => ⟨he, h.to ⟨r, h1, h2, hk⟩⟩

theorem wb_bytes {w wr : World} {A : Nat} {L : List Bool} {vb : Value} {M : List Bool} {act : Option (Nat × Array Value)} (h : WB w wr A L vb M act) (s : ByteArray) (hs : (L.length + 7) / 8 + s.size ≤ 140737488355328) :
    Calls Try.prog 15 #[.pointer (some ⟨A, 0, none⟩), .string s] wr fun e w' => e = .returned (.tuple #[]) ∧ WB w w' A (pad8 L ++ strBits s) vb M act := by
  obtain ⟨r, h1, h2⟩ := h.wri
  exact (wbytes_any A r L s wr h1 hs).mono fun e w' ⟨he, hk⟩ => ⟨he, h.to ⟨r, h1, h2, hk⟩⟩

theorem WB.mut0 {w wr w' : World} {A : Nat} {L : List Bool} {vb : Value} {M : List Bool} {act : Option (Nat × Array Value)} (h : WB w wr A L vb M act) (hm : Mut [] wr w') : WB w w' A L vb M act := by
  obtain ⟨r, h1, h2⟩ := h.wri
  exact ⟨⟨r, h1.mut hm (by simp) (by simp), h2⟩, h.row.mut hm (by simp), h.own, h.base, h.sf.step hm (by simp), fun B C hB => hm.get (h.act B C hB) (by simp)⟩

theorem WB.new {w wr : World} {A : Nat} {L : List Bool} {vb : Value} {M : List Bool} {act : Option (Nat × Array Value)} (h : WB w wr A L vb M act) (C : Array Value) : WB w (wr.alloc (.cells C 33)) A L vb M (some (wr.heap.size, C)) := by
  have h' := h.mut0 ((Mut.refl _ _).alloc (.cells C 33))
  refine ⟨h'.wri, h'.row, h'.own, h'.base, h'.sf, fun B C' hB => ?_⟩
  simp only [Option.some.injEq, Prod.mk.injEq] at hB
  obtain ⟨rfl, rfl⟩ := hB
  exact heap_alloc_new _ _

theorem WB.forget {w wr : World} {A : Nat} {L : List Bool} {vb : Value} {M : List Bool} {act : Option (Nat × Array Value)} (h : WB w wr A L vb M act) : WB w wr A L vb M none :=
  ⟨h.wri, h.row, h.own, h.base, h.sf, fun _ _ h => by cases h⟩

theorem WB.app {w wr w' : World} {A : Nat} {L : List Bool} {vb : Value} {M : List Bool} {act : Option (Nat × Array Value)} (h : WB w wr A L vb M act) (o : Obj) (c : Bool) (x : Value) (hx : x = .int .i64 (c.toNat : Int)) {v' : Value}
    (hr : w'.ownsRow 0 3 1 v' (M.length + 1) ((M.map fun c : Bool => Value.int .i64 (c.toNat : Int)) ++ [x])) (hg : (wr.alloc o).grownBy w' vb.ownBlock)
    (hf : ∀ g, v'.ownBlock = some g → vb.ownBlock = some g ∨ wr.heap.size + 1 ≤ g) : WB w w' A L v' (M ++ [c]) act := by
  subst hx
  obtain ⟨r, h1, h2⟩ := h.wri
  obtain ⟨ch, hch⟩ := h1.heap
  have hm : Mut vb.ownBlock.toList wr w' := ((Mut.refl _ wr).alloc o).grown hg (fun k hk => .inl (by simp [hk]))
  have hin : ∀ {B : Nat} {C : Array Value} {t : TypeId}, wr.heap[B]? = some (.cells C t (0, 0)) → 3 ≠ t → B ∉ vb.ownBlock.toList := fun {B C t} hB ht hm => row_ne h.row hB ht (by simpa using hm)
  refine ⟨⟨r, h1.mut hm (hin hch (by decide)) fun g hg => ?_, h2⟩, ?_, fun g hg => ?_, h.base, h.sf.step hm fun x hx => h.own x (by simpa using hx), fun B C hB => hm.get (h.act B C hB) (hin (h.act B C hB) (by decide))⟩
  · obtain ⟨c', hc'⟩ := h1.row_cells g hg
    exact hin hc' (by decide)
  · unfold BRow
    rw [List.map_append, List.length_append]
    exact hr
  · rcases hf g hg with e | e
    · exact h.own g e
    · have := h.sf.size
      omega

end Go.Proofs.Ytlcfegckjkemhaa
