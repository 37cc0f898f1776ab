/- Decode's text in memory, and the statement that appends to both of its rows (its order is drawn). -/
import Derived.Test.YtcnckpglicfolaaCodW2
import Derived.Deep.AppendLies
namespace Go.Proofs.Ytcnckpglicfolaa
open Go.RowKit

/-- a row of ints of the call's own -/
def IRow (w : World) (v : Value) (L : List Int) : Prop := w.ownsRow 0 3 1 v L.length (L.map (Value.int .i64))

theorem IRow.mut {w w' : World} {v : Value} {L : List Int} {S : List Nat} (h : IRow w v L) (hm : Mut S w w') (hs : ∀ g, v.ownBlock = some g → g ∉ S) : IRow w' v L := hm.row h hs
theorem IRow.nil (w : World) : IRow w (.slice none 0 0) [] := World.ownsRow_nil _ _ _ _
theorem IRow.lt {w : World} {v : Value} {L : List Int} (h : IRow w v L) {g : Nat} (hg : v.ownBlock = some g) : g < w.heap.size := by
  rcases h.2 with ⟨rfl, _⟩ | ⟨b, cap, cur, rfl, _, hh, _⟩
  · simp [Value.ownBlock] at hg
  · simp [Value.ownBlock] at hg
    subst hg
    exact lt_of_heap hh

theorem info_int : (Try.prog.info? 3).map (fun i => (i.zero, i.size, i.bytes)) = some (some (.int .i64 0), 1, 8) := by kernel_rfl

/-- a block that holds one number -/
def Blk (w : World) (r p : Value) : Option (Nat × Int) → Prop
  | none => True
  | some (g, x) => w.heap[g]? = some (.cells #[.int .i64 x] 3 (0, 0)) ∧ r.ownBlock ≠ some g ∧ p.ownBlock ≠ some g

/-- a text in whose memory mr, mp stand; r, p are the rows as they are now; B1, B2: the values that are laid to be appended -/
structure Mid (w0 w : World) (c : Int) (mr mp r : Value) (R : List Int) (p : Value) (Q : List Int) (bad : Int) (B1 B2 : Option (Nat × Int)) : Prop where
  mem : w.heap[w0.heap.size + 2]? = some (.cells #[.int .i64 c, mr, mp, .int .i64 bad] 24 (0, 0))
  o1 : w.heap[w0.heap.size]? = some (.cells #[.int .i64 0, .slice none 0 0, .slice none 0 0, .int .i64 0] 24 (0, 0))
  o2 : w.heap[w0.heap.size + 1]? = some (.cells #[.int .i64 0, .int .i64 0] 27 (0, 0))
  kept : Mut [] w0 w
  rr : IRow w r R
  rp : IRow w p Q
  fr : ∀ g, r.ownBlock = some g → w0.heap.size ≤ g
  fp : ∀ g, p.ownBlock = some g → w0.heap.size ≤ g
  ne : ∀ g, r.ownBlock = some g → p.ownBlock ≠ some g
  b1 : Blk w r p B1
  b2 : Blk w r p B2

theorem Blk.step {w w' : World} {r p : Value} {B : Option (Nat × Int)} (h : Blk w r p B) (m : Mut [] w w') : Blk w' r p B := by
  cases B with
  | none => trivial
  | some x => exact ⟨m.get h.1 (by simp), h.2⟩

theorem Mid.step {w0 w w' : World} {c : Int} {mr mp r p : Value} {R Q : List Int} {bad : Int} {B1 B2 : Option (Nat × Int)} (h : Mid w0 w c mr mp r R p Q bad B1 B2) (m : Mut [] w w') : Mid w0 w' c mr mp r R p Q bad B1 B2 :=
  ⟨m.get h.mem (by simp), m.get h.o1 (by simp), m.get h.o2 (by simp), h.kept.trans m (by simp), h.rr.mut m (by simp), h.rp.mut m (by simp), h.fr, h.fp, h.ne, h.b1.step m, h.b2.step m⟩

theorem Mid.build1 {w0 w : World} {c : Int} {mr mp r p : Value} {R Q : List Int} {bad : Int} {B1 B2 : Option (Nat × Int)} (h : Mid w0 w c mr mp r R p Q bad B1 B2) (x : Int) :
    Mid w0 (w.alloc (.cells #[.int .i64 x] 3)) c mr mp r R p Q bad (some (w.heap.size, x)) B2 := by
  have h' := h.step ((Mut.refl [] w).alloc (.cells #[.int .i64 x] 3))
  exact { h' with b1 := ⟨heap_alloc_new w _, fun hg => absurd (h.rr.lt hg) (by omega), fun hg => absurd (h.rp.lt hg) (by omega)⟩ }

theorem Mid.build2 {w0 w : World} {c : Int} {mr mp r p : Value} {R Q : List Int} {bad : Int} {B1 B2 : Option (Nat × Int)} (h : Mid w0 w c mr mp r R p Q bad B1 B2) (x : Int) :
    Mid w0 (w.alloc (.cells #[.int .i64 x] 3)) c mr mp r R p Q bad B1 (some (w.heap.size, x)) := by
  have h' := h.step ((Mut.refl [] w).alloc (.cells #[.int .i64 x] 3))
  exact { h' with b2 := ⟨heap_alloc_new w _, fun hg => absurd (h.rr.lt hg) (by omega), fun hg => absurd (h.rp.lt hg) (by omega)⟩ }

theorem Mid.build12 {w0 w : World} {c : Int} {mr mp r p : Value} {R Q : List Int} {bad : Int} {B1 B2 : Option (Nat × Int)} (h : Mid w0 w c mr mp r R p Q bad B1 B2) (x y : Int) :
    Mid w0 ((w.alloc (.cells #[.int .i64 x] 3)).alloc (.cells #[.int .i64 y] 3)) c mr mp r R p Q bad (some (w.heap.size, x)) (some (w.heap.size + 1, y)) := by
  have h' := (h.build1 x).build2 y
  rwa [World.size_alloc] at h'

theorem Mid.build21 {w0 w : World} {c : Int} {mr mp r p : Value} {R Q : List Int} {bad : Int} {B1 B2 : Option (Nat × Int)} (h : Mid w0 w c mr mp r R p Q bad B1 B2) (x y : Int) :
    Mid w0 ((w.alloc (.cells #[.int .i64 y] 3)).alloc (.cells #[.int .i64 x] 3)) c mr mp r R p Q bad (some (w.heap.size + 1, x)) (some (w.heap.size, y)) := by
  have h' := (h.build2 y).build1 x
  rwa [World.size_alloc] at h'

theorem Mid.set {w0 w : World} {c : Int} {mr mp r p : Value} {R Q : List Int} {bad : Int} {B1 B2 : Option (Nat × Int)} (h : Mid w0 w c mr mp r R p Q bad B1 B2) (i : Nat) (d : Value) {c' bad' : Int} {mr' mp' : Value} (he : (#[.int .i64 c, mr, mp, .int .i64 bad] : Array Value).setIfInBounds i d = #[.int .i64 c', mr', mp', .int .i64 bad']) :
    Mid w0 (w.setCell ⟨w0.heap.size + 2, i, none⟩ d) c' mr' mp' r R p Q bad' none none := by
  have hr := row_ne h.rr h.mem (by decide)
  have hp := row_ne h.rp h.mem (by decide)
  refine ⟨?_, by rw [heap_set_ne (by omega)]; exact h.o1, by rw [heap_set_ne (by omega)]; exact h.o2, h.kept.setCell (.inr (by show w0.heap.size ≤ w0.heap.size + 2; omega)) _, row_set_ne h.rr (fun g hg hga => hr (by rw [hg, hga])) _, row_set_ne h.rp (fun g hg hga => hp (by rw [hg, hga])) _, h.fr, h.fp, h.ne, trivial, trivial⟩
  rw [heap_set h.mem i _, he]

theorem Blk.grow {w w' : World} {r r' p : Value} {B : Option (Nat × Int)} (h : Blk w r p B) (hg : w.grownBy w' r.ownBlock) (hf : ∀ g, r'.ownBlock = some g → r.ownBlock = some g ∨ w.heap.size ≤ g) : Blk w' r' p B := by
  cases B with
  | none => trivial
  | some x =>
    obtain ⟨h1, h2, h3⟩ := h
    have hl := lt_of_heap h1
    refine ⟨(hg.block x.1 hl (fun e => h2 e.symm)).trans h1, fun e => ?_, h3⟩
    rcases hf _ e with e' | e'
    · exact h2 e'
    · omega

theorem Blk.swap {w : World} {r p : Value} {B : Option (Nat × Int)} (h : Blk w r p B) : Blk w p r B := by
  cases B with
  | none => trivial
  | some x => exact ⟨h.1, h.2.2, h.2.1⟩

theorem Mid.app1 {w0 w w' : World} {c : Int} {mr mp r p r' : Value} {R Q : List Int} {bad : Int} {B1 B2 : Option (Nat × Int)} (h : Mid w0 w c mr mp r R p Q bad B1 B2) (x : Int)
    (hr : w'.ownsRow 0 3 1 r' (R.length + 1) (R.map (Value.int .i64) ++ [.int .i64 x])) (hg : w.grownBy w' r.ownBlock) (hf : ∀ g, r'.ownBlock = some g → r.ownBlock = some g ∨ w.heap.size ≤ g) :
    Mid w0 w' c mr mp r' (R ++ [x]) p Q bad B1 B2 := by
  have hrm := row_ne h.rr h.mem (by decide)
  have hr1 := row_ne h.rr h.o1 (by decide)
  have hr2 := row_ne h.rr h.o2 (by decide)
  have hb : ∀ {b : Nat} {o : Obj}, w.heap[b]? = some o → r.ownBlock ≠ some b → w'.heap[b]? = some o := fun h1 h2 => (hg.block _ (lt_of_heap h1) (fun e => h2 e.symm)).trans h1
  have hm : Mut r.ownBlock.toList w w' := (Mut.refl _ w).grown hg (fun k hk => .inl (by simp [hk]))
  refine ⟨hb h.mem hrm, hb h.o1 hr1, hb h.o2 hr2, h.kept.trans hm (fun y hy => .inr (h.fr y (by simpa using hy))), by unfold IRow; rw [List.length_append, List.map_append]; exact hr, h.rp.mut hm (fun g hg' hy => h.ne g (by simpa using hy) hg'), fun g hg' => ?_, h.fp, fun g hg' hp => ?_, h.b1.grow hg hf, h.b2.grow hg hf⟩
  · rcases hf g hg' with e | e
    · exact h.fr g e
    · have := h.kept.size; omega
  · rcases hf g hg' with e | e
    · exact h.ne g e hp
    · have := h.rp.lt hp; omega

theorem Mid.app2 {w0 w w' : World} {c : Int} {mr mp r p p' : Value} {R Q : List Int} {bad : Int} {B1 B2 : Option (Nat × Int)} (h : Mid w0 w c mr mp r R p Q bad B1 B2) (x : Int)
    (hr : w'.ownsRow 0 3 1 p' (Q.length + 1) (Q.map (Value.int .i64) ++ [.int .i64 x])) (hg : w.grownBy w' p.ownBlock) (hf : ∀ g, p'.ownBlock = some g → p.ownBlock = some g ∨ w.heap.size ≤ g) :
    Mid w0 w' c mr mp r R p' (Q ++ [x]) bad B1 B2 := by
  have hrm := row_ne h.rp h.mem (by decide)
  have hr1 := row_ne h.rp h.o1 (by decide)
  have hr2 := row_ne h.rp h.o2 (by decide)
  have hb : ∀ {b : Nat} {o : Obj}, w.heap[b]? = some o → p.ownBlock ≠ some b → w'.heap[b]? = some o := fun h1 h2 => (hg.block _ (lt_of_heap h1) (fun e => h2 e.symm)).trans h1
  have hm : Mut p.ownBlock.toList w w' := (Mut.refl _ w).grown hg (fun k hk => .inl (by simp [hk]))
  refine ⟨hb h.mem hrm, hb h.o1 hr1, hb h.o2 hr2, h.kept.trans hm (fun y hy => .inr (h.fp y (by simpa using hy))), h.rr.mut hm (fun g hg' hy => h.ne g hg' (by simpa using hy)), by unfold IRow; rw [List.length_append, List.map_append]; exact hr, h.fr, fun g hg' => ?_, fun g hg' hp => ?_, (h.b1.swap.grow hg hf).swap, (h.b2.swap.grow hg hf).swap⟩
  · rcases hf g hg' with e | e
    · exact h.fp g e
    · have := h.kept.size; omega
  · rcases hf g hp with e | e
    · exact h.ne g hg' e
    · have := h.rr.lt hg'; omega

/-- its cells, as the walk asks for them -/
theorem Mid.cells {w0 w : World} {c : Int} {mr mp r p : Value} {R Q : List Int} {bad : Int} {B1 B2 : Option (Nat × Int)} (h : Mid w0 w c mr mp r R p Q bad B1 B2) :
    w.cell? ⟨w0.heap.size + 1 + 1, 1, none⟩ = some mr ∧ w.cell? ⟨w0.heap.size + 1 + 1, 2, none⟩ = some mp ∧ (∀ o, (w.alloc o).cell? ⟨w0.heap.size + 1 + 1, 1, none⟩ = some mr) ∧ (∀ o, (w.alloc o).cell? ⟨w0.heap.size + 1 + 1, 2, none⟩ = some mp) ∧
    (∀ o o', ((w.alloc o).alloc o').cell? ⟨w0.heap.size + 1 + 1, 1, none⟩ = some mr) ∧ (∀ o o', ((w.alloc o).alloc o').cell? ⟨w0.heap.size + 1 + 1, 2, none⟩ = some mp) ∧
    w.frozen? ⟨w0.heap.size + 1 + 1, 1, none⟩ = false ∧ w.frozen? ⟨w0.heap.size + 1 + 1, 2, none⟩ = false :=
  ⟨cellOf h.mem 1 rfl, cellOf h.mem 2 rfl, fun o => cellOf (h.step ((Mut.refl [] w).alloc o)).mem 1 rfl, fun o => cellOf (h.step ((Mut.refl [] w).alloc o)).mem 2 rfl,
    fun o o' => cellOf (h.step (((Mut.refl [] w).alloc o).alloc o')).mem 1 rfl, fun o o' => cellOf (h.step (((Mut.refl [] w).alloc o).alloc o')).mem 2 rfl, frozenOf h.mem 1, frozenOf h.mem 2⟩

/-- an append, as a step of a region that draws -/
theorem step_row {ops : Array Oper} {o : Oper} {a : Act} {w : World} {K : Act → World → Prop} {Q' : Exit → Act → World → Prop} {E : Prop} (hgd : o.guard = none) (s x : Operand)
    (ho : o.op = .call { callee := .builtin .append, args := #[s, x], argTypes := #[22, 22] }) {r : Value} {R : List Int} {g : Nat} {z : Int}
    (hs : a.eval s = r) (hx : a.eval x = .slice (some ⟨g, 0, none⟩) 1 1) (hr : IRow w r R) (hb : w.heap[g]? = some (.cells #[.int .i64 z] 3 (0, 0))) (hl : R.length ≤ 281474976710656) (hl2 : (R.length + 1) * 8 ≤ 140737488355328)
    (hK : ∀ v' w', w'.ownsRow 0 3 1 v' (R.length + 1) (R.map (Value.int .i64) ++ [.int .i64 z]) → w.grownBy w' r.ownBlock → (∀ g, v'.ownBlock = some g → r.ownBlock = some g ∨ w.heap.size ≤ g) → K (a.put o.dst v') w') :
    if Region.wanted o (yielded ops a.tmps) = true then Oper.wp Try.prog o a w K Q' else E := by
  have hw : Region.wanted o (yielded ops a.tmps) = true := by simp [Region.wanted, hgd]
  rw [if_pos hw]
  obtain ⟨i0, hi, hz0, hz1, hz2⟩ := info_parts info_int
  obtain ⟨v', w', hrun, r1, r2, r3⟩ := run_app (P := Try.prog) w 22 22 o.type 3 i0 (.int .i64 0) 1 8 Try.underlying22 hi hz0 hz1 hz2 rfl r R.length _ hr _ 1 _ (src1 Try.underlying22 hb rfl (one1 rfl)) (by unfold maxLen; omega) hl2
  unfold Oper.wp
  simp [execOp, ho, resolve, invoke, builtin, hs, hx, hrun, Result.andThen]
  exact hK v' w' r1 r2 r3

end Go.Proofs.Ytcnckpglicfolaa
