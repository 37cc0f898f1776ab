/- Walk over package inflate: the order of lengths. -/
import Derived.Test.YtcdoamaljgjojaaBase
import Derived.Laws.Rows
import Derived.Laws.Tables
import Derived.Deep.DeepCutAuto
namespace Go.Proofs.Ytcdoamaljgjojaa
open Go.RowKit

def order19 : Array Value := #[.int .i64 16, .int .i64 17, .int .i64 18, .int .i64 0, .int .i64 8, .int .i64 7, .int .i64 9, .int .i64 6, .int .i64 10, .int .i64 5, .int .i64 11, .int .i64 4, .int .i64 12, .int .i64 3, .int .i64 13, .int .i64 2, .int .i64 14, .int .i64 1, .int .i64 15]

theorem wpList_buildC {P : Program} {ops : Array Oper} {rest : List Oper} {o : Oper} {a : Act} {w : World} {Q : Exit → Act → World → Prop} (hg : o.guard = none) (t : TypeId) (parts : Array (Nat × Operand)) (ho : o.op = .build t parts) (cells : Array Value)
    (hf : P.built t (parts.map fun (i, x) => (i, a.eval x)).toList = some cells) (h : wpList P ops Q rest (a.put o.dst (.agg cells)) w) : wpList P ops Q (o :: rest) a w :=
  wpList_build hg t parts ho (by rw [hf]; rfl) (by rw [hf]; exact h)

set_option maxHeartbeats 1600000 in
set_option maxRecDepth 100000 in
theorem uorder_any (w : World) : Calls Try.prog 64 #[] w fun e w' => e = .returned (.agg order19) ∧ Mut [] w w' := by
  go_enter Try.func64, Try.ntmps64
  go_upto_region 1 with fail
  obtain ⟨Z, hZ⟩ : ∃ Z : Array Value, (#[.int .i64 0, .int .i64 0, .int .i64 0, .int .i64 0, .int .i64 0, .int .i64 0, .int .i64 0, .int .i64 0, .int .i64 0, .int .i64 0, .int .i64 0, .int .i64 0, .int .i64 0, .int .i64 0, .int .i64 0, .int .i64 0, .int .i64 0, .int .i64 0, .int .i64 0] : Array Value) = Z := ⟨_, rfl⟩
  have hs : Z.size = 19 := by rw [← hZ]; rfl
  rw [hZ]
  have hh := heap_alloc_new w (.cells Z 117)
  have hm : Mut [] w (w.alloc (.cells Z 117)) := (Mut.refl [] w).alloc _
  have HG : w.heap.size ≤ w.heap.size := Nat.le_refl _
  generalize w.alloc (.cells Z 117) = w1 at *
  clear hZ
  obtain ⟨g, hg⟩ : ∃ g, w.heap.size = g := ⟨_, rfl⟩
  rw [hg] at hh
  rw [hg]
  have HGG := Lib.hid hg
  have HM := Lib.hid hm
  clear hg hm HG
  go_wp2_with (first | (refine wpList_store_row rfl 117 _ _ rfl g order19 rfl rfl 117 Z hh (by as_aux_lemma => kernel_rfl) hs (by as_aux_lemma => kernel_rfl) ?_) | (refine wpList_buildC rfl _ _ rfl order19 (by as_aux_lemma => kernel_rfl) ?_))
  refine bodyPost_ret (v := .agg order19) (results_cell_row rfl _ _ g 117 order19 (0, 0) _ rfl (setRow_heap w1 g Z order19 117 (0, 0) hh) Try.underlying117 rfl (by kernel_rfl)) rfl ⟨rfl, ?_⟩
  refine HM.out.trans (T := [g]) ⟨rfl, rfl, rfl, by simp, fun k _ hn => setRow_other w1 g k order19 (by simpa using hn)⟩ (fun x hx => .inr ?_)
  have := HGG.out
  simp at hx
  omega

end Go.Proofs.Ytcdoamaljgjojaa
