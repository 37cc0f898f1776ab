/- strings.Builder: what is written to it, and the text it has got. -/
import Derived.Test.YtgjcnembeebjfaaBase
import Derived.Test.YtgjcnembeebjfaaGFa
import Derived.Shelf.Lay
import Derived.Lib.Walk
import Derived.Laws.Externs
import Derived.Laws.IdiomCopy
import Derived.Lib.Builder
import Derived.Lib.UnsafeStr
namespace Go.Proofs.Ytgjcnembeebjfaa
open Go.RowKit Go.Shelf
set_option linter.unusedVariables false

theorem info_u8b : (Try.prog.info? 5).map (fun i => (i.zero, i.size, i.bytes)) = some (some (.int .u8 0), 1, 1) := by kernel_rfl
theorem size_b : (Try.prog.info? 68).map (·.size) = some 2 := by kernel_rfl

def u8L (M : List Nat) : List Value := M.map fun n : Nat => Value.int .u8 (n : Int)
theorem u8L_bytes (s : ByteArray) : byteCells s = u8L (bytesOf s) := by
  unfold u8L bytesOf
  rw [List.map_map]
  rfl

/-- a builder of the call's own that holds M -/
structure Bd (w0 : World) (b : Nat) (M : List Nat) (w : World) : Prop where
  box : ∃ p v, w.heap[b]? = some (.cells #[p, v] 68 (0, 0)) ∧ (p = .pointer none ∨ p = .pointer (some ⟨b, 0, none⟩)) ∧ w.ownsRow 0 5 1 v M.length (u8L M) ∧ (∀ g, v.ownBlock = some g → w0.heap.size ≤ g)
  low : w0.heap.size ≤ b
  kept : Mut [] w0 w

theorem Bd.start (w : World) : Bd w w.heap.size [] (w.alloc (.cells #[.pointer none, .slice none 0 0] 68)) :=
  ⟨⟨_, _, heap_alloc_new w _, .inl rfl, World.ownsRow_nil _ _ _ _, by simp [Value.ownBlock]⟩, Nat.le_refl _, (Mut.refl _ w).alloc _⟩
theorem Bd.mut {w0 w w' : World} {b : Nat} {M : List Nat} (h : Bd w0 b M w) (m : Mut [] w w') : Bd w0 b M w' := by
  obtain ⟨⟨p, v, h1, h2, h3, h4⟩, h5, h6⟩ := h
  exact ⟨⟨p, v, m.get h1 (by simp), h2, m.row h3 (by simp), h4⟩, h5, h6.trans' m⟩

set_option maxHeartbeats 1000000 in
set_option maxRecDepth 100000 in
theorem bcc_any (w0 : World) (b : Nat) (M : List Nat) (w : World) (h : Bd w0 b M w) :
    Calls Try.prog 37 #[.pointer (some ⟨b, 0, none⟩)] w fun e w' => e = .returned (.tuple #[]) ∧ Bd w0 b M w' ∧ ∃ v, w'.heap[b]? = some (.cells #[.pointer (some ⟨b, 0, none⟩), v] 68 (0, 0)) := by
  obtain ⟨⟨p, v, h1, h2, h3, h4⟩, h5, h6⟩ := h
  obtain ⟨j, hj, hjs⟩ := Option.map_eq_some_iff.1 size_b
  have hsh : w.shape? b = some (68, 2) := by simp [World.shape?, h1]
  have c0 := cellOf h1 0 (x := p) rfl
  have f0 := frozenOf h1 0
  rcases h2 with rfl | rfl
  · go_enter Try.func37, Try.ntmps37
    go_wp2
    rw [Lib.run_to_unsafe w ⟨b, 0, none⟩ Try.underlying66 Try.underlying111 hj (by rw [hjs]; decide) hsh (Nat.zero_lt_succ 1)]
    simp only [Result.andThen]
    rw [Oper.upon_value]
    go_wp2
    rw [run_callFunc_extern Try.func56 (by kernel_rfl) (by kernel_rfl) (by kernel_rfl) (e := Extern.AbiNoEscape.same) (by kernel_rfl)]
    rw [Lib.run_noEscape]
    simp only [Result.andThen]
    rw [Oper.upon_value]
    go_wp2
    rw [Lib.run_from_unsafe w ⟨b, 0, none⟩ Try.underlying111 Try.underlying66 hj hsh (by kernel_rfl)]
    simp only [Result.andThen]
    rw [Oper.upon_value]
    go_wp2
    go_end0
    have hs : (w.setCell ⟨b, 0, none⟩ (.pointer (some ⟨b, 0, none⟩))).heap[b]? = some (.cells #[.pointer (some ⟨b, 0, none⟩), v] 68 (0, 0)) := by simpa using heap_set h1 0 (.pointer (some ⟨b, 0, none⟩))
    refine ⟨rfl, ⟨⟨_, v, hs, .inr rfl, row_set_ne h3 (fun g hg => ?_) _, h4⟩, h5, h6.setCell (.inr h5) _⟩, v, hs⟩
    intro e
    subst e
    exact row_ne h3 h1 (by decide) hg
  · go_enter Try.func37, Try.ntmps37
    go_wp2
    rw [Lib.run_neq_ptr_same w _ Try.underlying66 hj]
    go_wp2
    go_end0
    exact ⟨rfl, ⟨⟨_, v, h1, .inr rfl, h3, h4⟩, h5, h6⟩, v, h1⟩

set_option maxHeartbeats 1000000 in
set_option maxRecDepth 100000 in
theorem bw_any (w0 : World) (b : Nat) (M : List Nat) (s : ByteArray) (w : World) (h : Bd w0 b M w) (hl : M.length + s.size ≤ 1099511627776) :
    Calls Try.prog 23 #[.pointer (some ⟨b, 0, none⟩), .string s] w fun e w' => (∃ v, e = .returned v) ∧ Bd w0 b (M ++ bytesOf s) w' := by
  have HC := Lib.hid (bcc_any w0 b M w h)
  obtain ⟨i0, hi, hz0, hz1, hz2⟩ := info_parts info_u8b
  clear h
  go_enter Try.func23, Try.ntmps23
  go_wp2_with (refine HC.out.mono ?_)
  rintro e w1 ⟨rfl, hb, v, hv⟩
  obtain ⟨⟨p, v', h1, h2, h3, h4⟩, h5, h6⟩ := hb
  rw [hv] at h1
  simp only [Option.some.injEq, Obj.cells.injEq, Array.mk.injEq, List.cons.injEq, and_true] at h1
  obtain ⟨rfl, rfl⟩ := h1
  have c1 := cellOf hv 1 (x := v) rfl
  have f1 := frozenOf hv 1
  have hnb : v.ownBlock ≠ some b := row_ne h3 hv (by decide)
  have H3 := Lib.hid h3
  have H6 := Lib.hid (And.intro h4 (And.intro h5 h6))
  have HV := Lib.hid (And.intro hv hnb)
  clear h4 h5 h6 h2 h3 hv hnb
  go_wp2_with (at_builtin; refine wp_app rfl (.tmp 12) (.tmp 13) 54 9 rfl 5 i0 (.int .u8 0) 1 1 Try.underlying54 hi hz0 hz1 hz2 rfl H3.out rfl (Src.ofString _ Try.underlying9 s) rfl (by unfold maxLen; omega) (by omega) ?_)
  intro v2 w2 r1 r2 r3
  rw [u8L_bytes] at r1
  have hm : Mut v.ownBlock.toList w1 w2 := (Mut.refl _ _).grown r2 (by intro g hg; simp [hg])
  have hb2 := hm.get HV.out.1 (by simpa using HV.out.2)
  have d1 := cellOf hb2 1 (x := v) rfl
  have f1 := frozenOf hb2 1
  obtain ⟨p2, l2, c2, rfl⟩ : ∃ p l c, v2 = .slice p l c := by
    rcases r1.2 with ⟨h, _⟩ | ⟨g, cap, cur, h, _⟩
    · exact ⟨_, _, _, h⟩
    · exact ⟨_, _, _, h⟩
  have hfin : Bd w0 b (M ++ bytesOf s) (w2.setCell ⟨b, 1, none⟩ (.slice p2 l2 c2)) := by
    obtain ⟨h4, h5, h6⟩ := H6.out
    have hs : (w2.setCell ⟨b, 1, none⟩ (.slice p2 l2 c2)).heap[b]? = some (.cells #[.pointer (some ⟨b, 0, none⟩), .slice p2 l2 c2] 68 (0, 0)) := by simpa using heap_set hb2 1 (.slice p2 l2 c2)
    refine ⟨⟨_, _, hs, .inr rfl, row_set_ne ?_ (fun g hg e => ?_) _, fun g hg => ?_⟩, h5, (h6.trans hm (fun x hx => .inr (h4 x (by simpa using hx)))).setCell (.inr h5) _⟩
    · rw [List.length_append, bytesOf_length, u8L, List.map_append]
      exact r1
    · subst e
      exact row_ne r1 hb2 (by decide) hg
    · rcases r3 g hg with h | h
      · exact h4 g h
      · have := h6.size
        omega
  have HF := Lib.hid hfin
  clear hfin r1 r2 r3 hm hb2 hi hz0 hz1 hz2
  go_wp2
  refine bodyPost_ret (results_tmp2 rfl _ _ _) rfl ⟨⟨_, rfl⟩, HF.out⟩

theorem mut_freeze {S : List Nat} {a w : World} (h : Mut S a w) {p : Addr} (hp : p.block ∈ S ∨ a.heap.size ≤ p.block) (n : Nat) : Mut S a (w.freeze p n) := by
  refine h.trans (T := [p.block]) ?_ (by simpa using hp)
  unfold World.freeze
  split
  · exact Mut.refl _ w
  · exact ⟨rfl, rfl, rfl, by simp, fun k hk hn => by
      simp only [Array.getElem?_modify]
      rw [if_neg (fun e => hn (by rw [← e]; simp))]⟩

set_option maxHeartbeats 2000000 in
set_option maxRecDepth 100000 in
theorem bs_none (w0 : World) (b : Nat) (w : World) (h : Bd w0 b [] w) :
    Calls Try.prog 25 #[.pointer (some ⟨b, 0, none⟩)] w fun e w' => e = .returned (.string .empty) ∧ Mut [] w0 w' := by
  obtain ⟨⟨p, v, h1, h2, h3, h4⟩, h5, h6⟩ := h
  have hUS : ∀ (W : World) (q : Option Addr), (Builtin.unsafeString_ #[87, 3] 9 #[.pointer q, .int .i64 0]).run Try.prog W = .ok (.string .empty) W := fun W q => Lib.run_unsafeString_none W _ _ _ q
  have HM := Lib.hid h6
  have hlt := lt_of_heap h1
  rcases h3.2 with ⟨rfl, _⟩ | ⟨g, cap, cur, rfl, _, hh, r1, r2, r3, r4⟩
  · have c1 := cellOf h1 1 (x := .slice none 0 0) rfl
    have hSD : ∀ W : World, (Builtin.unsafeSliceData_ #[54] 87 #[.slice none 0 0]).run Try.prog W = .ok (.pointer none) W := fun W => Lib.run_unsafeSliceData_nil _ _ _ _ _
    clear h1 h2 h3 h4 h5 h6
    go_enter Try.func25, Try.ntmps25
    go_wp2
    go_region
    all_goals (go_wp2; go_ret; exact ⟨rfl, HM.out.drew⟩)
  · have c1 := cellOf h1 1 (x := .slice (some ⟨g, 0, none⟩) 0 cap) rfl
    by_cases hc0 : cap = 0
    · subst hc0
      have hSD : ∀ W : World, W.heap[g]? = some (.cells cur 5 (0, 0)) → (Builtin.unsafeSliceData_ #[54] 87 #[.slice (some ⟨g, 0, none⟩) 0 0]).run Try.prog W = .ok (.pointer (some ⟨W.heap.size, 0, none⟩)) (W.alloc (.view ⟨g, 0, none⟩ 5)) := fun W hW =>
        Lib.run_unsafeSliceData_zero W _ _ 5 Try.underlying87 ⟨g, 0, none⟩ 0 (5, cur.size) (by simp [World.shape?, hW])
      have hSD1 := hSD w.drew hh
      have c2 : (w.drew.alloc (.view ⟨g, 0, none⟩ 5)).cell? ⟨b, 1, none⟩ = some (.slice (some ⟨g, 0, none⟩) 0 0) := cellOf ((Below.heap_alloc w.drew _ b hlt).trans h1) 1 rfl
      have c3 : (w.alloc (.view ⟨g, 0, none⟩ 5)).drew.cell? ⟨b, 1, none⟩ = some (.slice (some ⟨g, 0, none⟩) 0 0) := c2
      clear h1 h2 h3 h4 h5 h6 hh r1 r2 r3 r4 hSD
      go_enter Try.func25, Try.ntmps25
      go_wp2
      go_region
      all_goals (go_wp2; go_ret; exact ⟨rfl, HM.out.drew.alloc _⟩)
    · have hSD : ∀ W : World, (Builtin.unsafeSliceData_ #[54] 87 #[.slice (some ⟨g, 0, none⟩) 0 cap]).run Try.prog W = .ok (.pointer (some ⟨g, 0, none⟩)) W := fun W => Lib.run_unsafeSliceData_row _ _ _ _ _ _ hc0
      clear h1 h2 h3 h4 h5 h6 hh r1 r2 r3 r4 hc0
      go_enter Try.func25, Try.ntmps25
      go_wp2
      go_region
      all_goals (go_wp2; go_ret; exact ⟨rfl, HM.out.drew⟩)

set_option maxHeartbeats 2000000 in
set_option maxRecDepth 100000 in
/-- the text that a builder has got -/
theorem bs_any (w0 : World) (b : Nat) (M : List Nat) (s : ByteArray) (hs : bytesOf s = M) (w : World) (h : Bd w0 b M w) :
    Calls Try.prog 25 #[.pointer (some ⟨b, 0, none⟩)] w fun e w' => e = .returned (.string s) ∧ Mut [] w0 w' := by
  have hl : M.length = s.size := by rw [← hs, bytesOf_length]
  by_cases h0 : M.length = 0
  · have hM := List.eq_nil_of_length_eq_zero h0
    have hse : s = .empty := bytesOf_inj (by rw [hs, hM]; rfl)
    subst hse hM
    exact bs_none w0 b w h
  · obtain ⟨⟨p, v, h1, h2, h3, h4⟩, h5, h6⟩ := h
    obtain ⟨g, cap, rfl, hg, hnc⟩ := row_some h3 (by omega)
    have c1 := cellOf h1 1 (x := .slice (some ⟨g, 0, none⟩) M.length cap) rfl
    have hfr := h4 g rfl
    have hsl : s.data.toList.length = M.length := by rw [hl]; simp
    have hSD : ∀ W : World, (Builtin.unsafeSliceData_ #[54] 87 #[.slice (some ⟨g, 0, none⟩) M.length cap]).run Try.prog W = .ok (.pointer (some ⟨g, 0, none⟩)) W := fun W => Lib.run_unsafeSliceData_row _ _ _ _ _ _ (by omega)
    have hUS : (Builtin.unsafeString_ #[87, 3] 9 #[.pointer (some ⟨g, 0, none⟩), .int .i64 (M.length : Int)]).run Try.prog w.drew = .ok (.string s) (w.drew.freeze ⟨g, 0, none⟩ M.length) := by
      rcases h3.2 with ⟨he, _⟩ | ⟨g', cap', cur, he, _, hh, r1, r2, r3, r4⟩
      · cases he
      · cases he
        have := Lib.run_unsafeString_row (P := Try.prog) w.drew 87 3 9 5 Try.underlying87 (by kernel_rfl) g cur.size (by simp [World.shape?, show w.drew.heap[g]? = _ from hh]) s.data.toList (by intro e; rw [e] at hsl; simp at hsl; omega) (by rw [hsl, r3]; omega) (by unfold maxLen at r2; omega) (fun j x hx => by
          have hj : j < M.length := by
            have := (List.getElem?_eq_some_iff.1 hx).1
            omega
          have hc := h3.cells (g := g) rfl j (.int .u8 x.toNat) (by
            rw [← hs]
            simp only [u8L, bytesOf, List.getElem?_map, hx]
            rfl)
          exact hc)
        rw [hsl] at this
        exact this
    have HF : Hid (Mut [] w0 (w.drew.freeze ⟨g, 0, none⟩ M.length)) := Lib.hid (mut_freeze h6.drew (.inr hfr) _)
    clear h1 h2 h3 h4 h5 h6 hs hl hsl hnc hg h0
    go_enter Try.func25, Try.ntmps25
    go_wp2
    go_region
    all_goals (go_wp2; go_ret; exact ⟨rfl, HF.out⟩)

end Go.Proofs.Ytgjcnembeebjfaa
