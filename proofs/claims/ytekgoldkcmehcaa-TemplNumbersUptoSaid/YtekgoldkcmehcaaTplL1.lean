/- The laws of templates: what speaks asks. -/
import Derived.Test.YtekgoldkcmehcaaTplW5
import Derived.Test.YtekgoldkcmehcaaLaw
namespace Go.Proofs.Ytekgoldkcmehcaa
open Go.RowKit Go.Shelf
set_option linter.unusedVariables false

def spk : List Pc := [(⟨#[60]⟩, -1), (.empty, 1), (⟨#[36, 62]⟩, -1)]
theorem speaks_runs : Runs 2 6 ⟨#[60, 36, 49, 36, 36, 62]⟩ [] (some spk) 0 := by
  refine Runs.num _ _ 1 ⟨#[60]⟩ ⟨#[49, 36, 36, 62]⟩ ⟨#[36, 36, 62]⟩ [(⟨#[60]⟩, -1)] 1 1 _ _ (by decide +kernel) (by decide +kernel) (by decide +kernel) (by decide +kernel) (.inl ⟨by decide +kernel, by decide, by decide +kernel⟩) (by decide) (by decide) (by decide) (by decide) (by decide +kernel) (addText_nil _ (by decide +kernel)) ?_
  refine Runs.sign _ _ 0 .empty ⟨#[36, 62]⟩ ⟨#[62]⟩ [(⟨#[60]⟩, -1), (.empty, 1)] [(⟨#[60]⟩, -1), (.empty, 1), (⟨#[36]⟩, -1)] _ _ (by decide +kernel) (by decide +kernel) (by decide +kernel) (by decide +kernel) (by decide +kernel) (addText_g0 [(⟨#[60]⟩, -1)] _ _ (by decide)) (addText_g [(⟨#[60]⟩, -1)] _ _ _ (by decide) (by decide +kernel)) ?_
  refine Runs.done _ _ _ (by decide +kernel) ?_
  have := addText_on [(⟨#[60]⟩, -1), (.empty, 1)] ⟨#[36]⟩ ⟨#[62]⟩
  exact this

def spkF (p : Pc) : ByteArray := if p.2 = 1 then ⟨#[98]⟩ else p.1

set_option maxHeartbeats 1600000 in
set_option maxRecDepth 100000 in
theorem speaks_any (w : World) : Calls Try.prog 5 #[] w fun e w' => e = .returned (.bool true) ∧ Mut [] w w' := by
  have HS := Lib.hid fun w : World => parse_any ⟨#[60, 36, 49, 36, 36, 62]⟩ _ _ 2 (some ⟨w.heap.size, 0, none⟩) 2 (by decide) speaks_runs (by decide) (w.alloc (.cells #[.string .empty, .string .empty] 9))
  go_enter Try.func5, Try.ntmps5
  go_wp2_with fail
  refine (HS.out w).mono ?_
  rintro e w1 ⟨v, rfl, ⟨p, c, rfl, hrow, hfresh⟩, hm⟩
  have hM := ((Mut.refl [] w).alloc (.cells #[.string .empty, .string .empty] 9)).trans' (hm.mono (by simp))
  have HR := Lib.hid hrow
  have HM := Lib.hid hM
  clear hrow hM hm hfresh HS
  go_wp2_with fail
  have hg : ((w1.alloc (.cells #[.int .i64 0, .int .i64 0] 27)).alloc (.cells #[.int .i64 0, .int .i64 2, .int .i64 1, .int .i64 2] 3)).heap[w1.heap.size + 1]? = some (.cells #[.int .i64 0, .int .i64 2, .int .i64 1, .int .i64 2] 3 (0, 0)) := by
    have := heap_alloc_new' (w1.alloc (.cells #[.int .i64 0, .int .i64 0] 27)) (.cells #[.int .i64 0, .int .i64 2, .int .i64 1, .int .i64 2] 3)
    rwa [World.size_alloc] at this
  have hm := ((Mut.refl [] w1).alloc (.cells #[.int .i64 0, .int .i64 0] 27)).alloc (.cells #[.int .i64 0, .int .i64 2, .int .i64 1, .int .i64 2] 3)
  generalize (w1.alloc (.cells #[.int .i64 0, .int .i64 0] 27)).alloc (.cells #[.int .i64 0, .int .i64 2, .int .i64 1, .int .i64 2] 3) = w2 at *
  refine (expand_any spk spkF p c ⟨#[97, 98]⟩ ⟨#[60, 98, 36, 62]⟩ (.slice (some ⟨w1.heap.size + 1, 0, none⟩) 4 4) (by decide +kernel) (by decide) (by decide) w2 (hm.row HR.out (by simp)) (fun x hx w' hm' => ?_)).mono ?_
  · simp only [spk, List.mem_cons, List.not_mem_nil, or_false] at hx
    rcases hx with rfl | rfl | rfl
    · exact part_text _ _ _ w'
    · exact part_one _ w' (hm'.get hg (by simp))
    · exact part_text _ _ _ w'
  rintro e w3 ⟨rfl, hm3⟩
  have HM3 := Lib.hid ((HM.out.trans' hm).trans' hm3)
  clear hm hm3 hg HM HR
  go_wp2_with fail
  exact bodyPost_ret (results_tmp rfl _ _ _) rfl ⟨rfl, HM3.out⟩

end Go.Proofs.Ytekgoldkcmehcaa
