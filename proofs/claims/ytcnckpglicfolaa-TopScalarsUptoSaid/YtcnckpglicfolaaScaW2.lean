/- Walks over package sets: Of one range, what isn't in it. -/
import Derived.Test.YtcnckpglicfolaaScaW1
namespace Go.Proofs.Ytcnckpglicfolaa
open Go.RowKit Go.Lib
set_option linter.unusedVariables false

theorem info_rg : (Try.prog.info? 34).map (fun i => (i.zero, i.size, i.bytes)) = some (some (.agg #[.int .i64 0, .int .i64 0]), 2, 16) := by kernel_rfl

theorem two1 (x y : Int) : ∀ u ∈ ([.int .i64 x, .int .i64 y] : List Value), u.oneCell' = true := by
  intro u hu
  simp at hu
  rcases hu with rfl | rfl <;> rfl
theorem row2 {w : World} {e : TypeId} {G c : Nat} {l : List Value} {n : Nat} (h : w.ownsRow 0 e 2 (.slice (some ⟨G, 0, none⟩) n c) n l) (i : Nat) (hi : i < l.length) : w.cell? ⟨G, i, none⟩ = l[i]? := by
  rcases h.2 with ⟨h1, -⟩ | ⟨b, cap, cur, h1, -, hh, -, -, -, h5⟩
  · cases h1
  · simp only [Value.slice.injEq, Option.some.injEq, Addr.mk.injEq] at h1
    obtain ⟨⟨rfl, -⟩, -, -⟩ := h1
    have hl : l[i]? = some (l[i]'hi) := List.getElem?_eq_getElem hi
    rw [hl]
    refine cellOf hh i ?_
    have h6 : (cur.toList.take (n * 2))[i]? = l[i]? := by rw [h5]
    have hn := congrArg List.length h5
    rw [List.length_take] at hn
    rw [List.getElem?_take_of_lt (by omega), hl] at h6
    rw [← Array.getElem?_toList, h6]

set_option maxHeartbeats 1600000 in
set_option maxRecDepth 100000 in
theorem of_one (g : Nat) (w : World) (h : w.heap[g]? = some (.cells #[.int .i64 55296, .int .i64 57343] 34 (0, 0))) :
    Calls Try.prog 5 #[.slice (some ⟨g, 0, none⟩) 1 1] w fun e w' => ∃ g' c', e = .returned (.slice (some ⟨g', 0, none⟩) 1 c') ∧ 1 ≤ c' ∧ w'.cell? ⟨g', 0, none⟩ = some (.int .i64 55296) ∧ w'.cell? ⟨g', 1, none⟩ = some (.int .i64 57343) ∧ Mut [] w w' := by
  have HG := Lib.hid h
  clear h
  go_enter Try.func5, Try.ntmps5
  go_upto_region 2 with fail
  have hB := heap_alloc_new w (.cells #[.slice none 0 0] 30)
  have hM := (Mut.refl [] w).alloc (.cells #[.slice none 0 0] 30)
  generalize w.alloc (.cells #[.slice none 0 0] 30) = w1 at *
  generalize hBe : w.heap.size = B at *
  have c0 := cellOf hB 0 (x := .slice none 0 0) rfl
  have k0 := cellOf (hM.get HG.out (by simp)) 0 (x := .int .i64 55296) rfl
  have k1 := cellOf (hM.get HG.out (by simp)) 1 (x := .int .i64 57343) rfl
  obtain ⟨i0, hi, hz0, hz1, hz2⟩ := info_parts info_rg
  have HBE := Lib.hid hBe
  have HM := Lib.hid hM
  clear hBe hM HG
  go_wp2_with fail
  refine wp_loop_rounds 2 ?_
  rw [rounds_succ]
  go_upto_region 7 with fail
  have hR := heap_alloc_new' w1 (.cells #[.int .i64 55296, .int .i64 57343] 34)
  have hM2 := (Mut.refl [] w1).alloc (.cells #[.int .i64 55296, .int .i64 57343] 34)
  have hB2 := hM2.get hB (by simp)
  generalize w1.alloc (.cells #[.int .i64 55296, .int .i64 57343] 34) = w2 at *
  generalize w1.heap.size = R1 at *
  have c0 := cellOf hB2 0 (x := .slice none 0 0) rfl
  have r0 := cellOf hR 0 (x := .int .i64 55296) rfl
  have r1 := cellOf hR 1 (x := .int .i64 57343) rfl
  have HM2 := Lib.hid (HM.out.trans' hM2)
  clear hM2 hR hB k0 k1
  go_wp2_with (at_builtin; refine wp_app rfl (.tmp 28) (.tmp 30) 30 30 rfl 34 i0 (.agg #[.int .i64 0, .int .i64 0]) 2 16 Try.underlying30 hi hz0 hz1 hz2 rfl (World.ownsRow_nil _ _ _ _) rfl (src1 Try.underlying30 (heap_alloc_new w2 _) rfl (two1 _ _)) rfl ?b1 ?b2 ?_)
  case b1 => decide
  case b2 => decide
  intro v' w3 s1 s2 s3
  have hM3 : Mut [] w2 w3 := (((Mut.refl [] w2).alloc (.cells #[.int .i64 55296, .int .i64 57343] 34)).grown s2 (by intro k hk; simp [Value.ownBlock] at hk))
  obtain ⟨G, cp, rfl, hGs, hcp⟩ := row_some s1 (by omega)
  have q0 : w3.cell? ⟨G, 0, none⟩ = some (.int .i64 55296) := row2 s1 0 (by simp)
  have q1 : w3.cell? ⟨G, 1, none⟩ = some (.int .i64 57343) := row2 s1 1 (by simp)
  have hB3 := hM3.get hB2 (by simp)
  have hGB : G ≠ B := by
    rcases s3 G rfl with h | h
    · simp [Value.ownBlock] at h
    · have := lt_of_heap hB2
      have h2 : w2.heap.size + 1 ≤ G := h
      omega
  have hB4 : (w3.setCell ⟨B, 0, none⟩ (.slice (some ⟨G, 0, none⟩) 1 cp)).heap[B]? = some (.cells #[.slice (some ⟨G, 0, none⟩) 1 cp] 30 (0, 0)) := heap_set hB3 0 (.slice (some ⟨G, 0, none⟩) 1 cp)
  have HM4 : Hid (Mut [] w (w3.setCell ⟨B, 0, none⟩ (.slice (some ⟨G, 0, none⟩) 1 cp))) := Lib.hid ((HM2.out.trans' hM3).setCell (.inr (by rw [HBE.out]; exact Nat.le_refl _)) _)
  have q0' : (w3.setCell ⟨B, 0, none⟩ (.slice (some ⟨G, 0, none⟩) 1 cp)).cell? ⟨G, 0, none⟩ = some (.int .i64 55296) := (((Mut.refl [B] w3).setCell (.inl (by simp)) _).cell q0 (by simpa using hGB))
  have q1' : (w3.setCell ⟨B, 0, none⟩ (.slice (some ⟨G, 0, none⟩) 1 cp)).cell? ⟨G, 1, none⟩ = some (.int .i64 57343) := (((Mut.refl [B] w3).setCell (.inl (by simp)) _).cell q1 (by simpa using hGB))
  have c3 := cellOf hB3 0 (x := .slice none 0 0) rfl
  have f3 := frozenOf hB3 0
  clear s1 s2 s3 hM3 hB2 c0 r0 r1 hGs hGB HM2 HM
  go_wp2_with fail
  clear hB3 q0 q1 c3 f3 c0
  generalize w3.setCell ⟨B, 0, none⟩ (.slice (some ⟨G, 0, none⟩) 1 cp) = w4 at *
  have b4 := cellOf hB4 0 (x := .slice (some ⟨G, 0, none⟩) 1 cp) rfl
  rw [rounds_succ]
  have HSL := Lib.hid fun lf la lb => slice_one (some ⟨G, 0, none⟩) cp lf la lb w4
  go_wp2_with fail
  refine (HSL.out _ _ _).mono ?_
  rintro e w5 ⟨rfl, hm5⟩
  have b5 := hm5.cell b4 (by simp)
  have p0 := hm5.cell q0' (by simp)
  have p1 := hm5.cell q1' (by simp)
  have HM5 := Lib.hid (HM4.out.trans' hm5)
  have hcpI : (1 : Int) ≤ (cp : Int) := by omega
  clear hm5 HM4 hB4 q0' q1' b4 HSL
  go_wp2_with fail
  refine wp_loop_rounds 2 ?_
  rw [rounds_succ]
  go_upto_region 15 with fail
  have hR := heap_alloc_new' w5 (.cells #[.int .i64 55296, .int .i64 57343] 34)
  have HM6 := Lib.hid (HM5.out.trans' ((Mut.refl [] w5).alloc (.cells #[.int .i64 55296, .int .i64 57343] 34)))
  clear b5 p0 p1 HM5
  generalize w5.alloc (.cells #[.int .i64 55296, .int .i64 57343] 34) = w6 at *
  generalize w5.heap.size = R2 at *
  have r0 := cellOf hR 0 (x := .int .i64 55296) rfl
  have r1 := cellOf hR 1 (x := .int .i64 57343) rfl
  go_quiet (fail)
  have hR2 : (w6.drewN nq).heap[R2]? = some (.cells #[.int .i64 55296, .int .i64 57343] 34 (0, 0)) := hR
  have HM6 := Lib.hid (HM6.out.drewN nq)
  clear r0 r1 hR
  generalize w6.drewN nq = w6 at *
  have r0 := cellOf hR2 0 (x := .int .i64 55296) rfl
  have r1 := cellOf hR2 1 (x := .int .i64 57343) rfl
  go_wp2_with (at_builtin; refine wp_app rfl (.tmp 73) (.tmp 75) 31 31 rfl 34 i0 (.agg #[.int .i64 0, .int .i64 0]) 2 16 Try.underlying31 hi hz0 hz1 hz2 rfl (World.ownsRow_nil _ _ _ _) rfl (src1 Try.underlying31 (heap_alloc_new w6 _) rfl (two1 _ _)) rfl ?b1 ?b2 ?_)
  case b1 => decide
  case b2 => decide
  intro v' w7 s1 s2 s3
  have HM7 : Hid (Mut [] w w7) := Lib.hid (HM6.out.trans' (((Mut.refl [] w6).alloc (.cells #[.int .i64 55296, .int .i64 57343] 34)).grown s2 (by intro k hk; simp [Value.ownBlock] at hk)))
  obtain ⟨G2, cp2, rfl, hGs, hcp2⟩ := row_some s1 (by omega)
  have q0 : w7.cell? ⟨G2, 0, none⟩ = some (.int .i64 55296) := row2 s1 0 (by simp)
  have q1 : w7.cell? ⟨G2, 1, none⟩ = some (.int .i64 57343) := row2 s1 1 (by simp)
  have HQ := Lib.hid (And.intro q0 q1)
  clear s1 s2 s3 r0 r1 hR2 q0 q1
  go_wp2_with fail
  rw [rounds_succ]
  go_wp2_with fail
  exact bodyPost_ret (results_tmp rfl _ _ _) rfl ⟨G2, cp2, rfl, hcp2, HQ.out.1, HQ.out.2, HM7.out⟩

end Go.Proofs.Ytcnckpglicfolaa
