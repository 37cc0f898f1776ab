/- Walks over package sets: Not, Has, of the set of the surrogates. -/
import Derived.Test.YtcnckpglicfolaaScaW2
import Derived.Test.YtcnckpglicfolaaScaP
namespace Go.Proofs.Ytcnckpglicfolaa
open Go.RowKit Go.Lib
set_option linter.unusedVariables false

set_option maxHeartbeats 1600000 in
set_option maxRecDepth 100000 in
theorem not_one (g c : Nat) (hc : 1 ≤ c) (w : World) (h0 : w.cell? ⟨g, 0, none⟩ = some (.int .i64 55296)) (h1 : w.cell? ⟨g, 1, none⟩ = some (.int .i64 57343)) :
    Calls Try.prog 6 #[.slice (some ⟨g, 0, none⟩) 1 c] w fun e w' => ∃ G C, e = .returned (.slice (some ⟨G, 0, none⟩) 2 C) ∧ 2 ≤ C ∧ w'.ownsRow 0 34 2 (.slice (some ⟨G, 0, none⟩) 2 C) 2 [.int .i64 0, .int .i64 55295, .int .i64 57344, .int .i64 1114111] ∧ (w.heap.size ≤ G) ∧ Mut [] w w' := by
  obtain ⟨i0, hi, hz0, hz1, hz2⟩ := info_parts info_rg
  have hcI : (1 : Int) ≤ (c : Int) := by omega
  go_enter Try.func6, Try.ntmps6
  go_wp2_with fail
  refine wp_loop_rounds 2 ?_
  rw [rounds_succ]
  go_upto_region 7 with fail
  have hR := heap_alloc_new' w (.cells #[.int .i64 55296, .int .i64 57343] 34)
  have HM1 := Lib.hid ((Mut.refl [] w).alloc (.cells #[.int .i64 55296, .int .i64 57343] 34))
  have HWS := Lib.hid (Nat.le_refl w.heap.size)
  clear h0 h1
  generalize w.alloc (.cells #[.int .i64 55296, .int .i64 57343] 34) = w1 at *
  obtain ⟨R1, hRe⟩ : ∃ R, w.heap.size = R := ⟨_, rfl⟩
  rw [hRe] at hR ⊢
  have HRE := Lib.hid hRe
  clear hRe
  have r0 := cellOf hR 0 (x := .int .i64 55296) rfl
  have r1 := cellOf hR 1 (x := .int .i64 57343) rfl
  go_wp2_with (at_builtin; refine wp_app rfl (.tmp 17) (.tmp 23) 31 31 rfl 34 i0 (.agg #[.int .i64 0, .int .i64 0]) 2 16 Try.underlying31 hi hz0 hz1 hz2 rfl (World.ownsRow_nil _ _ _ _) rfl (src1 Try.underlying31 (heap_alloc_new w1 _) rfl (two1 _ _)) rfl ?b1 ?b2 ?_)
  case b1 => decide
  case b2 => decide
  intro v' w2 s1 s2 s3
  have hm2 := ((Mut.refl [] w1).alloc (.cells #[.int .i64 0, .int .i64 55295] 34)).grown s2 (by intro k hk; simp [Value.ownBlock] at hk)
  have HM2 := Lib.hid (HM1.out.trans' hm2)
  obtain ⟨G, cp, rfl, hGs, hcp⟩ := row_some s1 (by omega)
  have HG : Hid (w.heap.size ≤ G) := Lib.hid (by
    rcases s3 G rfl with h | h
    · simp [Value.ownBlock] at h
    · have h1 := HM1.out.size
      have h2 : w1.heap.size + 1 ≤ G := h
      omega)
  have HS1 : Hid (w2.ownsRow 0 34 2 (.slice (some ⟨G, 0, none⟩) 1 cp) 1 [.int .i64 0, .int .i64 55295]) := Lib.hid s1
  have r0 := hm2.cell r0 (by simp)
  have r1 := hm2.cell r1 (by simp)
  clear s1 s2 s3 hm2 hR HM1 hGs
  go_wp2_with fail
  rw [rounds_succ]
  go_upto_region 11 with fail
  have hrow := HS1.out
  have hcpI : (1 : Int) ≤ (cp : Int) := by omega
  go_wp2_with (at_builtin; refine wp_app rfl (.tmp 31) (.tmp 34) 31 31 rfl 34 i0 (.agg #[.int .i64 0, .int .i64 0]) 2 16 Try.underlying31 hi hz0 hz1 hz2 rfl (hrow.alloc _) rfl (src1 Try.underlying31 (heap_alloc_new w2 _) rfl (two1 _ _)) rfl ?b1 ?b2 ?_)
  case b1 => decide
  case b2 => decide
  intro v' w3 s1 s2 s3
  have hm3 := ((Mut.refl [G] w2).alloc (.cells #[.int .i64 57344, .int .i64 1114111] 34)).grown s2 (by intro k hk; simp [Value.ownBlock] at hk; simp [hk])
  have HM3 : Hid (Mut [] w w3) := Lib.hid (HM2.out.trans hm3 (fun x hx => .inr (by simp at hx; rw [hx]; exact HG.out)))
  obtain ⟨G2, cp2, rfl, hGs, hcp2⟩ := row_some s1 (by omega)
  have HG2 : Hid (w.heap.size ≤ G2) := Lib.hid (by
    rcases s3 G2 rfl with h | h
    · simp [Value.ownBlock] at h
      rw [← h]; exact HG.out
    · have h1 := HM2.out.size
      have h2 : w2.heap.size + 1 ≤ G2 := h
      omega)
  have HS2 : Hid (w3.ownsRow 0 34 2 (.slice (some ⟨G2, 0, none⟩) 2 cp2) 2 [.int .i64 0, .int .i64 55295, .int .i64 57344, .int .i64 1114111]) := Lib.hid s1
  clear s1 s2 s3 hm3 hGs r0 r1 hrow
  go_wp2_with fail
  exact bodyPost_ret (results_tmp rfl _ _ _) rfl ⟨G2, cp2, rfl, hcp2, HS2.out, HG2.out, HM3.out⟩

set_option maxHeartbeats 800000 in
set_option maxRecDepth 100000 in
theorem search_any (N C B : Nat) (hN : N ≤ 1073741824) (hC : C ≤ N) (w : World)
    (HA : ∀ k m : Nat, k < N → Calls Try.prog 16 #[.int .i64 (k : Int), .pointer (some ⟨B, 0, none⟩), .pointer (some ⟨B + 1, 0, none⟩)] (w.drewN m) fun e w' => e = .returned (.bool (decide (C ≤ k))) ∧ ∃ n, w' = w.drewN n) :
    Calls Try.prog 15 #[.int .i64 (N : Int), .func (.func 16) #[] #[.pointer (some ⟨B, 0, none⟩), .pointer (some ⟨B + 1, 0, none⟩)]] w fun e w' => e = .returned (.int .i64 (C : Int)) ∧ ∃ n, w' = w.drewN n := by
  have HAA := Lib.hid HA
  clear HA
  go_enter Try.func15, Try.ntmps15
  go_wp2_with fail
  go_loopw [5, 6] (fun a b wx => ∃ i j m : Nat, a = .int .i64 (i : Int) ∧ b = .int .i64 (j : Int) ∧ i ≤ C ∧ C ≤ j ∧ j ≤ N ∧ wx = w.drewN m) (fun a b _ => (intOf b).toNat - (intOf a).toNat)
  case atStart => exact ⟨0, N, 0, rfl, rfl, Nat.zero_le _, hC, Nat.le_refl _, rfl⟩
  case round =>
    obtain ⟨i, j, m, rfl, rfl, hi, hj, hjN, rfl⟩ := hrel
    by_cases hlt : i < j
    case neg =>
      have hI : ¬ (i : Int) < (j : Int) := by omega
      obtain rfl : i = C := by omega
      go_wp2_with fail
      exact bodyPost_ret (results_tmp rfl _ _ _) rfl ⟨rfl, _, rfl⟩
    case pos =>
      have hI : (i : Int) < (j : Int) := by omega
      go_upto_region 4 with fail
      obtain ⟨h, hh⟩ : ∃ h : Nat, ((i : Int) + (j : Int)) / 2 = (h : Int) := ⟨(i + j) / 2, by omega⟩
      rw [hh]
      have hih : i ≤ h ∧ h < j := by omega
      have hhN : h < N := by omega
      have HAh := Lib.hid (HAA.out h m hhN)
      clear hh hI hlt
      by_cases hc : C ≤ h
      case pos =>
        rw [decide_eq_true hc] at HAh
        go_wp2_with (refine HAh.out.mono ?_; rintro e w1 ⟨rfl, n1, rfl⟩)
        exact ⟨⟨i, h, n1, rfl, rfl, hi, hc, by omega, rfl⟩, by simp only [intOf]; omega⟩
      case neg =>
        rw [decide_eq_false hc] at HAh
        have hw1 : wrap64 ((h : Int) + 1) = ((h + 1 : Nat) : Int) := by rw [IntWalk.wrap64_in _ (by omega)]; omega
        go_wp2_with (refine HAh.out.mono ?_; rintro e w1 ⟨rfl, n1, rfl⟩)
        exact ⟨⟨h + 1, j, n1, by rw [Int.natCast_add]; rfl, rfl, by omega, hj, hjN, rfl⟩, by simp only [intOf]; omega⟩

/-- what Has hands to the search -/
structure HasC (B G C : Nat) (r : Int) (w : World) : Prop where
  s : w.cell? ⟨B, 0, none⟩ = some (.slice (some ⟨G, 0, none⟩) 2 C)
  v : w.cell? ⟨B + 1, 0, none⟩ = some (.int .i64 r)
  c0 : w.cell? ⟨G, 0, none⟩ = some (.int .i64 0)
  c1 : w.cell? ⟨G, 1, none⟩ = some (.int .i64 55295)
  c2 : w.cell? ⟨G, 2, none⟩ = some (.int .i64 57344)
  c3 : w.cell? ⟨G, 3, none⟩ = some (.int .i64 1114111)
theorem HasC.drewN {B G C : Nat} {r : Int} {w : World} (h : HasC B G C r w) (n : Nat) : HasC B G C r (w.drewN n) := ⟨h.s, h.v, h.c0, h.c1, h.c2, h.c3⟩

set_option maxHeartbeats 800000 in
set_option maxRecDepth 100000 in
theorem has1_at (B G C : Nat) (hC : 2 ≤ C) (r : Int) (hr : Scal r) (k : Nat) (hk : k < 2) (w : World) (h : HasC B G C r w) :
    Calls Try.prog 16 #[.int .i64 (k : Int), .pointer (some ⟨B, 0, none⟩), .pointer (some ⟨B + 1, 0, none⟩)] w fun e w' => e = .returned (.bool (decide ((if r ≤ 55295 then 0 else 1) ≤ k))) ∧ ∃ n, w' = w.drewN n := by
  obtain ⟨s0, v0, c0, c1, c2, c3⟩ := h
  obtain ⟨hr0, hr1, hr2⟩ := hr
  have hCI : (2 : Int) ≤ (C : Int) := by omega
  have hk2 : k = 0 ∨ k = 1 := by omega
  rcases hk2 with rfl | rfl
  · obtain ⟨q, hq⟩ : ∃ q, decide (r ≤ 55295) = q := ⟨_, rfl⟩
    have hq2 : decide ((if r ≤ 55295 then 0 else 1) ≤ 0) = q := by rw [← hq]; split <;> simp_all
    rw [hq2]
    go_enter Try.func16, Try.ntmps16
    go_wp2_with fail
    go_quiet (fail)
    go_wp2_with fail
    exact bodyPost_ret (results_tmp rfl _ _ _) rfl ⟨rfl, _, rfl⟩
  · have hq2 : decide ((if r ≤ 55295 then 0 else 1) ≤ 1) = true := by split <;> simp
    rw [hq2]
    go_enter Try.func16, Try.ntmps16
    go_wp2_with fail
    go_quiet (fail)
    go_wp2_with fail
    exact bodyPost_ret (results_tmp rfl _ _ _) rfl ⟨rfl, _, rfl⟩

set_option maxHeartbeats 800000 in
set_option maxRecDepth 100000 in
theorem has_scal (G C : Nat) (hC : 2 ≤ C) (r : Int) (hr : Scal r) (w : World) (c0 : w.cell? ⟨G, 0, none⟩ = some (.int .i64 0)) (c1 : w.cell? ⟨G, 1, none⟩ = some (.int .i64 55295)) (c2 : w.cell? ⟨G, 2, none⟩ = some (.int .i64 57344)) (c3 : w.cell? ⟨G, 3, none⟩ = some (.int .i64 1114111)) :
    Calls Try.prog 7 #[.slice (some ⟨G, 0, none⟩) 2 C, .int .i64 r] w fun e w' => e = .returned (.bool true) ∧ Mut [] w w' := by
  have hm : Mut [] w ((w.alloc (.cells #[.slice (some ⟨G, 0, none⟩) 2 C] 31)).alloc (.cells #[.int .i64 r] 3)) := ((Mut.refl [] w).alloc _).alloc _
  have hb0 := (Mut.refl [] (w.alloc (.cells #[.slice (some ⟨G, 0, none⟩) 2 C] 31))).alloc (.cells #[.int .i64 r] 3) |>.get (heap_alloc_new' w (.cells #[.slice (some ⟨G, 0, none⟩) 2 C] 31)) (by simp)
  have hb1 := heap_alloc_new' (w.alloc (.cells #[.slice (some ⟨G, 0, none⟩) 2 C] 31)) (.cells #[.int .i64 r] 3)
  rw [World.size_alloc] at hb1
  have HH : Hid (HasC w.heap.size G C r ((w.alloc (.cells #[.slice (some ⟨G, 0, none⟩) 2 C] 31)).alloc (.cells #[.int .i64 r] 3))) := Lib.hid ⟨cellOf hb0 0 rfl, cellOf hb1 0 rfl, hm.cell c0 (by simp), hm.cell c1 (by simp), hm.cell c2 (by simp), hm.cell c3 (by simp)⟩
  have HM := Lib.hid hm
  have HR := Lib.hid hr
  clear hm hb0 hb1 c0 c1 c2 c3
  go_enter Try.func7, Try.ntmps7
  go_upto_region 1 with fail
  generalize (w.alloc (.cells #[.slice (some ⟨G, 0, none⟩) 2 C] 31)).alloc (.cells #[.int .i64 r] 3) = w1 at *
  generalize w.heap.size = B at *
  obtain ⟨I, hI⟩ : ∃ I : Nat, (if r ≤ 55295 then 0 else 1) = I := ⟨_, rfl⟩
  have hI1 : I ≤ 1 := by rw [← hI]; split <;> decide
  have HSE : Hid (Calls Try.prog 15 #[.int .i64 2, .func (.func 16) #[] #[.pointer (some ⟨B, 0, none⟩), .pointer (some ⟨B + 1, 0, none⟩)]] w1 fun e w' => e = .returned (.int .i64 (I : Int)) ∧ ∃ n, w' = w1.drewN n) := by
    refine Lib.hid (search_any 2 I B (by decide) (by omega) w1 fun k m hk => ?_)
    refine (has1_at B G C hC r hr k hk _ (HH.out.drewN m)).mono (fun e w' h => ⟨by rw [h.1, hI], by obtain ⟨n, h⟩ := h.2; exact ⟨m + n, by rw [h]; exact World.drewN_drewN _ _ _⟩⟩)
  have HI := Lib.hid hI
  clear hI hr
  obtain ⟨s0, v0, c0, c1, c2, c3⟩ := HH.out
  go_wp2_with fail
  refine HSE.out.mono ?_
  rintro e w2 ⟨rfl, n, rfl⟩
  have HH2 := Lib.hid (HH.out.drewN n)
  have HM2 := Lib.hid (HM.out.drewN n)
  clear s0 v0 c0 c1 c2 c3 HSE HH HM
  generalize w1.drewN n = w3 at *
  obtain ⟨s0, v0, c0, c1, c2, c3⟩ := HH2.out
  have hCI : (2 : Int) ≤ (C : Int) := by omega
  have hI01 : I = 0 ∨ I = 1 := by omega
  obtain ⟨hr0, hr1, hr2⟩ := HR.out
  rcases hI01 with rfl | rfl
  · have hle : decide ((0 : Int) ≤ r) = true := decide_eq_true hr0
    go_wp2_with fail
    go_quiet (fail)
    go_wp2_with fail
    exact bodyPost_ret (results_tmp rfl _ _ _) rfl ⟨rfl, HM2.out.drewN nq⟩
  · have h55 : 57344 ≤ r := by
      have h := HI.out
      split at h
      · cases h
      · omega
    have hle : decide ((57344 : Int) ≤ r) = true := decide_eq_true h55
    go_wp2_with fail
    go_quiet (fail)
    go_wp2_with fail
    exact bodyPost_ret (results_tmp rfl _ _ _) rfl ⟨rfl, HM2.out.drewN nq⟩

end Go.Proofs.Ytcnckpglicfolaa
