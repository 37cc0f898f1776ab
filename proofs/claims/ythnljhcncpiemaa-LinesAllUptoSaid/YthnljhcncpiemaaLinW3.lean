/- Walks: lines.At, what it hands to sort.Search, sort.Search. -/
import Derived.Test.YthnljhcncpiemaaLinR
import Derived.Deep.DeepCutAuto
import Derived.BigQuiet
namespace Go.Proofs.Ythnljhcncpiemaa
open Go.RowKit
set_option linter.unusedVariables false

set_option maxHeartbeats 800000 in
set_option maxRecDepth 100000 in
/-- is the i-th line behind the place? -/
theorem at1_any {e : TypeId} (L : List (Nat × Nat)) (place : Int) (k B g n c : Nat) (hk : k < L.length) (w : World) (hv : w.heap[B]? = some (.cells #[.slice (some ⟨g, 0, none⟩) n c] 23 (0, 0))) (hn : L.length ≤ n) (hp : w.heap[B + 1]? = some (.cells #[.int .i64 place] 3 (0, 0)))
    (hr : PRow e w (.slice (some ⟨g, 0, none⟩) n c) L) (q : Bool) (hq : decide (place < ((L[k]'hk).1 : Int)) = q) :
    Calls Try.prog 16 #[.int .i64 (k : Int), .pointer (some ⟨B, 0, none⟩), .pointer (some ⟨B + 1, 0, none⟩)] w fun e w' => e = .returned (.bool q) ∧ ∃ n, w' = w.drewN n := by
  have hx := (hr.cells k hk).1
  rw [Nat.mul_comm] at hx
  have hc0 := cellOf hv 0 (x := .slice (some ⟨g, 0, none⟩) n c) rfl
  have hc1 := cellOf hp 0 (x := .int .i64 place) rfl
  obtain ⟨x, hX⟩ : ∃ x, (L[k]'hk).1 = x := ⟨_, rfl⟩
  rw [hX] at hx hq
  have hkI : (k : Int) < (n : Int) := by omega
  have hkn : k < n := by omega
  clear hX hr
  go_enter Try.func16, Try.ntmps16
  go_wp2_with fail
  go_quiet (fail)
  go_wp2_with fail
  exact bodyPost_ret (results_tmp rfl _ _ _) rfl ⟨rfl, _, rfl⟩

set_option maxHeartbeats 800000 in
set_option maxRecDepth 100000 in
theorem search_any (N C B : Nat) (hN : N ≤ 1073741824) (hC : C ≤ N) (w : World)
    (HA : ∀ k m : Nat, k < N → Calls Try.prog 16 #[.int .i64 (k : Int), .pointer (some ⟨B, 0, none⟩), .pointer (some ⟨B + 1, 0, none⟩)] (w.drewN m) fun e w' => e = .returned (.bool (decide (C ≤ k))) ∧ ∃ n, w' = w.drewN n) :
    Calls Try.prog 15 #[.int .i64 (N : Int), .func (.func 16) #[] #[.pointer (some ⟨B, 0, none⟩), .pointer (some ⟨B + 1, 0, none⟩)]] w fun e w' => e = .returned (.int .i64 (C : Int)) ∧ ∃ n, w' = w.drewN n := by
  have HAA := Lib.hid HA
  clear HA
  go_enter Try.func15, Try.ntmps15
  go_wp2_with fail
  go_loopw [5, 6] (fun a b wx => ∃ i j m : Nat, a = .int .i64 (i : Int) ∧ b = .int .i64 (j : Int) ∧ i ≤ C ∧ C ≤ j ∧ j ≤ N ∧ wx = w.drewN m) (fun a b _ => (intOf b).toNat - (intOf a).toNat)
  case atStart => exact ⟨0, N, 0, rfl, rfl, Nat.zero_le _, hC, Nat.le_refl _, rfl⟩
  case round =>
    obtain ⟨i, j, m, rfl, rfl, hi, hj, hjN, rfl⟩ := hrel
    by_cases hlt : i < j
    case neg =>
      have hI : ¬ (i : Int) < (j : Int) := by omega
      obtain rfl : i = C := by omega
      go_wp2_with fail
      exact bodyPost_ret (results_tmp rfl _ _ _) rfl ⟨rfl, _, rfl⟩
    case pos =>
      have hI : (i : Int) < (j : Int) := by omega
      go_upto_region 4 with fail
      obtain ⟨h, hh⟩ : ∃ h : Nat, ((i : Int) + (j : Int)) / 2 = (h : Int) := ⟨(i + j) / 2, by omega⟩
      rw [hh]
      have hih : i ≤ h ∧ h < j := by omega
      have hhN : h < N := by omega
      have HAh := Lib.hid (HAA.out h m hhN)
      clear hh hI hlt
      by_cases hc : C ≤ h
      case pos =>
        rw [decide_eq_true hc] at HAh
        go_wp2_with (refine HAh.out.mono ?_; rintro e w1 ⟨rfl, n1, rfl⟩)
        exact ⟨⟨i, h, n1, rfl, rfl, hi, hc, by omega, rfl⟩, by simp only [intOf]; omega⟩
      case neg =>
        rw [decide_eq_false hc] at HAh
        have hw1 : wrap64 ((h : Int) + 1) = ((h + 1 : Nat) : Int) := by rw [IntWalk.wrap64_in _ (by omega)]; omega
        go_wp2_with (refine HAh.out.mono ?_; rintro e w1 ⟨rfl, n1, rfl⟩)
        exact ⟨⟨h + 1, j, n1, by rw [Int.natCast_add]; rfl, rfl, by omega, hj, hjN, rfl⟩, by simp only [intOf]; omega⟩

set_option maxHeartbeats 800000 in
set_option maxRecDepth 100000 in
/-- lines.At, over a row of lines -/
theorem at_any {e : TypeId} (L : List (Nat × Nat)) (hs : Sq 0 L) (hL : L.length ≤ 1073741824) (place : Int) (v : Value) (w : World) (hr : PRow e w v L) :
    Calls Try.prog 10 #[v, .int .i64 place] w fun e w' => e = .returned (.int .i64 ((cnt L place : Int) - 1)) ∧ Mut [] w w' := by
  obtain ⟨p, c, rfl⟩ := hr.form
  have hC := cnt_le L place
  have hm : Mut [] w ((w.alloc (.cells #[.slice p L.length c] 23)).alloc (.cells #[.int .i64 place] 3)) := ((Mut.refl [] w).alloc _).alloc _
  have hb0 := (Mut.refl [] (w.alloc (.cells #[.slice p L.length c] 23))).alloc (.cells #[.int .i64 place] 3) |>.get (heap_alloc_new' w (.cells #[.slice p L.length c] 23)) (by simp)
  have hb1 := heap_alloc_new' (w.alloc (.cells #[.slice p L.length c] 23)) (.cells #[.int .i64 place] 3)
  rw [World.size_alloc] at hb1
  have hr2 := hr.mut hm (by simp)
  have hsz : ((w.alloc (.cells #[.slice p L.length c] 23)).alloc (.cells #[.int .i64 place] 3)).heap.size = w.heap.size + 2 := by simp
  have hc0 := cellOf hb0 0 (x := .slice p L.length c) rfl
  have HS : Hid (Calls Try.prog 15 #[.int .i64 (L.length : Int), .func (.func 16) #[] #[.pointer (some ⟨w.heap.size, 0, none⟩), .pointer (some ⟨w.heap.size + 1, 0, none⟩)]] ((w.alloc (.cells #[.slice p L.length c] 23)).alloc (.cells #[.int .i64 place] 3)) fun e w' => e = .returned (.int .i64 (cnt L place : Nat)) ∧ ∃ n, w' = ((w.alloc (.cells #[.slice p L.length c] 23)).alloc (.cells #[.int .i64 place] 3)).drewN n) := by
    refine Lib.hid (search_any L.length (cnt L place) w.heap.size hL hC _ fun k m hk => ?_)
    have hmd : Mut [] ((w.alloc (.cells #[.slice p L.length c] 23)).alloc (.cells #[.int .i64 place] 3)) (((w.alloc (.cells #[.slice p L.length c] 23)).alloc (.cells #[.int .i64 place] 3)).drewN m) := (Mut.refl [] _).drewN m
    obtain ⟨g, c', hv, -, -⟩ := row_some hr2 (by omega)
    simp only [Value.slice.injEq] at hv
    obtain ⟨rfl, -, rfl⟩ := hv
    refine (at1_any L place k w.heap.size g L.length c hk _ (hmd.get hb0 (by simp)) (Nat.le_refl _) (hmd.get hb1 (by simp)) (hr2.mut hmd (by simp)) (decide (cnt L place ≤ k)) ?_).mono (fun e w' h => ⟨h.1, by obtain ⟨n, h⟩ := h.2; exact ⟨m + n, by rw [h]; exact World.drewN_drewN _ _ _⟩⟩)
    have := cnt_get L 0 place k hs hk
    rw [decide_eq_decide]
    omega
  have hw1 : wrap64 ((cnt L place : Int) - 1) = (cnt L place : Int) - 1 := IntWalk.wrap64_in _ (by omega)
  have HM := Lib.hid hm
  clear hm hb1 hr2 hb0
  generalize cnt L place = C at *
  go_enter Try.func10, Try.ntmps10
  go_wp2_with (refine HS.out.mono ?_; rintro e w1 ⟨rfl, n, rfl⟩)
  exact bodyPost_ret (results_tmp rfl _ _ _) rfl ⟨rfl, HM.out.drewN n⟩

end Go.Proofs.Ythnljhcncpiemaa
