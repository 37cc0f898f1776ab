/- Walk over the law GzReads. -/
import Derived.Test.YtgjcnembeebjfaaGzPT
import Derived.Test.YtgjcnembeebjfaaGzR9
import Derived.Deep.RegionWith
import Derived.BigQuiet
import Derived.Deep.DeepCutAuto
namespace Go.Proofs.Ytgjcnembeebjfaa
open Go.RowKit
set_option linter.unusedVariables false

theorem rreadRes_flat {w w' : World} {R : RR (List GPart)} {v : Value} (h : rreadRes w R v w') :
    ∃ p c, v = .tuple #[.slice p (RL R).length c, .int .i64 (RC R : Int), .int .i64 (RF R : Int)] ∧ w'.ownsRow 0 44 9 (.slice p (RL R).length c) (RL R).length (gpL (RL R)) := by
  cases R with
  | ok l a =>
    obtain ⟨p, c, h1, h2, -⟩ := h
    exact ⟨p, c, h1, h2⟩
  | bad c f => exact ⟨none, 0, h, World.ownsRow_nil _ _ _ _⟩

theorem readN_len (fu : Nat) (D : ByteArray) : ∀ (g m a : Nat) (l : List GPart), l.length ≤ 1024 → (RL (readN fu D g m a l)).length ≤ 1024
  | 0, m, a, l, h => h
  | g + 1, m, a, l, h => by
    rw [readN]
    split
    · split
      · exact Nat.zero_le _
      · rename_i h2
        cases hp : partN fu D m a with
        | bad c f => exact Nat.zero_le _
        | ok p a' =>
          rw [RR.bind]
          exact readN_len fu D g _ a' (l ++ [p]) (by rw [List.length_append, List.length_singleton]; omega)
    · exact h

set_option maxRecDepth 100000 in
theorem gz_read_neg (D : ByteArray) (most : Int) (hm : most < 0) (w : World) :
    Calls Try.prog 10 #[.string D, .int .i64 most] w fun e w' => e = .returned (.tuple #[.slice none 0 0, .agg #[.int .i64 1, .int .i64 0]]) ∧ Mut [] w w' := by
  go_enter Try.func10, Try.ntmps10
  go_upto_region 1 with fail
  have hF := heap_alloc_new' w (.cells #[.int .i64 0, .int .i64 0] 26)
  have hM0 := (Mut.refl [] w).alloc (.cells #[.int .i64 0, .int .i64 0] 26)
  generalize w.alloc (.cells #[.int .i64 0, .int .i64 0] 26) = W at *
  obtain ⟨k1, k2, -, k4, k5, k6, k7⟩ := read_end hF rfl hM0 (Mut.refl [] W) (.int .i64 1) (.int .i64 0)
  have K1 := Lib.hid k1
  have K2 := Lib.hid k2
  clear k1 k2 hF hM0
  go_wp2_with fail
  exact bodyPost_ret (results_read K1.out rfl rfl) rfl ⟨rfl, K2.out⟩

set_option maxRecDepth 100000 in
theorem rread_neg (D : ByteArray) (most : Int) (hm : most < 0) (w : World) :
    Calls Try.prog 11 #[.string D, .int .i64 most] w fun e w' => e = .returned (.tuple #[.slice none 0 0, .int .i64 1, .int .i64 0]) ∧ w' = w := by
  go_enter Try.func11, Try.ntmps11
  go_wp2_with fail
  exact bodyPost_ret (results_tmp3 rfl _ _ _) rfl ⟨rfl, rfl⟩

theorem reads_both (d : ByteArray) (hz : d.size ≤ 1048576) (most : Int) (hw : most ≤ 9223372036854775807) :
    ∃ (L : List GPart) (n c f : Nat), L.length = n ∧ n ≤ 1024 ∧
      (∀ W, Calls Try.prog 10 #[.string d, .int .i64 most] W fun e w' => ∃ p cc, e = .returned (.tuple #[.slice p n cc, .agg #[.int .i64 (c : Int), .int .i64 (f : Int)]]) ∧ w'.ownsRow 0 37 9 (.slice p n cc) n (gpL L) ∧ Mut [] W w') ∧
      (∀ W, Calls Try.prog 11 #[.string d, .int .i64 most] W fun e w' => ∃ p cc, e = .returned (.tuple #[.slice p n cc, .int .i64 (c : Int), .int .i64 (f : Int)]) ∧ w'.ownsRow 0 44 9 (.slice p n cc) n (gpL L) ∧ Mut [] W w') := by
  by_cases hneg : most < 0
  · exact ⟨[], 0, 1, 0, rfl, by decide, fun W => (gz_read_neg d most hneg W).mono fun e w' ⟨h1, h2⟩ => ⟨none, 0, h1, World.ownsRow_nil _ _ _ _, h2⟩,
      fun W => (rread_neg d most hneg W).mono fun e w' ⟨h1, h2⟩ => ⟨none, 0, h1, World.ownsRow_nil _ _ _ _, h2 ▸ Mut.refl _ _⟩⟩
  · obtain ⟨m, rfl⟩ : ∃ m : Nat, most = (m : Int) := ⟨most.toNat, by omega⟩
    obtain ⟨R, hR⟩ : ∃ R, readN (8 * d.size + 1) d 1026 m 0 [] = R := ⟨_, rfl⟩
    have hB : ∀ m' a1, m' ≤ m → a1 ≤ d.size → (unpN (8 * d.size + 1) d a1 m').out.length ≤ 1099511627776 := fun m' a1 _ h1 => by
      have h2 := run_small (8 * d.size + 1) (d.extract a1 d.size) m'
      rw [ByteArray.size_extract] at h2
      unfold unpN
      omega
    have hl : (RL R).length ≤ 1024 := by rw [← hR]; exact readN_len _ _ _ _ _ _ (Nat.zero_le _)
    refine ⟨RL R, (RL R).length, RC R, RF R, rfl, hl, fun W => ?_, fun W => ?_⟩
    · refine (gz_read_wide (8 * d.size + 1) d (by omega) m (by omega) hB (by omega) R hR W).mono ?_
      rintro e w' ⟨v, rfl, h, hm⟩
      obtain ⟨p, c, rfl, hr⟩ := readRes_flat h
      exact ⟨p, c, rfl, hr, hm⟩
    · refine (rread_any (8 * d.size + 1) d (by omega) m (by omega) (by omega) R hR W).mono ?_
      rintro e w' ⟨v, rfl, h, hm⟩
      obtain ⟨p, c, rfl, hr⟩ := rreadRes_flat h
      exact ⟨p, c, rfl, hr, hm⟩

set_option maxHeartbeats 3200000 in
set_option maxRecDepth 100000 in
theorem lawGzReads {w : World} (d : ByteArray) (wd : d.size ≤ maxLen) (hzd : d.size ≤ 1048576) (most : Int) (wm : (Lit.int .i64 most).wf = true) :
    Calls Try.prog 3 #[.string d, .int .i64 most] w fun e w' => e = .returned (.bool true) ∧ Below w.heap.size w w' := by
  have hmo : most ≤ 9223372036854775807 := by
    have h := (Bool.and_eq_true_iff.1 wm).2
    exact of_decide_eq_true h
  clear wd wm
  have HS := Lib.hid (speaks5_any w)
  obtain ⟨L, n, c, f, hn, hn2, A1, A2⟩ := reads_both d hzd most hmo
  have HA1 := Lib.hid A1
  have HA2 := Lib.hid A2
  have HN := Lib.hid hn
  clear A1 A2 hn
  go_enter Try.func3, Try.ntmps3
  go_wp2_with fail
  refine HS.out.mono ?_
  rintro e w1 ⟨rfl, hm⟩
  have HM1 := Lib.hid hm
  clear hm HS
  go_wp2_with fail
  refine (HA1.out _).mono ?_
  rintro e w2 ⟨p1, k1, rfl, hr1, hm⟩
  have HR1 := Lib.hid hr1
  have HM2 := Lib.hid (HM1.out.trans' hm)
  clear hm hr1 HM1 HA1
  go_upto_region 4 with fail
  have HB1 := Lib.hid (heap_alloc_new w2 (.cells #[.int .i64 (c : Int), .int .i64 (f : Int)] 26))
  have HM3 := Lib.hid ((Mut.refl [] w2).alloc (.cells #[.int .i64 (c : Int), .int .i64 (f : Int)] 26))
  generalize w2.alloc (.cells #[.int .i64 (c : Int), .int .i64 (f : Int)] 26) = w3 at *
  generalize w2.heap.size = g1 at *
  go_wp2_with fail
  refine (HA2.out _).mono ?_
  rintro e w4 ⟨p2, k2, rfl, hr2, hm⟩
  have HR2 := Lib.hid hr2
  have HM4 := Lib.hid hm
  have HM24 := Lib.hid (HM2.out.trans' (HM3.out.trans' hm))
  have HPT := Lib.hid fun W (hW : Mut [] w4 W) => parts_any L n HN.out (by omega) p1 p2 k1 k2 W (HR1.out.mut' ((HM3.out.trans' HM4.out).trans' hW) (by simp)) (HR2.out.mut' hW (by simp))
  obtain ⟨a0, a1, -, -⟩ := cells2 (HM4.out.get HB1.out (by simp))
  clear hm hr2 HA2
  have HIS := Lib.hid fun q (hq : isM d = q) W => gz_is_any d q hq W
  have HSM := Lib.hid fun W => sum_any d (by omega) W
  have HRS := Lib.hid fun W => rsum_any d (by omega) W
  obtain ⟨SM, hSM⟩ : ∃ SM, sumOf (bytesOf d) = SM := ⟨_, rfl⟩
  rw [hSM] at HSM HRS
  clear hSM
  go_wp2_with fail
  refine (HPT.out _ (Mut.refl _ _)).mono ?_
  rintro e w5 ⟨rfl, hm5⟩
  have HM5 := Lib.hid (HM24.out.trans' hm5)
  have b0 := hm5.cell a0 (by simp)
  have b1 := hm5.cell a1 (by simp)
  clear a0 a1 hm5 HPT HB1 HR1 HR2 HM2 HM3 HM4 HM24
  have hcc : ((c : Int) == (c : Int)) = true := by simp
  have hff : ((f : Int) == (f : Int)) = true := by simp
  have hss : (SM == SM) = true := by simp
  by_cases hd2 : 1 < d.size
  case neg =>
    have hI : ¬ (1 : Int) < (d.size : Int) := by omega
    have hq : isM d = false := by
      have := isM_short d 0 (by omega)
      rwa [show d.extract 0 d.size = d from ByteArray.extract_zero_size] at this
    go_wp2_with fail
    refine (HIS.out false hq _).mono ?_
    rintro e w6 ⟨rfl, rfl⟩
    go_wp2_with fail
    refine (HSM.out _).mono ?_
    rintro e w7 ⟨rfl, rfl⟩
    go_wp2_with fail
    refine (HRS.out _).mono ?_
    rintro e w8 ⟨rfl, rfl⟩
    go_wp2_with fail
    go_ret
    exact ⟨rfl, HM5.out.nil (by simp)⟩
  case pos =>
    have hI : (1 : Int) < (d.size : Int) := by omega
    have hM := isM_at d 0 (by omega)
    rw [show d.extract 0 d.size = d from ByteArray.extract_zero_size] at hM
    by_cases h0 : (d[0]'(by omega)).toNat = 31
    case neg =>
      have hb0 : (((d[0]'(by omega)).toNat : Int) == 31) = false := by rw [beq_eq_false_iff_ne]; omega
      have hq : isM d = false := by rw [hM]; exact decide_eq_false (fun h => h0 h.1)
      clear hM h0
      go_wp2_with fail
      refine (HIS.out false hq _).mono ?_
      rintro e w6 ⟨rfl, rfl⟩
      go_wp2_with fail
      refine (HSM.out _).mono ?_
      rintro e w7 ⟨rfl, rfl⟩
      go_wp2_with fail
      refine (HRS.out _).mono ?_
      rintro e w8 ⟨rfl, rfl⟩
      go_wp2_with fail
      go_ret
      exact ⟨rfl, HM5.out.nil (by simp)⟩
    case pos =>
      have hb0 : (((d[0]'(by omega)).toNat : Int) == 31) = true := by rw [beq_iff_eq]; omega
      by_cases h1 : (d[1]'(by omega)).toNat = 139
      case neg =>
        have hb1 : (((d[1]'(by omega)).toNat : Int) == 139) = false := by rw [beq_eq_false_iff_ne]; omega
        have hq : isM d = false := by rw [hM]; exact decide_eq_false (fun h => h1 h.2)
        clear hM h0 h1
        go_wp2_with fail
        refine (HIS.out false hq _).mono ?_
        rintro e w6 ⟨rfl, rfl⟩
        go_wp2_with fail
        refine (HSM.out _).mono ?_
        rintro e w7 ⟨rfl, rfl⟩
        go_wp2_with fail
        refine (HRS.out _).mono ?_
        rintro e w8 ⟨rfl, rfl⟩
        go_wp2_with fail
        go_ret
        exact ⟨rfl, HM5.out.nil (by simp)⟩
      case pos =>
        have hb1 : (((d[1]'(by omega)).toNat : Int) == 139) = true := by rw [beq_iff_eq]; omega
        have hq : isM d = true := by rw [hM]; exact decide_eq_true ⟨h0, h1⟩
        clear hM h0 h1
        go_wp2_with fail
        refine (HIS.out true hq _).mono ?_
        rintro e w6 ⟨rfl, rfl⟩
        go_wp2_with fail
        refine (HSM.out _).mono ?_
        rintro e w7 ⟨rfl, rfl⟩
        go_wp2_with fail
        refine (HRS.out _).mono ?_
        rintro e w8 ⟨rfl, rfl⟩
        go_wp2_with fail
        go_ret
        exact ⟨rfl, HM5.out.nil (by simp)⟩

end Go.Proofs.Ytgjcnembeebjfaa
