/- Walks over package ferretref02: Even. -/
import Derived.Test.YtbgejebnpmogoaaHufW6
import Derived.Deep.DeepCutAuto
namespace Go.Proofs.Ytbgejebnpmogoaa
open Go.RowKit

set_option maxHeartbeats 3200000 in
set_option maxRecDepth 1000000 in
theorem refeven_any (U : List Bool) (hl : U.length ≤ 1048576) (rp0 : Option Addr) (rc0 : Nat) (w : World)
    (hcells : ∀ (w' : World), Mut [] w w' → ∀ i : Nat, i < U.length → ∃ a : Addr, rp0 = some a ∧ w'.cell? (a.add i) = some (.bool (U.getD i false))) :
    Calls Try.prog 21 #[.slice rp0 U.length rc0] w fun e w' => ∃ v, e = .returned v ∧ IRow w' v (evenI U) ∧ Mut [] w w' ∧ ∀ g, v.ownBlock = some g → w.heap.size ≤ g := by
  have HC := Lib.hid hcells
  clear hcells
  go_enter Try.func21, Try.ntmps21
  go_wp2_with fail
  go_loop [3, 4] (fun m x => ∃ i : Nat, x = .int .i64 (i : Int) ∧ i ≤ U.length ∧ m = .int .i64 (cntTo U i : Nat)) (fun _ x => U.length - (intOf x).toNat)
  case atStart => exact ⟨0, rfl, by omega, rfl⟩
  case round =>
    obtain ⟨i, rfl, hi, rfl⟩ := hrel
    have hcb := cntTo_len U i
    by_cases hend : i < U.length
    · have hendI : (i : Int) < (U.length : Int) := by omega
      obtain ⟨a, rfl, ca⟩ := HC.out w (Mut.refl _ _) i hend
      have HS := Lib.hid (cntTo_succ U i hend)
      generalize U.getD i false = b at *
      generalize cntTo U i = c at *
      cases b
      · go_wp2_with fail
        exact ⟨⟨i + 1, by rw [Int.natCast_add]; rfl, by omega, by rw [HS.out]; rfl⟩, by simp only [intOf]; omega⟩
      · go_wp2_with fail
        exact ⟨⟨i + 1, by rw [Int.natCast_add]; rfl, by omega, by rw [HS.out, if_pos rfl, Int.natCast_add]; rfl⟩, by simp only [intOf]; omega⟩
    · have e : i = U.length := by omega
      have hendI : ¬ (i : Int) < (U.length : Int) := by omega
      subst e
      rw [cntTo_all] at hcb ⊢
      obtain ⟨Z1, hZ1⟩ : ∃ Z, madeCells (Value.int .i64 0).cells U.length = Z := ⟨_, rfl⟩
      have hmk1 : ∀ W : World, (Instr.makeSlice 22 (.int .i64 (U.length : Int)) (.int .i64 (U.length : Int))).run Try.prog W = .ok (.slice (some ⟨W.heap.size, 0, none⟩) U.length U.length) (W.alloc (.cells Z1 3)) := by
        intro W
        obtain ⟨i0, hi, hz0, hz1, hz2⟩ := info_parts info_int
        have := run_make (P := Try.prog) W 22 3 i0 _ Try.underlying22 hi hz0 .i64 .i64 (U.length : Int) (U.length : Int) (by omega) (by omega) (by rw [hz2]; omega) (by omega)
        rw [hz1, Int.toNat_natCast, Nat.mul_one, hZ1] at this
        exact this
      have HST := Lib.hid (RSt.start' w U.length (by omega) Z1 hZ1)
      clear hZ1
      by_cases hz : numOf U = 0 ∨ 32768 < numOf U
      · have hfin := HST.out
        rw [← evenI_none U hz] at hfin
        have HFIN := Lib.hid hfin
        clear hfin HST
        have FIN : Hid (IRow (w.alloc (.cells Z1 3)) (.slice (some ⟨w.heap.size, 0, none⟩) U.length U.length) (evenI U) ∧ Mut [] w (w.alloc (.cells Z1 3)) ∧ ∀ g, (Value.slice (some ⟨w.heap.size, 0, none⟩) U.length U.length).ownBlock = some g → w.heap.size ≤ g) := Lib.hid (by
          refine ⟨?_, HFIN.out.kept, fun g hg => by simp [Value.ownBlock] at hg; omega⟩
          unfold IRow
          rw [evenI_length]
          exact HFIN.out.row)
        generalize numOf U = m at *
        rcases hz with rfl | hz
        · go_wp2_with fail
          exact bodyPost_ret (results_tmp rfl _ _ _) rfl ⟨.slice (some ⟨w.heap.size, 0, none⟩) U.length U.length, rfl, FIN.out⟩
        · have hz0 : ((m : Int) == 0) = false := by simpa using (show ¬ (m : Int) = 0 by omega)
          have hz1 : (32768 : Int) < (m : Int) := by omega
          go_wp2_with fail
          exact bodyPost_ret (results_tmp rfl _ _ _) rfl ⟨.slice (some ⟨w.heap.size, 0, none⟩) U.length U.length, rfl, FIN.out⟩
      · have HEV : Hid (∀ i, evenAt U i = if U.getD i false = true then (if cntTo U i < shortOf (numOf U) then kOf (numOf U) else kOf (numOf U) + 1) else 0) := Lib.hid (fun i => by
          unfold evenAt
          rw [if_neg hz])
        have HCNT : Hid (∀ i, i < U.length → U.getD i false = true → cntTo U i < numOf U) := Lib.hid (cntTo_lt U)
        obtain ⟨m, hm⟩ : ∃ m, numOf U = m := ⟨_, rfl⟩
        rw [hm] at hz hcb HEV HCNT ⊢
        have hm0 : 0 < m := by omega
        have hm1 : m ≤ 32768 := by omega
        have hz0 : ((m : Int) == 0) = false := by simpa using (show ¬ (m : Int) = 0 by omega)
        have hz1 : ¬ (32768 : Int) < (m : Int) := by omega
        clear hm hz
        have hG := HST.out.fg
        go_upto_region 10 with fail
        clear hmk1
        generalize w.alloc (.cells Z1 3) = W0 at *
        obtain ⟨g, hg⟩ : ∃ g, w.heap.size = g := ⟨_, rfl⟩
        rw [hg] at HST ⊢
        have HGG := Lib.hid hg
        clear hG hg
        go_wp2_with fail
        go_loop [6] (fun x => ∃ k : Nat, x = .int .i64 (k : Int) ∧ Hid (2 ^ k ≤ m)) (fun x => 16 - (intOf x).toNat)
        case atStart => exact ⟨0, rfl, Lib.hid (by rw [Nat.pow_zero]; omega)⟩
        case round =>
         obtain ⟨kk, rfl, HK0⟩ := hrel
         have hkk : kk ≤ 15 := by
           by_cases h : kk ≤ 15
           · exact h
           · have h1 : 2 ^ 16 ≤ 2 ^ kk := Nat.pow_le_pow_right (by decide) (by omega)
             have := HK0.out
             omega
         obtain ⟨P, hP⟩ : ∃ P, 2 * 2 ^ kk = P := ⟨_, rfl⟩
         have hPb : P ≤ 65536 := by
           have : 2 ^ kk ≤ 2 ^ 15 := Nat.pow_le_pow_right (by decide) hkk
           omega
         have hwP : wrap64 (2 * (2 : Int) ^ kk) = (P : Int) := by
           have : (2 * (2 : Int) ^ kk) = ((2 * 2 ^ kk : Nat) : Int) := by simp
           rw [this, hP]; exact IntWalk.wrap64_in _ (by omega)
         have HP : Hid (2 ^ (kk + 1) = P) := Lib.hid (by rw [Nat.pow_succ, Nat.mul_comm]; exact hP)
         clear hP
         by_cases hgo : P ≤ m
         · have hgoI : (P : Int) ≤ (m : Int) := by omega
           have HN : Hid (2 ^ (kk + 1) ≤ m) := Lib.hid (by rw [HP.out]; exact hgo)
           go_wp2_with fail
           exact ⟨⟨kk + 1, by rw [Int.natCast_add]; rfl, HN⟩, by simp only [intOf]; omega⟩
         · have hgoI : ¬ (P : Int) ≤ (m : Int) := by omega
           have HK : Hid (m.log2 = kk) := Lib.hid (log2_is m kk HK0.out (by rw [HP.out]; omega))
           have HSH : Hid (shortOf m = P - m) := Lib.hid (by unfold shortOf; rw [HK.out, HP.out])
           have hPm : m < P := by omega
           go_upto_if 43 with fail
           go_cut [6] (fun s6 wx => wx = W0 ∧ s6 = .int .i64 (kOf m : Nat))
           case first =>
            by_cases h1 : m = 1
            · subst h1
              have E1 : Hid (kOf 1 = 1) := Lib.hid rfl
              go_wp2_with fail
              go_meet
              exact ⟨rfl, by rw [E1.out]; rfl⟩
            · have h1I : ((m : Int) == 1) = false := by simpa using (show ¬ (m : Int) = 1 by omega)
              have E1 : Hid (kOf m = kk) := Lib.hid (by unfold kOf; rw [if_neg h1, HK.out])
              go_wp2_with fail
              go_meet
              exact ⟨rfl, by rw [E1.out]⟩
           case rest =>
            obtain ⟨rfl, rfl⟩ := hcut
            have hk15 : kOf m ≤ 15 := by unfold kOf; split; omega; rw [HK.out]; omega
            have hs16 : shortOf m ≤ 65536 := by rw [HSH.out]; omega
            have hPS : (P : Int) - (m : Int) = (shortOf m : Nat) := by rw [HSH.out]; omega
            rw [hPS]
            clear hPS HK HP HSH hwP hPm hPb hkk HK0 hgo hgoI hz0 hz1
            generalize kOf m = K at *
            generalize shortOf m = S at *
            go_wp2_with fail
            go_loopw [8, 9] (fun sh x wx => ∃ i : Nat, x = .int .i64 (i : Int) ∧ i ≤ U.length ∧ sh = .int .i64 ((cntTo U i : Nat) : Int) ∧ Hid (RSt w wx g U.length (evenTo U i))) (fun _ x _ => U.length - (intOf x).toNat)
            case atStart => exact ⟨0, rfl, Nat.zero_le _, rfl, Lib.hid (by rw [evenTo_zero]; exact HST.out)⟩
            case round =>
              obtain ⟨i, rfl, hi2, rfl, HR⟩ := hrel
              by_cases hend2 : i < U.length
              · have hend2I : (i : Int) < (U.length : Int) := by omega
                obtain ⟨a, rfl, ca⟩ := HC.out wr HR.out.kept i hend2
                have hcl := cntTo_len U i
                have HS := Lib.hid (cntTo_succ U i hend2)
                have HSK : Hid (U.getD i false = false → evenTo U (i + 1) = evenTo U i) := Lib.hid (evenTo_skip U i)
                have HEI := Lib.hid (HEV.out i)
                have HST2 := Lib.hid (evenTo_step U i)
                obtain ⟨xv, cR⟩ : ∃ x, wr.cell? ⟨g, i, none⟩ = some x := by
                  have h1 := HR.out.row.cellAt i (by omega)
                  have h2 : i < ((evenTo U i).map (Value.int .i64)).length := by rw [List.length_map, HR.out.len]; omega
                  rw [List.getElem?_eq_getElem h2] at h1
                  exact ⟨_, h1⟩
                have fR := HR.out.row.frozenAt i
                generalize U.getD i false = b at *
                generalize cntTo U i = c at *
                cases b
                · have hR2 := HR.out
                  rw [← HSK.out rfl] at hR2
                  have HR2 := Lib.hid hR2
                  clear hR2 HR HEI HST2
                  go_wp2_with fail
                  exact ⟨⟨i + 1, by rw [Int.natCast_add]; rfl, by omega, by rw [HS.out]; simp, HR2⟩, by simp only [intOf]; omega⟩
                · have hev := HEI.out
                  rw [if_pos rfl] at hev
                  by_cases hc : c < S
                  · rw [if_pos hc] at hev
                    rw [hev] at HST2
                    have hcI : (c : Int) < (S : Int) := by omega
                    have hset := (HR.out.set i ((K : Int) + 1)).set i (K : Int)
                    rw [List.set_set, HST2.out] at hset
                    have HSET := Lib.hid hset
                    clear hset hev HEI HSK HST2 HR
                    go_wp2_with fail
                    refine ⟨⟨i + 1, by rw [Int.natCast_add]; rfl, by omega, ?_, HSET⟩, by simp only [intOf]; omega⟩
                    rw [HS.out, if_pos rfl, Int.natCast_add]; rfl
                  · rw [if_neg hc] at hev
                    rw [hev, Int.natCast_add] at HST2
                    have hcI : ¬ (c : Int) < (S : Int) := by omega
                    have hset := HR.out.set i ((K : Int) + ((1 : Nat) : Int))
                    rw [HST2.out] at hset
                    have HSET := Lib.hid hset
                    clear hset hev HEI HSK HST2 HR
                    go_wp2_with fail
                    refine ⟨⟨i + 1, by rw [Int.natCast_add]; rfl, by omega, ?_, HSET⟩, by simp only [intOf]; omega⟩
                    rw [HS.out, if_pos rfl, Int.natCast_add]; rfl
              · have hend2I : ¬ (i : Int) < (U.length : Int) := by omega
                have ei : i = U.length := by omega
                subst ei
                have hfin := HR.out
                rw [evenTo_all] at hfin
                have HFIN := Lib.hid hfin
                clear hfin HR
                go_wp2_with fail
                refine bodyPost_ret (results_tmp rfl _ _ _) rfl ⟨.slice (some ⟨g, 0, none⟩) U.length U.length, rfl, ?_, HFIN.out.kept, fun g' hg' => ?_⟩
                · unfold IRow
                  rw [evenI_length]
                  exact HFIN.out.row
                · simp [Value.ownBlock] at hg'
                  have := HGG.out
                  omega

end Go.Proofs.Ytbgejebnpmogoaa
