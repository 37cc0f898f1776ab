/- Walk over the law InflateSymbols. -/
import Derived.Test.YtcdoamaljgjojaaInfW1
import Derived.Test.YtcdoamaljgjojaaInfU
import Derived.Deep.DeepCutAuto
import Derived.Deep.LoopGhost
namespace Go.Proofs.Ytcdoamaljgjojaa
open Go.RowKit
set_option linter.unusedVariables false

theorem both_length (x : Int) : ∃ (a b : Nat) (ok : Bool), ∀ w, (Calls Try.prog 13 #[.int .i64 x] w fun e w' => e = .returned (.tuple #[.int .i64 (a : Int), .int .i64 (b : Int), .bool ok]) ∧ w = w') ∧
    (Calls Try.prog 14 #[.int .i64 x] w fun e w' => e = .returned (.tuple #[.int .i64 (a : Int), .int .i64 (b : Int), .bool ok]) ∧ w = w') := by
  by_cases h : x < 257 ∨ 285 < x
  · exact ⟨0, 0, false, fun w => ⟨length_bad x w h, rlength_bad x w h⟩⟩
  · obtain ⟨n, rfl⟩ : ∃ n : Nat, x = (n : Int) := ⟨x.toNat, by omega⟩
    exact ⟨_, _, true, fun w => ⟨length_good n w (by omega) (by omega), rlength_good n w (by omega) (by omega)⟩⟩

theorem both_distance (x : Int) : ∃ (a b : Nat) (ok : Bool), ∀ w, (Calls Try.prog 15 #[.int .i64 x] w fun e w' => e = .returned (.tuple #[.int .i64 (a : Int), .int .i64 (b : Int), .bool ok]) ∧ w = w') ∧
    (Calls Try.prog 16 #[.int .i64 x] w fun e w' => e = .returned (.tuple #[.int .i64 (a : Int), .int .i64 (b : Int), .bool ok]) ∧ w = w') := by
  by_cases h : x < 0 ∨ 29 < x
  · exact ⟨0, 0, false, fun w => ⟨distance_bad x w h, rdistance_bad x w h⟩⟩
  · obtain ⟨n, rfl⟩ : ∃ n : Nat, x = (n : Int) := ⟨x.toNat, by omega⟩
    exact ⟨_, _, true, fun w => ⟨distance_good n w (by omega), rdistance_good n w (by omega)⟩⟩

theorem cnt_yes {f : Nat → Bool} {k : Nat} (h : f k = true) : ((cnt f (k + 1) : Nat) : Int) = (cnt f k : Int) + 1 := by simp [cnt, h]
theorem cnt_no {f : Nat → Bool} {k : Nat} (h : f k = false) : ((cnt f (k + 1) : Nat) : Int) = (cnt f k : Int) := by simp [cnt, h]

theorem len_at (k s : Nat) : ∃ (A B : Nat) (ok : Bool), A ≤ 70000 ∧ B ≤ 14 ∧ inLen k s = (ok && (decide (A ≤ k) && (decide (k < A + 2 ^ B) && (decide (s ≠ 284) || decide (k ≠ 258))))) ∧
    ∀ w, Calls Try.prog 13 #[.int .i64 (s : Int)] w fun e w' => e = .returned (.tuple #[.int .i64 (A : Int), .int .i64 (B : Int), .bool ok]) ∧ w = w' := by
  by_cases h : 257 ≤ s ∧ s ≤ 285
  · have := lenR_small s (by omega) h.1
    exact ⟨_, _, true, by omega, by omega, by unfold inLen; rw [decide_eq_true h], fun w => length_good s w h.1 h.2⟩
  · exact ⟨0, 0, false, by omega, by omega, by unfold inLen; rw [decide_eq_false h]; rfl, fun w => length_bad s w (by omega)⟩

theorem dist_at (k s : Nat) : ∃ (A B : Nat) (ok : Bool), A ≤ 70000 ∧ B ≤ 14 ∧ inDist k s = (ok && (decide (A ≤ k) && decide (k < A + 2 ^ B))) ∧
    ∀ w, Calls Try.prog 15 #[.int .i64 (s : Int)] w fun e w' => e = .returned (.tuple #[.int .i64 (A : Int), .int .i64 (B : Int), .bool ok]) ∧ w = w' := by
  by_cases h : s ≤ 29
  · have := distR_small s (by omega)
    exact ⟨_, _, true, by omega, by omega, by unfold inDist; rw [decide_eq_true h], fun w => distance_good s w h⟩
  · exact ⟨0, 0, false, by omega, by omega, by unfold inDist; rw [decide_eq_false h]; rfl, fun w => distance_bad s w (by omega)⟩

set_option maxHeartbeats 3200000 in
set_option maxRecDepth 100000 in
theorem lawInflateSymbols {w : World} (x : Int) (wx : (Lit.int .i64 x).wf = true) (y : Int) (wy : (Lit.int .i64 y).wf = true) (z : Int) (wz : (Lit.int .i64 z).wf = true) :
    Calls Try.prog 3 #[.int .i64 x, .int .i64 y, .int .i64 z] w fun e w' => e = .returned (.bool true) ∧ Below w.heap.size w w' := by
  obtain ⟨a, b, ok, hL⟩ := both_length x
  obtain ⟨c, d, is, hD⟩ := both_distance x
  have HL := Lib.hid hL
  have HD := Lib.hid hD
  have HS := Lib.hid (speaks3_any w)
  have ea : ((a : Int) != (a : Int)) = false := by simp
  have eb : ((b : Int) != (b : Int)) = false := by simp
  have ec : ((c : Int) != (c : Int)) = false := by simp
  have ed : ((d : Int) != (d : Int)) = false := by simp
  have eo : (ok != ok) = false := by simp
  have ei : (is != is) = false := by simp
  clear hL hD wx
  go_enter Try.func3, Try.ntmps3
  go_wp2_with fail
  refine HS.out.mono ?_
  rintro e w1 ⟨rfl, hm⟩
  have HM := Lib.hid hm
  clear hm HS
  go_wp2_with fail
  refine (HL.out w1).1.mono ?_
  rintro e w1 ⟨rfl, rfl⟩
  go_wp2_with fail
  refine (HL.out w1).2.mono ?_
  rintro e w1 ⟨rfl, rfl⟩
  go_wp2_with fail
  refine (HD.out w1).1.mono ?_
  rintro e w1 ⟨rfl, rfl⟩
  go_wp2_with fail
  refine (HD.out w1).2.mono ?_
  rintro e w1 ⟨rfl, rfl⟩
  clear HL HD
  go_upto_region 9 with fail
  clear ea eb ec ed eo ei
  go_cut [92] (fun q wx => wx = w1 ∧ q = .bool (decide (y < 3 ∨ 258 < y ∨ z < 1 ∨ 32768 < z)))
  case first =>
    by_cases h1 : y < 3
    · go_wp2_with fail
      go_meet
      exact ⟨rfl, congrArg _ (decide_eq_true (by omega)).symm⟩
    · by_cases h2 : 258 < y
      · go_wp2_with fail
        go_meet
        exact ⟨rfl, congrArg _ (decide_eq_true (by omega)).symm⟩
      · by_cases h3 : z < 1
        · go_wp2_with fail
          go_meet
          exact ⟨rfl, congrArg _ (decide_eq_true (by omega)).symm⟩
        · go_wp2_with fail
          go_meet
          exact ⟨rfl, congrArg _ (decide_eq_decide.2 (by omega))⟩
  case rest =>
    obtain ⟨rfl, rfl⟩ := hcut
    go_upto_if 92 with fail
    go_cut [1, 2] (fun p q wx => wx = wc ∧ ∃ k l : Nat, p = .int .i64 (k : Int) ∧ q = .int .i64 (l : Int) ∧ 3 ≤ k ∧ k ≤ 258 ∧ 1 ≤ l ∧ l ≤ 32768)
    case first =>
      by_cases h : y < 3 ∨ 258 < y ∨ z < 1 ∨ 32768 < z
      · have hd : decide (y < 3 ∨ 258 < y ∨ z < 1 ∨ 32768 < z) = true := decide_eq_true h
        go_wp2_with fail
        go_meet
        exact ⟨rfl, 77, 3000, rfl, rfl, by decide, by decide, by decide, by decide⟩
      · have hd : decide (y < 3 ∨ 258 < y ∨ z < 1 ∨ 32768 < z) = false := decide_eq_false h
        go_wp2_with fail
        go_meet
        exact ⟨rfl, y.toNat, z.toNat, by congr 1; omega, by congr 1; omega, by omega, by omega, by omega, by omega⟩
    case rest =>
      obtain ⟨rfl, k, l, rfl, rfl, hk1, hk2, hl1, hl2⟩ := hcut
      have H1 := Lib.hid (one_length k hk1 hk2)
      have H2 := Lib.hid (one_distance l hl1 hl2)
      go_wp2_with fail
      go_loopw [21, 19, 20] (fun i n m wx => ∃ s : Nat, i = .int .i64 (s : Int) ∧ s ≤ 300 ∧ n = .int .i64 (cnt (inLen k) s : Nat) ∧ m = .int .i64 (cnt (inDist l) s : Nat) ∧ wx = wc) (fun i _ _ _ => 300 - (intOf i).toNat)
      case atStart => exact ⟨0, rfl, by omega, rfl, rfl, rfl⟩
      case round =>
        obtain ⟨s, rfl, hs, rfl, rfl, rfl⟩ := hrel
        by_cases hlt : s < 300
        case neg =>
          obtain rfl : s = 300 := by omega
          have e1 := H1.out
          have e2 := H2.out
          rw [e1, e2]
          have hltI : ¬ ((300 : Nat) : Int) < 300 := by omega
          have q1 : (((1 : Nat) : Int) == 1) = true := rfl
          clear H1 H2 e1 e2
          go_wp2_with fail
          go_ret
          exact ⟨rfl, HM.out.nil (by simp)⟩
        case pos =>
          have hltI : (s : Int) < 300 := by omega
          obtain ⟨A, B, oka, hA, hB, hq, hcall⟩ := len_at k s
          obtain ⟨C, D, okd, hC, hD, hq2, hcall2⟩ := dist_at l s
          have HC := Lib.hid hcall
          have HC2 := Lib.hid hcall2
          have HQ := Lib.hid hq
          have HQ2 := Lib.hid hq2
          obtain ⟨hp1, hp2⟩ := one_pow B hB
          obtain ⟨hp3, hp4⟩ := one_pow D hD
          obtain ⟨P, hP⟩ : ∃ P : Nat, 2 ^ B = P := ⟨_, rfl⟩
          obtain ⟨Q, hQ⟩ : ∃ Q : Nat, 2 ^ D = Q := ⟨_, rfl⟩
          rw [hP] at hp1 hp2
          rw [hQ] at hp3 hp4
          have HP := Lib.hid hP
          have HQQ := Lib.hid hQ
          have hb0 : ¬ (B : Int) < 0 := by omega
          have hd0 : ¬ (D : Int) < 0 := by omega
          clear hcall hcall2 hq hq2 hP hQ
          go_wp2_with fail
          refine (HC.out _).mono ?_
          rintro e w2 ⟨rfl, rfl⟩
          go_upto_region 16 with fail
          clear HC
          go_cut [124] (fun q wx => wx = wr ∧ q = .bool (inLen k s))
          case first =>
            have HZ : Hid (inLen k s = (oka && (decide (A ≤ k) && (decide (k < A + P) && (decide (s ≠ 284) || decide (k ≠ 258)))))) := Lib.hid (by rw [HQ.out, HP.out])
            cases oka with
            | false =>
              go_wp2_with fail
              go_meet
              exact ⟨rfl, congrArg Value.bool (by rw [HZ.out]; rfl)⟩
            | true =>
              by_cases g1 : A ≤ k
              case neg =>
                have g1I : ¬ (A : Int) ≤ (k : Int) := by omega
                go_wp2_with fail
                go_meet
                exact ⟨rfl, congrArg Value.bool (by rw [HZ.out, decide_eq_false g1]; rfl)⟩
              case pos =>
                have g1I : (A : Int) ≤ (k : Int) := by omega
                by_cases g2 : k < A + P
                case neg =>
                  have g2I : ¬ (k : Int) < (A : Int) + (P : Int) := by omega
                  go_wp2_with fail
                  go_meet
                  exact ⟨rfl, congrArg Value.bool (by rw [HZ.out, decide_eq_false g2]; simp)⟩
                case pos =>
                  have g2I : (k : Int) < (A : Int) + (P : Int) := by omega
                  by_cases g3 : s = 284
                  · have g3I : ((s : Int) != 284) = false := by subst g3; rfl
                    have G3 := Lib.hid g3
                    clear g3
                    by_cases g4 : k = 258
                    · have g4I : ((k : Int) != 258) = false := by subst g4; rfl
                      have G4 := Lib.hid g4
                      clear g4
                      go_wp2_with fail
                      go_meet
                      exact ⟨rfl, congrArg Value.bool (by rw [HZ.out]; simp [G3.out, G4.out])⟩
                    · have g4I : ((k : Int) != 258) = true := by simp only [bne_iff_ne, ne_eq]; omega
                      have G4 := Lib.hid g4
                      clear g4
                      go_wp2_with fail
                      go_meet
                      exact ⟨rfl, congrArg Value.bool (by rw [HZ.out]; simp [g1, g2, G3.out, G4.out])⟩
                  · have g3I : ((s : Int) != 284) = true := by simp only [bne_iff_ne, ne_eq]; omega
                    go_wp2_with fail
                    go_meet
                    exact ⟨rfl, congrArg Value.bool (by rw [HZ.out]; simp [g1, g2, g3])⟩
          case rest =>
            obtain ⟨rfl, rfl⟩ := hcut
            go_upto_if 124 with fail
            clear hp1 hp2
            go_cut [19] (fun q wx => wx = wc ∧ q = .int .i64 (cnt (inLen k) (s + 1) : Nat))
            case first =>
              cases hi : inLen k s with
              | true =>
                go_wp2_with fail
                go_meet
                exact ⟨rfl, by rw [cnt_yes hi, IntWalk.wrap64_in _ (by have := cnt_le (inLen k) s; omega)]⟩
              | false =>
                go_wp2_with fail
                go_meet
                exact ⟨rfl, by rw [cnt_no hi]⟩
            case rest =>
              obtain ⟨rfl, rfl⟩ := hcut
              go_wp2_with fail
              refine (HC2.out _).mono ?_
              rintro e w2 ⟨rfl, rfl⟩
              go_upto_region 19 with fail
              clear HC2
              go_cut [146] (fun q wx => wx = wc ∧ q = .bool (inDist l s))
              case first =>
                have HZ : Hid (inDist l s = (okd && (decide (C ≤ l) && decide (l < C + Q)))) := Lib.hid (by rw [HQ2.out, HQQ.out])
                cases okd with
                | false =>
                  go_wp2_with fail
                  go_meet
                  exact ⟨rfl, congrArg Value.bool (by rw [HZ.out]; rfl)⟩
                | true =>
                  by_cases g1 : C ≤ l
                  case neg =>
                    have g1I : ¬ (C : Int) ≤ (l : Int) := by omega
                    go_wp2_with fail
                    go_meet
                    exact ⟨rfl, congrArg Value.bool (by rw [HZ.out, decide_eq_false g1]; rfl)⟩
                  case pos =>
                    have g1I : (C : Int) ≤ (l : Int) := by omega
                    by_cases g2 : l < C + Q
                    · have g2I : (l : Int) < (C : Int) + (Q : Int) := by omega
                      go_wp2_with fail
                      go_meet
                      exact ⟨rfl, congrArg Value.bool (by rw [HZ.out]; simp [g1, g2])⟩
                    · have g2I : ¬ (l : Int) < (C : Int) + (Q : Int) := by omega
                      go_wp2_with fail
                      go_meet
                      exact ⟨rfl, congrArg Value.bool (by rw [HZ.out]; simp [g1, g2])⟩
              case rest =>
                obtain ⟨rfl, rfl⟩ := hcut
                cases hi : inDist l s with
                | true =>
                  go_wp2_with fail
                  exact ⟨⟨s + 1, by rw [Int.natCast_add]; rfl, by omega, rfl, by rw [cnt_yes hi, IntWalk.wrap64_in _ (by have := cnt_le (inDist l) s; omega)], trivial⟩, by simp only [intOf]; omega⟩
                | false =>
                  go_wp2_with fail
                  exact ⟨⟨s + 1, by rw [Int.natCast_add]; rfl, by omega, rfl, by rw [cnt_no hi], trivial⟩, by simp only [intOf]; omega⟩

end Go.Proofs.Ytcdoamaljgjojaa
