/- Walk over the law SqueezeSame. -/
import Derived.Test.YtcdoamaljgjojaaSqzL1
import Derived.Test.YtcdoamaljgjojaaTokW2
import Derived.Deep.DeepCutAuto
namespace Go.Proofs.Ytcdoamaljgjojaa
open Go.RowKit
set_option linter.unusedVariables false

theorem info_u8T : (Try.prog.info? 5).map (fun i => (i.zero, i.size, i.bytes)) = some (some (.int .u8 0), 1, 1) := by kernel_rfl

/-- a row of n bytes, the first i of them told -/
def repI (b n i : Nat) : List Nat := List.replicate i b ++ List.replicate (n - i) 0
theorem repI_all (b n : Nat) : repI b n n = List.replicate n b := by simp [repI]
theorem repI_len (b n i : Nat) (h : i ≤ n) : (repI b n i).length = n := by simp [repI]; omega
theorem repI_set (b n i : Nat) (h : i < n) : (repI b n i).set i b = repI b n (i + 1) := by
  unfold repI
  rw [List.set_append_right _ _ (by simp), List.length_replicate, Nat.sub_self, show n - i = (n - (i + 1)) + 1 by omega, List.replicate_succ, List.set_cons_zero,
    List.replicate_succ' , List.append_assoc, List.singleton_append]

theorem BRowT_conv {w : World} {v : Value} {L : List Nat} (h : w.ownsRow 0 5 1 v L.length (L.map fun n : Nat => Value.int .u8 (n : Int))) : (convert 33 9 v).run Try.prog w = .ok (.string (strOf L)) w := by
  have h : w.ownsRow 0 5 1 v L.length ((L.map fun n : Nat => (n : Int)).map (Value.int .u8)) := by rw [List.map_map]; exact h
  rw [conv_row Try.underlying33 Try.underlying5 Try.underlying9 h]
  simp only [List.map_map]
  rfl

set_option maxHeartbeats 1600000 in
set_option maxRecDepth 100000 in
theorem lawSqueezeSame {w : World} (b : Int) (wb : (Lit.int .u8 b).wf = true) (n : Int) (wn : (Lit.int .i64 n).wf = true) :
    Calls Try.prog 8 #[.int .u8 b, .int .i64 n] w fun e w' => e = .returned (.bool true) ∧ Below w.heap.size w w' := by
  obtain ⟨B, rfl, hB⟩ : ∃ B : Nat, b = (B : Int) ∧ B < 256 := by
    have h1 : decide (IntKind.u8.min ≤ b) = true ∧ decide (b ≤ IntKind.u8.max) = true := by
      have := wb
      unfold Lit.wf at this
      simpa only [Bool.and_eq_true] using this
    have h2 : (0 : Int) ≤ b := of_decide_eq_true h1.1
    have h3 : b ≤ 255 := of_decide_eq_true h1.2
    exact ⟨b.toNat, by omega, by omega⟩
  obtain ⟨i0, hi, hz0, hz1, hz2⟩ := info_parts info_u8T
  have HS := Lib.hid (speaks4_any w)
  clear wn wb
  obtain ⟨N, hN⟩ : ∃ N : Nat, (if n < 0 ∨ 5000 < n then 700 else n) = (N : Int) := ⟨(if n < 0 ∨ 5000 < n then 700 else n).toNat, by split <;> omega⟩
  have hN5 : N ≤ 5000 := by split at hN <;> omega
  go_enter Try.func8, Try.ntmps8
  go_wp2_with fail
  refine HS.out.mono ?_
  rintro e w1 ⟨rfl, hm⟩
  have HM1 := Lib.hid hm
  clear hm HS
  obtain ⟨q, hq⟩ : ∃ q : Bool, decide (n < 0 ∨ 5000 < n) = q := ⟨_, rfl⟩
  have HN : Hid (if q then N = 700 else (N : Int) = n) := Lib.hid (by
    cases q
    · rw [if_neg (of_decide_eq_false hq)] at hN; simp [hN]
    · rw [if_pos (of_decide_eq_true hq)] at hN; simp; omega)
  go_upto_region 3 with fail
  go_cut [17] (fun x wx => x = .bool q ∧ wx = w1)
  case first =>
    by_cases h1 : n < 0
    · have hl : q = true := by rw [← hq]; exact decide_eq_true (.inl h1)
      subst hl
      clear hN hq hN5
      go_wp2_with fail
      go_meet
      exact ⟨rfl, rfl⟩
    · by_cases h2 : 5000 < n
      · have hl : q = true := by rw [← hq]; exact decide_eq_true (.inr h2)
        subst hl
        clear hN hq hN5
        go_wp2_with fail
        go_meet
        exact ⟨rfl, rfl⟩
      · have hl : q = false := by rw [← hq]; exact decide_eq_false (by omega)
        subst hl
        clear hN hq hN5
        go_wp2_with fail
        go_meet
        exact ⟨rfl, rfl⟩
  case rest =>
    obtain ⟨rfl, hw1⟩ := hcut
    obtain rfl := hw1.symm
    clear hN hq
    go_upto_if 17 with fail
    go_cut [1] (fun x wx => x = .int .i64 (N : Int) ∧ wx = w1)
    case first =>
      cases q with
      | true =>
        have HE : Hid ((700 : Int) = (N : Int)) := Lib.hid (by have := HN.out; simp at this; omega)
        go_wp2_with fail
        go_meet
        exact ⟨congrArg _ HE.out, rfl⟩
      | false =>
        have HE : Hid (n = (N : Int)) := Lib.hid (by have := HN.out; simp at this; omega)
        go_wp2_with fail
        go_meet
        exact ⟨congrArg _ HE.out, rfl⟩
    case rest =>
      obtain ⟨rfl, hw1⟩ := hcut
      obtain rfl := hw1.symm
      clear HN
      go_wp2_with (at_make; refine wpList_make_full _ rfl (.tmp 18) (.tmp 18) 33 rfl 0 5 i0 (.int .u8 0) 1 Try.underlying33 hi hz0 hz1 _ _ _ _ N rfl rfl (by omega) (by omega) ?b1 ?b2 (Nat.zero_le _) ?_)
      case b1 => omega
      case b2 => unfold maxLen; omega
      intro w2 hr1 hg1
      have hr : w2.ownsRow 0 5 1 (.slice (some ⟨w1.heap.size, 0, none⟩) N N) N ((repI B N 0).map fun n : Nat => Value.int .u8 (n : Int)) := by
        have := hr1
        rw [toList_madeCells_one] at this
        simpa [repI] using this
      have HR := Lib.hid hr
      have HM := Lib.hid (HM1.out.grown hg1 (by simp))
      have HG := Lib.hid HM1.out.size
      clear hr1 hg1 hr hi hz0 hz1 hz2 HM1
      generalize w1.heap.size = G at *
      go_wp2_with fail
      go_loopw [6] (fun i wr => ∃ k : Nat, k ≤ N ∧ i = .int .i64 (k : Int) ∧ Hid (wr.ownsRow 0 5 1 (.slice (some ⟨G, 0, none⟩) N N) N ((repI B N k).map fun n : Nat => Value.int .u8 (n : Int)) ∧ Mut [] w wr)) (fun i _ => N - (intOf i).toNat)
      case atStart => exact ⟨0, Nat.zero_le _, rfl, Lib.hid ⟨HR.out, HM.out⟩⟩
      case round =>
        obtain ⟨k, hk, rfl, HH⟩ := hrel
        clear HR HM
        by_cases hlt : k < N
        · have cg : wr.cell? ⟨G, k, none⟩ = some (.int .u8 ((0 : Nat) : Int)) := by
            rw [HH.out.1.cellAt k (by omega)]
            have e1 : (repI B N k).map (fun n : Nat => Value.int .u8 (n : Int)) = List.replicate k (.int .u8 (B : Int)) ++ List.replicate (N - k) (.int .u8 ((0 : Nat) : Int)) := by simp [repI]
            rw [e1, List.getElem?_append_right (by simp), List.length_replicate, Nat.sub_self, List.getElem?_replicate, if_pos (by omega)]
          have fg := HH.out.1.frozenAt k
          have HE : Hid ((wr.setCell ⟨G, k, none⟩ (.int .u8 (B : Int))).ownsRow 0 5 1 (.slice (some ⟨G, 0, none⟩) N N) N ((repI B N (k + 1)).map fun n : Nat => Value.int .u8 (n : Int)) ∧ Mut [] w (wr.setCell ⟨G, k, none⟩ (.int .u8 (B : Int)))) := by
            refine Lib.hid ⟨?_, HH.out.2.setCell (.inr HG.out) _⟩
            have := (HH.out.1.stored k (.int .u8 (B : Int))).1
            rw [← repI_set B N k hlt, List.map_set]
            exact this
          have hkI : (k : Int) < (N : Int) := by omega
          clear HH
          go_wp2_with fail
          exact ⟨⟨k + 1, by omega, by rw [Int.natCast_add]; rfl, HE⟩, by simp only [intOf]; omega⟩
        · have e : N = k := by omega
          subst e
          rw [repI_all] at HH
          obtain ⟨s, hs⟩ : ∃ s, strOf (List.replicate N B) = s := ⟨_, rfl⟩
          obtain ⟨D, hDd⟩ : ∃ D, List.replicate N B = D := ⟨_, rfl⟩
          have hsz : s.size = N := by rw [← hs, strOf_size, List.length_replicate]
          have hsD : bytesOf s = D := by rw [← hs, ← hDd, bytesOf_strOf _ (fun x hx => by rw [List.eq_of_mem_replicate hx]; exact hB)]
          have hcv : ∀ W, Mut [] wr W → (convert 33 9 (.slice (some ⟨G, 0, none⟩) N N)).run Try.prog W = .ok (.string s) W := fun W hW => by
            rw [← hs]
            have hr := hW.row HH.out.1 (by simp)
            have hl : (List.replicate N B).length = N := List.length_replicate
            exact BRowT_conv (by rw [hl]; exact hr)
          have h0 := hcv wr (Mut.refl _ _)
          have HCV := Lib.hid hcv
          have HT := Lib.hid (fun R r hR => tokens_any s D hsD 0 N R (N + 1) r (by omega) (Nat.zero_le _) (by omega) hR (by omega))
          obtain ⟨T1, hT1⟩ : ∃ T, tks D N 1 (N + 1) 0 = T := ⟨_, rfl⟩
          obtain ⟨T2, hT2⟩ : ∃ T, tks D N 0 (N + 1) 0 = T := ⟨_, rfl⟩
          have hl1 := rep_all B N (N + 1) (by omega)
          rw [hDd, hT1] at hl1
          have hl2 := rep_none D N (N + 1) 0 (by omega)
          rw [hT2, Nat.sub_zero] at hl2
          have HT1 := Lib.hid (HT.out 1 1 (by decide) wr)
          rw [hT1] at HT1
          have HT2 := Lib.hid (HT.out 0 0 (by decide))
          rw [hT2] at HT2
          have HMM := Lib.hid HH.out.2
          have HL1 := Lib.hid hl1
          have HL2 := Lib.hid hl2
          clear HT hT1 hT2 hl1 hl2 hcv HH hDd hsD hs hsz hB hk hlt
          go_upto_region 10 with fail
          go_wp2_with fail
          refine HT1.out.mono ?_
          rintro e w3 ⟨v1, rfl, htk⟩
          obtain ⟨p1, c1, rfl⟩ := htk.1.form
          have HM3 := Lib.hid htk.2.2
          clear HT1 htk h0
          have hl1 := HL1.out
          clear HL1
          obtain ⟨W, hW⟩ : ∃ W, min N 1 = W := ⟨_, rfl⟩
          obtain ⟨L, hL⟩ : ∃ L, N - W = L := ⟨_, rfl⟩
          rw [hW, hL] at hl1
          obtain ⟨T1l, hT1l⟩ : ∃ k, T1.length = k := ⟨_, rfl⟩
          rw [hT1l] at hl1
          rw [hT1l]
          have HL1 := Lib.hid hl1
          clear hT1l hl1
          have hW1 : W ≤ 1 := by omega
          have hW3 : (N = 0 ∧ W = 0) ∨ (N = 1 ∧ W = 1) ∨ (1 < N ∧ W = 1) := by omega
          go_upto_region 11 with fail
          go_cut [8] (fun x wx => x = .int .i64 (W : Int) ∧ wx = w3)
          case first =>
            clear hW hL
            rcases hW3 with ⟨rfl, rfl⟩ | ⟨rfl, rfl⟩ | ⟨hn, rfl⟩
            · go_wp2_with fail
              go_meet
              exact ⟨rfl, rfl⟩
            · go_wp2_with fail
              go_meet
              exact ⟨rfl, rfl⟩
            · have hnI : (1 : Int) < (N : Int) := by omega
              clear hn
              go_wp2_with fail
              go_meet
              exact ⟨rfl, rfl⟩
          case rest =>
            obtain ⟨rfl, hw3⟩ := hcut
            obtain rfl := hw3.symm
            clear hW3
            have hNW : (N : Int) - (W : Int) = (L : Int) := by omega
            have HNW := Lib.hid hNW
            have hWN : (W : Int) ≤ (N : Int) := by omega
            have hL5 : L ≤ 5000 := by omega
            clear hW hL hNW
            go_upto_region 12 with fail
            go_cut [9] (fun x wx => x = .int .i64 (L : Int) ∧ wx = w3)
            case first =>
              go_wp2_with fail
              go_meet
              exact ⟨congrArg _ HNW.out, rfl⟩
            case rest =>
              obtain ⟨rfl, hw3⟩ := hcut
              obtain rfl := hw3.symm
              clear hWN HNW
              obtain ⟨Qn, hQ⟩ : ∃ Qn, L / 258 = Qn := ⟨_, rfl⟩
              obtain ⟨Rn, hR⟩ : ∃ Rn, L % 258 = Rn := ⟨_, rfl⟩
              have hq : (L : Int).tdiv 258 = (Qn : Int) := by rw [Int.tdiv_eq_ediv_of_nonneg (by omega)]; omega
              have hr : (L : Int).tmod 258 = (Rn : Int) := by rw [Int.tmod_eq_emod_of_nonneg (by omega)]; omega
              have hQ5 : Qn ≤ 5000 := by omega
              have hR5 : Rn < 258 := by omega
              have hlen : T1l = W + (Qn + if 3 ≤ Rn then 1 else Rn) := by rw [HL1.out, manyT, hQ, hR]
              have hl2 := HL2.out
              clear HL1 hQ hR HL2
              have hcv := HCV.out w3 HM3.out
              by_cases h3 : 3 ≤ Rn
              · rw [if_pos h3] at hlen
                have h3I : (3 : Int) ≤ (Rn : Int) := by omega
                have HLN : Hid ((T1l : Int) = (W : Int) + (Qn : Int) + 1) := Lib.hid (by omega)
                have hbe : ((T1l : Int) == (W : Int) + (Qn : Int) + 1) = true := by rw [HLN.out]; simp
                clear hlen h3
                go_wp2_with fail
                refine (HT2.out w3).mono ?_
                rintro e w4 ⟨v2, rfl, htk⟩
                obtain ⟨p2, c2, rfl⟩ := htk.1.form
                have HM4 := Lib.hid ((HMM.out.trans' HM3.out).trans' htk.2.2)
                rw [hl2]
                clear HT2 htk hl2
                go_wp2_with fail
                go_ret
                exact ⟨rfl, HM4.out.nil (by simp)⟩
              · rw [if_neg h3] at hlen
                have h3I : ¬ (3 : Int) ≤ (Rn : Int) := by omega
                have HLN : Hid ((T1l : Int) = (W : Int) + (Qn : Int) + (Rn : Int)) := Lib.hid (by omega)
                have hbe : ((T1l : Int) == (W : Int) + (Qn : Int) + (Rn : Int)) = true := by rw [HLN.out]; simp
                clear hlen h3
                go_wp2_with fail
                refine (HT2.out w3).mono ?_
                rintro e w4 ⟨v2, rfl, htk⟩
                obtain ⟨p2, c2, rfl⟩ := htk.1.form
                have HM4 := Lib.hid ((HMM.out.trans' HM3.out).trans' htk.2.2)
                rw [hl2]
                clear HT2 htk hl2
                go_wp2_with fail
                go_ret
                exact ⟨rfl, HM4.out.nil (by simp)⟩

end Go.Proofs.Ytcdoamaljgjojaa
