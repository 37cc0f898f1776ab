/- Walks over package ferretref02: Next. -/
import Derived.Test.YtgjcnembeebjfaaGInM
import Derived.Test.YtgjcnembeebjfaaBitsF
import Derived.Deep.LoopGhost
import Derived.BigQuiet
import Derived.OwnWalk
namespace Go.Proofs.Ytgjcnembeebjfaa
open Go.RowKit

theorem bit_of (c d : Nat) : Go.bits .and .i64 ((c : Int) / 2 ^ d) 1 = ((c.testBit d).toNat : Int) := by
  rw [and1_i64]
  have h : ((c : Int) / 2 ^ d % 2) = ((c / 2 ^ d % 2 : Nat) : Int) := by simp
  rw [h, Nat.testBit_eq_decide_div_mod_eq, dec_toNat]

theorem PM.snoc {s : ByteArray} {k n c j : Nat} (h : PM s k n c j) (hb : strBit s (k + j) = c.testBit (n - 1 - j)) : PM s k n c (j + 1) := by
  intro i hi
  by_cases e : i = j
  · rw [e]; exact hb
  · exact h i (by omega)

set_option maxHeartbeats 3200000 in
set_option maxRecDepth 1000000 in
theorem refnext_any (ls : List Nat) (hg : Good ls) (hls : ls.length ≤ 1024) (p1 p2 : Option Addr) (c1 c2 : Nat) (s : ByteArray) (k : Nat) (hs : s.size ≤ 140737488355328) (hk : k ≤ 8 * s.size) (w : World)
    (hr1 : ∀ i, i < ls.length → ∃ a, p1 = some a ∧ ∀ n, (w.drewN n).cell? (a.add i) = some (.int .i64 ((lenAt ls i : Nat) : Int)))
    (hr2 : ∀ i, i < ls.length → ∃ a, p2 = some a ∧ ∀ n, (w.drewN n).cell? (a.add i) = some (.int .i64 ((codeOf ls i : Nat) : Int))) :
    Calls Try.prog 98 #[.slice p1 ls.length c1, .slice p2 ls.length c2, .string s, .int .i64 (k : Nat)] w fun e w' =>
      e = .returned (.tuple #[.int .i64 ((nextRes ls (peekNum s k 15) (min 15 (8 * s.size - k))).1 : Nat), .int .i64 ((nextRes ls (peekNum s k 15) (min 15 (8 * s.size - k))).2.1 : Nat), .int .i64 ((nextRes ls (peekNum s k 15) (min 15 (8 * s.size - k))).2.2 : Nat)]) ∧ ∃ n, w' = w.drewN n := by
  have HR1 := Lib.hid hr1
  have HR2 := Lib.hid hr2
  have HG := Lib.hid hg
  obtain ⟨left, hleft⟩ : ∃ left, 8 * s.size - k = left := ⟨_, rfl⟩
  have hlI : 8 * (s.size : Int) - (k : Int) = (left : Int) := by omega
  have HHIT : Hid (∀ i, i < ls.length → mtAt ls s k left i → nextRes ls (peekNum s k 15) (min 15 left) = (i, lenAt ls i, 0)) := Lib.hid (fun i hi hm => next_hit ls hg s k left i hi hm)
  have HMISS : Hid ((∀ i, i < ls.length → ¬ mtAt ls s k left i) → ∀ b : Bool, (b = true ↔ ∃ i, i < ls.length ∧ bgAt ls s k left i) → nextRes ls (peekNum s k 15) (min 15 left) = if b = true then (0, 0, 3) else (0, 0, 5)) := Lib.hid (fun hm b hb => next_miss ls hg s k left hm b hb)
  rw [hleft]
  obtain ⟨RS, hRS⟩ : ∃ R, nextRes ls (peekNum s k 15) (min 15 left) = R := ⟨_, rfl⟩
  rw [hRS] at HHIT HMISS ⊢
  have hleftb : left ≤ 1125899906842624 := by omega
  clear hr1 hr2 hg hRS hleft
  go_enter Try.func98, Try.ntmps98
  go_wp2_with fail
  go_loopw [12, 13] (fun bg x wx => ∃ (i m : Nat) (b : Bool), x = .int .i64 (i : Int) ∧ bg = .bool b ∧ i ≤ ls.length ∧ wx = w.drewN m ∧ Hid ((∀ i', i' < i → ¬ mtAt ls s k left i') ∧ (b = true ↔ ∃ i', i' < i ∧ bgAt ls s k left i'))) (fun _ x _ => ls.length - (intOf x).toNat)
  case atStart => exact ⟨0, 0, false, rfl, rfl, Nat.zero_le _, rfl, Lib.hid (by simp)⟩
  case round =>
    obtain ⟨i, m, b, rfl, rfl, hi, rfl, HS⟩ := hrel
    by_cases hend : i < ls.length
    · have hendI : (i : Int) < (ls.length : Int) := by omega
      obtain ⟨a, rfl, ca⟩ := HR1.out i hend
      obtain ⟨a2, rfl, cb⟩ := HR2.out i hend
      have hn15 := HG.out.h15 _ (lenAt_mem ls i hend)
      have HMT : Hid (mtAt ls s k left i ↔ 1 ≤ lenAt ls i ∧ lenAt ls i ≤ left ∧ PM s k (lenAt ls i) (codeOf ls i) (lenAt ls i)) := Lib.hid Iff.rfl
      have HBG : Hid (bgAt ls s k left i ↔ 1 ≤ lenAt ls i ∧ left < lenAt ls i ∧ PM s k (lenAt ls i) (codeOf ls i) left) := Lib.hid Iff.rfl
      have HHI : Hid (mtAt ls s k left i → RS = (i, lenAt ls i, 0)) := Lib.hid (HHIT.out i hend)
      generalize lenAt ls i = n at *
      generalize codeOf ls i = c at *
      by_cases hn0 : n = 0
      · subst hn0
        go_wp2_with fail
        refine ⟨⟨i + 1, _, b, by rw [Int.natCast_add]; rfl, rfl, by omega, rfl, Lib.hid ⟨fun i' h' hm => ?_, ?_⟩⟩, by simp only [intOf]; omega⟩
        · by_cases e : i' = i
          · subst e; have := HMT.out.1 hm; omega
          · exact HS.out.1 i' (by omega) hm
        · rw [HS.out.2]
          constructor
          · rintro ⟨i', h1, h2⟩; exact ⟨i', by omega, h2⟩
          · rintro ⟨i', h1, h2⟩
            by_cases e : i' = i
            · subst e; have := HBG.out.1 h2; omega
            · exact ⟨i', by omega, h2⟩
      · have hn0I : ((n : Int) == 0) = false := by simpa using hn0
        go_wp2_with fail
        go_loopw [15] (fun x wx => ∃ j m : Nat, x = .int .i64 (j : Int) ∧ j ≤ n ∧ j ≤ left ∧ wx = w.drewN m ∧ Hid (PM s k n c j)) (fun x _ => n - (intOf x).toNat)
        case atStart => exact ⟨0, m, rfl, Nat.zero_le _, Nat.zero_le _, rfl, Lib.hid fun i h => by omega⟩
        case round =>
          obtain ⟨j, m, rfl, hjn, hjl, rfl, HP⟩ := hrel
          have hjI : (0 : Int) ≤ (j : Int) := by omega
          by_cases hA : j = n
          · subst hA
            have hRS := HHI.out (HMT.out.2 ⟨by omega, hjl, HP.out⟩)
            subst hRS
            clear HHIT HMISS HMT HBG HHI HS HP
            go_wp2_with fail
            go_quiet (fail)
            go_wp2_with fail
            refine bodyPost_ret (results_tmp3 rfl _ _ _) rfl ⟨rfl, _, rfl⟩
          · have hAI : (j : Int) < (n : Int) := by omega
            have hAI2 : ((j : Int) == (n : Int)) = false := by rw [beq_eq_false_iff_ne]; omega
            by_cases hB : j = left
            · subst hB
              have HB2 : Hid (bgAt ls s k j i) := Lib.hid (HBG.out.2 ⟨by omega, by omega, HP.out⟩)
              have HM2 : Hid (¬ mtAt ls s k j i) := Lib.hid (fun h => by have := HMT.out.1 h; omega)
              clear HMT HBG HHI HP
              cases b
              · go_wp2_with fail
                go_quiet (fail)
                go_wp2_with fail
                refine ⟨⟨i + 1, _, true, by rw [Int.natCast_add]; rfl, by first | rfl | simp, by omega, rfl, Lib.hid ⟨fun i' h' hm => ?_, ⟨fun _ => ⟨i, by omega, HB2.out⟩, fun _ => rfl⟩⟩⟩, by simp only [intOf]; omega⟩
                by_cases e : i' = i
                · subst e; exact HM2.out hm
                · exact HS.out.1 i' (by omega) hm
              · go_wp2_with fail
                go_quiet (fail)
                go_wp2_with fail
                refine ⟨⟨i + 1, _, true, by rw [Int.natCast_add]; rfl, by first | rfl | simp, by omega, rfl, Lib.hid ⟨fun i' h' hm => ?_, ⟨fun _ => ⟨i, by omega, HB2.out⟩, fun _ => rfl⟩⟩⟩, by simp only [intOf]; omega⟩
                by_cases e : i' = i
                · subst e; exact HM2.out hm
                · exact HS.out.1 i' (by omega) hm
            · have hBI : (j : Int) < (left : Int) := by omega
              have hBI2 : ((j : Int) == (left : Int)) = false := by rw [beq_eq_false_iff_ne]; omega
              obtain ⟨d, hd⟩ : ∃ d, n - 1 - j = d := ⟨_, rfl⟩
              have hd1 : (n : Int) - 1 - (j : Int) = (d : Int) := by omega
              have hd0 : (0 : Int) ≤ (d : Int) := by omega
              have hd64 : (d : Int) < 64 := by omega
              have hw1 : IntKind.i64.wrap ((n : Int) - 1) = (n : Int) - 1 := IntWalk.i64_in _ (by omega)
              have hw2 : IntKind.i64.wrap ((n : Int) - 1 - (j : Int)) = (d : Int) := by rw [hd1]; exact IntWalk.i64_in _ (by omega)
              have hw3 : IntKind.i64.wrap ((k : Int) + (j : Int)) = (k : Int) + (j : Int) := IntWalk.i64_in _ (by omega)
              obtain ⟨B1, hB1⟩ : ∃ b, strBit s (k + j) = b := ⟨_, rfl⟩
              obtain ⟨B2, hB2⟩ : ∃ b, c.testBit d = b := ⟨_, rfl⟩
              have hbit := bit_of c d
              rw [hB2] at hbit
              have HBIT : Hid (∀ W : World, Calls Try.prog 97 #[.string s, .int .i64 ((k : Int) + (j : Int))] W fun e w' => e = .returned (.int .i64 (B1.toNat : Int)) ∧ w' = W) := Lib.hid (fun W => by
                have h := bitf_any s (k + j) W hs (by omega)
                rw [hB1, Int.natCast_add] at h
                exact h.mono fun e w' ⟨h1, h2⟩ => ⟨h1, h2.symm⟩)
              have HPS : Hid (B1 = B2 → PM s k n c (j + 1)) := Lib.hid (fun h => HP.out.snoc (by rw [hB1, hd, hB2]; exact h))
              have HNP : Hid (B1 ≠ B2 → ¬ PM s k n c n ∧ ¬ PM s k n c left) := Lib.hid (fun h => ⟨fun hp => h (by rw [← hB1, hp j (by omega), hd, hB2]), fun hp => h (by rw [← hB1, hp j (by omega), hd, hB2])⟩)
              clear hB1 hB2 hd HP
              by_cases hE : B1 = B2
              · subst hE
                have HPP := Lib.hid (HPS.out rfl)
                clear HPS HNP HHIT HMISS HMT HBG HHI HS
                go_wp2_with fail
                go_quiet ((go_at_call 97; exact (HBIT.out _).mono fun e w'' ⟨he, hw⟩ => ⟨he, _, hw⟩))
                go_wp2_with fail
                exact ⟨⟨j + 1, _, by rw [Int.natCast_add]; rfl, by omega, by omega, rfl, HPP⟩, by simp only [intOf]; omega⟩
              · have hEI : (((B1.toNat : Nat) : Int) == ((B2.toNat : Nat) : Int)) = false := by cases B1 <;> cases B2 <;> simp at hE ⊢
                obtain ⟨hn1, hn2⟩ := HNP.out hE
                have HB2 : Hid (¬ bgAt ls s k left i) := Lib.hid (fun h => hn2 (HBG.out.1 h).2.2)
                have HM2 : Hid (¬ mtAt ls s k left i) := Lib.hid (fun h => hn1 (HMT.out.1 h).2.2)
                clear HMT HBG HHI HNP HPS hn1 hn2 hE HHIT HMISS
                cases b
                · go_wp2_with fail
                  go_quiet ((go_at_call 97; exact (HBIT.out _).mono fun e w'' ⟨he, hw⟩ => ⟨he, _, hw⟩))
                  go_wp2_with fail
                  refine ⟨⟨i + 1, _, false, by rw [Int.natCast_add]; rfl, by first | rfl | simp, by omega, rfl, Lib.hid ⟨fun i' h' hm => ?_, ?_⟩⟩, by simp only [intOf]; omega⟩
                  · by_cases e : i' = i
                    · subst e; exact HM2.out hm
                    · exact HS.out.1 i' (by omega) hm
                  · constructor
                    · intro h; cases h
                    · rintro ⟨i', h1, h2⟩
                      by_cases e : i' = i
                      · subst e; exact absurd h2 HB2.out
                      · exact HS.out.2.2 ⟨i', by omega, h2⟩
                · go_wp2_with fail
                  go_quiet ((go_at_call 97; exact (HBIT.out _).mono fun e w'' ⟨he, hw⟩ => ⟨he, _, hw⟩))
                  go_wp2_with fail
                  refine ⟨⟨i + 1, _, true, by rw [Int.natCast_add]; rfl, by first | rfl | simp, by omega, rfl, Lib.hid ⟨fun i' h' hm => ?_, ⟨fun _ => ?_, fun _ => rfl⟩⟩⟩, by simp only [intOf]; omega⟩
                  · by_cases e : i' = i
                    · subst e; exact HM2.out hm
                    · exact HS.out.1 i' (by omega) hm
                  · obtain ⟨i', h1, h2⟩ := HS.out.2.1 (by trivial)
                    exact ⟨i', by omega, h2⟩
    · have hendI : ¬ (i : Int) < (ls.length : Int) := by omega
      have ei : i = ls.length := by omega
      subst ei
      have HRS := Lib.hid (HMISS.out HS.out.1 b HS.out.2)
      clear HS HMISS HHIT
      cases b
      · go_wp2_with fail
        refine bodyPost_ret (results_tmp3 rfl _ _ _) rfl ⟨?_, _, rfl⟩
        rw [HRS.out]; rfl
      · go_wp2_with fail
        refine bodyPost_ret (results_tmp3 rfl _ _ _) rfl ⟨?_, _, rfl⟩
        rw [HRS.out]; rfl

end Go.Proofs.Ytgjcnembeebjfaa
