/- Walks over package inflate: Length, Distance; the reference's. Walk over package inflate: the order of lengths. -/
import Derived.Test.YtgjcnembeebjfaaBase
import Derived.Test.YtgjcnembeebjfaaGFb
import Derived.Deep.LoopGhost
import Derived.Laws.Rows
import Derived.Laws.Tables
import Derived.Deep.DeepCutAuto

namespace Go.Proofs.Ytgjcnembeebjfaa
open Go.RowKit

theorem length_bad (s : Int) (w : World) (h : s < 257 ∨ 285 < s) :
    Calls Try.prog 104 #[.int .i64 s] w fun e w' => e = .returned (.tuple #[.int .i64 0, .int .i64 0, .bool false]) ∧ w = w' := by
  rcases h with h | h
  · go_enter Try.func104, Try.ntmps104
    go_wp2_with fail
    exact bodyPost_ret (results_tmp3 rfl _ _ _) rfl ⟨rfl, rfl⟩
  · have h2 : ¬ s < 257 := by omega
    go_enter Try.func104, Try.ntmps104
    go_wp2_with fail
    exact bodyPost_ret (results_tmp3 rfl _ _ _) rfl ⟨rfl, rfl⟩

theorem pow_int (x b : Nat) (hx : x ≤ 7) (hb : b ≤ 14) : wrap64 ((x : Int) * 2 ^ b) = ((x * 2 ^ b : Nat) : Int) ∧ x * 2 ^ b ≤ 114688 := by
  have hp : (2 : Nat) ^ b ≤ 2 ^ 14 := Nat.pow_le_pow_right (by decide) hb
  have e : ((x : Int) * 2 ^ b) = ((x * 2 ^ b : Nat) : Int) := by simp
  have hm : x * 2 ^ b ≤ 7 * 2 ^ 14 := Nat.mul_le_mul hx hp
  rw [e]
  generalize x * 2 ^ b = z at *
  exact ⟨IntWalk.wrap64_in _ (by omega), by omega⟩

theorem sum_pow (a x b : Nat) (ha : a ≤ 70000) (hx : x ≤ 7) (hb : b ≤ 14) : wrap64 ((a : Int) + wrap64 ((x : Int) * 2 ^ b)) = ((a + x * 2 ^ b : Nat) : Int) := by
  have hp : (2 : Nat) ^ b ≤ 2 ^ 14 := Nat.pow_le_pow_right (by decide) hb
  have e : ((x : Int) * 2 ^ b) = ((x * 2 ^ b : Nat) : Int) := by simp
  have hm : x * 2 ^ b ≤ 7 * 2 ^ 14 := Nat.mul_le_mul hx hp
  rw [e]
  generalize x * 2 ^ b = z at *
  rw [IntWalk.wrap64_in (z : Int) (by omega), IntWalk.wrap64_in _ (by omega)]
  omega

theorem one_pow (b : Nat) (hb : b ≤ 14) : wrap64 (2 ^ b) = ((2 ^ b : Nat) : Int) ∧ 2 ^ b ≤ 16384 := by
  have hp : (2 : Nat) ^ b ≤ 2 ^ 14 := Nat.pow_le_pow_right (by decide) hb
  have e : ((2 : Int) ^ b) = ((2 ^ b : Nat) : Int) := by simp
  rw [e]
  generalize 2 ^ b = z at *
  exact ⟨IntWalk.wrap64_in _ (by omega), by omega⟩

set_option maxRecDepth 100000 in
theorem length_good (n : Nat) (w : World) (h1 : 257 ≤ n) (h2 : n ≤ 285) :
    Calls Try.prog 104 #[.int .i64 (n : Int)] w fun e w' => e = .returned (.tuple #[.int .i64 ((lenR n).1 : Nat), .int .i64 ((lenR n).2 : Nat), .bool true]) ∧ w = w' := by
  have h1I : ¬ (n : Int) < 257 := by omega
  have h2I : ¬ 285 < (n : Int) := by omega
  by_cases h3 : n < 265
  · have h3I : (n : Int) < 265 := by omega
    have hr : (lenR n).1 = n - 254 ∧ (lenR n).2 = 0 := by unfold lenR; rw [if_pos h3]; exact ⟨rfl, rfl⟩
    have HR := Lib.hid hr
    clear hr
    go_enter Try.func104, Try.ntmps104
    go_wp2_with fail
    refine bodyPost_ret (results_tmp3 rfl _ _ _) rfl ⟨?_, rfl⟩
    rw [HR.out.1, HR.out.2]
    show Ending.returned (.tuple #[.int .i64 ((n : Int) - 254), .int .i64 0, .bool true]) = _
    rw [show (n : Int) - 254 = ((n - 254 : Nat) : Int) by omega]
    rfl
  · have h3I : ¬ (n : Int) < 265 := by omega
    by_cases h4 : n = 285
    · subst h4
      go_enter Try.func104, Try.ntmps104
      go_wp2_with fail
      exact bodyPost_ret (results_tmp3 rfl _ _ _) rfl ⟨rfl, rfl⟩
    · have h4I : ((n : Int) == 285) = false := by rw [beq_eq_false_iff_ne]; omega
      obtain ⟨d, rfl⟩ : ∃ d, n = d + 261 := ⟨n - 261, by omega⟩
      have hr : (lenR (d + 261)).1 = 3 + (4 + d % 4) * 2 ^ (d / 4) ∧ (lenR (d + 261)).2 = d / 4 := by
        unfold lenR; rw [if_neg h3, if_neg h4, show d + 261 - 261 = d by omega]; exact ⟨rfl, rfl⟩
      obtain ⟨x, hx⟩ : ∃ x, 4 + d % 4 = x := ⟨_, rfl⟩
      obtain ⟨b, hb⟩ : ∃ b, d / 4 = b := ⟨_, rfl⟩
      have hv : wrap64 (3 + wrap64 ((x : Int) * 2 ^ b)) = ((3 + x * 2 ^ b : Nat) : Int) := sum_pow 3 x b (by decide) (by omega) (by omega)
      have HV := Lib.hid hv
      clear hv
      rw [hx, hb] at hr
      have HR := Lib.hid hr
      clear hr
      have e1 : ((d + 261 : Nat) : Int) - 261 = (d : Int) := by omega
      generalize ((d + 261 : Nat) : Int) = N at *
      have e2 : (d : Int) / 4 = (b : Int) := by omega
      have e5 : 4 + (d : Int) % 4 = (x : Int) := by omega
      have hb0 : (0 : Int) ≤ (b : Int) := by omega
      have hb64 : (b : Int) < 64 := by omega
      have hb1 : b < 64 := by omega
      have hd0 : (0 : Int) ≤ (d : Int) := by omega
      clear hx hb
      go_enter Try.func104, Try.ntmps104
      go_wp2_with fail
      refine bodyPost_ret (results_tmp3 rfl _ _ _) rfl ⟨?_, rfl⟩
      rw [HR.out.1, HR.out.2]
      show Ending.returned (.tuple #[.int .i64 (wrap64 (3 + wrap64 ((x : Int) * 2 ^ b))), .int .i64 (b : Int), .bool true]) = _
      rw [HV.out]

theorem distance_bad (s : Int) (w : World) (h : s < 0 ∨ 29 < s) :
    Calls Try.prog 105 #[.int .i64 s] w fun e w' => e = .returned (.tuple #[.int .i64 0, .int .i64 0, .bool false]) ∧ w = w' := by
  rcases h with h | h
  · go_enter Try.func105, Try.ntmps105
    go_wp2_with fail
    exact bodyPost_ret (results_tmp3 rfl _ _ _) rfl ⟨rfl, rfl⟩
  · have h2 : ¬ s < 0 := by omega
    go_enter Try.func105, Try.ntmps105
    go_wp2_with fail
    exact bodyPost_ret (results_tmp3 rfl _ _ _) rfl ⟨rfl, rfl⟩

set_option maxRecDepth 100000 in
theorem distance_good (n : Nat) (w : World) (h2 : n ≤ 29) :
    Calls Try.prog 105 #[.int .i64 (n : Int)] w fun e w' => e = .returned (.tuple #[.int .i64 ((distR n).1 : Nat), .int .i64 ((distR n).2 : Nat), .bool true]) ∧ w = w' := by
  have h1I : ¬ (n : Int) < 0 := by omega
  have h2I : ¬ 29 < (n : Int) := by omega
  by_cases h3 : n < 4
  · have h3I : (n : Int) < 4 := by omega
    have hr : (distR n).1 = n + 1 ∧ (distR n).2 = 0 := by unfold distR; rw [if_pos h3]; exact ⟨rfl, rfl⟩
    have HR := Lib.hid hr
    clear hr
    go_enter Try.func105, Try.ntmps105
    go_wp2_with fail
    refine bodyPost_ret (results_tmp3 rfl _ _ _) rfl ⟨?_, rfl⟩
    rw [HR.out.1, HR.out.2]
    show Ending.returned (.tuple #[.int .i64 ((n : Int) + 1), .int .i64 0, .bool true]) = _
    rw [show (n : Int) + 1 = ((n + 1 : Nat) : Int) by omega]
    rfl
  · have h3I : ¬ (n : Int) < 4 := by omega
    have hr : (distR n).1 = 1 + (2 + n % 2) * 2 ^ (n / 2 - 1) ∧ (distR n).2 = n / 2 - 1 := by
      unfold distR; rw [if_neg h3]; exact ⟨rfl, rfl⟩
    obtain ⟨x, hx⟩ : ∃ x, 2 + n % 2 = x := ⟨_, rfl⟩
    obtain ⟨b, hb⟩ : ∃ b, n / 2 - 1 = b := ⟨_, rfl⟩
    have hv : wrap64 (1 + wrap64 ((x : Int) * 2 ^ b)) = ((1 + x * 2 ^ b : Nat) : Int) := sum_pow 1 x b (by decide) (by omega) (by omega)
    have HV := Lib.hid hv
    clear hv
    rw [hx, hb] at hr
    have HR := Lib.hid hr
    clear hr
    have e1 : (n : Int) / 2 - 1 = (b : Int) := by omega
    have e5 : 2 + (n : Int) % 2 = (x : Int) := by omega
    have hb0 : (0 : Int) ≤ (b : Int) := by omega
    have hb64 : (b : Int) < 64 := by omega
    have hb1 : b < 64 := by omega
    clear hx hb
    go_enter Try.func105, Try.ntmps105
    go_wp2_with fail
    refine bodyPost_ret (results_tmp3 rfl _ _ _) rfl ⟨?_, rfl⟩
    rw [HR.out.1, HR.out.2]
    show Ending.returned (.tuple #[.int .i64 (wrap64 (1 + wrap64 ((x : Int) * 2 ^ b))), .int .i64 (b : Int), .bool true]) = _
    rw [HV.out]

/-! the reference's -/
theorem rmore_any (n : Nat) (w : World) (h1 : 257 ≤ n) (h2 : n < 285) :
    Calls Try.prog 99 #[.int .i64 (n : Int)] w fun e w' => e = .returned (.int .i64 ((lenR n).2 : Nat)) ∧ w = w' := by
  by_cases h3 : n < 265
  · have h3I : (n : Int) < 265 := by omega
    have hr : (lenR n).2 = 0 := by unfold lenR; rw [if_pos h3]
    have HR := Lib.hid hr
    clear hr
    go_enter Try.func99, Try.ntmps99
    go_wp2_with fail
    exact bodyPost_ret (results_tmp rfl _ _ _) rfl ⟨by rw [HR.out]; rfl, rfl⟩
  · have h3I : ¬ (n : Int) < 265 := by omega
    have hr : (lenR n).2 = (n - 261) / 4 := by unfold lenR; rw [if_neg h3, if_neg (by omega)]
    have HR := Lib.hid hr
    clear hr
    have e : ((n : Int) - 261) / 4 = (((n - 261) / 4 : Nat) : Int) := by omega
    have h0 : (0 : Int) ≤ (n : Int) - 261 := by omega
    generalize hq : (((n - 261) / 4 : Nat) : Int) = q at *
    have HQ := Lib.hid hq
    clear hq
    go_enter Try.func99, Try.ntmps99
    go_wp2_with fail
    refine bodyPost_ret (results_tmp rfl _ _ _) rfl ⟨?_, rfl⟩
    rw [HR.out, HQ.out]
    rfl

theorem rwide_any (n : Nat) (w : World) (h2 : n ≤ 29) :
    Calls Try.prog 100 #[.int .i64 (n : Int)] w fun e w' => e = .returned (.int .i64 ((distR n).2 : Nat)) ∧ w = w' := by
  by_cases h3 : n < 4
  · have h3I : (n : Int) < 4 := by omega
    have hr : (distR n).2 = 0 := by unfold distR; rw [if_pos h3]
    have HR := Lib.hid hr
    clear hr
    go_enter Try.func100, Try.ntmps100
    go_wp2_with fail
    exact bodyPost_ret (results_tmp rfl _ _ _) rfl ⟨by rw [HR.out]; rfl, rfl⟩
  · have h3I : ¬ (n : Int) < 4 := by omega
    have hr : (distR n).2 = n / 2 - 1 := by unfold distR; rw [if_neg h3]
    have HR := Lib.hid hr
    clear hr
    have e : (n : Int) / 2 - 1 = ((n / 2 - 1 : Nat) : Int) := by omega
    generalize hq : ((n / 2 - 1 : Nat) : Int) = q at *
    have HQ := Lib.hid hq
    clear hq
    go_enter Try.func100, Try.ntmps100
    go_wp2_with fail
    refine bodyPost_ret (results_tmp rfl _ _ _) rfl ⟨?_, rfl⟩
    rw [HR.out, HQ.out]
    rfl

theorem rlength_bad (s : Int) (w : World) (h : s < 257 ∨ 285 < s) :
    Calls Try.prog 77 #[.int .i64 s] w fun e w' => e = .returned (.tuple #[.int .i64 0, .int .i64 0, .bool false]) ∧ w = w' := by
  rcases h with h | h
  · go_enter Try.func77, Try.ntmps77
    go_wp2_with fail
    exact bodyPost_ret (results_tmp3 rfl _ _ _) rfl ⟨rfl, rfl⟩
  · have h2 : ¬ s < 257 := by omega
    go_enter Try.func77, Try.ntmps77
    go_wp2_with fail
    exact bodyPost_ret (results_tmp3 rfl _ _ _) rfl ⟨rfl, rfl⟩

theorem rdistance_bad (s : Int) (w : World) (h : s < 0 ∨ 29 < s) :
    Calls Try.prog 78 #[.int .i64 s] w fun e w' => e = .returned (.tuple #[.int .i64 0, .int .i64 0, .bool false]) ∧ w = w' := by
  rcases h with h | h
  · go_enter Try.func78, Try.ntmps78
    go_wp2_with fail
    exact bodyPost_ret (results_tmp3 rfl _ _ _) rfl ⟨rfl, rfl⟩
  · have h2 : ¬ s < 0 := by omega
    go_enter Try.func78, Try.ntmps78
    go_wp2_with fail
    exact bodyPost_ret (results_tmp3 rfl _ _ _) rfl ⟨rfl, rfl⟩

theorem rlength_good (n : Nat) (w : World) (h1 : 257 ≤ n) (h2 : n ≤ 285) :
    Calls Try.prog 77 #[.int .i64 (n : Int)] w fun e w' => e = .returned (.tuple #[.int .i64 ((lenR n).1 : Nat), .int .i64 ((lenR n).2 : Nat), .bool true]) ∧ w = w' := by
  have h1I : ¬ (n : Int) < 257 := by omega
  have h2I : ¬ 285 < (n : Int) := by omega
  by_cases h4 : n = 285
  · subst h4
    go_enter Try.func77, Try.ntmps77
    go_wp2_with fail
    exact bodyPost_ret (results_tmp3 rfl _ _ _) rfl ⟨rfl, rfl⟩
  · have h4I : ((n : Int) == 285) = false := by rw [beq_eq_false_iff_ne]; omega
    go_enter Try.func77, Try.ntmps77
    go_wp2_with fail
    go_loop [5, 6] (fun x y => ∃ k : Nat, 257 ≤ k ∧ k ≤ n ∧ y = .int .i64 (k : Int) ∧ x = .int .i64 ((lenR k).1 : Nat)) (fun _ y => n - (intOf y).toNat)
    case atStart => exact ⟨257, by omega, h1, rfl, rfl⟩
    case round =>
      obtain ⟨k, hk1, hk2, rfl, rfl⟩ := hrel
      by_cases hlt : k < n
      · have hltI : (k : Int) < (n : Int) := by omega
        have hs := lenR_succ k (by omega) hk1
        have hb := lenR_small k (by omega) hk1
        have hb' := (lenR_small (k + 1) (by omega) (by omega)).1
        have HM : Hid (∀ w, Calls Try.prog 99 #[.int .i64 (k : Int)] w fun e w' => e = .returned (.int .i64 ((lenR k).2 : Nat)) ∧ w = w') := Lib.hid (fun w => rmore_any k w hk1 (by omega))
        obtain ⟨A, hA⟩ : ∃ x, (lenR (k + 1)).1 = x := ⟨_, rfl⟩
        rw [hA] at hs hb'
        have HA := Lib.hid hA
        clear hA
        generalize (lenR k).1 = L at *
        generalize (lenR k).2 = b at *
        have hb0 : (0 : Int) ≤ (b : Int) := by omega
        have hb64 : (b : Int) < 64 := by omega
        have hb1 : b < 64 := by omega
        have hv' : wrap64 ((L : Int) + wrap64 (2 ^ b)) = (A : Int) := by
          rw [(one_pow b (by omega)).1]
          have := (one_pow b (by omega)).2
          rw [IntWalk.wrap64_in _ (by omega), hs]
          simp
        have HV := Lib.hid hv'
        clear hv' hs
        go_wp2_with (go_at_call 99; refine (HM.out _).mono ?_; rintro e w1 ⟨rfl, rfl⟩)
        exact ⟨⟨k + 1, by omega, by omega, by rw [Int.natCast_add]; rfl, by rw [HA.out, ← HV.out]⟩, by simp only [intOf]; omega⟩
      · obtain rfl : k = n := by omega
        have hltI : ¬ (k : Int) < (k : Int) := by omega
        have HM : Hid (∀ w, Calls Try.prog 99 #[.int .i64 (k : Int)] w fun e w' => e = .returned (.int .i64 ((lenR k).2 : Nat)) ∧ w = w') := Lib.hid (fun w => rmore_any k w hk1 (by omega))
        go_wp2_with (go_at_call 99; refine (HM.out _).mono ?_; rintro e w1 ⟨rfl, rfl⟩)
        exact bodyPost_ret (results_tmp3 rfl _ _ _) rfl ⟨rfl, rfl⟩

theorem rdistance_good (n : Nat) (w : World) (h2 : n ≤ 29) :
    Calls Try.prog 78 #[.int .i64 (n : Int)] w fun e w' => e = .returned (.tuple #[.int .i64 ((distR n).1 : Nat), .int .i64 ((distR n).2 : Nat), .bool true]) ∧ w = w' := by
  have h1I : ¬ (n : Int) < 0 := by omega
  have h2I : ¬ 29 < (n : Int) := by omega
  go_enter Try.func78, Try.ntmps78
  go_wp2_with fail
  go_loop [5, 6] (fun x y => ∃ k : Nat, k ≤ n ∧ y = .int .i64 (k : Int) ∧ x = .int .i64 ((distR k).1 : Nat)) (fun _ y => n - (intOf y).toNat)
  case atStart => exact ⟨0, by omega, rfl, rfl⟩
  case round =>
    obtain ⟨k, hk2, rfl, rfl⟩ := hrel
    by_cases hlt : k < n
    · have hltI : (k : Int) < (n : Int) := by omega
      have hs := distR_succ k (by omega)
      have hb := distR_small k (by omega)
      have hb' := (distR_small (k + 1) (by omega)).1
      have HM : Hid (∀ w, Calls Try.prog 100 #[.int .i64 (k : Int)] w fun e w' => e = .returned (.int .i64 ((distR k).2 : Nat)) ∧ w = w') := Lib.hid (fun w => rwide_any k w (by omega))
      obtain ⟨A, hA⟩ : ∃ x, (distR (k + 1)).1 = x := ⟨_, rfl⟩
      rw [hA] at hs hb'
      have HA := Lib.hid hA
      clear hA
      generalize (distR k).1 = L at *
      generalize (distR k).2 = b at *
      have hb0 : (0 : Int) ≤ (b : Int) := by omega
      have hb64 : (b : Int) < 64 := by omega
      have hb1 : b < 64 := by omega
      have hv' : wrap64 ((L : Int) + wrap64 (2 ^ b)) = (A : Int) := by
        rw [(one_pow b (by omega)).1]
        have := (one_pow b (by omega)).2
        rw [IntWalk.wrap64_in _ (by omega), hs]
        simp
      have HV := Lib.hid hv'
      clear hv' hs
      go_wp2_with (go_at_call 100; refine (HM.out _).mono ?_; rintro e w1 ⟨rfl, rfl⟩)
      exact ⟨⟨k + 1, by omega, by rw [Int.natCast_add]; rfl, by rw [HA.out, ← HV.out]⟩, by simp only [intOf]; omega⟩
    · obtain rfl : k = n := by omega
      have hltI : ¬ (k : Int) < (k : Int) := by omega
      have HM : Hid (∀ w, Calls Try.prog 100 #[.int .i64 (k : Int)] w fun e w' => e = .returned (.int .i64 ((distR k).2 : Nat)) ∧ w = w') := Lib.hid (fun w => rwide_any k w (by omega))
      go_wp2_with (go_at_call 100; refine (HM.out _).mono ?_; rintro e w1 ⟨rfl, rfl⟩)
      exact bodyPost_ret (results_tmp3 rfl _ _ _) rfl ⟨rfl, rfl⟩

end Go.Proofs.Ytgjcnembeebjfaa

namespace Go.Proofs.Ytgjcnembeebjfaa
open Go.RowKit

def order19 : Array Value := #[.int .i64 16, .int .i64 17, .int .i64 18, .int .i64 0, .int .i64 8, .int .i64 7, .int .i64 9, .int .i64 6, .int .i64 10, .int .i64 5, .int .i64 11, .int .i64 4, .int .i64 12, .int .i64 3, .int .i64 13, .int .i64 2, .int .i64 14, .int .i64 1, .int .i64 15]

theorem wpList_buildC {P : Program} {ops : Array Oper} {rest : List Oper} {o : Oper} {a : Act} {w : World} {Q : Exit → Act → World → Prop} (hg : o.guard = none) (t : TypeId) (parts : Array (Nat × Operand)) (ho : o.op = .build t parts) (cells : Array Value)
    (hf : P.built t (parts.map fun (i, x) => (i, a.eval x)).toList = some cells) (h : wpList P ops Q rest (a.put o.dst (.agg cells)) w) : wpList P ops Q (o :: rest) a w :=
  wpList_build hg t parts ho (by rw [hf]; rfl) (by rw [hf]; exact h)

set_option maxHeartbeats 1600000 in
set_option maxRecDepth 100000 in
theorem uorder_any (w : World) : Calls Try.prog 94 #[] w fun e w' => e = .returned (.agg order19) ∧ Mut [] w w' := by
  go_enter Try.func94, Try.ntmps94
  go_upto_region 1 with fail
  obtain ⟨Z, hZ⟩ : ∃ Z : Array Value, (#[.int .i64 0, .int .i64 0, .int .i64 0, .int .i64 0, .int .i64 0, .int .i64 0, .int .i64 0, .int .i64 0, .int .i64 0, .int .i64 0, .int .i64 0, .int .i64 0, .int .i64 0, .int .i64 0, .int .i64 0, .int .i64 0, .int .i64 0, .int .i64 0, .int .i64 0] : Array Value) = Z := ⟨_, rfl⟩
  have hs : Z.size = 19 := by rw [← hZ]; rfl
  rw [hZ]
  have hh := heap_alloc_new w (.cells Z 159)
  have hm : Mut [] w (w.alloc (.cells Z 159)) := (Mut.refl [] w).alloc _
  have HG : w.heap.size ≤ w.heap.size := Nat.le_refl _
  generalize w.alloc (.cells Z 159) = w1 at *
  clear hZ
  obtain ⟨g, hg⟩ : ∃ g, w.heap.size = g := ⟨_, rfl⟩
  rw [hg] at hh
  rw [hg]
  have HGG := Lib.hid hg
  have HM := Lib.hid hm
  clear hg hm HG
  go_wp2_with (first | (refine wpList_store_row rfl 159 _ _ rfl g order19 rfl rfl 159 Z hh (by as_aux_lemma => kernel_rfl) hs (by as_aux_lemma => kernel_rfl) ?_) | (refine wpList_buildC rfl _ _ rfl order19 (by as_aux_lemma => kernel_rfl) ?_))
  refine bodyPost_ret (v := .agg order19) (results_cell_row rfl _ _ g 159 order19 (0, 0) _ rfl (setRow_heap w1 g Z order19 159 (0, 0) hh) Try.underlying159 rfl (by kernel_rfl)) rfl ⟨rfl, ?_⟩
  refine HM.out.trans (T := [g]) ⟨rfl, rfl, rfl, by simp, fun k _ hn => setRow_other w1 g k order19 (by simpa using hn)⟩ (fun x hx => .inr ?_)
  have := HGG.out
  simp at hx
  omega

end Go.Proofs.Ytgjcnembeebjfaa
