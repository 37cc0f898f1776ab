/- Walks over package templ: the law's number. -/
import Derived.Test.YtekgoldkcmehcaaTplW4
import Derived.Deep.RegionWith
namespace Go.Proofs.Ytekgoldkcmehcaa
open Go.RowKit Go.Shelf
set_option linter.unusedVariables false

def decs (n : Nat) : List Nat := if n < 10 then [48 + n] else decs (n / 10) ++ [48 + n % 10]
termination_by n

theorem decs_len (n : Nat) : (decs n).length ≤ n + 1 := by
  induction n using Nat.strongRecOn with
  | _ n ih =>
  rw [decs]
  split
  · simp
  · have := ih (n / 10) (by omega)
    rw [List.length_append]
    simp
    omega

theorem byte_conv (A : Nat) (hA : A < 256) (W : World) : (convert 23 9 (.slice (some ⟨W.heap.size, 0, none⟩) 1 1)).run Try.prog (W.alloc (.cells #[.int .u8 (A : Int)] 5)) = .ok (.string (strOf [A])) (W.alloc (.cells #[.int .u8 (A : Int)] 5)) :=
  conv_row Try.underlying23 Try.underlying5 Try.underlying9 (xs := [(A : Int)]) ⟨rfl, .inr ⟨W.heap.size, 1, _, rfl, Nat.zero_le _, heap_alloc_new W _, Nat.le_refl _, by unfold maxLen; decide, rfl, rfl⟩⟩

theorem strOf_append (a b : List Nat) : strOf a ++ strOf b = strOf (a ++ b) := by
  apply ByteArray.ext
  simp [strOf, ByteArray.data_append]

set_option maxHeartbeats 800000 in
set_option maxRecDepth 100000 in
theorem number_any (n : Nat) : ∀ (hn : n ≤ 1048576) (w : World), Calls Try.prog 8 #[.int .i64 (n : Int)] w fun e w' => e = .returned (.string (strOf (decs n))) ∧ Mut [] w w' := by
  induction n using Nat.strongRecOn with
  | _ n ih =>
  intro hn w
  by_cases h : n < 10
  · have hI : (n : Int) < 10 := by omega
    have e : decs n = [48 + n] := by rw [decs, if_pos h]
    rw [e]
    have hb := byte_conv (48 + n) (by omega) w
    have hM := Lib.hid ((Mut.refl [] w).alloc (.cells #[.int .u8 ((48 + n : Nat) : Int)] 5))
    rw [show ((48 + n : Nat) : Int) = 48 + (n : Int) by omega] at hb hM
    have hu : IntKind.u8.wrap (48 + (n : Int)) = 48 + (n : Int) := IntWalk.u8_in _ (by omega)
    generalize strOf [48 + n] = S at *
    clear ih e h
    go_enter Try.func8, Try.ntmps8
    go_wp2_with fail
    exact bodyPost_ret (results_tmp rfl _ _ _) rfl ⟨rfl, hM.out⟩
  · have hI : ¬ (n : Int) < 10 := by omega
    have e : strOf (decs n) = strOf (decs (n / 10)) ++ strOf [48 + n % 10] := by rw [decs, if_neg h, strOf_append]
    obtain ⟨d, hd⟩ : ∃ d, n / 10 = d := ⟨_, rfl⟩
    obtain ⟨m, hm⟩ : ∃ m, n % 10 = m := ⟨_, rfl⟩
    have IH := Lib.hid fun w => ih (n / 10) (by omega) (by omega) w
    have hb := fun w => byte_conv (48 + m) (by omega) w
    rw [hd] at IH
    rw [show ((48 + m : Nat) : Int) = 48 + (m : Int) by omega] at hb
    have hn0 : (0 : Int) ≤ (n : Int) := by omega
    have ht1 : (n : Int).tdiv 10 = (d : Int) := by rw [Int.tdiv_eq_ediv_of_nonneg hn0]; omega
    have ht2 : (n : Int).tmod 10 = (m : Int) := by rw [Int.tmod_eq_emod_of_nonneg hn0]; omega
    have hu : IntKind.u8.wrap (48 + (m : Int)) = 48 + (m : Int) := IntWalk.u8_in _ (by omega)
    have hw1 : IntKind.i64.wrap (48 + (m : Int)) = 48 + (m : Int) := IntWalk.i64_in _ (by omega)
    have hw2 : IntKind.i64.wrap (d : Int) = (d : Int) := IntWalk.i64_in _ (by omega)
    have hb2 : ∀ (W W' : World), Mut [] (W.alloc (.cells #[.int .u8 (48 + (m : Int))] 5)).drew W' → (convert 23 9 (.slice (some ⟨W.heap.size, 0, none⟩) 1 1)).run Try.prog W' = .ok (.string (strOf [48 + m])) W' := fun W W' h => by
      have h1 := (((Mut.refl [] (W.alloc (.cells #[.int .u8 (48 + (m : Int))] 5))).drew).trans' h).get (heap_alloc_new W _) (by simp)
      have h2 := conv_row (P := Try.prog) (w := W') Try.underlying23 Try.underlying5 Try.underlying9 (v := .slice (some ⟨W.heap.size, 0, none⟩) 1 1) (n := 1) (xs := [48 + (m : Int)]) ⟨rfl, .inr ⟨W.heap.size, 1, _, rfl, Nat.zero_le _, h1, Nat.le_refl _, by unfold maxLen; decide, rfl, rfl⟩⟩
      rw [h2]
      have e : (48 + (m : Int)).toNat = 48 + m := by omega
      simp [strOf, e]
    have hsz : (strOf (decs d)).size + (strOf [48 + m]).size ≤ 2147483648 := by
      have := decs_len d
      rw [strOf_size, strOf_size]
      simp
      omega
    rw [e, hd, hm]
    clear ih e h hd hm hn
    generalize strOf [48 + m] = S at *
    generalize strOf (decs d) = S2 at *
    have hb3 := hb2 w _ (Mut.refl [] _)
    have hb4 := hb2 w _ (Mut.refl [] _).drew
    have HB2 := Lib.hid (hb2 w)
    clear hb2
    go_enter Try.func8, Try.ntmps8
    go_wp2_with fail
    go_region_with (go_at_call 8; refine (IH.out _).mono ?_; rintro e w5 ⟨rfl, m5⟩; (first | have hc5 : (convert 23 9 (.slice (some ⟨w.heap.size, 0, none⟩) 1 1)).run Try.prog w5 = .ok (.string S) w5 := HB2.out _ m5 | skip); have M5 := Lib.hid m5; clear m5)
    all_goals (go_wp2_with fail)
    all_goals refine bodyPost_ret (results_tmp rfl _ _ _) rfl ⟨rfl, ?_⟩
    all_goals (first | exact ((((Mut.refl [] w).drew).trans' M5.out).drew.alloc _) | exact ((((Mut.refl [] w).drew).trans' M5.out).alloc _) | exact ((((Mut.refl [] w).alloc _).drew).trans' M5.out).drew | exact ((((Mut.refl [] w).alloc _).drew).trans' M5.out))

end Go.Proofs.Ytekgoldkcmehcaa
