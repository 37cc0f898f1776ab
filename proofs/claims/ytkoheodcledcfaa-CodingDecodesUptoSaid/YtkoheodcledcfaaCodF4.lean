/- Walks over package ferretref07: one. -/
import Derived.Test.YtkoheodcledcfaaCodF3
namespace Go.Proofs.Ytkoheodcledcfaa
open Go.RowKit

theorem rutf8_any (s : ByteArray) (a : Nat) (ha : a < s.size) (hs : s.size ≤ 16777216) (w : World) :
    Calls Try.prog 39 #[.string s, .int .i64 (a : Int)] w fun e w' => e = .returned (.tuple #[.int .i64 (u8one ((bytesOf s).drop a)).1, .int .i64 ((u8one ((bytesOf s).drop a)).2 : Nat)]) ∧ w = w' := by
  obtain ⟨b, hb⟩ : ∃ b, (s[a]'ha).toNat = b := ⟨_, rfl⟩
  have hl := (s[a]'ha).toNat_lt
  by_cases h1 : b < 194 ∨ 244 < b
  · exact rutf8_ascii s a ha b hb (by omega) w
  · by_cases h2 : b < 224
    · exact rutf8_1 s a ha hs b hb (by omega) (by omega) w
    · by_cases h3 : b < 240
      · exact rutf8_2 s a ha hs b hb (by omega) (by omega) w
      · exact rutf8_3 s a ha hs b hb (by omega) (by omega) w

set_option maxHeartbeats 1600000 in
set_option maxRecDepth 1000000 in
theorem rone_any (s : ByteArray) (a : Nat) (c : Nat) (hc : 1 ≤ c ∧ c ≤ 4) (ha : a < s.size) (hs : s.size ≤ 16777216) (w : World) :
    Calls Try.prog 25 #[.string s, .int .i64 (a : Int), .int .i64 (c : Int)] w fun e w' => e = .returned (.tuple #[.int .i64 (dec1 c ((bytesOf s).drop a)).1, .int .i64 ((dec1 c ((bytesOf s).drop a)).2 : Nat)]) ∧ ∃ n, w' = w.drewN n := by
  have h0 : (a : Int) < (s.size : Int) := by omega
  have h2 : (0 : Int) ≤ (a : Int) := by omega
  rcases (show c = 4 ∨ c = 1 ∨ (c = 2 ∨ c = 3) by omega) with rfl | rfl | hw
  · have e : dec1 4 ((bytesOf s).drop a) = (((s[a]'ha).toNat : Int), 1) := by rw [drop_byte s a ha]; rfl
    rw [e]
    have hz : (((4 : Nat) : Int) == 4) = true := rfl
    have hl := (s[a]'ha).toNat_lt
    have hwb : wrap64 ((s[a]'ha).toNat : Int) = ((s[a]'ha).toNat : Int) := IntWalk.wrap64_in _ (by omega)
    clear e
    go_enter Try.func25, Try.ntmps25
    go_wp2_with fail
    exact bodyPost_ret (results_tmp2 rfl _ _ _) rfl ⟨rfl, 0, rfl⟩
  · have e : dec1 1 ((bytesOf s).drop a) = u8one ((bytesOf s).drop a) := rfl
    rw [e]
    have HU := Lib.hid (rutf8_any s a ha hs w)
    generalize u8one ((bytesOf s).drop a) = R at *
    have hz : (((1 : Nat) : Int) == 4) = false := rfl
    have hz1 : (((1 : Nat) : Int) == 1) = true := rfl
    clear e
    go_enter Try.func25, Try.ntmps25
    go_wp2_with fail
    refine HU.out.mono ?_
    rintro e w1 ⟨rfl, rfl⟩
    go_wp2_with fail
    exact bodyPost_ret (results_tmp2 rfl _ _ _) rfl ⟨rfl, 0, rfl⟩
  · have e : dec1 c ((bytesOf s).drop a) = wone (c == 3) ((bytesOf s).drop a) := by
      rcases hw with rfl | rfl <;> rfl
    rw [e]
    have hz4 : ((c : Int) == 4) = false := by rw [beq_eq_false_iff_ne]; omega
    have hz1 : ((c : Int) == 1) = false := by rw [beq_eq_false_iff_ne]; omega
    have hlen : ((bytesOf s).drop a).length = s.size - a := by rw [List.length_drop, bytesOf_length]
    by_cases h1 : a + 1 < s.size
    · have h1I : ¬ (s.size : Int) ≤ (a : Int) + 1 := by omega
      have hrng := unit2_rng (c == 3) ((bytesOf s).drop a) (fun x hx => bytesOf_lt s x (List.mem_of_mem_drop hx))
      have hnn : ¬ unit2 (c == 3) ((bytesOf s).drop a) < 0 := by rw [unit2_neg, hlen]; omega
      have HU := Lib.hid (fun w => runit_any s a c hw h1 hs w)
      have HV : Hid (∀ (h : a + 3 < s.size) (w : World), Calls Try.prog 40 #[.string s, .int .i64 ((a : Int) + 2), .int .i64 (c : Int)] w fun e w' => e = .returned (.int .i64 (unit2 (c == 3) (((bytesOf s).drop a).drop 2))) ∧ ∃ n, w' = w.drewN n) := Lib.hid fun h w => by
        have := runit_any s (a + 2) c hw (by omega) hs w
        rw [List.drop_drop]
        rw [Int.natCast_add] at this
        exact this
      have hvr := unit2_rng (c == 3) (((bytesOf s).drop a).drop 2) (fun x hx => bytesOf_lt s x (List.mem_of_mem_drop (List.mem_of_mem_drop hx)))
      have hvn : ¬ a + 3 < s.size → unit2 (c == 3) (((bytesOf s).drop a).drop 2) < 0 := fun h => by rw [unit2_neg, List.length_drop, hlen]; omega
      unfold wone
      generalize unit2 (c == 3) ((bytesOf s).drop a) = u at *
      generalize unit2 (c == 3) (((bytesOf s).drop a).drop 2) = v at *
      simp only
      rw [if_neg hnn]
      obtain ⟨hr1, hr2⟩ := hrng
      obtain ⟨hs1, hs2⟩ := hvr
      clear e hlen
      by_cases u1 : u < 55296
      · rw [if_pos (.inl u1)]
        go_enter Try.func25, Try.ntmps25
        go_wp2_with fail
        refine (HU.out w).mono ?_
        rintro e w1 ⟨rfl, n, rfl⟩
        go_wp2_with fail
        exact bodyPost_ret (results_tmp2 rfl _ _ _) rfl ⟨rfl, n, rfl⟩
      · by_cases u2 : 57343 < u
        · rw [if_pos (.inr u2)]
          go_enter Try.func25, Try.ntmps25
          go_wp2_with fail
          refine (HU.out w).mono ?_
          rintro e w1 ⟨rfl, n, rfl⟩
          go_wp2_with fail
          exact bodyPost_ret (results_tmp2 rfl _ _ _) rfl ⟨rfl, n, rfl⟩
        · rw [if_neg (by omega)]
          by_cases u3 : 56320 ≤ u
          · rw [if_pos u3]
            have u3I : ¬ u < 56320 := by omega
            go_enter Try.func25, Try.ntmps25
            go_wp2_with fail
            refine (HU.out w).mono ?_
            rintro e w1 ⟨rfl, n, rfl⟩
            go_wp2_with fail
            exact bodyPost_ret (results_tmp2 rfl _ _ _) rfl ⟨rfl, n, rfl⟩
          · rw [if_neg u3]
            have u3I : u < 56320 := by omega
            by_cases h4 : a + 3 < s.size
            · have h4I : 4 ≤ (s.size : Int) - (a : Int) := by omega
              by_cases v1 : v < 56320
              · rw [if_pos (.inl v1)]
                have v1I : ¬ 56320 ≤ v := by omega
                go_enter Try.func25, Try.ntmps25
                go_wp2_with fail
                refine (HU.out w).mono ?_
                rintro e w1 ⟨rfl, n, rfl⟩
                go_wp2_with fail
                refine (HV.out h4 _).mono ?_
                rintro e w2 ⟨rfl, n2, rfl⟩
                go_wp2_with fail
                exact bodyPost_ret (results_tmp2 rfl _ _ _) rfl ⟨rfl, _, rfl⟩
              · by_cases v2 : 57343 < v
                · rw [if_pos (.inr v2)]
                  have v1I : 56320 ≤ v := by omega
                  have v2I : ¬ v ≤ 57343 := by omega
                  go_enter Try.func25, Try.ntmps25
                  go_wp2_with fail
                  refine (HU.out w).mono ?_
                  rintro e w1 ⟨rfl, n, rfl⟩
                  go_wp2_with fail
                  refine (HV.out h4 _).mono ?_
                  rintro e w2 ⟨rfl, n2, rfl⟩
                  go_wp2_with fail
                  exact bodyPost_ret (results_tmp2 rfl _ _ _) rfl ⟨rfl, _, rfl⟩
                · rw [if_neg (by omega)]
                  have v1I : 56320 ≤ v := by omega
                  have v2I : v ≤ 57343 := by omega
                  have hval : Hid (65536 + (u - 55296) * 1024 + (v - 56320) = 65536 + 1024 * (u - 55296) + v - 56320) := Lib.hid (by omega)
                  go_enter Try.func25, Try.ntmps25
                  go_wp2_with fail
                  refine (HU.out w).mono ?_
                  rintro e w1 ⟨rfl, n, rfl⟩
                  go_wp2_with fail
                  refine (HV.out h4 _).mono ?_
                  rintro e w2 ⟨rfl, n2, rfl⟩
                  go_wp2_with fail
                  exact bodyPost_ret (results_tmp2 rfl _ _ _) rfl ⟨by rw [hval.out]; rfl, _, rfl⟩
            · have h4I : ¬ 4 ≤ (s.size : Int) - (a : Int) := by omega
              rw [if_pos (.inl (by have := hvn h4; omega))]
              go_enter Try.func25, Try.ntmps25
              go_wp2_with fail
              refine (HU.out w).mono ?_
              rintro e w1 ⟨rfl, n, rfl⟩
              go_wp2_with fail
              exact bodyPost_ret (results_tmp2 rfl _ _ _) rfl ⟨rfl, n, rfl⟩
    · have h1I : (s.size : Int) ≤ (a : Int) + 1 := by omega
      have hnn : unit2 (c == 3) ((bytesOf s).drop a) < 0 := by rw [unit2_neg, hlen]; omega
      have e2 : wone (c == 3) ((bytesOf s).drop a) = (-1, 1) := by unfold wone; simp only; rw [if_pos hnn]
      rw [e2]
      clear e e2 hnn hlen
      go_enter Try.func25, Try.ntmps25
      go_wp2_with fail
      exact bodyPost_ret (results_tmp2 rfl _ _ _) rfl ⟨rfl, 0, rfl⟩

end Go.Proofs.Ytkoheodcledcfaa
