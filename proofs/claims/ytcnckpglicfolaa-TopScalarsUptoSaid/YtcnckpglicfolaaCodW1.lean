/- Walks over package coding: one scalar from the front. -/
import Derived.Test.YtcnckpglicfolaaBase
import Derived.Test.YtcnckpglicfolaaGFa
import Derived.Test.YtcnckpglicfolaaCodQ
import Derived.Deep.LoopGhost
import Derived.Deep.QuietTactic
import Derived.BigQuiet
namespace Go.Proofs.Ytcnckpglicfolaa
open Go.RowKit

theorem mark_any (c : Nat) (hc : c ≤ 4) (w : World) : Calls Try.prog 10 #[.int .i64 (c : Int)] w fun e w' => e = .returned (.string (strOf (markB c))) ∧ w = w' := by
  rcases (show c = 0 ∨ c = 1 ∨ c = 2 ∨ c = 3 ∨ c = 4 by omega) with rfl | rfl | rfl | rfl | rfl
  all_goals
    go_enter Try.func10, Try.ntmps10
    go_wp2
    go_ret
    exact ⟨rfl, rfl⟩

theorem haspi_any (s p : ByteArray) (w : World) :
    Calls Try.prog 18 #[.string s, .string p] w fun e w' => e = .returned (.bool (begins (bytesOf s) (bytesOf p))) ∧ w = w' := by
  by_cases h : p.size ≤ s.size
  · have hsl := fun W => sub_str0 (P := Try.prog) Try.underlying9 W s .i64 (p.size : Int) p.size rfl h
    have hx : ((s.extract 0 p.size).toList == p.toList) = begins (bytesOf s) (bytesOf p) := by
      rw [str_eq_bytes, bytesOf_extract]
      unfold begins
      rw [bytesOf_length]; simp
    have HX := Lib.hid hx
    clear hx
    have hle : (p.size : Int) ≤ (s.size : Int) := by omega
    go_enter Try.func18, Try.ntmps18
    go_wp2
    go_ret
    exact ⟨by rw [← HX.out]; rfl, rfl⟩
  · have hx : begins (bytesOf s) (bytesOf p) = false := by
      unfold begins
      rw [decide_eq_false_iff_not]
      intro e
      have := congrArg List.length e
      rw [List.length_take, bytesOf_length, bytesOf_length] at this
      omega
    have HX := Lib.hid hx
    clear hx
    have hle : ¬ (p.size : Int) ≤ (s.size : Int) := by omega
    go_enter Try.func18, Try.ntmps18
    go_wp2
    go_ret
    exact ⟨by rw [HX.out]; rfl, rfl⟩

theorem hasp_any (s p : ByteArray) (w : World) :
    Calls Try.prog 11 #[.string s, .string p] w fun e w' => e = .returned (.bool (begins (bytesOf s) (bytesOf p))) ∧ w = w' := by
  go_enter Try.func11, Try.ntmps11
  go_wp2_with fail
  refine (haspi_any s p _).mono ?_
  rintro e w1 ⟨rfl, rfl⟩
  go_wp2_with fail
  go_ret
  exact ⟨rfl, rfl⟩

theorem markB_lt (c : Nat) : ∀ x ∈ markB c, x < 256 := by
  unfold markB
  repeat' split
  all_goals simp

theorem hasp_mark (s : ByteArray) (c : Nat) (b : Bool) (hb : begins (bytesOf s) (markB c) = b) (w : World) :
    Calls Try.prog 11 #[.string s, .string (strOf (markB c))] w fun e w' => e = .returned (.bool b) ∧ w = w' := by
  have := hasp_any s (strOf (markB c)) w
  rw [bytesOf_strOf _ (markB_lt c), hb] at this
  exact this

theorem latin_any (s : ByteArray) (hs : 0 < s.size) (w : World) : Calls Try.prog 23 #[.string s] w fun e w' => e = .returned (.tuple #[.int .i64 (dec1 4 (bytesOf s)).1, .int .i64 (dec1 4 (bytesOf s)).2]) ∧ w = w' := by
  have e1 : (((bytesOf s).headD 0 : Nat) : Int) = ((s[0]'hs).toNat : Int) := by
    rw [bytesOf_getD s 0 hs]; simp [List.head?_eq_getElem?]
  have HE := Lib.hid e1
  have hlt := (s[0]'hs).toNat_lt
  clear e1
  go_enter Try.func23, Try.ntmps23
  go_wp2
  go_ret2
  refine ⟨?_, rfl⟩
  show Ending.returned (.tuple #[.int .i64 ((s[0]'hs).toNat : Int), .int .i64 1]) = Ending.returned (.tuple #[.int .i64 (((bytesOf s).headD 0 : Nat) : Int), .int .i64 1])
  rw [HE.out]

theorem shape_ascii (b : Nat) (hb : b < 128) (w : World) : Calls Try.prog 30 #[.int .u8 (b : Int)] w fun e w' => e = .returned (.tuple #[.int .i64 0, .int .u8 0, .int .u8 0, .int .i64 (b : Int)]) ∧ w = w' := by
  have h1 : (b : Int) < 128 := by omega
  go_enter Try.func30, Try.ntmps30
  go_wp2
  refine bodyPost_ret (results_tmp4 rfl _ _ _) rfl ?_
  exact ⟨rfl, rfl⟩

theorem shape_bad (b : Nat) (hb : b < 256) (h : 128 ≤ b ∧ b < 194 ∨ 244 < b) (w : World) : Calls Try.prog 30 #[.int .u8 (b : Int)] w fun e w' => e = .returned (.tuple #[.int .i64 (-1), .int .u8 0, .int .u8 0, .int .i64 0]) ∧ w = w' := by
  rcases h with ⟨h, h'⟩ | h
  · have h1 : ¬ (b : Int) < 128 := by omega
    have h2 : (b : Int) < 194 := by omega
    go_enter Try.func30, Try.ntmps30
    go_wp2
    refine bodyPost_ret (results_tmp4 rfl _ _ _) rfl ?_
    exact ⟨rfl, rfl⟩
  · have h1 : ¬ (b : Int) < 128 := by omega
    have h2 : ¬ (b : Int) < 194 := by omega
    have h3 : (244 : Int) < (b : Int) := by omega
    go_enter Try.func30, Try.ntmps30
    go_wp2
    refine bodyPost_ret (results_tmp4 rfl _ _ _) rfl ?_
    exact ⟨rfl, rfl⟩

set_option maxHeartbeats 800000 in
theorem shape_some (b : Nat) (h : 194 ≤ b) (h' : b ≤ 244) (w : World) : Calls Try.prog 30 #[.int .u8 (b : Int)] w fun e w' => e = .returned (.tuple #[.int .i64 (u8more b : Nat), .int .u8 (u8lo b : Nat), .int .u8 (u8hi b : Nat), .int .i64 (u8bits b : Nat)]) ∧ w = w' := by
  rcases (show b = 224 ∨ b = 237 ∨ b = 240 ∨ b = 244 ∨ (b ≠ 224 ∧ b ≠ 237 ∧ b ≠ 240 ∧ b ≠ 244) by omega) with rfl | rfl | rfl | rfl | ⟨n1, n2, n3, n4⟩
  · go_enter Try.func30, Try.ntmps30
    go_wp2
    refine bodyPost_ret (results_tmp4 rfl _ _ _) rfl ?_
    exact ⟨rfl, rfl⟩
  · go_enter Try.func30, Try.ntmps30
    go_wp2
    refine bodyPost_ret (results_tmp4 rfl _ _ _) rfl ?_
    exact ⟨rfl, rfl⟩
  · go_enter Try.func30, Try.ntmps30
    go_wp2
    refine bodyPost_ret (results_tmp4 rfl _ _ _) rfl ?_
    exact ⟨rfl, rfl⟩
  · go_enter Try.func30, Try.ntmps30
    go_wp2
    refine bodyPost_ret (results_tmp4 rfl _ _ _) rfl ?_
    exact ⟨rfl, rfl⟩
  · have e1 : ((b : Int) == 224) = false := by rw [beq_eq_false_iff_ne]; omega
    have e2 : ((b : Int) == 237) = false := by rw [beq_eq_false_iff_ne]; omega
    have e3 : ((b : Int) == 240) = false := by rw [beq_eq_false_iff_ne]; omega
    have e4 : ((b : Int) == 244) = false := by rw [beq_eq_false_iff_ne]; omega
    have hlo : u8lo b = 128 := by unfold u8lo; rw [if_neg n1, if_neg n3]
    have hhi : u8hi b = 191 := by unfold u8hi; rw [if_neg n2, if_neg n4]
    have HLO := Lib.hid hlo
    have HHI := Lib.hid hhi
    have h1 : ¬ (b : Int) < 128 := by omega
    have h2 : ¬ (b : Int) < 194 := by omega
    have h3 : ¬ (244 : Int) < (b : Int) := by omega
    clear hlo hhi n1 n2 n3 n4
    by_cases b1 : b < 224
    · have hm : u8more b = 1 := by unfold u8more; rw [if_pos b1]
      have hbt : u8bits b = b % 32 := by unfold u8bits; rw [if_pos b1]
      have HM := Lib.hid hm
      have HBT := Lib.hid hbt
      have ha := and_u8_mask b 5 (by omega) (by decide) 31 rfl
      have h4 : (b : Int) < 224 := by omega
      clear hm hbt
      go_enter Try.func30, Try.ntmps30
      go_wp2
      refine bodyPost_ret (results_tmp4 rfl _ _ _) rfl ?_
      exact ⟨by rw [HLO.out, HHI.out, HM.out, HBT.out]; rfl, rfl⟩
    · by_cases b2 : b < 240
      · have hm : u8more b = 2 := by unfold u8more; rw [if_neg b1, if_pos b2]
        have hbt : u8bits b = b % 16 := by unfold u8bits; rw [if_neg b1, if_pos b2]
        have HM := Lib.hid hm
        have HBT := Lib.hid hbt
        have ha := and_u8_mask b 4 (by omega) (by decide) 15 rfl
        have h4 : ¬ (b : Int) < 224 := by omega
        have h5 : (b : Int) < 240 := by omega
        clear hm hbt
        go_enter Try.func30, Try.ntmps30
        go_wp2
        refine bodyPost_ret (results_tmp4 rfl _ _ _) rfl ?_
        exact ⟨by rw [HLO.out, HHI.out, HM.out, HBT.out]; rfl, rfl⟩
      · have hm : u8more b = 3 := by unfold u8more; rw [if_neg b1, if_neg b2]
        have hbt : u8bits b = b % 8 := by unfold u8bits; rw [if_neg b1, if_neg b2]
        have HM := Lib.hid hm
        have HBT := Lib.hid hbt
        have ha := and_u8_mask b 3 (by omega) (by decide) 7 rfl
        have h4 : ¬ (b : Int) < 224 := by omega
        have h5 : ¬ (b : Int) < 240 := by omega
        clear hm hbt
        go_enter Try.func30, Try.ntmps30
        go_wp2
        refine bodyPost_ret (results_tmp4 rfl _ _ _) rfl ?_
        exact ⟨by rw [HLO.out, HHI.out, HM.out, HBT.out]; rfl, rfl⟩

theorem drop_byte (s : ByteArray) (i : Nat) (h : i < s.size) : (bytesOf s).drop i = (s[i]'h).toNat :: (bytesOf s).drop (i + 1) := by
  rw [bytesOf_get s i h, List.drop_eq_getElem_cons]

/-- where utf8's loop stands -/
def U8At (l : List Nat) (m : Nat) (R : Int × Nat) (lo hi v i : Value) (k : Nat) : Prop :=
  ∃ a b c : Nat, lo = .int .u8 (a : Int) ∧ hi = .int .u8 (b : Int) ∧ v = .int .i64 (c : Int) ∧ i = .int .i64 (k : Int) ∧ 1 ≤ k ∧ k ≤ m + 1 ∧ c < 64 ^ k ∧ u8tail (m + 1 - k) k a b c (l.drop k) = R

set_option maxHeartbeats 800000 in
theorem utf8_any (s : ByteArray) (hs0 : 0 < s.size) (hs : s.size ≤ 1152921504606846976) (w : World) :
    Calls Try.prog 19 #[.string s] w fun e w' => e = .returned (.tuple #[.int .i64 (dec1 1 (bytesOf s)).1, .int .i64 ((dec1 1 (bytesOf s)).2 : Nat)]) ∧ w = w' := by
  have hd := drop_byte s 0 hs0
  rw [List.drop_zero] at hd
  have hlt := (s[0]'hs0).toNat_lt
  have h0s : (0 : Int) < (s.size : Int) := by omega
  have HD := Lib.hid hd
  clear hd
  generalize hb : (s[0]'hs0).toNat = b at *
  have HB := Lib.hid hb
  have hbI : ((s[0]'hs0).toNat : Int) = (b : Int) := by rw [hb]
  clear hb
  by_cases h1 : b < 128
  · have HR : Hid (dec1 1 (bytesOf s) = ((b : Int), 1)) := by
      rw [HD.out]; exact Lib.hid (by simp [dec1, u8one, h1])
    go_enter Try.func19, Try.ntmps19
    go_wp2_with fail
    refine (shape_ascii b h1 _).mono ?_
    rintro e w1 ⟨rfl, rfl⟩
    go_wp2_with fail
    go_loop [5, 6, 7, 8] (fun _ _ v i => v = .int .i64 (b : Int) ∧ i = .int .i64 1) (fun _ _ _ _ => 0)
    case atStart => exact ⟨rfl, rfl⟩
    case round =>
      obtain ⟨rfl, rfl⟩ := hrel
      go_wp2_with fail
      go_ret2
      exact ⟨by rw [HR.out]; rfl, rfl⟩
  · by_cases h2 : b < 194 ∨ 244 < b
    · have HR : Hid (dec1 1 (bytesOf s) = (-1, 1)) := by
        rw [HD.out]; exact Lib.hid (by simp only [dec1, u8one, if_true]; rw [if_neg h1, if_pos h2])
      go_enter Try.func19, Try.ntmps19
      go_wp2_with fail
      refine (shape_bad b (by omega) (by omega) _).mono ?_
      rintro e w1 ⟨rfl, rfl⟩
      go_wp2_with fail
      go_ret2
      exact ⟨by rw [HR.out]; rfl, rfl⟩
    · have HR : Hid (u8tail (u8more b + 1 - 1) 1 (u8lo b) (u8hi b) (u8bits b) ((bytesOf s).drop 1) = dec1 1 (bytesOf s)) := by
        have e : dec1 1 (bytesOf s) = u8one (bytesOf s) := rfl
        rw [e, HD.out]
        exact Lib.hid (by simp only [u8one]; rw [if_neg h1, if_neg h2]; rfl)
      have hbits : u8bits b < 64 ^ 1 := by unfold u8bits; split <;> (try split) <;> omega
      have hmore : u8more b ≤ 3 := by unfold u8more; split <;> (try split) <;> omega
      have HBT := Lib.hid hbits
      clear hbits
      generalize dec1 1 (bytesOf s) = R at *
      go_enter Try.func19, Try.ntmps19
      go_wp2_with fail
      refine (shape_some b (by omega) (by omega) _).mono ?_
      rintro e w1 ⟨rfl, rfl⟩
      have hm0 : (0 : Int) ≤ ((u8more b : Nat) : Int) := by omega
      go_wp2_with fail
      generalize u8more b = m at *
      generalize u8lo b = lo0 at *
      generalize u8hi b = hi0 at *
      generalize u8bits b = bits0 at *
      go_loop [5, 6, 7, 8] (fun lo hi v i => ∃ k, U8At (bytesOf s) m R lo hi v i k) (fun _ _ _ i => m + 1 - (intOf i).toNat)
      case atStart => exact ⟨1, lo0, hi0, bits0, rfl, rfl, rfl, rfl, Nat.le_refl _, by omega, HBT.out, HR.out⟩
      case round =>
        obtain ⟨k, a, c, v, rfl, rfl, rfl, rfl, hk1, hk2, hv, ht⟩ := hrel
        by_cases hlt2 : k ≤ m
        · have hv64 : v < 64 ^ 3 := Nat.lt_of_lt_of_le hv (Nat.pow_le_pow_right (by decide) (by omega))
          rw [show m + 1 - k = (m - k) + 1 by omega] at ht
          by_cases hend : s.size ≤ k
          · have hnil : (bytesOf s).drop k = [] := List.drop_eq_nil_of_le (by rw [bytesOf_length]; exact hend)
            rw [hnil] at ht
            have HE : Hid (R = (-1, k)) := by rw [← ht]; exact Lib.hid rfl
            have hendI : (s.size : Int) ≤ (k : Int) := by omega
            clear ht hv hnil HB hbI
            go_wp2_with fail
            go_ret2
            exact ⟨by rw [HE.out]; rfl, rfl⟩
          · have hks : k < s.size := by omega
            have hcons := drop_byte s k hks
            have hx := (s[k]'hks).toNat_lt
            rw [hcons] at ht
            simp only [u8tail] at ht
            have ha := and_u8_mask (s[k]'hks).toNat 6 (by omega) (by decide) 63 rfl
            have hendI : ¬ (s.size : Int) ≤ (k : Int) := by omega
            have HX : Hid ((s[k]'hks).toNat < 256) := hx
            by_cases hlo : (s[k]'hks).toNat < a
            · rw [if_pos (.inl hlo)] at ht
              have HE : Hid (R = (-1, k)) := by rw [← ht]; exact Lib.hid rfl
              have hloI : ((s[k]'hks).toNat : Int) < (a : Int) := by omega
              clear ht hv hcons HB hbI
              go_wp2_with fail
              go_ret2
              exact ⟨by rw [HE.out]; rfl, rfl⟩
            · by_cases hhi : c < (s[k]'hks).toNat
              · rw [if_pos (.inr hhi)] at ht
                have HE : Hid (R = (-1, k)) := by rw [← ht]; exact Lib.hid rfl
                have hloI : ¬ ((s[k]'hks).toNat : Int) < (a : Int) := by omega
                have hhiI : (c : Int) < ((s[k]'hks).toNat : Int) := by omega
                clear ht hv hcons HB hbI
                go_wp2_with fail
                go_ret2
                exact ⟨by rw [HE.out]; rfl, rfl⟩
              · rw [if_neg (by omega)] at ht
                have HE := Lib.hid ht
                have hloI : ¬ ((s[k]'hks).toNat : Int) < (a : Int) := by omega
                have hhiI : ¬ (c : Int) < ((s[k]'hks).toNat : Int) := by omega
                have HV : Hid (v * 64 + (s[k]'hks).toNat % 64 < 64 ^ (k + 1)) := by rw [Nat.pow_succ]; exact Lib.hid (by omega)
                have hor := or_i64_join' 6 ((s[k]'hks).toNat % 64) v (by omega) (by omega)
                have hjoin : bits .or .i64 ((v : Int) * 64) (((s[k]'hks).toNat : Int) % 64) = ((v * 64 + (s[k]'hks).toNat % 64 : Nat) : Int) := by
                  rw [show (v : Int) * 64 = ((v * 2 ^ 6 : Nat) : Int) by omega, show ((s[k]'hks).toNat : Int) % 64 = (((s[k]'hks).toNat % 64 : Nat) : Int) by omega, hor]
                  omega
                clear ht hv hcons HB hbI hor
                go_wp2_with fail
                refine ⟨⟨k + 1, 128, 191, v * 64 + (s[k]'hks).toNat % 64, rfl, rfl, by congr 1, by congr 1, by omega, by omega, HV.out, ?_⟩, ?_⟩
                · rw [show m + 1 - (k + 1) = m - k by omega]; exact HE.out
                · simp only [intOf]; omega
        · have e : k = m + 1 := by omega
          subst e
          rw [Nat.sub_self] at ht
          have HE : Hid (R = ((v : Int), m + 1)) := by rw [← ht]; exact Lib.hid rfl
          clear ht hv
          go_wp2_with fail
          go_ret2
          exact ⟨by rw [HE.out]; rfl, rfl⟩

theorem unit2_at (s : ByteArray) (a : Nat) (big : Bool) (h : a + 1 < s.size) : unit2 big ((bytesOf s).drop a) =
    if big then (((s[a]'(by omega)).toNat * 256 + (s[a + 1]'h).toNat : Nat) : Int) else (((s[a + 1]'h).toNat * 256 + (s[a]'(by omega)).toNat : Nat) : Int) := by
  rw [drop_byte s a (by omega), drop_byte s (a + 1) h]
  rfl

set_option maxHeartbeats 400000 in
set_option maxRecDepth 1000000 in
theorem wide1_any (s : ByteArray) (big : Bool) (a p q : Nat) (w : World) (ha : a ≤ 2) (c1 : w.cell? ⟨p, 0, none⟩ = some (.string s)) (c2 : w.cell? ⟨q, 0, none⟩ = some (.bool big)) :
    Calls Try.prog 31 #[.int .i64 (a : Int), .pointer (some ⟨p, 0, none⟩), .pointer (some ⟨q, 0, none⟩)] w fun e w' => e = .returned (.int .i64 (unit2 big ((bytesOf s).drop a))) ∧ ∃ n, w' = w.drewN n := by
  by_cases h : a + 1 < s.size
  · have hu := unit2_at s a big h
    have HU := Lib.hid hu
    have h0 : ¬ (s.size : Int) ≤ (a : Int) + 1 := by omega
    have h1 := (s[a]'(by omega)).toNat_lt
    have h2 := (s[a + 1]'h).toNat_lt
    have j0 : (0 : Int) ≤ (a : Int) := by omega
    have j1 : (a : Int) < (s.size : Int) := by omega
    have j2 : (a : Int) + 1 < (s.size : Int) := by omega
    have j3 : (0 : Int) ≤ (a : Int) + 1 := by omega
    have w1 : IntKind.i64.wrap ((a : Int) + 1) = (a : Int) + 1 := IntWalk.i64_in _ (by omega)
    have t1 : ((a : Int) + 1).toNat = a + 1 := by omega
    have o1 := or_i64_join' 8 (s[a + 1]'h).toNat (s[a]'(by omega)).toNat (by omega) (by omega)
    have o2 := or_i64_join' 8 (s[a]'(by omega)).toNat (s[a + 1]'h).toNat (by omega) (by omega)
    have r1 : bits .or .i64 (((s[a]'(by omega)).toNat : Int) * 256) ((s[a + 1]'h).toNat : Int) = (((s[a]'(by omega)).toNat * 256 + (s[a + 1]'h).toNat : Nat) : Int) := by
      rw [show ((s[a]'(by omega)).toNat : Int) * 256 = (((s[a]'(by omega)).toNat * 2 ^ 8 : Nat) : Int) by omega, o1]; omega
    have r2 : bits .or .i64 (((s[a + 1]'h).toNat : Int) * 256) ((s[a]'(by omega)).toNat : Int) = (((s[a + 1]'h).toNat * 256 + (s[a]'(by omega)).toNat : Nat) : Int) := by
      rw [show ((s[a + 1]'h).toNat : Int) * 256 = (((s[a + 1]'h).toNat * 2 ^ 8 : Nat) : Int) by omega, o2]; omega
    have R1 := Lib.hid r1
    have R2 := Lib.hid r2
    clear hu o1 o2 r1 r2
    cases big
    · go_enter Try.func31, Try.ntmps31
      go_wp2_with fail
      go_quiet (fail)
      go_wp2_with fail
      go_ret
      refine ⟨?_, _, rfl⟩
      rw [HU.out]
      show Ending.returned (.int .i64 (bits .or .i64 (((s[a + 1]'h).toNat : Int) * 256) ((s[a]'(by omega)).toNat : Int))) = _
      rw [R2.out]; rfl
    · go_enter Try.func31, Try.ntmps31
      go_wp2_with fail
      go_quiet (fail)
      go_wp2_with fail
      go_ret
      refine ⟨?_, _, rfl⟩
      rw [HU.out]
      show Ending.returned (.int .i64 (bits .or .i64 (((s[a]'(by omega)).toNat : Int) * 256) ((s[a + 1]'h).toNat : Int))) = _
      rw [R1.out]; rfl
  · have hu : unit2 big ((bytesOf s).drop a) = -1 := by
      have h2 : ((bytesOf s).drop a).length < 2 := by rw [List.length_drop, bytesOf_length]; omega
      match hd : (bytesOf s).drop a, h2 with
      | [], _ => rfl
      | [_], _ => rfl
      | _ :: _ :: _, h2 => exact absurd h2 (by simp)
    have HU := Lib.hid hu
    have h0 : (s.size : Int) ≤ (a : Int) + 1 := by omega
    clear hu
    go_enter Try.func31, Try.ntmps31
    go_wp2_with fail
    go_ret
    exact ⟨by rw [HU.out]; rfl, 0, rfl⟩

theorem two_boxes (w : World) (x y : Value) (t u : TypeId) :
    ((w.alloc (.cells #[x] t)).alloc (.cells #[y] u)).cell? ⟨w.heap.size, 0, none⟩ = some x ∧ ((w.alloc (.cells #[x] t)).alloc (.cells #[y] u)).cell? ⟨w.heap.size + 1, 0, none⟩ = some y := by
  have h1 := heap_alloc_new w (.cells #[x] t)
  have h2 := heap_alloc_new (w.alloc (.cells #[x] t)) (.cells #[y] u)
  rw [World.size_alloc] at h2
  exact ⟨cellOf (((Mut.refl [] _).alloc _).get h1 (by simp)) 0 rfl, cellOf h2 0 rfl⟩

theorem unit2_rng (big : Bool) (l : List Nat) (hl : ∀ x ∈ l, x < 256) : -1 ≤ unit2 big l ∧ unit2 big l ≤ 65535 := by
  match l, hl with
  | [], _ => show (-1 : Int) ≤ -1 ∧ (-1 : Int) ≤ 65535; exact ⟨by decide, by decide⟩
  | [_], _ => show (-1 : Int) ≤ -1 ∧ (-1 : Int) ≤ 65535; exact ⟨by decide, by decide⟩
  | x :: y :: _, hl =>
    have h1 := hl x (by simp)
    have h2 := hl y (by simp)
    unfold unit2
    cases big
    · simp only [Bool.false_eq_true, if_false]; omega
    · simp only [if_true]; omega

set_option maxHeartbeats 400000 in
set_option maxRecDepth 1000000 in
theorem wide_any (s : ByteArray) (big : Bool) (w : World) :
    Calls Try.prog 21 #[.string s, .bool big] w fun e w' => e = .returned (.tuple #[.int .i64 (wone big (bytesOf s)).1, .int .i64 ((wone big (bytesOf s)).2 : Nat)]) ∧ Mut [] w w' := by
  obtain ⟨c1, c2⟩ := two_boxes w (.string s) (.bool big) 9 4
  have S0 := Lib.hid (((Mut.refl [] w).alloc (.cells #[.string s] 9)).alloc (.cells #[.bool big] 4))
  have hu0 := wide1_any s big 0 w.heap.size (w.heap.size + 1) _ (by omega) c1 c2
  obtain ⟨a1, a2⟩ := unit2_rng big ((bytesOf s).drop 0) (by rw [List.drop_zero]; exact bytesOf_lt s)
  obtain ⟨b1, b2⟩ := unit2_rng big ((bytesOf s).drop 2) (fun x hx => bytesOf_lt s x (List.mem_of_mem_drop hx))
  have HR : Hid (wone big (bytesOf s) = if unit2 big ((bytesOf s).drop 0) < 0 then (-1, 1) else if unit2 big ((bytesOf s).drop 0) < 55296 ∨ 57343 < unit2 big ((bytesOf s).drop 0) then (unit2 big ((bytesOf s).drop 0), 2) else if 56320 ≤ unit2 big ((bytesOf s).drop 0) then (-1, 2) else if unit2 big ((bytesOf s).drop 2) < 56320 ∨ 57343 < unit2 big ((bytesOf s).drop 2) then (-1, 2) else (65536 + (unit2 big ((bytesOf s).drop 0) - 55296) * 1024 + (unit2 big ((bytesOf s).drop 2) - 56320), 4)) := by
    rw [List.drop_zero]; exact Lib.hid rfl
  generalize wone big (bytesOf s) = R at *
  go_enter Try.func21, Try.ntmps21
  go_wp2_with fail
  refine hu0.mono ?_
  rintro e w1 ⟨rfl, q, rfl⟩
  have S1 : Hid (Mut [] w _) := Lib.hid (S0.out.drewN q)
  have c1' := S1.out
  have hu2 := wide1_any s big 2 w.heap.size (w.heap.size + 1) ((((w.alloc (.cells #[.string s] 9)).alloc (.cells #[.bool big] 4))).drewN q) (by omega) c1 c2
  have HU2 := Lib.hid hu2
  clear c1' hu0 hu2 S0
  generalize ((((w.alloc (.cells #[.string s] 9)).alloc (.cells #[.bool big] 4))).drewN q) = W1 at *
  generalize unit2 big ((bytesOf s).drop 0) = A at *
  generalize unit2 big ((bytesOf s).drop 2) = B at *
  clear c1 c2
  by_cases h1 : A < 0
  · have HE : Hid (R = (-1, 1)) := by rw [HR.out, if_pos h1]; exact Lib.hid rfl
    clear HR
    go_wp2_with fail
    go_ret2
    exact ⟨by rw [HE.out]; rfl, S1.out⟩
  · by_cases h2 : A < 55296
    · have HE : Hid (R = (A, 2)) := by rw [HR.out, if_neg h1, if_pos (.inl h2)]; exact Lib.hid rfl
      clear HR
      go_wp2_with fail
      go_ret2
      exact ⟨by rw [HE.out]; rfl, S1.out⟩
    · by_cases h3 : 57343 < A
      · have HE : Hid (R = (A, 2)) := by rw [HR.out, if_neg h1, if_pos (.inr h3)]; exact Lib.hid rfl
        clear HR
        go_wp2_with fail
        go_ret2
        exact ⟨by rw [HE.out]; rfl, S1.out⟩
      · by_cases h4 : 56320 ≤ A
        · have HE : Hid (R = (-1, 2)) := by rw [HR.out, if_neg h1, if_neg (by omega), if_pos h4]; exact Lib.hid rfl
          clear HR
          go_wp2_with fail
          go_ret2
          exact ⟨by rw [HE.out]; rfl, S1.out⟩
        · have HS : Hid (R = if B < 56320 ∨ 57343 < B then (-1, 2) else (65536 + (A - 55296) * 1024 + (B - 56320), 4)) := by rw [HR.out, if_neg h1, if_neg (by omega), if_neg h4]; exact Lib.hid rfl
          clear HR
          go_wp2_with fail
          refine HU2.out.mono ?_
          rintro e w1 ⟨rfl, q2, rfl⟩
          have S2 : Hid (Mut [] w _) := Lib.hid (S1.out.drewN q2)
          generalize W1.drewN q2 = W2 at *
          by_cases h5 : B < 56320
          · have HE : Hid (R = (-1, 2)) := by rw [HS.out, if_pos (.inl h5)]; exact Lib.hid rfl
            clear HS
            go_wp2_with fail
            go_ret2
            exact ⟨by rw [HE.out]; rfl, S2.out⟩
          · by_cases h6 : 57343 < B
            · have HE : Hid (R = (-1, 2)) := by rw [HS.out, if_pos (.inr h6)]; exact Lib.hid rfl
              clear HS
              go_wp2_with fail
              go_ret2
              exact ⟨by rw [HE.out]; rfl, S2.out⟩
            · have HE : Hid (R = (65536 + (A - 55296) * 1024 + (B - 56320), 4)) := by rw [HS.out, if_neg (by omega)]; exact Lib.hid rfl
              clear HS
              go_wp2_with fail
              go_ret2
              refine ⟨?_, S2.out⟩
              rw [HE.out]
              rw [show 65536 + (A - 55296) * 1024 + (B - 56320) = 65536 + (A - 55296) * 1024 + B - 56320 by omega]
              rfl

end Go.Proofs.Ytcnckpglicfolaa
