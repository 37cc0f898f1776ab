/- Walks over package ferretref07: begins, unit, utf8, one. -/
import Derived.Test.YtkoheodcledcfaaCodW1
import Derived.Deep.DeepCutAuto
import Derived.Deep.LoopGhost
import Derived.BigQuiet
namespace Go.Proofs.Ytkoheodcledcfaa
open Go.RowKit

set_option maxRecDepth 1000000 in
theorem rbegins_any (s p : ByteArray) (w : World) : Calls Try.prog 24 #[.string s, .string p] w fun e w' => e = .returned (.bool (begins (bytesOf s) (bytesOf p))) ∧ w = w' := by
  by_cases h : p.size ≤ s.size
  · have hI : (p.size : Int) ≤ (s.size : Int) := by omega
    have hp0 : (0 : Int) ≤ (p.size : Int) := by omega
    have he : ((s.extract 0 p.size).toList == p.toList) = begins (bytesOf s) (bytesOf p) := by
      rw [str_eq_bytes, bytesOf_extract]
      unfold begins
      rw [bytesOf_length, List.drop_zero]
    generalize begins (bytesOf s) (bytesOf p) = b at *
    go_enter Try.func24, Try.ntmps24
    go_wp2_with fail
    exact bodyPost_ret (results_tmp rfl _ _ _) rfl ⟨rfl, rfl⟩
  · have hI : ¬ (p.size : Int) ≤ (s.size : Int) := by omega
    have hb : begins (bytesOf s) (bytesOf p) = false := by
      unfold begins
      rw [decide_eq_false]
      intro e
      have := congrArg List.length e
      rw [List.length_take, bytesOf_length, bytesOf_length] at this
      omega
    rw [hb]
    go_enter Try.func24, Try.ntmps24
    go_wp2_with fail
    exact bodyPost_ret (results_tmp rfl _ _ _) rfl ⟨rfl, rfl⟩

set_option maxHeartbeats 800000 in
set_option maxRecDepth 1000000 in
theorem runit_any (s : ByteArray) (a : Nat) (c : Nat) (hc : c = 2 ∨ c = 3) (h : a + 1 < s.size) (hs : s.size ≤ 16777216) (w : World) :
    Calls Try.prog 40 #[.string s, .int .i64 (a : Int), .int .i64 (c : Int)] w fun e w' => e = .returned (.int .i64 (unit2 (c == 3) ((bytesOf s).drop a))) ∧ ∃ n, w' = w.drewN n := by
  have hu := unit2_at s a (c == 3) h
  have h0 : (a : Int) < (s.size : Int) := by omega
  have h1 : (a : Int) + 1 < (s.size : Int) := by omega
  have h2 : (0 : Int) ≤ (a : Int) := by omega
  have h3 : (0 : Int) ≤ (a : Int) + 1 := by omega
  have h4 : ((a : Int) + 1).toNat = a + 1 := by omega
  have hw : IntKind.i64.wrap ((a : Int) + 1) = (a : Int) + 1 := IntWalk.i64_in _ (by omega)
  have l0 := (s[a]'(by omega)).toNat_lt
  have l1 := (s[a + 1]'h).toNat_lt
  have w0 : IntKind.i64.wrap ((s[a]'(by omega)).toNat : Int) = ((s[a]'(by omega)).toNat : Int) := IntWalk.i64_in _ (by omega)
  have w1 : IntKind.i64.wrap ((s[a + 1]'h).toNat : Int) = ((s[a + 1]'h).toNat : Int) := IntWalk.i64_in _ (by omega)
  have w2 : IntKind.i64.wrap (256 * ((s[a]'(by omega)).toNat : Int)) = 256 * ((s[a]'(by omega)).toNat : Int) := IntWalk.i64_in _ (by omega)
  have w3 : IntKind.i64.wrap (256 * ((s[a + 1]'h).toNat : Int)) = 256 * ((s[a + 1]'h).toNat : Int) := IntWalk.i64_in _ (by omega)
  have w4 : IntKind.i64.wrap (((s[a]'(by omega)).toNat : Int) + 256 * ((s[a + 1]'h).toNat : Int)) = ((s[a]'(by omega)).toNat : Int) + 256 * ((s[a + 1]'h).toNat : Int) := IntWalk.i64_in _ (by omega)
  have w5 : IntKind.i64.wrap (((s[a + 1]'h).toNat : Int) + 256 * ((s[a]'(by omega)).toNat : Int)) = ((s[a + 1]'h).toNat : Int) + 256 * ((s[a]'(by omega)).toNat : Int) := IntWalk.i64_in _ (by omega)
  rcases hc with rfl | rfl
  · have hz : (((2 : Nat) : Int) == 2) = true := rfl
    have HU : Hid (unit2 (2 == 3) ((bytesOf s).drop a) = ((s[a]'(by omega)).toNat : Int) + 256 * ((s[a + 1]'h).toNat : Int)) := Lib.hid (by rw [hu, if_neg (by decide)]; omega)
    clear hu
    go_enter Try.func40, Try.ntmps40
    go_wp2_with fail
    go_quiet (fail)
    go_wp2_with fail
    exact bodyPost_ret (results_tmp rfl _ _ _) rfl ⟨by rw [HU.out]; rfl, _, rfl⟩
  · have hz : (((3 : Nat) : Int) == 2) = false := rfl
    have HU : Hid (unit2 (3 == 3) ((bytesOf s).drop a) = ((s[a + 1]'h).toNat : Int) + 256 * ((s[a]'(by omega)).toNat : Int)) := Lib.hid (by rw [hu, if_pos (by decide)]; omega)
    clear hu
    go_enter Try.func40, Try.ntmps40
    go_wp2_with fail
    go_quiet (fail)
    go_wp2_with fail
    exact bodyPost_ret (results_tmp rfl _ _ _) rfl ⟨by rw [HU.out]; rfl, _, rfl⟩

def outR (b x : Nat) : Bool := decide (x < u8lo b ∨ u8hi b < x)
theorem outR_t {b x : Nat} (h : ¬ (128 ≤ x ∧ x ≤ 191 ∧ (b = 224 → 160 ≤ x) ∧ (b = 240 → 144 ≤ x) ∧ (b = 237 → x ≤ 159) ∧ (b = 244 → x ≤ 143))) : outR b x = true := by
  unfold outR
  rw [← u8rng] at h
  exact decide_eq_true (Decidable.not_not.1 h)
theorem outR_f {b x : Nat} (h : 128 ≤ x ∧ x ≤ 191 ∧ (b = 224 → 160 ≤ x) ∧ (b = 240 → 144 ≤ x) ∧ (b = 237 → x ≤ 159) ∧ (b = 244 → x ≤ 143)) : outR b x = false := by
  unfold outR
  rw [← u8rng] at h
  exact decide_eq_false h

/-- utf8's loop in the reference: where it stands -/
def R8At (l : List Nat) (m b : Nat) (R : Int × Nat) (v i : Value) (k : Nat) : Prop :=
  ∃ c : Nat, v = .int .i64 (c : Int) ∧ i = .int .i64 (k : Int) ∧ 1 ≤ k ∧ k ≤ m + 1 ∧ c < 64 ^ k ∧ (k = 1 → c = u8bits b) ∧ Hid (u8tail (m + 1 - k) k (if k = 1 then u8lo b else 128) (if k = 1 then u8hi b else 191) c (l.drop k) = R)

set_option maxHeartbeats 800000 in
set_option maxRecDepth 1000000 in
theorem rutf8_ascii (s : ByteArray) (a : Nat) (ha : a < s.size) (b : Nat) (hb : (s[a]'ha).toNat = b) (h : b < 128 ∨ (128 ≤ b ∧ (b < 194 ∨ 244 < b))) (w : World) :
    Calls Try.prog 39 #[.string s, .int .i64 (a : Int)] w fun e w' => e = .returned (.tuple #[.int .i64 (u8one ((bytesOf s).drop a)).1, .int .i64 ((u8one ((bytesOf s).drop a)).2 : Nat)]) ∧ w = w' := by
  have hd := drop_byte s a ha
  rw [hb] at hd
  have h0 : (a : Int) < (s.size : Int) := by omega
  have h2 : (0 : Int) ≤ (a : Int) := by omega
  have hl := (s[a]'ha).toNat_lt
  have hbI : ((s[a]'ha).toNat : Int) = (b : Int) := by rw [hb]
  rcases h with h | ⟨h1, h | h⟩
  · have e : u8one ((bytesOf s).drop a) = ((b : Int), 1) := by rw [hd]; simp only [u8one]; rw [if_pos h]
    rw [e]
    have hI : (b : Int) < 128 := by omega
    clear hd e hb
    go_enter Try.func39, Try.ntmps39
    go_wp2_with fail
    exact bodyPost_ret (results_tmp2 rfl _ _ _) rfl ⟨rfl, rfl⟩
  · have e : u8one ((bytesOf s).drop a) = (-1, 1) := by rw [hd]; simp only [u8one]; rw [if_neg (by omega), if_pos (.inl h)]
    rw [e]
    have i1 : ¬ (b : Int) < 128 := by omega
    have i2 : ¬ 194 ≤ (b : Int) := by omega
    have i3 : ¬ 224 ≤ (b : Int) := by omega
    have i4 : ¬ 240 ≤ (b : Int) := by omega
    clear hd e hb
    go_enter Try.func39, Try.ntmps39
    go_wp2_with fail
    exact bodyPost_ret (results_tmp2 rfl _ _ _) rfl ⟨rfl, rfl⟩
  · have e : u8one ((bytesOf s).drop a) = (-1, 1) := by rw [hd]; simp only [u8one]; rw [if_neg (by omega), if_pos (.inr h)]
    rw [e]
    have i1 : ¬ (b : Int) < 128 := by omega
    have i2 : 194 ≤ (b : Int) := by omega
    have i3 : 224 ≤ (b : Int) := by omega
    have i4 : 240 ≤ (b : Int) := by omega
    have j2 : ¬ (b : Int) ≤ 223 := by omega
    have j3 : ¬ (b : Int) ≤ 239 := by omega
    have j4 : ¬ (b : Int) ≤ 244 := by omega
    clear hd e hb
    go_enter Try.func39, Try.ntmps39
    go_wp2_with fail
    exact bodyPost_ret (results_tmp2 rfl _ _ _) rfl ⟨rfl, rfl⟩

set_option maxHeartbeats 8000000 in
set_option maxRecDepth 1000000 in
theorem rutf8_1 (s : ByteArray) (a : Nat) (ha : a < s.size) (hs : s.size ≤ 16777216) (b : Nat) (hb : (s[a]'ha).toNat = b) (hL : 194 ≤ b) (hH : b ≤ 223) (w : World) :
    Calls Try.prog 39 #[.string s, .int .i64 (a : Int)] w fun e w' => e = .returned (.tuple #[.int .i64 (u8one ((bytesOf s).drop a)).1, .int .i64 ((u8one ((bytesOf s).drop a)).2 : Nat)]) ∧ w = w' := by
  have hd := drop_byte s a ha
  rw [hb] at hd
  have h0 : (a : Int) < (s.size : Int) := by omega
  have h2 : (0 : Int) ≤ (a : Int) := by omega
  have hbI : ((s[a]'ha).toNat : Int) = (b : Int) := by rw [hb]
  have hmore : u8more b = 1 := by unfold u8more; rw [if_pos (by omega)]
  have hbits : u8bits b = b - 192 := by unfold u8bits; rw [if_pos (by omega)]; omega
  have HR : Hid (u8tail (1 + 1 - 1) 1 (if 1 = 1 then u8lo b else 128) (if 1 = 1 then u8hi b else 191) (b - 192) (((bytesOf s).drop a).drop 1) = u8one ((bytesOf s).drop a)) := by
    rw [hd]
    exact Lib.hid (by simp only [u8one]; rw [if_neg (show ¬ b < 128 by omega), if_neg (show ¬ (b < 194 ∨ 244 < b) by omega), hmore, hbits]; rfl)
  have HBT := Lib.hid hbits
  generalize u8one ((bytesOf s).drop a) = R at *
  have i1 : ¬ (b : Int) < 128 := by omega
  have i2 : 194 ≤ (b : Int) := by omega
  have j2 : (b : Int) ≤ 223 := by omega
  have i3 : ¬ 224 ≤ (b : Int) := by omega
  have i4 : ¬ 240 ≤ (b : Int) := by omega
  have hbB : ((b : Int) - 192) = ((b - 192 : Nat) : Int) := by omega
  clear hd hb hmore hbits
  go_enter Try.func39, Try.ntmps39
  go_wp2_with fail
  go_loopw [8, 9] (fun v i wx => Hid (wx = w) ∧ ∃ k, R8At ((bytesOf s).drop a) 1 b R v i k) (fun _ i _ => 1 + 1 - (intOf i).toNat)
  case atStart => exact ⟨Lib.hid (by trivial), 1, b - 192, by rw [← hbB], rfl, Nat.le_refl _, by omega, by omega, fun _ => HBT.out.symm, HR⟩
  case round =>
    obtain ⟨HW, k, v, rfl, rfl, hk1, hk2, hv, hbit, HT⟩ := hrel
    have hw := HW.out
    subst hw
    clear HW
    clear h0 hbI HR
    have hv64 : v < 64 ^ 4 := Nat.lt_of_lt_of_le hv (Nat.pow_le_pow_right (by decide) (by omega))
    by_cases hle : k ≤ 1
    · have hleI : (k : Int) ≤ 1 := by omega
      by_cases hend : s.size ≤ a + k
      · have hnil : ((bytesOf s).drop a).drop k = [] := by rw [List.drop_drop]; exact List.drop_eq_nil_of_le (by rw [bytesOf_length]; exact hend)
        have HE : Hid (R = (-1, k)) := Lib.hid (by rw [← HT.out, hnil, show 1 + 1 - k = (1 - k) + 1 by omega]; rfl)
        have hendI : (s.size : Int) ≤ (a : Int) + (k : Int) := by omega
        clear hv hbit hnil
        go_wp2_with fail
        exact bodyPost_ret (results_tmp2 rfl _ _ _) rfl ⟨by rw [HE.out]; rfl, rfl⟩
      · have hks : a + k < s.size := by omega
        have hcons : ((bytesOf s).drop a).drop k = (s[a + k]'hks).toNat :: ((bytesOf s).drop a).drop (k + 1) := by
          rw [List.drop_drop, drop_byte s (a + k) hks, List.drop_drop]
          rfl
        have hx := (s[a + k]'hks).toNat_lt
        have hendI : ¬ (s.size : Int) ≤ (a : Int) + (k : Int) := by omega
        have hk0 : (0 : Int) ≤ (a : Int) + (k : Int) := by omega
        have hkn : ((a : Int) + (k : Int)).toNat = a + k := by omega
        have ht := HT.out
        rw [hcons, show 1 + 1 - k = (1 - k) + 1 by omega] at ht
        simp only [u8tail] at ht
        obtain ⟨x, hxx⟩ : ∃ x, (s[a + k]'hks).toNat = x := ⟨_, rfl⟩
        rw [hxx] at ht hx
        have hxI : ((s[a + k]'hks).toNat : Int) = (x : Int) := by rw [hxx]
        have hll : 128 ≤ (if k = 1 then u8lo b else 128) := by
          split
          · unfold u8lo
            split <;> (try split) <;> omega
          · omega
        have hhh : (if k = 1 then u8hi b else 191) ≤ 191 := by
          split
          · unfold u8hi
            split <;> (try split) <;> omega
          · omega
        clear HT hcons hxx
        by_cases hlo : x < 128
        · rw [if_pos (.inl (by omega))] at ht
          have HE : Hid (R = (-1, k)) := Lib.hid ht.symm
          have hloI : (x : Int) < 128 := by omega
          clear ht hv hbit hll hhh
          go_wp2_with fail
          exact bodyPost_ret (results_tmp2 rfl _ _ _) rfl ⟨by rw [HE.out]; rfl, rfl⟩
        · by_cases hhi : 191 < x
          · rw [if_pos (.inr (by omega))] at ht
            have HE : Hid (R = (-1, k)) := Lib.hid ht.symm
            have hloI : ¬ (x : Int) < 128 := by omega
            have hhiI : 191 < (x : Int) := by omega
            clear ht hv hbit hll hhh
            go_wp2_with fail
            exact bodyPost_ret (results_tmp2 rfl _ _ _) rfl ⟨by rw [HE.out]; rfl, rfl⟩
          · have hloI : ¬ (x : Int) < 128 := by omega
            have hhiI : ¬ 191 < (x : Int) := by omega
            have HVV : Hid (64 * (v : Int) + (x : Int) - 128 = ((v * 64 + x % 64 : Nat) : Int)) := Lib.hid (by omega)
            have HVB : Hid (v * 64 + x % 64 < 64 ^ (k + 1)) := by rw [Nat.pow_succ]; exact Lib.hid (by omega)
            by_cases hk : k = 1
            · subst hk
              have hvb := hbit rfl
              have HVBI : Hid (v = b - 192) := Lib.hid (by rw [hvb, HBT.out])
              rw [if_pos rfl, if_pos rfl] at ht
              have HTT := Lib.hid ht
              obtain ⟨V, hV⟩ : ∃ V, v * 64 + x % 64 = V := ⟨_, rfl⟩
              have hVb : V = (b - 192) * 64 + (x - 128) := by rw [← hV, HVBI.out]; omega
              rw [hV] at HVV HVB
              have HV := Lib.hid hV
              have HVb := Lib.hid hVb
              have hone : (((1 : Nat) : Int) == 1) = true := rfl
              have hVI := HVV.out
              clear ht hbit hll hhh hvb hV hv hVb
              go_wp2_with fail
              go_loopw [11, 12, 13] (fun lo hi ii wx => Hid (wx = wr) ∧ ∃ (L M : Int) (i : Nat), lo = .int .i64 L ∧ hi = .int .i64 M ∧ ii = .int .i64 (i : Int) ∧ 1 ≤ i ∧ i ≤ 1 ∧ ((i = 1 ∧ L = V ∧ M = V) ∨ (i = 2 ∧ L = 64 * V ∧ M = 64 * V + 63) ∨ (i = 3 ∧ L = 4096 * V ∧ M = 4096 * V + 4095))) (fun _ _ ii _ => 1 - (intOf ii).toNat)
              case atStart => exact ⟨Lib.hid (by trivial), (V : Int), (V : Int), 1, rfl, rfl, rfl, by omega, by omega, .inl ⟨rfl, rfl, rfl⟩⟩
              case round =>
                obtain ⟨HW2, L, M, i, rfl, rfl, rfl, hi1, hi2, hLM⟩ := hrel
                have hw2 := HW2.out
                subst hw2
                clear HW2
                have hVl : V ≤ 4095 := by have := HVB.out; omega
                by_cases him : i < 1
                · have himI : (i : Int) < 1 := by omega
                  have HLM := Lib.hid hLM
                  have hL0 : 0 ≤ L ∧ L ≤ 262144 := by omega
                  have hM0 : 0 ≤ M ∧ M ≤ 262144 := by omega
                  obtain ⟨hL1, hL2⟩ := hL0
                  obtain ⟨hM1, hM2⟩ := hM0
                  clear hLM
                  go_wp2_with fail
                  exact ⟨⟨Lib.hid (by trivial), 64 * L, 64 * M + 63, i + 1, rfl, rfl, by rw [Int.natCast_add]; rfl, by omega, by omega, by have := HLM.out; omega⟩, by simp only [intOf]; omega⟩
                · have ei : i = 1 := by omega
                  subst ei
                  have himI : ¬ (((1 : Nat) : Int) < 1) := by omega
                  obtain ⟨hLe, hMe⟩ : L = (V : Int) ∧ M = (V : Int) := by omega
                  have HLe := Lib.hid hLe
                  have HMe := Lib.hid hMe
                  clear hLM hLe hMe
                  have hm2 : (((1 : Nat) : Int) == 2) = false := rfl
                  have hm3 : (((1 : Nat) : Int) == 3) = false := rfl
                  have hVI2 := Lib.hid hVI
                  clear hVI
                  clear i1 i2 h2 hk1 hk2 hle hi1 hi2 hv64 hx hend
                  go_upto_region 29 with fail
                  go_cut [116] (fun y wx => y = .bool (outR b x) ∧ wx = wr)
                  case first =>
                    have HOF : Hid (outR b x = false) := Lib.hid (outR_f (by have := HLe.out; have := HMe.out; have := HVb.out; omega))
                    have q1 : ¬ 55296 ≤ L := by have := HLe.out; have := HVb.out; omega
                    go_wp2_with fail
                    go_meet
                    exact ⟨by rw [HOF.out], rfl⟩
                  case rest =>
                    obtain ⟨rfl, rfl⟩ := hcut
                    cases hob : outR b x
                    · have hin : ¬ (x < u8lo b ∨ u8hi b < x) := by unfold outR at hob; exact of_decide_eq_false hob
                      have HE : Hid (u8tail (1 - 1) (1 + 1) 128 191 V (((bytesOf s).drop a).drop (1 + 1)) = R) := Lib.hid (by have h := HTT.out; rw [if_neg hin, HV.out] at h; exact h)
                      clear hob hin
                      go_wp2_with fail
                      refine ⟨⟨Lib.hid (by trivial), 2, V, rfl, rfl, by omega, by omega, HVB.out, fun h => by omega, Lib.hid ?_⟩, by simp only [intOf]; omega⟩
                      rw [if_neg (by decide), if_neg (by decide)]
                      exact HE.out
                    · have hin : x < u8lo b ∨ u8hi b < x := by unfold outR at hob; exact of_decide_eq_true hob
                      have HE : Hid (R = (-1, 1)) := Lib.hid (by have h := HTT.out; rw [if_pos hin] at h; exact h.symm)
                      clear hob hin
                      go_wp2_with fail
                      exact bodyPost_ret (results_tmp2 rfl _ _ _) rfl ⟨by rw [HE.out]; rfl, rfl⟩
            · have ek : (k : Int) ≠ 1 := by omega
              have hkb : ((k : Int) == 1) = false := by rw [beq_eq_false_iff_ne]; exact ek
              rw [if_neg hk, if_neg hk, if_neg (by omega)] at ht
              have HTT := Lib.hid ht
              have hVI := HVV.out
              clear ht hbit hll hhh hv ek
              go_wp2_with fail
              refine ⟨⟨Lib.hid (by trivial), k + 1, v * 64 + x % 64, rfl, by rw [Int.natCast_add]; rfl, by omega, by omega, HVB.out, fun h => by omega, Lib.hid ?_⟩, by simp only [intOf]; omega⟩
              rw [if_neg (by omega), if_neg (by omega), show 1 + 1 - (k + 1) = 1 - k by omega]
              exact HTT.out
    · have e : k = 1 + 1 := by omega
      subst e
      have HE : Hid (R = ((v : Int), 1 + 1)) := Lib.hid (by rw [← HT.out]; rfl)
      clear hv hbit HT
      go_wp2_with fail
      exact bodyPost_ret (results_tmp2 rfl _ _ _) rfl ⟨by rw [HE.out]; rfl, rfl⟩

set_option maxHeartbeats 8000000 in
set_option maxRecDepth 1000000 in
theorem rutf8_2 (s : ByteArray) (a : Nat) (ha : a < s.size) (hs : s.size ≤ 16777216) (b : Nat) (hb : (s[a]'ha).toNat = b) (hL : 224 ≤ b) (hH : b ≤ 239) (w : World) :
    Calls Try.prog 39 #[.string s, .int .i64 (a : Int)] w fun e w' => e = .returned (.tuple #[.int .i64 (u8one ((bytesOf s).drop a)).1, .int .i64 ((u8one ((bytesOf s).drop a)).2 : Nat)]) ∧ w = w' := by
  have hd := drop_byte s a ha
  rw [hb] at hd
  have h0 : (a : Int) < (s.size : Int) := by omega
  have h2 : (0 : Int) ≤ (a : Int) := by omega
  have hbI : ((s[a]'ha).toNat : Int) = (b : Int) := by rw [hb]
  have hmore : u8more b = 2 := by unfold u8more; rw [if_neg (by omega), if_pos (by omega)]
  have hbits : u8bits b = b - 224 := by unfold u8bits; rw [if_neg (by omega), if_pos (by omega)]; omega
  have HR : Hid (u8tail (2 + 1 - 1) 1 (if 1 = 1 then u8lo b else 128) (if 1 = 1 then u8hi b else 191) (b - 224) (((bytesOf s).drop a).drop 1) = u8one ((bytesOf s).drop a)) := by
    rw [hd]
    exact Lib.hid (by simp only [u8one]; rw [if_neg (show ¬ b < 128 by omega), if_neg (show ¬ (b < 194 ∨ 244 < b) by omega), hmore, hbits]; rfl)
  have HBT := Lib.hid hbits
  generalize u8one ((bytesOf s).drop a) = R at *
  have i1 : ¬ (b : Int) < 128 := by omega
  have i2 : 194 ≤ (b : Int) := by omega
  have j2 : ¬ (b : Int) ≤ 223 := by omega
  have i3 : 224 ≤ (b : Int) := by omega
  have j3 : (b : Int) ≤ 239 := by omega
  have i4 : ¬ 240 ≤ (b : Int) := by omega
  have hbB : ((b : Int) - 224) = ((b - 224 : Nat) : Int) := by omega
  clear hd hb hmore hbits
  go_enter Try.func39, Try.ntmps39
  go_wp2_with fail
  go_loopw [8, 9] (fun v i wx => Hid (wx = w) ∧ ∃ k, R8At ((bytesOf s).drop a) 2 b R v i k) (fun _ i _ => 2 + 1 - (intOf i).toNat)
  case atStart => exact ⟨Lib.hid (by trivial), 1, b - 224, by rw [← hbB], rfl, Nat.le_refl _, by omega, by omega, fun _ => HBT.out.symm, HR⟩
  case round =>
    obtain ⟨HW, k, v, rfl, rfl, hk1, hk2, hv, hbit, HT⟩ := hrel
    have hw := HW.out
    subst hw
    clear HW
    clear h0 hbI HR
    have hv64 : v < 64 ^ 4 := Nat.lt_of_lt_of_le hv (Nat.pow_le_pow_right (by decide) (by omega))
    by_cases hle : k ≤ 2
    · have hleI : (k : Int) ≤ 2 := by omega
      by_cases hend : s.size ≤ a + k
      · have hnil : ((bytesOf s).drop a).drop k = [] := by rw [List.drop_drop]; exact List.drop_eq_nil_of_le (by rw [bytesOf_length]; exact hend)
        have HE : Hid (R = (-1, k)) := Lib.hid (by rw [← HT.out, hnil, show 2 + 1 - k = (2 - k) + 1 by omega]; rfl)
        have hendI : (s.size : Int) ≤ (a : Int) + (k : Int) := by omega
        clear hv hbit hnil
        go_wp2_with fail
        exact bodyPost_ret (results_tmp2 rfl _ _ _) rfl ⟨by rw [HE.out]; rfl, rfl⟩
      · have hks : a + k < s.size := by omega
        have hcons : ((bytesOf s).drop a).drop k = (s[a + k]'hks).toNat :: ((bytesOf s).drop a).drop (k + 1) := by
          rw [List.drop_drop, drop_byte s (a + k) hks, List.drop_drop]
          rfl
        have hx := (s[a + k]'hks).toNat_lt
        have hendI : ¬ (s.size : Int) ≤ (a : Int) + (k : Int) := by omega
        have hk0 : (0 : Int) ≤ (a : Int) + (k : Int) := by omega
        have hkn : ((a : Int) + (k : Int)).toNat = a + k := by omega
        have ht := HT.out
        rw [hcons, show 2 + 1 - k = (2 - k) + 1 by omega] at ht
        simp only [u8tail] at ht
        obtain ⟨x, hxx⟩ : ∃ x, (s[a + k]'hks).toNat = x := ⟨_, rfl⟩
        rw [hxx] at ht hx
        have hxI : ((s[a + k]'hks).toNat : Int) = (x : Int) := by rw [hxx]
        have hll : 128 ≤ (if k = 1 then u8lo b else 128) := by
          split
          · unfold u8lo
            split <;> (try split) <;> omega
          · omega
        have hhh : (if k = 1 then u8hi b else 191) ≤ 191 := by
          split
          · unfold u8hi
            split <;> (try split) <;> omega
          · omega
        clear HT hcons hxx
        by_cases hlo : x < 128
        · rw [if_pos (.inl (by omega))] at ht
          have HE : Hid (R = (-1, k)) := Lib.hid ht.symm
          have hloI : (x : Int) < 128 := by omega
          clear ht hv hbit hll hhh
          go_wp2_with fail
          exact bodyPost_ret (results_tmp2 rfl _ _ _) rfl ⟨by rw [HE.out]; rfl, rfl⟩
        · by_cases hhi : 191 < x
          · rw [if_pos (.inr (by omega))] at ht
            have HE : Hid (R = (-1, k)) := Lib.hid ht.symm
            have hloI : ¬ (x : Int) < 128 := by omega
            have hhiI : 191 < (x : Int) := by omega
            clear ht hv hbit hll hhh
            go_wp2_with fail
            exact bodyPost_ret (results_tmp2 rfl _ _ _) rfl ⟨by rw [HE.out]; rfl, rfl⟩
          · have hloI : ¬ (x : Int) < 128 := by omega
            have hhiI : ¬ 191 < (x : Int) := by omega
            have HVV : Hid (64 * (v : Int) + (x : Int) - 128 = ((v * 64 + x % 64 : Nat) : Int)) := Lib.hid (by omega)
            have HVB : Hid (v * 64 + x % 64 < 64 ^ (k + 1)) := by rw [Nat.pow_succ]; exact Lib.hid (by omega)
            by_cases hk : k = 1
            · subst hk
              have hvb := hbit rfl
              have HVBI : Hid (v = b - 224) := Lib.hid (by rw [hvb, HBT.out])
              rw [if_pos rfl, if_pos rfl] at ht
              have HTT := Lib.hid ht
              obtain ⟨V, hV⟩ : ∃ V, v * 64 + x % 64 = V := ⟨_, rfl⟩
              have hVb : V = (b - 224) * 64 + (x - 128) := by rw [← hV, HVBI.out]; omega
              rw [hV] at HVV HVB
              have HV := Lib.hid hV
              have HVb := Lib.hid hVb
              have hone : (((1 : Nat) : Int) == 1) = true := rfl
              have hVI := HVV.out
              clear ht hbit hll hhh hvb hV hv hVb
              go_wp2_with fail
              go_loopw [11, 12, 13] (fun lo hi ii wx => Hid (wx = wr) ∧ ∃ (L M : Int) (i : Nat), lo = .int .i64 L ∧ hi = .int .i64 M ∧ ii = .int .i64 (i : Int) ∧ 1 ≤ i ∧ i ≤ 2 ∧ ((i = 1 ∧ L = V ∧ M = V) ∨ (i = 2 ∧ L = 64 * V ∧ M = 64 * V + 63) ∨ (i = 3 ∧ L = 4096 * V ∧ M = 4096 * V + 4095))) (fun _ _ ii _ => 2 - (intOf ii).toNat)
              case atStart => exact ⟨Lib.hid (by trivial), (V : Int), (V : Int), 1, rfl, rfl, rfl, by omega, by omega, .inl ⟨rfl, rfl, rfl⟩⟩
              case round =>
                obtain ⟨HW2, L, M, i, rfl, rfl, rfl, hi1, hi2, hLM⟩ := hrel
                have hw2 := HW2.out
                subst hw2
                clear HW2
                have hVl : V ≤ 4095 := by have := HVB.out; omega
                by_cases him : i < 2
                · have himI : (i : Int) < 2 := by omega
                  have HLM := Lib.hid hLM
                  have hL0 : 0 ≤ L ∧ L ≤ 262144 := by omega
                  have hM0 : 0 ≤ M ∧ M ≤ 262144 := by omega
                  obtain ⟨hL1, hL2⟩ := hL0
                  obtain ⟨hM1, hM2⟩ := hM0
                  clear hLM
                  go_wp2_with fail
                  exact ⟨⟨Lib.hid (by trivial), 64 * L, 64 * M + 63, i + 1, rfl, rfl, by rw [Int.natCast_add]; rfl, by omega, by omega, by have := HLM.out; omega⟩, by simp only [intOf]; omega⟩
                · have ei : i = 2 := by omega
                  subst ei
                  have himI : ¬ (((2 : Nat) : Int) < 2) := by omega
                  obtain ⟨hLe, hMe⟩ : L = (64 * V : Int) ∧ M = (64 * V + 63 : Int) := by omega
                  have HLe := Lib.hid hLe
                  have HMe := Lib.hid hMe
                  clear hLM hLe hMe
                  have hm2 : (((2 : Nat) : Int) == 2) = true := rfl
                  have hm3 : (((2 : Nat) : Int) == 3) = false := rfl
                  have hVI2 := Lib.hid hVI
                  clear hVI
                  clear i1 i2 h2 hk1 hk2 hle hi1 hi2 hv64 hx hend
                  go_upto_region 29 with fail
                  go_cut [116] (fun y wx => y = .bool (outR b x) ∧ wx = wr)
                  case first =>
                    by_cases q1 : M < 2048
                    · have HOT : Hid (outR b x = true) := Lib.hid (outR_t (by have := HLe.out; have := HMe.out; have := HVb.out; omega))
                      go_wp2_with fail
                      go_meet
                      exact ⟨by rw [HOT.out], rfl⟩
                    · by_cases q2 : 55296 ≤ L
                      · by_cases q3 : M ≤ 57343
                        · have HOT : Hid (outR b x = true) := Lib.hid (outR_t (by have := HLe.out; have := HMe.out; have := HVb.out; omega))
                          go_wp2_with fail
                          go_meet
                          exact ⟨by rw [HOT.out], rfl⟩
                        · have HOF : Hid (outR b x = false) := Lib.hid (outR_f (by have := HLe.out; have := HMe.out; have := HVb.out; omega))
                          go_wp2_with fail
                          go_meet
                          exact ⟨by rw [HOF.out], rfl⟩
                      · have HOF : Hid (outR b x = false) := Lib.hid (outR_f (by have := HLe.out; have := HMe.out; have := HVb.out; omega))
                        go_wp2_with fail
                        go_meet
                        exact ⟨by rw [HOF.out], rfl⟩
                  case rest =>
                    obtain ⟨rfl, rfl⟩ := hcut
                    cases hob : outR b x
                    · have hin : ¬ (x < u8lo b ∨ u8hi b < x) := by unfold outR at hob; exact of_decide_eq_false hob
                      have HE : Hid (u8tail (2 - 1) (1 + 1) 128 191 V (((bytesOf s).drop a).drop (1 + 1)) = R) := Lib.hid (by have h := HTT.out; rw [if_neg hin, HV.out] at h; exact h)
                      clear hob hin
                      go_wp2_with fail
                      refine ⟨⟨Lib.hid (by trivial), 2, V, rfl, rfl, by omega, by omega, HVB.out, fun h => by omega, Lib.hid ?_⟩, by simp only [intOf]; omega⟩
                      rw [if_neg (by decide), if_neg (by decide)]
                      exact HE.out
                    · have hin : x < u8lo b ∨ u8hi b < x := by unfold outR at hob; exact of_decide_eq_true hob
                      have HE : Hid (R = (-1, 1)) := Lib.hid (by have h := HTT.out; rw [if_pos hin] at h; exact h.symm)
                      clear hob hin
                      go_wp2_with fail
                      exact bodyPost_ret (results_tmp2 rfl _ _ _) rfl ⟨by rw [HE.out]; rfl, rfl⟩
            · have ek : (k : Int) ≠ 1 := by omega
              have hkb : ((k : Int) == 1) = false := by rw [beq_eq_false_iff_ne]; exact ek
              rw [if_neg hk, if_neg hk, if_neg (by omega)] at ht
              have HTT := Lib.hid ht
              have hVI := HVV.out
              clear ht hbit hll hhh hv ek
              go_wp2_with fail
              refine ⟨⟨Lib.hid (by trivial), k + 1, v * 64 + x % 64, rfl, by rw [Int.natCast_add]; rfl, by omega, by omega, HVB.out, fun h => by omega, Lib.hid ?_⟩, by simp only [intOf]; omega⟩
              rw [if_neg (by omega), if_neg (by omega), show 2 + 1 - (k + 1) = 2 - k by omega]
              exact HTT.out
    · have e : k = 2 + 1 := by omega
      subst e
      have HE : Hid (R = ((v : Int), 2 + 1)) := Lib.hid (by rw [← HT.out]; rfl)
      clear hv hbit HT
      go_wp2_with fail
      exact bodyPost_ret (results_tmp2 rfl _ _ _) rfl ⟨by rw [HE.out]; rfl, rfl⟩

set_option maxHeartbeats 8000000 in
set_option maxRecDepth 1000000 in
theorem rutf8_3 (s : ByteArray) (a : Nat) (ha : a < s.size) (hs : s.size ≤ 16777216) (b : Nat) (hb : (s[a]'ha).toNat = b) (hL : 240 ≤ b) (hH : b ≤ 244) (w : World) :
    Calls Try.prog 39 #[.string s, .int .i64 (a : Int)] w fun e w' => e = .returned (.tuple #[.int .i64 (u8one ((bytesOf s).drop a)).1, .int .i64 ((u8one ((bytesOf s).drop a)).2 : Nat)]) ∧ w = w' := by
  have hd := drop_byte s a ha
  rw [hb] at hd
  have h0 : (a : Int) < (s.size : Int) := by omega
  have h2 : (0 : Int) ≤ (a : Int) := by omega
  have hbI : ((s[a]'ha).toNat : Int) = (b : Int) := by rw [hb]
  have hmore : u8more b = 3 := by unfold u8more; rw [if_neg (by omega), if_neg (by omega)]
  have hbits : u8bits b = b - 240 := by unfold u8bits; rw [if_neg (by omega), if_neg (by omega)]; omega
  have HR : Hid (u8tail (3 + 1 - 1) 1 (if 1 = 1 then u8lo b else 128) (if 1 = 1 then u8hi b else 191) (b - 240) (((bytesOf s).drop a).drop 1) = u8one ((bytesOf s).drop a)) := by
    rw [hd]
    exact Lib.hid (by simp only [u8one]; rw [if_neg (show ¬ b < 128 by omega), if_neg (show ¬ (b < 194 ∨ 244 < b) by omega), hmore, hbits]; rfl)
  have HBT := Lib.hid hbits
  generalize u8one ((bytesOf s).drop a) = R at *
  have i1 : ¬ (b : Int) < 128 := by omega
  have i2 : 194 ≤ (b : Int) := by omega
  have j2 : ¬ (b : Int) ≤ 223 := by omega
  have i3 : 224 ≤ (b : Int) := by omega
  have j3 : ¬ (b : Int) ≤ 239 := by omega
  have i4 : 240 ≤ (b : Int) := by omega
  have j4 : (b : Int) ≤ 244 := by omega
  have hbB : ((b : Int) - 240) = ((b - 240 : Nat) : Int) := by omega
  clear hd hb hmore hbits
  go_enter Try.func39, Try.ntmps39
  go_wp2_with fail
  go_loopw [8, 9] (fun v i wx => Hid (wx = w) ∧ ∃ k, R8At ((bytesOf s).drop a) 3 b R v i k) (fun _ i _ => 3 + 1 - (intOf i).toNat)
  case atStart => exact ⟨Lib.hid (by trivial), 1, b - 240, by rw [← hbB], rfl, Nat.le_refl _, by omega, by omega, fun _ => HBT.out.symm, HR⟩
  case round =>
    obtain ⟨HW, k, v, rfl, rfl, hk1, hk2, hv, hbit, HT⟩ := hrel
    have hw := HW.out
    subst hw
    clear HW
    clear h0 hbI HR
    have hv64 : v < 64 ^ 4 := Nat.lt_of_lt_of_le hv (Nat.pow_le_pow_right (by decide) (by omega))
    by_cases hle : k ≤ 3
    · have hleI : (k : Int) ≤ 3 := by omega
      by_cases hend : s.size ≤ a + k
      · have hnil : ((bytesOf s).drop a).drop k = [] := by rw [List.drop_drop]; exact List.drop_eq_nil_of_le (by rw [bytesOf_length]; exact hend)
        have HE : Hid (R = (-1, k)) := Lib.hid (by rw [← HT.out, hnil, show 3 + 1 - k = (3 - k) + 1 by omega]; rfl)
        have hendI : (s.size : Int) ≤ (a : Int) + (k : Int) := by omega
        clear hv hbit hnil
        go_wp2_with fail
        exact bodyPost_ret (results_tmp2 rfl _ _ _) rfl ⟨by rw [HE.out]; rfl, rfl⟩
      · have hks : a + k < s.size := by omega
        have hcons : ((bytesOf s).drop a).drop k = (s[a + k]'hks).toNat :: ((bytesOf s).drop a).drop (k + 1) := by
          rw [List.drop_drop, drop_byte s (a + k) hks, List.drop_drop]
          rfl
        have hx := (s[a + k]'hks).toNat_lt
        have hendI : ¬ (s.size : Int) ≤ (a : Int) + (k : Int) := by omega
        have hk0 : (0 : Int) ≤ (a : Int) + (k : Int) := by omega
        have hkn : ((a : Int) + (k : Int)).toNat = a + k := by omega
        have ht := HT.out
        rw [hcons, show 3 + 1 - k = (3 - k) + 1 by omega] at ht
        simp only [u8tail] at ht
        obtain ⟨x, hxx⟩ : ∃ x, (s[a + k]'hks).toNat = x := ⟨_, rfl⟩
        rw [hxx] at ht hx
        have hxI : ((s[a + k]'hks).toNat : Int) = (x : Int) := by rw [hxx]
        have hll : 128 ≤ (if k = 1 then u8lo b else 128) := by
          split
          · unfold u8lo
            split <;> (try split) <;> omega
          · omega
        have hhh : (if k = 1 then u8hi b else 191) ≤ 191 := by
          split
          · unfold u8hi
            split <;> (try split) <;> omega
          · omega
        clear HT hcons hxx
        by_cases hlo : x < 128
        · rw [if_pos (.inl (by omega))] at ht
          have HE : Hid (R = (-1, k)) := Lib.hid ht.symm
          have hloI : (x : Int) < 128 := by omega
          clear ht hv hbit hll hhh
          go_wp2_with fail
          exact bodyPost_ret (results_tmp2 rfl _ _ _) rfl ⟨by rw [HE.out]; rfl, rfl⟩
        · by_cases hhi : 191 < x
          · rw [if_pos (.inr (by omega))] at ht
            have HE : Hid (R = (-1, k)) := Lib.hid ht.symm
            have hloI : ¬ (x : Int) < 128 := by omega
            have hhiI : 191 < (x : Int) := by omega
            clear ht hv hbit hll hhh
            go_wp2_with fail
            exact bodyPost_ret (results_tmp2 rfl _ _ _) rfl ⟨by rw [HE.out]; rfl, rfl⟩
          · have hloI : ¬ (x : Int) < 128 := by omega
            have hhiI : ¬ 191 < (x : Int) := by omega
            have HVV : Hid (64 * (v : Int) + (x : Int) - 128 = ((v * 64 + x % 64 : Nat) : Int)) := Lib.hid (by omega)
            have HVB : Hid (v * 64 + x % 64 < 64 ^ (k + 1)) := by rw [Nat.pow_succ]; exact Lib.hid (by omega)
            by_cases hk : k = 1
            · subst hk
              have hvb := hbit rfl
              have HVBI : Hid (v = b - 240) := Lib.hid (by rw [hvb, HBT.out])
              rw [if_pos rfl, if_pos rfl] at ht
              have HTT := Lib.hid ht
              obtain ⟨V, hV⟩ : ∃ V, v * 64 + x % 64 = V := ⟨_, rfl⟩
              have hVb : V = (b - 240) * 64 + (x - 128) := by rw [← hV, HVBI.out]; omega
              rw [hV] at HVV HVB
              have HV := Lib.hid hV
              have HVb := Lib.hid hVb
              have hone : (((1 : Nat) : Int) == 1) = true := rfl
              have hVI := HVV.out
              clear ht hbit hll hhh hvb hV hv hVb
              go_wp2_with fail
              go_loopw [11, 12, 13] (fun lo hi ii wx => Hid (wx = wr) ∧ ∃ (L M : Int) (i : Nat), lo = .int .i64 L ∧ hi = .int .i64 M ∧ ii = .int .i64 (i : Int) ∧ 1 ≤ i ∧ i ≤ 3 ∧ ((i = 1 ∧ L = V ∧ M = V) ∨ (i = 2 ∧ L = 64 * V ∧ M = 64 * V + 63) ∨ (i = 3 ∧ L = 4096 * V ∧ M = 4096 * V + 4095))) (fun _ _ ii _ => 3 - (intOf ii).toNat)
              case atStart => exact ⟨Lib.hid (by trivial), (V : Int), (V : Int), 1, rfl, rfl, rfl, by omega, by omega, .inl ⟨rfl, rfl, rfl⟩⟩
              case round =>
                obtain ⟨HW2, L, M, i, rfl, rfl, rfl, hi1, hi2, hLM⟩ := hrel
                have hw2 := HW2.out
                subst hw2
                clear HW2
                have hVl : V ≤ 4095 := by have := HVB.out; omega
                by_cases him : i < 3
                · have himI : (i : Int) < 3 := by omega
                  have HLM := Lib.hid hLM
                  have hL0 : 0 ≤ L ∧ L ≤ 262144 := by omega
                  have hM0 : 0 ≤ M ∧ M ≤ 262144 := by omega
                  obtain ⟨hL1, hL2⟩ := hL0
                  obtain ⟨hM1, hM2⟩ := hM0
                  clear hLM
                  go_wp2_with fail
                  exact ⟨⟨Lib.hid (by trivial), 64 * L, 64 * M + 63, i + 1, rfl, rfl, by rw [Int.natCast_add]; rfl, by omega, by omega, by have := HLM.out; omega⟩, by simp only [intOf]; omega⟩
                · have ei : i = 3 := by omega
                  subst ei
                  have himI : ¬ (((3 : Nat) : Int) < 3) := by omega
                  obtain ⟨hLe, hMe⟩ : L = (4096 * V : Int) ∧ M = (4096 * V + 4095 : Int) := by omega
                  have HLe := Lib.hid hLe
                  have HMe := Lib.hid hMe
                  clear hLM hLe hMe
                  have hm2 : (((3 : Nat) : Int) == 2) = false := rfl
                  have hm3 : (((3 : Nat) : Int) == 3) = true := rfl
                  have hVI2 := Lib.hid hVI
                  clear hVI
                  clear i1 i2 h2 hk1 hk2 hle hi1 hi2 hv64 hx hend
                  go_upto_region 29 with fail
                  go_cut [116] (fun y wx => y = .bool (outR b x) ∧ wx = wr)
                  case first =>
                    by_cases q1 : M < 65536
                    · have HOT : Hid (outR b x = true) := Lib.hid (outR_t (by have := HLe.out; have := HMe.out; have := HVb.out; omega))
                      go_wp2_with fail
                      go_meet
                      exact ⟨by rw [HOT.out], rfl⟩
                    · by_cases q2 : 1114111 < L
                      · have HOT : Hid (outR b x = true) := Lib.hid (outR_t (by have := HLe.out; have := HMe.out; have := HVb.out; omega))
                        go_wp2_with fail
                        go_meet
                        exact ⟨by rw [HOT.out], rfl⟩
                      · have HOF : Hid (outR b x = false) := Lib.hid (outR_f (by have := HLe.out; have := HMe.out; have := HVb.out; omega))
                        by_cases q3 : 55296 ≤ L
                        · have q4 : ¬ M ≤ 57343 := by have := HLe.out; have := HMe.out; have := HVb.out; omega
                          go_wp2_with fail
                          go_meet
                          exact ⟨by rw [HOF.out], rfl⟩
                        · go_wp2_with fail
                          go_meet
                          exact ⟨by rw [HOF.out], rfl⟩
                  case rest =>
                    obtain ⟨rfl, rfl⟩ := hcut
                    cases hob : outR b x
                    · have hin : ¬ (x < u8lo b ∨ u8hi b < x) := by unfold outR at hob; exact of_decide_eq_false hob
                      have HE : Hid (u8tail (3 - 1) (1 + 1) 128 191 V (((bytesOf s).drop a).drop (1 + 1)) = R) := Lib.hid (by have h := HTT.out; rw [if_neg hin, HV.out] at h; exact h)
                      clear hob hin
                      go_wp2_with fail
                      refine ⟨⟨Lib.hid (by trivial), 2, V, rfl, rfl, by omega, by omega, HVB.out, fun h => by omega, Lib.hid ?_⟩, by simp only [intOf]; omega⟩
                      rw [if_neg (by decide), if_neg (by decide)]
                      exact HE.out
                    · have hin : x < u8lo b ∨ u8hi b < x := by unfold outR at hob; exact of_decide_eq_true hob
                      have HE : Hid (R = (-1, 1)) := Lib.hid (by have h := HTT.out; rw [if_pos hin] at h; exact h.symm)
                      clear hob hin
                      go_wp2_with fail
                      exact bodyPost_ret (results_tmp2 rfl _ _ _) rfl ⟨by rw [HE.out]; rfl, rfl⟩
            · have ek : (k : Int) ≠ 1 := by omega
              have hkb : ((k : Int) == 1) = false := by rw [beq_eq_false_iff_ne]; exact ek
              rw [if_neg hk, if_neg hk, if_neg (by omega)] at ht
              have HTT := Lib.hid ht
              have hVI := HVV.out
              clear ht hbit hll hhh hv ek
              go_wp2_with fail
              refine ⟨⟨Lib.hid (by trivial), k + 1, v * 64 + x % 64, rfl, by rw [Int.natCast_add]; rfl, by omega, by omega, HVB.out, fun h => by omega, Lib.hid ?_⟩, by simp only [intOf]; omega⟩
              rw [if_neg (by omega), if_neg (by omega), show 3 + 1 - (k + 1) = 3 - k by omega]
              exact HTT.out
    · have e : k = 3 + 1 := by omega
      subst e
      have HE : Hid (R = ((v : Int), 3 + 1)) := Lib.hid (by rw [← HT.out]; rfl)
      clear hv hbit HT
      go_wp2_with fail
      exact bodyPost_ret (results_tmp2 rfl _ _ _) rfl ⟨by rw [HE.out]; rfl, rfl⟩

end Go.Proofs.Ytkoheodcledcfaa
