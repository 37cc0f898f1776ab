/- Walks over package templ: digits. -/
import Derived.Test.YtekgoldkcmehcaaTplW1
import Derived.Test.YtekgoldkcmehcaaTplP
import Derived.Deep.DeepCutAuto
namespace Go.Proofs.Ytekgoldkcmehcaa
open Go.RowKit Go.Shelf
set_option linter.unusedVariables false

set_option maxHeartbeats 1600000 in
set_option maxRecDepth 100000 in
theorem digits_any (s : ByteArray) (k0 n0 : Nat) (hk0 : (dgs (bytesOf s)).length = k0) (hn0 : dval (dgs (bytesOf s)) = n0) (hs : s.size ≤ 1099511627776) (w : World) :
    Calls Try.prog 18 #[.string s] w fun e w' => e = .returned (.tuple #[.int .i64 (k0 : Int), .int .i64 (n0 : Int)]) ∧ w' = w := by
  have hD := bytesOf_length s
  have hle := dgs_len (bytesOf s)
  have H0 : Hid (0 = dval ((dgs (bytesOf s)).take 0)) := Lib.hid rfl
  have HN := Lib.hid (And.intro hk0 hn0)
  have hkb : k0 ≤ 4 ∧ k0 ≤ s.size := by omega
  obtain ⟨hk4, hks⟩ := hkb
  clear hk0 hn0 hle hD
  go_enter Try.func18, Try.ntmps18
  go_wp2_with fail
  go_loopw [2, 3] (fun c x wx => ∃ (k V : Nat), c = .int .i64 (k : Int) ∧ x = .int .i64 (V : Int) ∧ k ≤ k0 ∧ V ≤ 9999 ∧ Hid (V = dval ((dgs (bytesOf s)).take k)) ∧ wx = w) (fun c _ _ => 5 - (intOf c).toNat)
  case atStart => exact ⟨0, 0, rfl, rfl, Nat.zero_le _, by decide, H0, rfl⟩
  case round =>
    obtain ⟨k, V, rfl, rfl, hk, hV, HV, rfl⟩ := hrel
    clear H0
    by_cases hlt : k < k0
    case pos =>
      have h := dgs_next (bytesOf s) k (by have := HN.out.1; omega)
      obtain ⟨-, h4, h48, h57, hnx⟩ := h
      have hk1 : k < s.size := by omega
      rw [← bytesOf_getD s k hk1] at h48 h57 hnx
      rw [← HV.out] at hnx
      have hV2 : dval ((dgs (bytesOf s)).take (k + 1)) ≤ 9999 := dval_le _ _ (by have := HN.out.1; omega)
      have h1I : (k : Int) < (s.size : Int) := by omega
      have h2I : (k : Int) < 4 := by omega
      have h3I : (48 : Int) ≤ ((s[k]'hk1).toNat : Int) := by omega
      have h4I : ((s[k]'hk1).toNat : Int) ≤ 57 := by omega
      have HV2 : Hid (dval ((dgs (bytesOf s)).take (k + 1)) = 10 * V + ((s[k]'hk1).toNat - 48)) := Lib.hid hnx
      have hu : IntKind.u8.wrap (((s[k]'hk1).toNat : Int) - 48) = (((s[k]'hk1).toNat : Int) - 48) := IntWalk.u8_in _ (by omega)
      have hw : wrap64 (((s[k]'hk1).toNat : Int) - 48) = (((s[k]'hk1).toNat : Int) - 48) := IntWalk.wrap64_in _ (by omega)
      clear hnx
      go_wp2_with fail
      refine ⟨⟨k + 1, 10 * V + ((s[k]'hk1).toNat - 48), by rw [Int.natCast_add]; rfl, ?_, by omega, by have := HV2.out; omega, Lib.hid HV2.out.symm, trivial⟩, by simp only [intOf]; omega⟩
      congr 1
      omega
    case neg =>
      obtain rfl : k = k0 := by omega
      have hV : V = n0 := by rw [HV.out, ← HN.out.2, List.take_of_length_le (by have := HN.out.1; omega)]
      subst hV
      have HE := dgs_end (bytesOf s)
      rw [HN.out.1, bytesOf_length] at HE
      clear HV HN hlt
      by_cases h1 : k < s.size
      · have h1I : (k : Int) < (s.size : Int) := by omega
        by_cases h2 : k < 4
        · have h2I : (k : Int) < 4 := by omega
          have h3 : ¬ (48 ≤ (s[k]'h1).toNat ∧ (s[k]'h1).toNat ≤ 57) := by
            rw [bytesOf_getD s k h1]
            rcases HE with h | h | h
            · omega
            · omega
            · exact h
          clear HE
          by_cases h5 : 48 ≤ (s[k]'h1).toNat
          · have h3I : (48 : Int) ≤ ((s[k]'h1).toNat : Int) := by omega
            have h4I : ¬ ((s[k]'h1).toNat : Int) ≤ 57 := by omega
            clear h3
            go_wp2_with fail
            exact bodyPost_ret (results_tmp2 rfl _ _ _) rfl ⟨rfl, rfl⟩
          · have h3I : ¬ (48 : Int) ≤ ((s[k]'h1).toNat : Int) := by omega
            clear h3
            go_wp2_with fail
            exact bodyPost_ret (results_tmp2 rfl _ _ _) rfl ⟨rfl, rfl⟩
        · have h2I : ¬ (k : Int) < 4 := by omega
          clear HE
          go_wp2_with fail
          exact bodyPost_ret (results_tmp2 rfl _ _ _) rfl ⟨rfl, rfl⟩
      · have h1I : ¬ (k : Int) < (s.size : Int) := by omega
        clear HE
        go_wp2_with fail
        exact bodyPost_ret (results_tmp2 rfl _ _ _) rfl ⟨rfl, rfl⟩

end Go.Proofs.Ytekgoldkcmehcaa
