/- Walk over package ferretref05: value. -/
import Derived.Test.YtgjcnembeebjfaaGzR6
import Derived.Test.YtgjcnembeebjfaaGzW7
namespace Go.Proofs.Ytgjcnembeebjfaa
open Go.RowKit
set_option linter.unusedVariables false

set_option maxHeartbeats 1600000 in
set_option maxRecDepth 100000 in
theorem rvalue_any (s : ByteArray) (hs : s.size ≤ 7) (w : World) :
    Calls Try.prog 33 #[.string s] w fun e w' => e = .returned (.int .i64 ((numL (bytesOf s) : Nat) : Int)) ∧ w' = w := by
  have hD := bytesOf_length s
  have hlt := bytesOf_lt s
  have HB : Hid (∀ k, k ≤ s.size → numL ((bytesOf s).drop k) < 72057594037927936) := Lib.hid fun k hk => by
    have h1 := numL_lt ((bytesOf s).drop k) (fun x hx => hlt x (List.mem_of_mem_drop hx))
    rw [List.length_drop, hD] at h1
    have h2 : 256 ^ (s.size - k) ≤ 256 ^ 7 := Nat.pow_le_pow_right (by decide) (by omega)
    have h4 : (256 : Nat) ^ 7 = 72057594037927936 := by decide
    omega
  have H0 : Hid (0 = numL ((bytesOf s).drop s.size)) := Lib.hid (by rw [← hD, List.drop_length]; rfl)
  clear hD hlt
  go_enter Try.func33, Try.ntmps33
  go_wp2_with fail
  go_loopw [4, 3] (fun c x wx => ∃ (k V : Nat), c = .int .i64 (k : Int) ∧ x = .int .i64 (V : Int) ∧ k ≤ s.size ∧ Hid (V = numL ((bytesOf s).drop k)) ∧ wx = w) (fun c _ _ => (intOf c).toNat)
  case atStart => exact ⟨s.size, 0, rfl, rfl, Nat.le_refl _, H0, rfl⟩
  case round =>
    obtain ⟨k, V, rfl, rfl, hk, HV, rfl⟩ := hrel
    clear H0
    cases k with
    | zero =>
      obtain rfl : V = numL (bytesOf s) := by rw [HV.out, List.drop_zero]
      clear HV
      have h0 : ¬ (0 : Int) < ((0 : Nat) : Int) := by decide
      go_wp2_with fail
      exact bodyPost_ret (results_tmp rfl _ _ _) rfl ⟨rfl, rfl⟩
    | succ m =>
      have hm : m < s.size := by omega
      have hmI : ((m + 1 : Nat) : Int) - 1 = (m : Int) := by omega
      have hpos : (0 : Int) < ((m + 1 : Nat) : Int) := by omega
      have hV2 : numL ((bytesOf s).drop m) = (s[m]'hm).toNat + V * 256 := by rw [numL_drop _ m (by rw [bytesOf_length]; exact hm), bytesOf_getD s m hm, HV.out]
      have hV3 : numL ((bytesOf s).drop m) < 72057594037927936 := HB.out m (by omega)
      have hx8 := UInt8.toNat_lt (s[m]'hm)
      obtain ⟨V2, hVV⟩ : ∃ V2, numL ((bytesOf s).drop m) = V2 := ⟨_, rfl⟩
      rw [hVV] at hV2 hV3
      have HVV := Lib.hid hVV
      have hw2 : IntKind.i64.wrap ((s[m]'hm).toNat : Int) = ((s[m]'hm).toNat : Int) := IntWalk.i64_in _ (by omega)
      have hw1 : wrap64 (256 * (V : Int)) = 256 * (V : Int) := IntWalk.wrap64_in _ (by omega)
      have hs2 : 256 * (V : Int) + ((s[m]'hm).toNat : Int) = (V2 : Int) := by omega
      clear hVV HV
      go_wp2_with fail
      exact ⟨⟨m, V2, rfl, congrArg (Value.int .i64) (by omega), by omega, Lib.hid HVV.out.symm, trivial⟩, by simp only [intOf]; omega⟩

end Go.Proofs.Ytgjcnembeebjfaa
