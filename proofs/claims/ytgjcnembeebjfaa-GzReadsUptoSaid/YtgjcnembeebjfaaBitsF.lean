/- Walks over the document's answer for bits. -/
import Derived.Test.YtgjcnembeebjfaaGBr
import Derived.Deep.LoopGhost
namespace Go.Proofs.Ytgjcnembeebjfaa
open Go.RowKit

theorem bitf_any (s : ByteArray) (k : Nat) (w : World) (hs : s.size ≤ 140737488355328) (hk : k ≤ 9007199254740992) :
    Calls Try.prog 97 #[.string s, .int .i64 (k : Int)] w fun e w' => e = .returned (.int .i64 ((strBit s k).toNat : Int)) ∧ w = w' := by
  by_cases h : k / 8 < s.size
  · have hx := strBit_in s k h
    have HX := Lib.hid hx
    have h1 : ¬ (s.size : Int) ≤ (k : Int) / 8 := by omega
    clear hx
    go_enter Try.func97, Try.ntmps97
    go_wp2
    go_ret
    refine ⟨?_, rfl⟩
    rw [← HX.out]
    have hb := (s[k / 8]'h).toNat_lt
    generalize (s[k / 8]'h).toNat = B at *
    show Ending.returned (.int .i64 (bits .and .i64 (wrap64 (B : Int) / 2 ^ (k % 8)) 1)) = _
    rw [and1_i64, IntWalk.wrap64_in _ (by omega)]
    simp
  · have hx := strBit_past s k (by omega)
    have HX := Lib.hid hx
    have h1 : (s.size : Int) ≤ (k : Int) / 8 := by omega
    clear hx
    go_enter Try.func97, Try.ntmps97
    go_wp2
    go_ret
    exact ⟨by rw [HX.out]; rfl, rfl⟩

/-- of n bits from the k-th on, the first one the lowest -/
def valueNum (s : ByteArray) (k n : Nat) : Nat := num ((List.range n).map fun i => strBit s (k + i))

theorem valueNum_succ (s : ByteArray) (k n : Nat) : valueNum s k (n + 1) = (strBit s k).toNat + 2 * valueNum s (k + 1) n := by
  unfold valueNum
  rw [List.range_succ_eq_map, List.map_cons, num, List.map_map]
  congr 3
  apply List.map_congr_left
  intro i _
  simp only [Function.comp]
  congr 1
  omega

theorem valueNum_lt (s : ByteArray) (k n : Nat) : valueNum s k n < 2 ^ n := by
  have := num_lt ((List.range n).map fun i => strBit s (k + i))
  simpa [valueNum] using this

theorem valueNum_peek (s : ByteArray) (k n : Nat) (h : k + n ≤ 8 * s.size) : valueNum s k n = peekNum s k n := by
  unfold valueNum peekNum
  congr 1
  apply List.ext_getElem?
  intro i
  by_cases hi : i < n
  · have hl : k + i < (strBits s).length := by rw [strBits_length]; omega
    simp [hi, strBit, List.getD, hl]
  · rw [List.getElem?_eq_none (by simp; omega), List.getElem?_eq_none (by rw [List.length_take]; omega)]

set_option maxHeartbeats 400000 in
theorem value_any (s : ByteArray) (k n : Nat) (w : World) (hs : s.size ≤ 140737488355328) (hk : k ≤ 4503599627370496) (hn : n ≤ 60) :
    Calls Try.prog 74 #[.string s, .int .i64 (k : Int), .int .i64 (n : Int)] w fun e w' => e = .returned (.int .i64 ((valueNum s k n : Nat) : Int)) ∧ w = w' := by
  go_enter Try.func74, Try.ntmps74
  go_wp2_with fail
  go_loop [7, 8] (fun v i => ∃ j : Nat, j ≤ n ∧ i = .int .i64 ((j : Int) - 1) ∧ v = .int .i64 ((valueNum s (k + j) (n - j) : Nat) : Int)) (fun _ i => (intOf i + 1).toNat)
  case atStart => exact ⟨n, Nat.le_refl _, rfl, by rw [Nat.sub_self]; rfl⟩
  case round =>
    obtain ⟨j, hj, rfl, rfl⟩ := hrel
    rcases j with _ | j
    · have hneg : ¬ (0 : Int) ≤ ((0 : Nat) : Int) - 1 := by omega
      go_wp2_with fail
      go_ret
      exact ⟨rfl, rfl⟩
    · have hv := valueNum_lt s (k + (j + 1)) (n - (j + 1))
      have hp : (2 : Nat) ^ (n - (j + 1)) ≤ 2 ^ 59 := Nat.pow_le_pow_right (by decide) (by omega)
      have e := valueNum_succ s (k + j) (n - (j + 1))
      rw [show n - (j + 1) + 1 = n - j by omega, show k + j + 1 = k + (j + 1) by omega] at e
      have HE := Lib.hid e
      rw [show (((j + 1 : Nat) : Int) - 1) = (j : Int) by omega]
      have hpos : (0 : Int) ≤ (j : Int) := by omega
      have hvb : valueNum s (k + (j + 1)) (n - (j + 1)) ≤ 1152921504606846976 := by omega
      generalize valueNum s (k + (j + 1)) (n - (j + 1)) = V at *
      have hb := toNat_le1 (strBit s (k + j))
      clear e hv hp
      go_wp2_with fail
      rw [show ((k : Int) + (j : Int)) = ((k + j : Nat) : Int) by omega]
      refine (bitf_any s (k + j) _ hs (by omega)).mono ?_
      rintro e w1 ⟨rfl, rfl⟩
      go_wp2_with fail
      go_round
      case rel => exact ⟨j, by omega, rfl, by rw [HE.out]; congr 1; omega⟩
      case measure => simp [intOf]


end Go.Proofs.Ytgjcnembeebjfaa
