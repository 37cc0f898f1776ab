/- Walks over the document's answer for bits. -/
import Derived.Test.YtbgejebnpmogoaaBitsR
import Derived.Deep.LoopGhost
namespace Go.Proofs.Ytbgejebnpmogoaa
open Go.RowKit

/-- bit k of a string, 0 behind its end -/
def strBit (s : ByteArray) (k : Nat) : Bool := (strBits s).getD k false

theorem strBit_in (s : ByteArray) (k : Nat) (h : k / 8 < s.size) : (s[k / 8]'h).toNat / 2 ^ (k % 8) % 2 = (strBit s k).toNat := by
  have h1 := peek_byte s k (by omega)
  rw [← h1]
  unfold strBit
  have hk : k < (strBits s).length := by rw [strBits_length]; omega
  rw [List.drop_eq_getElem_cons hk, show 8 - k % 8 = (8 - k % 8 - 1) + 1 by omega, List.take_succ_cons, num]
  have : (strBits s).getD k false = (strBits s)[k] := by simp [List.getD, hk]
  rw [this]
  have := toNat_le1 ((strBits s)[k])
  omega

theorem strBit_past (s : ByteArray) (k : Nat) (h : s.size ≤ k / 8) : strBit s k = false := getD_past _ _ (by rw [strBits_length]; omega)

theorem bitf_any (s : ByteArray) (k : Nat) (w : World) (hs : s.size ≤ 140737488355328) (hk : k ≤ 9007199254740992) :
    Calls Try.prog 30 #[.string s, .int .i64 (k : Int)] w fun e w' => e = .returned (.int .i64 ((strBit s k).toNat : Int)) ∧ w = w' := by
  by_cases h : k / 8 < s.size
  · have hx := strBit_in s k h
    have HX := Lib.hid hx
    have h1 : ¬ (s.size : Int) ≤ (k : Int) / 8 := by omega
    clear hx
    go_enter Try.func30, Try.ntmps30
    go_wp2
    go_ret
    refine ⟨?_, rfl⟩
    rw [← HX.out]
    have hb := (s[k / 8]'h).toNat_lt
    generalize (s[k / 8]'h).toNat = B at *
    show Ending.returned (.int .i64 (bits .and .i64 (wrap64 (B : Int) / 2 ^ (k % 8)) 1)) = _
    rw [and1_i64, IntWalk.wrap64_in _ (by omega)]
    simp
  · have hx := strBit_past s k (by omega)
    have HX := Lib.hid hx
    have h1 : (s.size : Int) ≤ (k : Int) / 8 := by omega
    clear hx
    go_enter Try.func30, Try.ntmps30
    go_wp2
    go_ret
    exact ⟨by rw [HX.out]; rfl, rfl⟩

/-- of n bits from the k-th on, the first one the lowest -/
def valueNum (s : ByteArray) (k n : Nat) : Nat := num ((List.range n).map fun i => strBit s (k + i))

theorem valueNum_succ (s : ByteArray) (k n : Nat) : valueNum s k (n + 1) = (strBit s k).toNat + 2 * valueNum s (k + 1) n := by
  unfold valueNum
  rw [List.range_succ_eq_map, List.map_cons, num, List.map_map]
  congr 3
  apply List.map_congr_left
  intro i _
  simp only [Function.comp]
  congr 1
  omega

theorem valueNum_lt (s : ByteArray) (k n : Nat) : valueNum s k n < 2 ^ n := by
  have := num_lt ((List.range n).map fun i => strBit s (k + i))
  simpa [valueNum] using this

theorem valueNum_peek (s : ByteArray) (k n : Nat) (h : k + n ≤ 8 * s.size) : valueNum s k n = peekNum s k n := by
  unfold valueNum peekNum
  congr 1
  apply List.ext_getElem?
  intro i
  by_cases hi : i < n
  · have hl : k + i < (strBits s).length := by rw [strBits_length]; omega
    simp [hi, strBit, List.getD, hl]
  · rw [List.getElem?_eq_none (by simp; omega), List.getElem?_eq_none (by rw [List.length_take]; omega)]


end Go.Proofs.Ytbgejebnpmogoaa
