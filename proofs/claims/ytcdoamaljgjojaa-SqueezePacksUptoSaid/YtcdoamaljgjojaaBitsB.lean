/- Plain: one bit of a string. No program. -/
import Derived.Test.YtcdoamaljgjojaaBitsR
namespace Go.Proofs.Ytcdoamaljgjojaa
open Go.RowKit

/-- bit k of a string, 0 behind its end -/
def strBit (s : ByteArray) (k : Nat) : Bool := (strBits s).getD k false

theorem strBit_in (s : ByteArray) (k : Nat) (h : k / 8 < s.size) : (s[k / 8]'h).toNat / 2 ^ (k % 8) % 2 = (strBit s k).toNat := by
  have h1 := peek_byte s k (by omega)
  rw [← h1]
  unfold strBit
  have hk : k < (strBits s).length := by rw [strBits_length]; omega
  rw [List.drop_eq_getElem_cons hk, show 8 - k % 8 = (8 - k % 8 - 1) + 1 by omega, List.take_succ_cons, num]
  have : (strBits s).getD k false = (strBits s)[k] := by simp [List.getD, hk]
  rw [this]
  have := toNat_le1 ((strBits s)[k])
  omega

theorem strBit_past (s : ByteArray) (k : Nat) (h : s.size ≤ k / 8) : strBit s k = false := getD_past _ _ (by rw [strBits_length]; omega)

end Go.Proofs.Ytcdoamaljgjojaa
