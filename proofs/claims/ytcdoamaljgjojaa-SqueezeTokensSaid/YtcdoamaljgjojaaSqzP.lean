/- What Pack lays without choices, plain: blocks of bytes as they are. No program. -/
import Derived.Test.YtcdoamaljgjojaaInfS
import Derived.Test.YtcdoamaljgjojaaBitsW2
namespace Go.Proofs.Ytcdoamaljgjojaa
open Go.RowKit
set_option linter.unusedVariables false

/-- the k-th span of bytes -/
def chunk (D : List Nat) (k : Nat) : List Nat := (D.drop (65535 * k)).take 65535
/-- the first k blocks -/
def blk (D : List Nat) : Nat → List Nat
  | 0 => []
  | k + 1 => blk D k ++ storedOne (decide (D.length ≤ 65535 * (k + 1))) (chunk D k)

theorem chunk_len (D : List Nat) (k : Nat) : (chunk D k).length = min 65535 (D.length - 65535 * k) := by simp [chunk]

theorem blk_len (D : List Nat) : ∀ k, (blk D k).length = 5 * k + min (65535 * k) D.length
  | 0 => by simp [blk]
  | k + 1 => by
    rw [blk, List.length_append, blk_len D k]
    simp only [storedOne, List.length_cons, chunk_len]
    omega

/-- a head of three bits, filled up -/
theorem head_bits (B : List Nat) (q : Bool) (V W : Int) (hV : V = (q.toNat : Int)) (hW : W = 0) : pad8 (bytesBits B ++ lowBits V 1 ++ lowBits W 2) = bytesBits (B ++ [q.toNat]) := by
  subst hV hW
  rw [bytesBits_append]
  unfold pad8
  have e : (bytesBits B ++ lowBits (q.toNat : Int) 1 ++ lowBits 0 2).length = 8 * B.length + 3 := by simp [bytesBits_length, lowBits_length]
  rw [e, show 8 * ((8 * B.length + 3 + 7) / 8) - (8 * B.length + 3) = 5 by omega, List.append_assoc, List.append_assoc]
  congr 1
  cases q <;> rfl

theorem pad8_bytes (B : List Nat) : pad8 (bytesBits B) = bytesBits B := pad8_of _ (by rw [bytesBits_length]; omega)

theorem strBits_strOf (l : List Nat) (h : ∀ x ∈ l, x < 256) : strBits (strOf l) = bytesBits l := by rw [strBits, bytesOf_strOf _ h]

theorem pack_bytes (B : List Nat) (h : ∀ x ∈ B, x < 256) : pack (bytesBits B) = B := by
  have := pack_bytesBits B h []
  rw [List.append_nil] at this
  rw [this]
  simp [pack]

theorem blk_lt (D : List Nat) (hD : ∀ x ∈ D, x < 256) : ∀ k, ∀ y ∈ blk D k, y < 256
  | 0, y, hy => by simp [blk] at hy
  | k + 1, y, hy => by
    rw [blk, List.mem_append] at hy
    rcases hy with hy | hy
    · exact blk_lt D hD k y hy
    · have h1 := chunk_len D k
      simp only [storedOne, List.mem_cons] at hy
      rcases hy with rfl | rfl | rfl | rfl | rfl | hy
      · cases decide (D.length ≤ 65535 * (k + 1)) <;> decide
      · omega
      · omega
      · omega
      · omega
      · exact hD y (List.mem_of_mem_drop (List.mem_of_mem_take hy))

/-- what a block adds -/
theorem blk_next (D : List Nat) (k n lo hi : Nat) (lb : Bool) (x : ByteArray) (hx : bytesOf x = chunk D k) (hn : (chunk D k).length = n) (hlb : decide (D.length ≤ 65535 * (k + 1)) = lb) (hlo : n % 256 = lo) (hhi : n / 256 = hi) (hn16 : n ≤ 65535) :
    pad8 (pad8 (bytesBits (blk D k) ++ lowBits (lb.toNat : Int) 1 ++ lowBits 0 2) ++ strBits (strOf [lo, hi, 255 - lo, 255 - hi])) ++ strBits x = bytesBits (blk D (k + 1)) := by
  rw [head_bits (blk D k) lb _ _ rfl rfl, strBits_strOf _ (by intro y hy; simp at hy; omega), ← bytesBits_append, pad8_bytes, strBits, hx, ← bytesBits_append, blk]
  unfold storedOne
  rw [hn, hlb, hlo, hhi, List.append_assoc, List.append_assoc]
  rfl

end Go.Proofs.Ytcdoamaljgjojaa
