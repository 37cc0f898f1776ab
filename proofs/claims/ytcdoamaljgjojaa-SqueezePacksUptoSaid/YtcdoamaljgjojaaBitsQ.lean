/- Plain laws: numbers out of bits, bits of bytes, what a packed row of bits unpacks to. No program. -/
import Derived.Test.YtcdoamaljgjojaaBitsP
import Derived.Test.YtcdoamaljgjojaaStrP
namespace Go.Proofs.Ytcdoamaljgjojaa

/-- a number out of bits, the lowest first -/
def num : List Bool → Nat
  | [] => 0
  | c :: l => c.toNat + 2 * num l

theorem num_append (a b : List Bool) : num (a ++ b) = num a + num b * 2 ^ a.length := by
  induction a with
  | nil => simp [num]
  | cons c a ih => simp only [List.cons_append, num, ih, List.length_cons, Nat.pow_succ, Nat.mul_add]; rw [show num b * (2 ^ a.length * 2) = 2 * (num b * 2 ^ a.length) by rw [← Nat.mul_assoc, Nat.mul_comm]]; omega

theorem num_lt (a : List Bool) : num a < 2 ^ a.length := by
  induction a with
  | nil => simp [num]
  | cons c a ih => have := toNat_le1 c; simp only [num, List.length_cons, Nat.pow_succ]; omega

theorem num_take (a : List Bool) (n : Nat) : num (a.take n) = num a % 2 ^ n := by
  induction a generalizing n with
  | nil => simp [num]
  | cons c a ih =>
    cases n with
    | zero => simp [num, Nat.mod_one]
    | succ n =>
      have := toNat_le1 c
      simp only [List.take_succ_cons, num, ih, Nat.pow_succ]
      rw [Nat.mul_comm (2 ^ n) 2, Nat.mod_mul]
      have h1 : (c.toNat + 2 * num a) % 2 = c.toNat := by omega
      have h2 : (c.toNat + 2 * num a) / 2 = num a := by omega
      rw [h1, h2]

theorem num_drop (a : List Bool) (n : Nat) : num (a.drop n) = num a / 2 ^ n := by
  induction a generalizing n with
  | nil => simp [num]
  | cons c a ih =>
    cases n with
    | zero => simp
    | succ n =>
      have := toNat_le1 c
      simp only [List.drop_succ_cons, num, ih, Nat.pow_succ]
      rw [Nat.mul_comm (2 ^ n) 2, ← Nat.div_div_eq_div_mul]
      congr 1
      omega

theorem num_inj {a b : List Bool} (hl : a.length = b.length) (h : num a = num b) : a = b := by
  induction a generalizing b with
  | nil => cases b with
    | nil => rfl
    | cons _ _ => simp at hl
  | cons c a ih =>
    cases b with
    | nil => simp at hl
    | cons d b =>
      simp only [num] at h
      have hc := toNat_le1 c
      have hd := toNat_le1 d
      have e : c.toNat = d.toNat := by omega
      have e' : c = d := by cases c <;> cases d <;> simp_all
      rw [e', ih (by simpa using hl) (by omega)]

/-- the 8 bits of a byte -/
def bits8 (n : Nat) : List Bool := [decide (n % 2 = 1), decide (n / 2 % 2 = 1), decide (n / 4 % 2 = 1), decide (n / 8 % 2 = 1), decide (n / 16 % 2 = 1), decide (n / 32 % 2 = 1), decide (n / 64 % 2 = 1), decide (n / 128 % 2 = 1)]

theorem dec_toNat (n : Nat) : (decide (n % 2 = 1)).toNat = n % 2 := by
  rcases Nat.mod_two_eq_zero_or_one n with h | h <;> simp [h]

theorem num_bits8 (n : Nat) (h : n < 256) : num (bits8 n) = n := by
  simp only [bits8, num, dec_toNat]
  omega

/-- the bits of bytes -/
def bytesBits : List Nat → List Bool
  | [] => []
  | n :: r => bits8 n ++ bytesBits r

theorem bytesBits_length (l : List Nat) : (bytesBits l).length = 8 * l.length := by
  induction l with
  | nil => rfl
  | cons n r ih => simp only [bytesBits, List.length_append, ih, List.length_cons]; simp [bits8]; omega

theorem bytesBits_append (a b : List Nat) : bytesBits (a ++ b) = bytesBits a ++ bytesBits b := by
  induction a with
  | nil => rfl
  | cons n r ih => simp [bytesBits, ih]

theorem bytesBits_drop (l : List Nat) (k : Nat) : (bytesBits l).drop (8 * k) = bytesBits (l.drop k) := by
  induction l generalizing k with
  | nil => simp [bytesBits]
  | cons n r ih =>
    cases k with
    | zero => simp
    | succ k =>
      simp only [bytesBits, List.drop_succ_cons]
      rw [List.drop_append, show (bits8 n).length = 8 by rfl, show 8 * (k + 1) - 8 = 8 * k by omega, ih]
      rw [List.drop_eq_nil_of_le (by show 8 ≤ 8 * (k + 1); omega)]; rfl

theorem bytesBits_take (l : List Nat) (k : Nat) : (bytesBits l).take (8 * k) = bytesBits (l.take k) := by
  induction l generalizing k with
  | nil => simp [bytesBits]
  | cons n r ih =>
    cases k with
    | zero => simp [bytesBits]
    | succ k =>
      simp only [bytesBits, List.take_succ_cons]
      rw [List.take_append, show (bits8 n).length = 8 by rfl, show 8 * (k + 1) - 8 = 8 * k by omega, ih]
      rw [List.take_of_length_le (by show 8 ≤ 8 * (k + 1); omega)]

/-- filled up to whole bytes -/
def pad8 (l : List Bool) : List Bool := l ++ List.replicate (8 * ((l.length + 7) / 8) - l.length) false

theorem pad8_length (l : List Bool) : (pad8 l).length = 8 * ((l.length + 7) / 8) := by simp [pad8]; omega

theorem pad8_getD (l : List Bool) (k : Nat) : (pad8 l).getD k false = l.getD k false := by
  unfold pad8
  by_cases h : k < l.length
  · simp [List.getD, List.getElem?_append_left h]
  · rw [getD_past l k (by omega)]
    simp only [List.getD]
    rw [List.getElem?_append_right (by omega), List.getElem?_replicate]
    split <;> rfl

theorem pad8_of (l : List Bool) (h : l.length % 8 = 0) : pad8 l = l := by
  unfold pad8
  rw [show 8 * ((l.length + 7) / 8) - l.length = 0 by omega]; simp

theorem byteAt_eq (l : List Bool) (i : Nat) : byteAt l i = num [l.getD (8 * i) false, l.getD (8 * i + 1) false, l.getD (8 * i + 2) false, l.getD (8 * i + 3) false, l.getD (8 * i + 4) false, l.getD (8 * i + 5) false, l.getD (8 * i + 6) false, l.getD (8 * i + 7) false] := by
  simp only [byteAt, num]; omega

theorem byteAt_congr (a b : List Bool) (i j : Nat) (h : ∀ k, k < 8 → a.getD (8 * i + k) false = b.getD (8 * j + k) false) : byteAt a i = byteAt b j := by
  unfold byteAt
  have h0 := h 0 (by decide)
  simp only [Nat.add_zero] at h0
  rw [h0, h 1 (by decide), h 2 (by decide), h 3 (by decide), h 4 (by decide), h 5 (by decide), h 6 (by decide), h 7 (by decide)]

theorem pack_pad8 (l : List Bool) : pack (pad8 l) = pack l := by
  unfold pack
  rw [pad8_length, show (8 * ((l.length + 7) / 8) + 7) / 8 = (l.length + 7) / 8 by omega]
  apply List.map_congr_left
  intro i _
  exact byteAt_congr _ _ _ _ fun k _ => pad8_getD _ _

theorem bits8_byteAt (l : List Bool) (i : Nat) : bits8 (byteAt l i) = [l.getD (8 * i) false, l.getD (8 * i + 1) false, l.getD (8 * i + 2) false, l.getD (8 * i + 3) false, l.getD (8 * i + 4) false, l.getD (8 * i + 5) false, l.getD (8 * i + 6) false, l.getD (8 * i + 7) false] := by
  refine num_inj (by rfl) ?_
  rw [num_bits8 _ (byteAt_lt l i), byteAt_eq]

theorem pack_cons8 (a b c d e f g h : Bool) (l : List Bool) : pack (a :: b :: c :: d :: e :: f :: g :: h :: l) = num [a, b, c, d, e, f, g, h] :: pack l := by
  unfold pack
  rw [show ((a :: b :: c :: d :: e :: f :: g :: h :: l).length + 7) / 8 = (l.length + 7) / 8 + 1 by simp only [List.length_cons]; omega, List.range_succ_eq_map, List.map_cons, byteAt_eq]
  simp only [List.map_map]
  rfl

theorem pack_bits8 (n : Nat) (h : n < 256) (l : List Bool) : pack (bits8 n ++ l) = n :: pack l := by
  have := num_bits8 n h
  unfold bits8 at this ⊢
  simp only [List.cons_append, List.nil_append]
  rw [pack_cons8, this]

theorem pack_bytesBits (l : List Nat) (h : ∀ x ∈ l, x < 256) (r : List Bool) : pack (bytesBits l ++ r) = l ++ pack r := by
  induction l with
  | nil => rfl
  | cons n t ih =>
    simp only [bytesBits, List.append_assoc]
    rw [pack_bits8 n (h n (by simp)), ih fun x hx => h x (by simp [hx])]; rfl

theorem bytesBits_pack (l : List Bool) : bytesBits (pack l) = pad8 l := by
  have key : ∀ n (l : List Bool), l.length = 8 * n → bytesBits (pack l) = l := by
    intro n
    induction n with
    | zero => intro l h; have : l = [] := List.eq_nil_of_length_eq_zero (by omega); subst this; rfl
    | succ n ih =>
      intro l h
      match l, h with
      | a :: b :: c :: d :: e :: f :: g :: i :: l, h =>
        rw [pack_cons8]
        simp only [bytesBits]
        rw [ih l (by simp only [List.length_cons] at h; omega)]
        have : bits8 (num [a, b, c, d, e, f, g, i]) = [a, b, c, d, e, f, g, i] := by
          refine num_inj (by rfl) ?_
          rw [num_bits8 _ (by have := num_lt [a, b, c, d, e, f, g, i]; simpa using this)]
        rw [this]; rfl
      | [], h => simp at h
      | [_], h => simp only [List.length_cons, List.length_nil] at h; omega
      | [_, _], h => simp only [List.length_cons, List.length_nil] at h; omega
      | [_, _, _], h => simp only [List.length_cons, List.length_nil] at h; omega
      | [_, _, _, _], h => simp only [List.length_cons, List.length_nil] at h; omega
      | [_, _, _, _, _], h => simp only [List.length_cons, List.length_nil] at h; omega
      | [_, _, _, _, _, _], h => simp only [List.length_cons, List.length_nil] at h; omega
      | [_, _, _, _, _, _, _], h => simp only [List.length_cons, List.length_nil] at h; omega
  rw [← pack_pad8, key _ (pad8 l) (pad8_length l)]

theorem pack_lt (l : List Bool) : ∀ x ∈ pack l, x < 256 := by
  intro x hx
  unfold pack at hx
  obtain ⟨i, _, rfl⟩ := List.mem_map.1 hx
  exact byteAt_lt _ _

theorem pack_append (a b : List Bool) (h : a.length % 8 = 0) : pack (a ++ b) = pack a ++ pack b := by
  have e : a = bytesBits (pack a) := by rw [bytesBits_pack, pad8_of a h]
  conv => lhs; rw [e]
  rw [pack_bytesBits _ (pack_lt a)]

/-! strings -/
def strBits (s : ByteArray) : List Bool := bytesBits (bytesOf s)
theorem strBits_length (s : ByteArray) : (strBits s).length = 8 * s.size := by rw [strBits, bytesBits_length, bytesOf_length]
theorem strBits_pack (l : List Bool) : strBits (strOf (pack l)) = pad8 l := by
  rw [strBits, bytesOf_strOf _ (pack_lt l), bytesBits_pack]

theorem strBits_drop8 (s : ByteArray) (k : Nat) : (strBits s).drop (8 * k) = bytesBits ((bytesOf s).drop k) := bytesBits_drop _ _

end Go.Proofs.Ytcdoamaljgjojaa
