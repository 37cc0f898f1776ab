/- Plain laws: strings as lists of bytes. No program. Plain laws: bits packed into bytes, numbers out of bits; bit operations on Go's integers as arithmetic. No program. -/
import Derived.WalkKit
import Derived.Laws.DeepStrings4

namespace Go.Proofs.Ytcnckpglicfolaa

def bytesOf (s : ByteArray) : List Nat := s.data.toList.map UInt8.toNat
def strOf (l : List Nat) : ByteArray := ⟨(l.map UInt8.ofNat).toArray⟩

theorem bytesOf_length (s : ByteArray) : (bytesOf s).length = s.size := by simp [bytesOf]
theorem strOf_size (l : List Nat) : (strOf l).size = l.length := by simp [strOf, ByteArray.size]
theorem bytesOf_lt (s : ByteArray) : ∀ x ∈ bytesOf s, x < 256 := by
  intro x hx
  obtain ⟨c, _, rfl⟩ := List.mem_map.1 hx
  exact c.toNat_lt
theorem bytesOf_strOf (l : List Nat) (h : ∀ x ∈ l, x < 256) : bytesOf (strOf l) = l := by
  simp only [bytesOf, strOf, List.map_map]
  conv => rhs; rw [← List.map_id l]
  apply List.map_congr_left
  intro x hx
  have := h x hx
  simp only [Function.comp, id, UInt8.toNat_ofNat']
  omega
theorem strOf_bytesOf (s : ByteArray) : strOf (bytesOf s) = s := by
  simp only [bytesOf, strOf, List.map_map]
  have : (UInt8.ofNat ∘ UInt8.toNat) = id := by funext c; simp
  rw [this]; simp
theorem bytesOf_inj {s t : ByteArray} (h : bytesOf s = bytesOf t) : s = t := by rw [← strOf_bytesOf s, h, strOf_bytesOf]
theorem bytesOf_extract (s : ByteArray) (a b : Nat) : bytesOf (s.extract a b) = ((bytesOf s).take b).drop a := by
  simp only [bytesOf, ByteArray.data_extract, Array.toList_extract, List.extract_eq_take_drop, List.map_take, List.map_drop]
  rw [List.drop_take]
theorem bytesOf_append (s t : ByteArray) : bytesOf (s ++ t) = bytesOf s ++ bytesOf t := by simp [bytesOf]
theorem bytesOf_get (s : ByteArray) (i : Nat) (h : i < s.size) : (s[i]'h).toNat = (bytesOf s)[i]'(by rw [bytesOf_length]; exact h) := by
  simp only [bytesOf, List.getElem_map, Array.getElem_toList]; rfl
theorem bytesOf_getD (s : ByteArray) (i : Nat) (h : i < s.size) : (s[i]'h).toNat = (bytesOf s).getD i 0 := by
  rw [bytesOf_get]
  simp [List.getD, bytesOf_length, h]
theorem str_toList (s : ByteArray) : s.toList = s.data.toList := by
  obtain ⟨⟨l⟩⟩ := s
  exact ByteArray.toList_mk l
theorem str_eq (a b : ByteArray) : (a.toList == b.toList) = decide (a = b) := by
  rw [str_toList, str_toList]
  by_cases h : a = b
  · subst h; simp
  · have : ¬ a.data.toList = b.data.toList := by
      intro e
      apply h
      obtain ⟨⟨l⟩⟩ := a
      obtain ⟨⟨m⟩⟩ := b
      simp only at e
      rw [e]
    rw [decide_eq_false h, beq_eq_false_iff_ne]
    exact this
theorem str_eq_bytes (a b : ByteArray) : (a.toList == b.toList) = decide (bytesOf a = bytesOf b) := by
  rw [str_eq]
  by_cases h : a = b
  · subst h; simp
  · have : ¬ bytesOf a = bytesOf b := fun e => h (bytesOf_inj e)
    rw [decide_eq_false h, decide_eq_false this]

end Go.Proofs.Ytcnckpglicfolaa

namespace Go.Proofs.Ytcnckpglicfolaa
open Go.RowKit

/-! ### Go's bit operations -/
theorem and_mask_i64 (n : Int) (k : Nat) (hk : k < 63) (m : Int) (hm : m = 2 ^ k - 1) : bits .and .i64 n m = n % 2 ^ k := by
  subst hm
  have hp : (2 : Nat) ^ k ≤ 2 ^ 62 := Nat.pow_le_pow_right (by decide) (by omega)
  have hp0 : 0 < (2 : Nat) ^ k := Nat.pow_pos (by decide)
  have hc : ((2 : Int) ^ k) = ((2 ^ k : Nat) : Int) := by simp
  have h1 : (BitVec.ofInt 64 ((2 : Int) ^ k - 1)).toNat = 2 ^ k - 1 := by
    rw [BitVec.toNat_ofInt, hc]; omega
  have key : (BitVec.ofInt 64 n &&& BitVec.ofInt 64 ((2 : Int) ^ k - 1)).toNat = (n % ((2 ^ 64 : Nat) : Int)).toNat % 2 ^ k := by
    rw [BitVec.toNat_and, BitVec.toNat_ofInt, h1, Nat.and_two_pow_sub_one_eq_mod]
  show IntKind.i64.wrap ((BitVec.ofInt 64 n &&& BitVec.ofInt 64 ((2 : Int) ^ k - 1)).toNat : Nat) = n % 2 ^ k
  rw [key]
  have hd : ((2 : Int) ^ k) ∣ ((2 ^ 64 : Nat) : Int) := by
    rw [hc]; exact Int.natCast_dvd_natCast.2 (Nat.pow_dvd_pow 2 (by omega))
  have e : (((n % ((2 ^ 64 : Nat) : Int)).toNat % 2 ^ k : Nat) : Int) = n % 2 ^ k := by
    rw [Int.natCast_emod, Int.toNat_of_nonneg (Int.emod_nonneg _ (by decide)), ← hc, Int.emod_emod_of_dvd _ hd]
  rw [e]
  have b0 : 0 ≤ n % 2 ^ k := Int.emod_nonneg _ (by rw [hc]; omega)
  have b1 : n % 2 ^ k < 2 ^ k := Int.emod_lt_of_pos _ (by rw [hc]; omega)
  rw [hc] at b1
  generalize n % (2 : Int) ^ k = z at *
  exact IntWalk.i64_in _ (by omega)

theorem mask_i64 (d : Nat) (h : d < 62) : wrap64 (wrap64 (2 ^ d) - 1) = 2 ^ d - 1 := by
  have hp : (2 : Nat) ^ d ≤ 2 ^ 61 := Nat.pow_le_pow_right (by decide) (by omega)
  have hp0 : 0 < (2 : Nat) ^ d := Nat.pow_pos (by decide)
  have e : ((2 : Int) ^ d) = ((2 ^ d : Nat) : Int) := by simp
  rw [e]
  generalize (2 : Nat) ^ d = P at *
  rw [IntWalk.wrap64_in (P : Int) (by omega), IntWalk.wrap64_in _ (by omega)]

theorem and1_i64 (n : Int) : bits .and .i64 n 1 = n % 2 := by simpa using and_mask_i64 n 1 (by decide) 1 (by decide)

theorem ofInt_nat64 (a : Nat) (ha : a < 2 ^ 63) : (BitVec.ofInt 64 (a : Int)).toNat = a := by rw [BitVec.toNat_ofInt]; omega

theorem or_i64_nat (a b : Nat) (ha : a < 2 ^ 63) (hb : b < 2 ^ 63) : bits .or .i64 (a : Int) (b : Int) = ((a ||| b : Nat) : Int) := by
  have h : a ||| b < 2 ^ 63 := Nat.or_lt_two_pow ha hb
  show IntKind.i64.wrap ((BitVec.ofInt 64 (a : Int) ||| BitVec.ofInt 64 (b : Int)).toNat : Nat) = _
  rw [BitVec.toNat_or, ofInt_nat64 a ha, ofInt_nat64 b hb]
  generalize a ||| b = c at *
  exact IntWalk.i64_in _ (by omega)

theorem or_join (i x y : Nat) (hx : x < 2 ^ i) : x ||| (y * 2 ^ i) = x + y * 2 ^ i := by
  rw [Nat.or_comm, Nat.mul_comm, ← Nat.two_pow_add_eq_or_of_lt hx y]; omega

theorem or_i64_join (i x y : Nat) (hx : x < 2 ^ i) (h : x + y * 2 ^ i < 2 ^ 63) : bits .or .i64 (x : Int) ((y * 2 ^ i : Nat) : Int) = ((x + y * 2 ^ i : Nat) : Int) := by
  rw [or_i64_nat _ _ (by omega) (by omega), or_join i x y hx]

theorem or_u8_join (i x y : Nat) (hx : x < 2 ^ i) (h : x + y * 2 ^ i < 256) : bits .or .u8 (x : Int) ((y * 2 ^ i : Nat) : Int) = ((x + y * 2 ^ i : Nat) : Int) := by
  rw [u8_or_nat _ _ (by omega) (by omega), or_join i x y hx]

theorem and_u8_mask (b k : Nat) (hb : b < 256) (hk : k ≤ 8) (m : Int) (hm : m = ((2 ^ k - 1 : Nat) : Int)) : bits .and .u8 (b : Int) m = ((b % 2 ^ k : Nat) : Int) := by
  subst hm
  have h2 : (2 : Nat) ^ k ≤ 2 ^ 8 := Nat.pow_le_pow_right (by decide) hk
  have h1 : 0 < (2 : Nat) ^ k := Nat.pow_pos (by decide)
  rw [u8_and_nat _ _ hb (by omega), Nat.and_two_pow_sub_one_eq_mod]

theorem or_i64_join' (i x y : Nat) (hx : x < 2 ^ i) (h : x + y * 2 ^ i < 2 ^ 63) : bits .or .i64 ((y * 2 ^ i : Nat) : Int) (x : Int) = ((x + y * 2 ^ i : Nat) : Int) := by
  rw [or_i64_nat _ _ (by omega) (by omega), Nat.or_comm, or_join i x y hx]

/-! ### bits packed into bytes -/
def byteAt (l : List Bool) (i : Nat) : Nat :=
  (l.getD (8 * i) false).toNat + (l.getD (8 * i + 1) false).toNat * 2 + (l.getD (8 * i + 2) false).toNat * 4 + (l.getD (8 * i + 3) false).toNat * 8 +
  (l.getD (8 * i + 4) false).toNat * 16 + (l.getD (8 * i + 5) false).toNat * 32 + (l.getD (8 * i + 6) false).toNat * 64 + (l.getD (8 * i + 7) false).toNat * 128

def pack (l : List Bool) : List Nat := (List.range ((l.length + 7) / 8)).map (byteAt l)

theorem toNat_le1 (b : Bool) : b.toNat ≤ 1 := by cases b <;> simp

theorem byteAt_lt (l : List Bool) (i : Nat) : byteAt l i < 256 := by
  unfold byteAt
  have h := fun k => toNat_le1 (l.getD (8 * i + k) false)
  have h0 := h 0; have h1 := h 1; have h2 := h 2; have h3 := h 3; have h4 := h 4; have h5 := h 5; have h6 := h 6; have h7 := h 7
  simp only [Nat.add_zero] at h0
  omega

theorem pack_length (l : List Bool) : (pack l).length = (l.length + 7) / 8 := by simp [pack]

theorem pack_getD (l : List Bool) (i : Nat) : (pack l).getD i 0 = if i < (l.length + 7) / 8 then byteAt l i else 0 := by
  unfold pack
  by_cases h : i < (l.length + 7) / 8 <;> simp [List.getD, h]

theorem getD_snoc (l : List Bool) (c : Bool) (k : Nat) : (l ++ [c]).getD k false = if k = l.length then c else l.getD k false := by
  simp only [List.getD]
  by_cases h : k < l.length
  · rw [List.getElem?_append_left h, if_neg (by omega)]
  · rw [List.getElem?_append_right (by omega)]
    by_cases h2 : k = l.length
    · simp [h2]
    · rw [if_neg h2, List.getElem?_eq_none (by simp; omega), List.getElem?_eq_none (by omega)]

theorem getD_past (l : List Bool) (k : Nat) (h : l.length ≤ k) : l.getD k false = false := by
  simp [List.getD, List.getElem?_eq_none h]

theorem byteAt_snoc (l : List Bool) (c : Bool) (i : Nat) : byteAt (l ++ [c]) i = byteAt l i + if i = l.length / 8 then c.toNat * 2 ^ (l.length % 8) else 0 := by
  unfold byteAt
  simp only [getD_snoc]
  by_cases h : i = l.length / 8
  · have h8 : l.length % 8 < 8 := Nat.mod_lt _ (by decide)
    have e := getD_past l l.length (Nat.le_refl _)
    rw [if_pos h]
    rcases (show l.length % 8 = 0 ∨ l.length % 8 = 1 ∨ l.length % 8 = 2 ∨ l.length % 8 = 3 ∨ l.length % 8 = 4 ∨ l.length % 8 = 5 ∨ l.length % 8 = 6 ∨ l.length % 8 = 7 by omega) with r | r | r | r | r | r | r | r
    · have e' : l.length = 8 * i := by omega
      rw [e'] at e
      rw [r]; simp [← e']
    all_goals
      first
      | (have e' : l.length = 8 * i + 1 := by omega
         rw [e'] at e; rw [r, e', e]; simp; omega)
      | (have e' : l.length = 8 * i + 2 := by omega
         rw [e'] at e; rw [r, e', e]; simp; omega)
      | (have e' : l.length = 8 * i + 3 := by omega
         rw [e'] at e; rw [r, e', e]; simp; omega)
      | (have e' : l.length = 8 * i + 4 := by omega
         rw [e'] at e; rw [r, e', e]; simp; omega)
      | (have e' : l.length = 8 * i + 5 := by omega
         rw [e'] at e; rw [r, e', e]; simp; omega)
      | (have e' : l.length = 8 * i + 6 := by omega
         rw [e'] at e; rw [r, e', e]; simp; omega)
      | (have e' : l.length = 8 * i + 7 := by omega
         rw [e'] at e; rw [r, e', e]; simp)
  · rw [if_neg h]
    rw [if_neg (by omega), if_neg (by omega), if_neg (by omega), if_neg (by omega), if_neg (by omega), if_neg (by omega), if_neg (by omega), if_neg (by omega)]
    omega

theorem byteAt_past (l : List Bool) (i : Nat) (h : l.length ≤ 8 * i) : byteAt l i = 0 := by
  unfold byteAt
  rw [getD_past l _ (by omega), getD_past l _ (by omega), getD_past l _ (by omega), getD_past l _ (by omega), getD_past l _ (by omega), getD_past l _ (by omega), getD_past l _ (by omega), getD_past l _ (by omega)]
  rfl

theorem byteAt_last_lt (l : List Bool) : byteAt l (l.length / 8) < 2 ^ (l.length % 8) := by
  unfold byteAt
  have h := fun k => toNat_le1 (l.getD (8 * (l.length / 8) + k) false)
  have h0 := h 0; have h1 := h 1; have h2 := h 2; have h3 := h 3; have h4 := h 4; have h5 := h 5; have h6 := h 6
  simp only [Nat.add_zero] at h0
  rcases (show l.length % 8 = 0 ∨ l.length % 8 = 1 ∨ l.length % 8 = 2 ∨ l.length % 8 = 3 ∨ l.length % 8 = 4 ∨ l.length % 8 = 5 ∨ l.length % 8 = 6 ∨ l.length % 8 = 7 by omega) with r | r | r | r | r | r | r | r
  all_goals
    rw [r]
    repeat rw [getD_past l (8 * (l.length / 8) + 7) (by omega)]
    try rw [getD_past l (8 * (l.length / 8) + 6) (by omega)]
    try rw [getD_past l (8 * (l.length / 8) + 5) (by omega)]
    try rw [getD_past l (8 * (l.length / 8) + 4) (by omega)]
    try rw [getD_past l (8 * (l.length / 8) + 3) (by omega)]
    try rw [getD_past l (8 * (l.length / 8) + 2) (by omega)]
    try rw [getD_past l (8 * (l.length / 8) + 1) (by omega)]
    try rw [getD_past l (8 * (l.length / 8)) (by omega)]
    simp only [Bool.toNat_false, Nat.reducePow]
    omega

theorem pack_snoc_new (l : List Bool) (c : Bool) (h : l.length % 8 = 0) : pack (l ++ [c]) = pack l ++ [c.toNat] := by
  have hd : l.length / 8 = (l.length + 7) / 8 := by omega
  unfold pack
  rw [show ((l ++ [c]).length + 7) / 8 = (l.length + 7) / 8 + 1 by simp; omega, List.range_succ, List.map_append]
  congr 1
  · apply List.map_congr_left
    intro i hi
    rw [byteAt_snoc, if_neg (by have := List.mem_range.1 hi; omega)]; rfl
  · simp only [List.map_cons, List.map_nil]
    rw [byteAt_snoc, if_pos hd.symm, byteAt_past l _ (by omega), h]; simp

theorem pack_snoc_old (l : List Bool) (c : Bool) (h : l.length % 8 ≠ 0) :
    pack (l ++ [c]) = (pack l).set (l.length / 8) (byteAt l (l.length / 8) + c.toNat * 2 ^ (l.length % 8)) := by
  unfold pack
  rw [show ((l ++ [c]).length + 7) / 8 = (l.length + 7) / 8 by simp; omega]
  apply List.ext_getElem?
  intro i
  rw [List.getElem?_set]
  by_cases hi : i < (l.length + 7) / 8
  · simp only [List.getElem?_map, List.getElem?_range hi, Option.map_some, byteAt_snoc]
    by_cases e : l.length / 8 = i
    · subst e; simp [hi]
    · rw [if_neg (by omega), if_neg e]; rfl
  · rw [if_neg (by omega)]
    simp [hi]

end Go.Proofs.Ytcnckpglicfolaa
