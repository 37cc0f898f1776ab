/- Plain: what is written is read back. No program. -/
import Derived.Test.YtgjcnembeebjfaaGzWB
import Derived.Test.YtgjcnembeebjfaaGzK
namespace Go.Proofs.Ytgjcnembeebjfaa
open Go
set_option linter.unusedVariables false

theorem lb_succ (n j : Nat) : lb n (j + 1) = lb (n / 256) j := by
  unfold lb
  rw [Nat.div_div_eq_div_mul, show 8 * (j + 1) = 8 + 8 * j by omega, Nat.pow_add]
theorem lowL_succ (n k : Nat) : lowL n (k + 1) = n % 256 :: lowL (n / 256) k := by
  unfold lowL
  rw [List.range_succ_eq_map, List.map_cons, List.map_map]
  congr 1
  · simp [lb]
  · apply List.map_congr_left
    intro j _
    exact lb_succ n j
theorem numL_low : ∀ (k n : Nat), n < 256 ^ k → numL (lowL n k) = n
  | 0, n, h => by
    have : n = 0 := by simpa using h
    subst this
    rfl
  | k + 1, n, h => by
    rw [lowL_succ, numL, numL_low k (n / 256) (by rw [Nat.pow_succ] at h; omega)]
    omega
theorem lowL_len (n k : Nat) : (lowL n k).length = k := by simp [lowL]
theorem low_bytes (n k : Nat) : bytesOf (strOf (lowL n k)) = lowL n k := bytesOf_strOf _ (lowL_lt n k)
theorem numS_low (n k : Nat) (h : n < 256 ^ k) : numL (bytesOf (strOf (lowL n k))) = n := by rw [low_bytes, numL_low k n h]

/-- a piece out of a longer text -/
theorem extract_mid (x y z : ByteArray) : (x ++ y ++ z).extract x.size (x.size + y.size) = y := by
  apply bytesOf_inj
  rw [bytesOf_extract, bytesOf_append, bytesOf_append, List.append_assoc, List.take_append, List.drop_append, List.drop_of_length_le (by rw [List.length_take, bytesOf_length]; omega), List.length_take, bytesOf_length, List.nil_append, show x.size + y.size - x.size = y.size by omega, show x.size - min (x.size + y.size) x.size = 0 by omega, List.drop_zero, List.take_append_of_le_length (by rw [bytesOf_length]; exact Nat.le_refl _), List.take_of_length_le (by rw [bytesOf_length]; exact Nat.le_refl _)]
theorem extract_tail (x y : ByteArray) : (x ++ y).extract x.size (x ++ y).size = y := by
  have := extract_mid x y .empty
  have e : x ++ y ++ ByteArray.empty = x ++ y := by apply bytesOf_inj; rw [bytesOf_append]; simp [bytesOf]
  rw [e] at this
  rw [ByteArray.size_append]
  exact this

theorem takeM_mid (x y z : ByteArray) (n : Nat) (hn : y.size = n) : takeM (x ++ y ++ z) n x.size = .ok y (x.size + n) := by
  subst hn
  unfold takeM
  rw [if_pos (by simp only [ByteArray.size_append]; omega), extract_mid]

/-- the head of a part that has data alone -/
def H10 : ByteArray := ⟨#[31, 139, 8, 0, 0, 0, 0, 0, 0, 0]⟩
theorem H10_facts : H10.size = 10 ∧ gB H10 2 = 8 ∧ flag H10 224 = false ∧ flag H10 4 = false ∧ flag H10 8 = false ∧ flag H10 16 = false ∧ flag H10 1 = false ∧ flag H10 2 = false ∧ numL (bytesOf (H10.extract 4 8)) = 0 ∧ gB H10 8 = 0 ∧ gB H10 9 = 0 := by decide +kernel
theorem hd2_data (d : ByteArray) : hd2 { data := d } = H10 := by
  have h1 : hd1 { data := d } = H10 := by
    have e : ∀ d d' : ByteArray, hd1 { data := d } = hd1 { data := d' } := fun _ _ => rfl
    rw [e d .empty]
    decide +kernel
  unfold hd2
  rw [if_neg (by simp), h1]

theorem head_data (x y : ByteArray) : headM (x ++ H10 ++ y) x.size = .ok {} (x.size + 10) := by
  obtain ⟨f0, f1, f2, f3, f4, f5, f6, f7, f8, f9, f10⟩ := H10_facts
  have hm : isM ((x ++ H10 ++ y).extract x.size (x ++ H10 ++ y).size) = true := by
    have e : x ++ H10 ++ y = x ++ (H10 ++ y) := by apply bytesOf_inj; simp only [bytesOf_append, List.append_assoc]
    rw [e, extract_tail]
    unfold isM
    rw [decide_eq_true_eq, bytesOf_append]
    rfl
  unfold headM
  rw [if_neg (by rw [hm]; simp), takeM_mid x H10 y 10 f0]
  simp only [RR.bind]
  rw [if_neg (by simp [f1]), if_neg (by simp [f2])]
  unfold restM sumM
  simp only [f3, f4, f5, f6, f7, f8, f9, f10, Bool.false_eq_true, if_false, RR.bind]
  rfl

theorem extract_first (y z : ByteArray) : (y ++ z).extract 0 y.size = y := by
  have := extract_mid .empty y z
  have e : ByteArray.empty ++ y ++ z = y ++ z := by apply bytesOf_inj; simp [bytesOf]
  rw [e] at this
  simpa using this

theorem tailN_back (D : ByteArray) (p : GPart) (a1 q len : Nat) (d S7 S8 : ByteArray) (hq : a1 + (len + 7) / 8 = q) (ht : takeM D 8 q = .ok (S7 ++ S8) (q + 8)) (h7 : S7.size = 4) (h8 : S8.size = 4)
    (n7 : (numL (bytesOf S7) : Int) = sumOf (bytesOf d)) (n8 : numL (bytesOf S8) = d.size) : tailN D p ⟨len, bytesOf d, 0⟩ a1 = .ok { p with data := d } (q + 8) := by
  unfold tailN
  rw [if_neg (by simp)]
  simp only []
  rw [hq, ht]
  simp only [RR.bind, strOf_bytesOf]
  have e1 : (S7 ++ S8).extract 0 4 = S7 := by have := extract_first S7 S8; rw [h7] at this; exact this
  have e2 : (S7 ++ S8).extract 4 (S7 ++ S8).size = S8 := by have := extract_tail S7 S8; rw [h7] at this; exact this
  rw [e1, e2, if_pos n7, if_pos n8]

theorem part_data (fu : Nat) (x y d : ByteArray) (C : List Ch) (m : Nat) (hm : d.size ≤ m) (hd : d.size ≤ 1048576) (hfu : d.size + C.length + 1 ≤ fu) :
    partN fu (x ++ partB { data := d } C ++ y) m x.size = .ok { data := d } (x.size + (partB { data := d } C).size) := by
  obtain ⟨PK, hPK⟩ : ∃ z, strOf (pack (packAll (bytesOf d) C)) = z := ⟨_, rfl⟩
  obtain ⟨S7, hS7⟩ : ∃ z, strOf (lowL (sumOf (bytesOf d)).toNat 4) = z := ⟨_, rfl⟩
  obtain ⟨S8, hS8⟩ : ∃ z, strOf (lowL d.size 4) = z := ⟨_, rfl⟩
  have hP : partB { data := d } C = H10 ++ PK ++ S7 ++ S8 := by
    unfold partB
    rw [hd2_data]
    simp only [hPK, hS7, hS8]
  have hsin := sumOf_in (bytesOf d)
  have p4 : (256 : Nat) ^ 4 = 4294967296 := by decide
  have z7 : S7.size = 4 := by rw [← hS7, strOf_size, lowL_len]
  have z8 : S8.size = 4 := by rw [← hS8, strOf_size, lowL_len]
  have n7 : (numL (bytesOf S7) : Int) = sumOf (bytesOf d) := by
    rw [← hS7, numS_low _ 4 (by rw [p4]; omega), Int.toNat_of_nonneg hsin.1]
  have n8 : numL (bytesOf S8) = d.size := by
    rw [← hS8, numS_low _ 4 (by rw [p4]; omega)]
  have hps : PK.size = ((packAll (bytesOf d) C).length + 7) / 8 := by rw [← hPK, packed_size]
  have e1 : x ++ (H10 ++ PK ++ S7 ++ S8) ++ y = x ++ H10 ++ (PK ++ (S7 ++ S8 ++ y)) := by apply bytesOf_inj; simp only [bytesOf_append, List.append_assoc]
  have e2 : x ++ (H10 ++ PK ++ S7 ++ S8) ++ y = (x ++ H10 ++ PK) ++ (S7 ++ S8) ++ y := by apply bytesOf_inj; simp only [bytesOf_append, List.append_assoc]
  have hh := head_data x (PK ++ (S7 ++ S8 ++ y))
  rw [← e1, ← hP] at hh
  have hsz : (x ++ H10).size = x.size + 10 := by rw [ByteArray.size_append, H10_facts.1]
  have hu : unpN fu (x ++ partB { data := d } C ++ y) (x.size + 10) m = ⟨(packAll (bytesOf d) C).length, bytesOf d, 0⟩ := by
    unfold unpN
    have e3 := extract_tail (x ++ H10) (PK ++ (S7 ++ S8 ++ y))
    rw [← e1, ← hP, hsz] at e3
    rw [e3, ← hPK]
    exact pack_run (bytesOf d) (bytesOf_lt d) C _ m (by rw [bytesOf_length]; exact hm) fu (by rw [bytesOf_length]; exact hfu)
  have ht := takeM_mid (x ++ H10 ++ PK) (S7 ++ S8) y 8 (by rw [ByteArray.size_append, z7, z8])
  rw [← e2, ← hP] at ht
  have hq : (x ++ H10 ++ PK).size = x.size + 10 + ((packAll (bytesOf d) C).length + 7) / 8 := by rw [ByteArray.size_append, hsz, hps]
  rw [partN_ok hh, hu, tailN_back _ _ _ _ _ d S7 S8 hq.symm ht z7 z8 n7 n8]
  congr 1
  rw [hP]
  simp only [ByteArray.size_append, H10_facts.1, z7, z8]
  omega

theorem head_bad (x s : ByteArray) (h : isM s = false) : headM (x ++ s) x.size = .bad 12 x.size := by
  unfold headM
  rw [extract_tail, if_pos h]
theorem empty_left (s : ByteArray) : ByteArray.empty ++ s = s := by apply bytesOf_inj; rw [bytesOf_append]; rfl

/-- what does not begin as a file is told so -/
theorem magic_first (fu m : Nat) (s : ByteArray) (h : isM s = false) : readN fu s 1026 m 0 [] = .bad 12 0 := by
  have hh := head_bad .empty s h
  rw [empty_left, show ByteArray.empty.size = 0 from rfl] at hh
  rw [readN, if_pos (.inl rfl), if_neg (by decide), partN_bad hh, RR.bind]

/-- and so is what follows a part -/
theorem magic_behind (fu m : Nat) (s d : ByteArray) (C : List Ch) (h : isM s = false) (hm : d.size ≤ m) (hd : d.size ≤ 1048576) (hfu : d.size + C.length + 1 ≤ fu) :
    readN fu (partB { data := d } C ++ s) 1026 m 0 [] = if s.size = 0 then .ok [{ data := d }] (partB { data := d } C).size else .bad 12 (partB { data := d } C).size := by
  have hp := part_data fu .empty s d C m hm hd hfu
  rw [empty_left] at hp
  have hz : ByteArray.empty.size = 0 := rfl
  rw [hz, Nat.zero_add] at hp
  rw [readN, if_pos (.inl rfl), if_neg (by decide), hp, RR.bind]
  simp only [List.nil_append]
  rw [readN]
  by_cases hs : s.size = 0
  · rw [if_neg (by simp only [List.length_singleton, ByteArray.size_append]; omega), if_pos hs]
  · rw [if_pos (.inr (by rw [ByteArray.size_append]; omega)), if_neg (by simp), partN_bad (head_bad _ s h), RR.bind, if_neg hs]

end Go.Proofs.Ytgjcnembeebjfaa
