/- Plain: one turned byte changes the sum; a file of one part of bytes as they are, and what is told of it where a byte is turned. No program. -/
import Derived.Test.YtgjcnembeebjfaaGzBq
namespace Go.Proofs.Ytgjcnembeebjfaa
open Go
set_option linter.unusedVariables false

theorem ofInt_nat32 (a : Nat) (h : a < 2 ^ 32) : (BitVec.ofInt 32 (a : Int)).toNat = a := by
  rw [BitVec.toNat_ofInt]
  omega
theorem xor_u32_nat (a b : Nat) (ha : a < 2 ^ 32) (hb : b < 2 ^ 32) : Go.bits .xor .u32 (a : Int) (b : Int) = ((a ^^^ b : Nat) : Int) := by
  have h : a ^^^ b < 2 ^ 32 := Nat.xor_lt_two_pow ha hb
  show IntKind.u32.wrap ((BitVec.ofInt 32 (a : Int) ^^^ BitVec.ofInt 32 (b : Int)).toNat : Nat) = _
  rw [BitVec.toNat_xor, ofInt_nat32 a ha, ofInt_nat32 b hb]
  generalize a ^^^ b = c at *
  exact IntWalk.u32_in _ (by omega)
theorem and_u32_one (a : Nat) (ha : a < 2 ^ 32) : Go.bits .and .u32 (a : Int) 1 = ((a % 2 : Nat) : Int) := by
  show IntKind.u32.wrap ((BitVec.ofInt 32 (a : Int) &&& BitVec.ofInt 32 ((1 : Nat) : Int)).toNat : Nat) = _
  rw [BitVec.toNat_and, ofInt_nat32 a ha, ofInt_nat32 1 (by decide), Nat.and_one_is_mod]
  exact IntWalk.u32_in _ (by omega)

theorem xor_r {a b c : Nat} (h : a ^^^ c = b ^^^ c) : a = b := by
  have := congrArg (fun z => z ^^^ c) h
  simpa [Nat.xor_assoc] using this
theorem xor_l {a b c : Nat} (h : c ^^^ a = c ^^^ b) : a = b := by
  rw [Nat.xor_comm c a, Nat.xor_comm c b] at h
  exact xor_r h
theorem mid_lt {P S : List Nat} {x : Nat} (hP : ∀ z ∈ P, z < 256) (hS : ∀ z ∈ S, z < 256) (hx : x < 256) : ∀ z ∈ P ++ x :: S, z < 256 := by
  intro z hz
  rw [List.mem_append, List.mem_cons] at hz
  rcases hz with h | h | h
  · exact hP z h
  · rw [h]; exact hx
  · exact hS z h

/-! the sum's steps on natural numbers -/
def crc1N (n : Nat) : Nat := n / 2 ^^^ (if n % 2 = 1 then 3988292384 else 0)
def crcKN : Nat → Nat → Nat
  | 0, n => n
  | k + 1, n => crc1N (crcKN k n)
theorem crc1N_lt (n : Nat) (h : n < 2 ^ 32) : crc1N n < 2 ^ 32 := by
  unfold crc1N
  refine Nat.xor_lt_two_pow (by omega) ?_
  split <;> decide
theorem crc1_nat (n : Nat) (h : n < 2 ^ 32) : crc1 (n : Int) = ((crc1N n : Nat) : Int) := by
  unfold crc1 crc1N
  rw [and_u32_one n h]
  have e2 : ((n : Int) / 2) = ((n / 2 : Nat) : Int) := by omega
  rw [e2]
  rcases Nat.mod_two_eq_zero_or_one n with e | e
  · rw [e, if_neg (by decide)]
    have : Go.bits .and .u32 3988292384 (-((0 : Nat) : Int) % 4294967296) = ((0 : Nat) : Int) := by decide +kernel
    rw [this, xor_u32_nat _ _ (by omega) (by decide)]
  · rw [e, if_pos rfl]
    have : Go.bits .and .u32 3988292384 (-((1 : Nat) : Int) % 4294967296) = ((3988292384 : Nat) : Int) := by decide +kernel
    rw [this, xor_u32_nat _ _ (by omega) (by decide)]
theorem crcKN_lt (k n : Nat) (h : n < 2 ^ 32) : crcKN k n < 2 ^ 32 := by
  induction k with
  | zero => exact h
  | succ k ih => exact crc1N_lt _ ih
theorem crcK_nat (k n : Nat) (h : n < 2 ^ 32) : crcK k (n : Int) = ((crcKN k n : Nat) : Int) := by
  induction k with
  | zero => rfl
  | succ k ih => rw [crcK, ih, crc1_nat _ (crcKN_lt k n h)]; rfl
theorem crc1N_inj (a b : Nat) (ha : a < 2 ^ 32) (hb : b < 2 ^ 32) (h : crc1N a = crc1N b) : a = b := by
  have mixed : ∀ x y : Nat, x < 2 ^ 31 → y < 2 ^ 31 → x ^^^ 3988292384 = y → False := by
    intro x y hx hy e
    have t := congrArg (fun z => Nat.testBit z 31) e
    simp only [Nat.testBit_xor, Nat.testBit_lt_two_pow hx, Nat.testBit_lt_two_pow hy] at t
    revert t
    decide
  unfold crc1N at h
  rcases Nat.mod_two_eq_zero_or_one a with ea | ea <;> rcases Nat.mod_two_eq_zero_or_one b with eb | eb
  · rw [if_neg (by omega), if_neg (by omega), Nat.xor_zero, Nat.xor_zero] at h
    omega
  · rw [if_neg (by omega), if_pos eb, Nat.xor_zero] at h
    exact (mixed (b / 2) (a / 2) (by omega) (by omega) h.symm).elim
  · rw [if_pos ea, if_neg (by omega), Nat.xor_zero] at h
    exact (mixed (a / 2) (b / 2) (by omega) (by omega) h).elim
  · rw [if_pos ea, if_pos eb] at h
    have := xor_r h
    omega
theorem crcKN_inj (k a b : Nat) (ha : a < 2 ^ 32) (hb : b < 2 ^ 32) (h : crcKN k a = crcKN k b) : a = b := by
  induction k with
  | zero => exact h
  | succ k ih => exact ih (crc1N_inj _ _ (crcKN_lt k a ha) (crcKN_lt k b hb) h)

def crcN (v : Nat) (D : List Nat) : Nat := D.foldl (fun v b => crcKN 8 (v ^^^ b)) v
theorem crcN_lt (D : List Nat) : ∀ v, v < 2 ^ 32 → (∀ x ∈ D, x < 256) → crcN v D < 2 ^ 32 := by
  induction D with
  | nil => intro v hv _; exact hv
  | cons x r ih =>
    intro v hv hD
    exact ih _ (crcKN_lt 8 _ (Nat.xor_lt_two_pow hv (Nat.lt_trans (hD x (by simp)) (by decide)))) fun y hy => hD y (by simp [hy])
theorem crc_nat (D : List Nat) : ∀ v : Nat, v < 2 ^ 32 → (∀ x ∈ D, x < 256) → D.foldl (fun (v : Int) (b : Nat) => crcK 8 (bits .xor .u32 v (b : Int))) (v : Int) = ((crcN v D : Nat) : Int) := by
  induction D with
  | nil => intro v hv _; rfl
  | cons x r ih =>
    intro v hv hD
    have hx : x < 2 ^ 32 := Nat.lt_trans (hD x (by simp)) (by decide)
    have hvx : v ^^^ x < 2 ^ 32 := Nat.xor_lt_two_pow hv hx
    rw [List.foldl_cons, xor_u32_nat v x hv hx, crcK_nat 8 _ hvx, ih _ (crcKN_lt 8 _ hvx) fun y hy => hD y (by simp [hy])]
    rfl
theorem crcN_inj (D : List Nat) : ∀ v u, v < 2 ^ 32 → u < 2 ^ 32 → (∀ x ∈ D, x < 256) → crcN v D = crcN u D → v = u := by
  induction D with
  | nil => intro v u _ _ _ h; exact h
  | cons x r ih =>
    intro v u hv hu hD h
    have hx : x < 2 ^ 32 := Nat.lt_trans (hD x (by simp)) (by decide)
    have h1 : v ^^^ x < 2 ^ 32 := Nat.xor_lt_two_pow hv hx
    have h2 : u ^^^ x < 2 ^ 32 := Nat.xor_lt_two_pow hu hx
    exact xor_r (crcKN_inj 8 _ _ h1 h2 (ih _ _ (crcKN_lt 8 _ h1) (crcKN_lt 8 _ h2) (fun y hy => hD y (by simp [hy])) h))
theorem sumOf_nat (D : List Nat) (hD : ∀ x ∈ D, x < 256) : sumOf D = ((4294967295 ^^^ crcN 4294967295 D : Nat) : Int) := by
  unfold sumOf crcTo
  have e : (4294967295 : Int) = ((4294967295 : Nat) : Int) := rfl
  rw [e, crc_nat D _ (by decide) hD]
  exact xor_u32_nat 4294967295 _ (by decide) (crcN_lt D _ (by decide) hD)

/-- one byte turned: another sum -/
theorem sum_turn (P S : List Nat) (x y : Nat) (hP : ∀ z ∈ P, z < 256) (hS : ∀ z ∈ S, z < 256) (hx : x < 256) (hy : y < 256) (hne : x ≠ y) : sumOf (P ++ x :: S) ≠ sumOf (P ++ y :: S) := by
  intro h
  rw [sumOf_nat _ (mid_lt hP hS hx), sumOf_nat _ (mid_lt hP hS hy)] at h
  have h1 := xor_l (Int.ofNat.inj h)
  unfold crcN at h1
  rw [List.foldl_append, List.foldl_append, List.foldl_cons, List.foldl_cons] at h1
  have hv := crcN_lt P 4294967295 (by decide) hP
  have e1 : crcN (crcKN 8 (crcN 4294967295 P ^^^ x)) S = crcN (crcKN 8 (crcN 4294967295 P ^^^ y)) S := h1
  have hx' : crcN 4294967295 P ^^^ x < 2 ^ 32 := Nat.xor_lt_two_pow hv (Nat.lt_trans hx (by decide))
  have hy' : crcN 4294967295 P ^^^ y < 2 ^ 32 := Nat.xor_lt_two_pow hv (Nat.lt_trans hy (by decide))
  exact hne (xor_l (crcKN_inj 8 _ _ hx' hy' (crcN_inj S _ _ (crcKN_lt 8 _ hx') (crcKN_lt 8 _ hy') hS e1)))

theorem numL_inj : ∀ l l' : List Nat, l.length = l'.length → (∀ x ∈ l, x < 256) → (∀ x ∈ l', x < 256) → numL l = numL l' → l = l'
  | [], [], _, _, _, _ => rfl
  | x :: r, y :: t, hl, h1, h2, h => by
    rw [numL, numL] at h
    have hx := h1 x (by simp)
    have hy := h2 y (by simp)
    have e1 : x = y := by omega
    have e2 := numL_inj r t (by simpa using hl) (fun z hz => h1 z (by simp [hz])) (fun z hz => h2 z (by simp [hz])) (by omega)
    rw [e1, e2]

/-! a part of bytes as they are -/
theorem packed_nil (D : List Nat) (hD : D.length ≤ 65535) (h : ∀ x ∈ D, x < 256) : pack (packAll D []) = storedOne true D := by
  have hk : kindOf (chAt [] D.length 0).1 = 0 := kind_past [] D.length 0 (Nat.le_refl _)
  have hL : leftOf [] D.length 0 0 = D.length := by rw [leftOf_past [] D.length 0 0 (Nat.le_refl _), Nat.sub_zero]
  have hc : cutOf 0 D.length = D.length := by unfold cutOf; rw [if_pos rfl]; omega
  have hq : isLast [] D.length 0 0 D.length D.length = true := by unfold isLast; simp
  unfold packAll
  rw [List.length_nil, Nat.add_zero, hL, packR]
  simp only [hk, hc, hq, if_true]
  unfold blkB
  rw [if_pos rfl, List.drop_zero, List.take_length]
  have e := head_bits [] true ((true).toNat : Int) ((0 : Nat) : Int) rfl rfl
  have e0 : bytesBits [] = [] := rfl
  rw [e0] at e
  rw [e, ← bytesBits_append, ← bytesBits_append, pack_bytes]
  · rfl
  · intro x hx
    simp only [List.mem_append, List.mem_cons, List.not_mem_nil, or_false] at hx
    rcases hx with ((hx | hx) | hx) | hx
    · cases hx
    · subst hx; decide
    · omega
    · exact h x hx

theorem tailN_gen (D : ByteArray) (p : GPart) (a1 q len : Nat) (d S7 S8 : ByteArray) (hq : a1 + (len + 7) / 8 = q) (ht : takeM D 8 q = .ok (S7 ++ S8) (q + 8)) (h7 : S7.size = 4) (h8 : S8.size = 4) :
    tailN D p ⟨len, bytesOf d, 0⟩ a1 = if (numL (bytesOf S7) : Int) = sumOf (bytesOf d) then if numL (bytesOf S8) = d.size then .ok { p with data := d } (q + 8) else .bad 11 (q + 4) else .bad 10 q := by
  unfold tailN
  rw [if_neg (by simp)]
  simp only []
  rw [hq, ht]
  simp only [RR.bind, strOf_bytesOf]
  have e1 : (S7 ++ S8).extract 0 4 = S7 := by have := extract_first S7 S8; rw [h7] at this; exact this
  have e2 : (S7 ++ S8).extract 4 (S7 ++ S8).size = S8 := by have := extract_tail S7 S8; rw [h7] at this; exact this
  rw [e1, e2]

theorem stored_part (fu m : Nat) (d S7 S8 : ByteArray) (hd : d.size ≤ 65535) (hm : d.size ≤ m) (hfu : 1 ≤ fu) (h7 : S7.size = 4) (h8 : S8.size = 4) :
    ∃ q, partN fu (H10 ++ strOf (storedOne true (bytesOf d)) ++ (S7 ++ S8)) m 0 = if (numL (bytesOf S7) : Int) = sumOf (bytesOf d) then if numL (bytesOf S8) = d.size then .ok { data := d } (q + 8) else .bad 11 (q + 4) else .bad 10 q := by
  obtain ⟨PK, hPK⟩ : ∃ z, strOf (storedOne true (bytesOf d)) = z := ⟨_, rfl⟩
  rw [hPK]
  have hlt : ∀ x ∈ storedOne true (bytesOf d), x < 256 := by
    intro x hx
    unfold storedOne at hx
    simp only [List.mem_cons] at hx
    rw [bytesOf_length] at hx
    rcases hx with rfl | rfl | rfl | rfl | rfl | hx
    · decide
    · omega
    · omega
    · omega
    · omega
    · exact bytesOf_lt d x hx
  have hPb : bytesOf PK = storedOne true (bytesOf d) := by rw [← hPK, bytesOf_strOf _ hlt]
  have e1 : H10 ++ PK ++ (S7 ++ S8) = ByteArray.empty ++ H10 ++ (PK ++ (S7 ++ S8)) := by rw [empty_left]; apply bytesOf_inj; simp only [bytesOf_append, List.append_assoc]
  have hh := head_data .empty (PK ++ (S7 ++ S8))
  rw [← e1, show ByteArray.empty.size = 0 from rfl, Nat.zero_add] at hh
  have hrun := run_stored fu PK m [bytesOf d] (by simp) (by simp [bytesOf_length]; exact hd) (by rw [hPb]; simp [layS]) (by simp [bytesOf_length]; exact hm) hfu
  have hu : unpN fu (H10 ++ PK ++ (S7 ++ S8)) 10 m = ⟨8 * PK.size, bytesOf d, 0⟩ := by
    unfold unpN
    have e3 := extract_tail H10 (PK ++ (S7 ++ S8))
    rw [show H10 ++ (PK ++ (S7 ++ S8)) = H10 ++ PK ++ (S7 ++ S8) by apply bytesOf_inj; simp only [bytesOf_append, List.append_assoc], H10_facts.1] at e3
    rw [e3, run_more fu PK _ m (pre_append PK _) (by rw [hrun]), hrun]
    simp
  have ht := takeM_mid (H10 ++ PK) (S7 ++ S8) .empty 8 (by rw [ByteArray.size_append, h7, h8])
  rw [nil_right, ByteArray.size_append, H10_facts.1] at ht
  refine ⟨10 + PK.size, ?_⟩
  rw [partN_ok hh, hu, tailN_gen _ _ _ (10 + PK.size) _ d S7 S8 (by omega) ht h7 h8]

theorem strOf_cat (a b : List Nat) : strOf a ++ strOf b = strOf (a ++ b) := by
  unfold strOf
  apply ByteArray.ext
  simp
/-- the fifteen bytes ahead of the data -/
def A15 (n : Nat) : List Nat := bytesOf H10 ++ [1, n % 256, n / 256, 255 - n % 256, 255 - n / 256]
theorem A15_len (n : Nat) : (A15 n).length = 15 := by
  unfold A15
  rw [List.length_append, bytesOf_length, H10_facts.1]
  rfl
theorem file_eq (D T7 T8 : List Nat) (h : ∀ x ∈ D, x < 256) : strOf (A15 D.length ++ (D ++ (T7 ++ T8))) = H10 ++ strOf (storedOne true (bytesOf (strOf D))) ++ (strOf T7 ++ strOf T8) := by
  rw [bytesOf_strOf _ h]
  conv => rhs; rw [← strOf_bytesOf H10]
  rw [strOf_cat, strOf_cat, strOf_cat]
  congr 1

/-- a file that is not as it was written is not read -/
theorem not_read (fu : Nat) (hfu : 1 ≤ fu) (n m : Nat) (D T7 T8 : List Nat) (hl : D.length = n) (hn : n ≤ 65535) (hm : n ≤ m) (h : ∀ x ∈ D, x < 256) (l7 : T7.length = 4) (l8 : T8.length = 4) (h7 : ∀ x ∈ T7, x < 256) (h8 : ∀ x ∈ T8, x < 256)
    (hne : (numL T7 : Int) ≠ sumOf D ∨ numL T8 ≠ n) : ∃ c f, c ≠ 0 ∧ readN fu (strOf (A15 n ++ (D ++ (T7 ++ T8)))) 1026 m 0 [] = .bad c f := by
  subst hl
  have hz : (strOf D).size = D.length := strOf_size D
  obtain ⟨q, hq⟩ := stored_part fu m (strOf D) (strOf T7) (strOf T8) (by omega) (by omega) hfu (by rw [strOf_size]; exact l7) (by rw [strOf_size]; exact l8)
  rw [← file_eq D T7 T8 h, bytesOf_strOf _ h, bytesOf_strOf _ h7, bytesOf_strOf _ h8, hz] at hq
  have go : ∀ c f, partN fu (strOf (A15 D.length ++ (D ++ (T7 ++ T8)))) m 0 = .bad c f → readN fu (strOf (A15 D.length ++ (D ++ (T7 ++ T8)))) 1026 m 0 [] = .bad c f := by
    intro c f hp
    rw [readN, if_pos (.inl rfl), if_neg (by decide), hp, RR.bind]
  by_cases e1 : (numL T7 : Int) = sumOf D
  · rw [if_pos e1, if_neg (by rcases hne with h | h; exact absurd e1 h; exact h)] at hq
    exact ⟨11, q + 4, by decide, go _ _ hq⟩
  · rw [if_neg e1] at hq
    exact ⟨10, q, by decide, go _ _ hq⟩

theorem numL_set (l : List Nat) (k y : Nat) (hk : k < l.length) (hl : ∀ x ∈ l, x < 256) (hy : y < 256) (hne : y ≠ l.getD k 0) : numL (l.set k y) ≠ numL l := by
  intro h
  have hl' : ∀ x ∈ l.set k y, x < 256 := by
    intro x hx
    rcases List.mem_or_eq_of_mem_set hx with h | h
    · exact hl x h
    · rw [h]; exact hy
  have e := numL_inj _ _ (by rw [List.length_set]) hl' hl h
  apply hne
  have e2 := congrArg (fun z => z.getD k 0) e
  simp only [List.getD_eq_getElem?_getD, List.getElem?_set_self hk, Option.getD_some] at e2
  rw [List.getD_eq_getElem?_getD]
  exact e2

/-- the file of one part, byte by byte -/
theorem file_bytes (d : ByteArray) (hd : d.size ≤ 65535) : bytesOf (partB { data := d } []) = A15 d.size ++ (bytesOf d ++ (lowL (sumOf (bytesOf d)).toNat 4 ++ lowL d.size 4)) := by
  unfold partB
  rw [hd2_data, packed_nil (bytesOf d) (by rw [bytesOf_length]; exact hd) (bytesOf_lt d)]
  have hlt : ∀ x ∈ storedOne true (bytesOf d), x < 256 := by
    intro x hx
    unfold storedOne at hx
    simp only [List.mem_cons] at hx
    rw [bytesOf_length] at hx
    rcases hx with rfl | rfl | rfl | rfl | rfl | hx
    · decide
    · omega
    · omega
    · omega
    · omega
    · exact bytesOf_lt d x hx
  simp only [bytesOf_append, low_bytes]
  rw [bytesOf_strOf _ hlt]
  unfold A15 storedOne
  rw [bytesOf_length]
  simp

theorem turned_plain (fu : Nat) (hfu : 1 ≤ fu) (d : ByteArray) (hd : d.size ≤ 65535) (j y : Nat) (hj : j < d.size + 8) (hy : y < 256) (hne : y ≠ (bytesOf (partB { data := d } [])).getD (15 + j) 0) :
    ∃ c f, c ≠ 0 ∧ readN fu (strOf ((bytesOf (partB { data := d } [])).set (15 + j) y)) 1026 d.size 0 [] = .bad c f := by
  rw [file_bytes d hd] at hne ⊢
  have p4 : (256 : Nat) ^ 4 = 4294967296 := by decide
  have hsin := sumOf_in (bytesOf d)
  have n7 : (numL (lowL (sumOf (bytesOf d)).toNat 4) : Int) = sumOf (bytesOf d) := by
    rw [numL_low _ _ (by rw [p4]; omega), Int.toNat_of_nonneg hsin.1]
  have n8 : numL (lowL d.size 4) = d.size := numL_low _ _ (by rw [p4]; omega)
  have l7 := lowL_len (sumOf (bytesOf d)).toNat 4
  have l8 := lowL_len d.size 4
  have b7 := lowL_lt (sumOf (bytesOf d)).toNat 4
  have b8 := lowL_lt d.size 4
  have bD := bytesOf_lt d
  have lD := bytesOf_length d
  generalize lowL (sumOf (bytesOf d)).toNat 4 = T7 at *
  generalize lowL d.size 4 = T8 at *
  generalize bytesOf d = D at *
  generalize d.size = n at *
  rw [List.set_append_right _ _ (by rw [A15_len]; omega), A15_len, show 15 + j - 15 = j by omega]
  have e : (A15 n ++ (D ++ (T7 ++ T8))).getD (15 + j) 0 = (D ++ (T7 ++ T8)).getD j 0 := by
    rw [List.getD_eq_getElem?_getD, List.getElem?_append_right (by rw [A15_len]; omega), A15_len, show 15 + j - 15 = j by omega, List.getD_eq_getElem?_getD]
  rw [e] at hne
  have set_lt : ∀ (l : List Nat) (k : Nat), (∀ x ∈ l, x < 256) → ∀ x ∈ l.set k y, x < 256 := by
    intro l k hl x hx
    rcases List.mem_or_eq_of_mem_set hx with h | h
    · exact hl x h
    · rw [h]; exact hy
  by_cases h1 : j < n
  · have hjD : j < D.length := by omega
    rw [List.set_append_left _ _ hjD]
    rw [List.getD_eq_getElem?_getD, List.getElem?_append_left hjD, List.getElem?_eq_getElem hjD, Option.getD_some] at hne
    refine not_read fu hfu n n (D.set j y) T7 T8 (by rw [List.length_set]; exact lD) hd (Nat.le_refl _) (set_lt D j bD) l7 l8 b7 b8 (.inl ?_)
    rw [n7]
    have s1 : D = D.take j ++ D[j] :: D.drop (j + 1) := by rw [← List.drop_eq_getElem_cons hjD, List.take_append_drop]
    have s2 : D.set j y = D.take j ++ y :: D.drop (j + 1) := by rw [List.set_eq_take_append_cons_drop, if_pos hjD]
    rw [s2]
    conv => lhs; rw [s1]
    exact sum_turn _ _ _ _ (fun z hz => bD z (List.mem_of_mem_take hz)) (fun z hz => bD z (List.mem_of_mem_drop hz)) (bD _ (List.getElem_mem hjD)) hy (fun h => hne h.symm)
  · rw [List.set_append_right _ _ (by omega), lD]
    rw [List.getD_eq_getElem?_getD, List.getElem?_append_right (by omega), lD, ← List.getD_eq_getElem?_getD] at hne
    obtain ⟨k, hk⟩ : ∃ k, j - n = k := ⟨_, rfl⟩
    rw [hk] at hne ⊢
    by_cases h2 : k < 4
    · rw [List.set_append_left _ _ (by omega)]
      rw [List.getD_eq_getElem?_getD, List.getElem?_append_left (by omega), ← List.getD_eq_getElem?_getD] at hne
      refine not_read fu hfu n n D (T7.set k y) T8 lD hd (Nat.le_refl _) bD (by rw [List.length_set]; exact l7) l8 (set_lt T7 k b7) b8 (.inl ?_)
      rw [← n7]
      intro h
      exact numL_set T7 k y (by omega) b7 hy hne (Int.ofNat.inj h)
    · rw [List.set_append_right _ _ (by omega), l7]
      rw [List.getD_eq_getElem?_getD, List.getElem?_append_right (by omega), l7, ← List.getD_eq_getElem?_getD] at hne
      refine not_read fu hfu n n D T7 (T8.set (k - 4) y) lD hd (Nat.le_refl _) bD l7 (by rw [List.length_set]; exact l8) b7 (set_lt T8 (k - 4) b8) (.inr ?_)
      rw [← n8]
      exact numL_set T8 (k - 4) y (by omega) b8 hy hne

end Go.Proofs.Ytgjcnembeebjfaa
