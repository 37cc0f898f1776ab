/- Plain: what the laws of package gz share: more behind, parts that are read back, the sum on natural numbers. No program. -/
import Derived.Test.YtgjcnembeebjfaaGzQ
namespace Go.Proofs.Ytgjcnembeebjfaa
open Go
set_option linter.unusedVariables false

theorem index_more' (c : UInt8) (m : List UInt8) : ∀ l : List UInt8, Lib.indexByte l c ≠ -1 → Lib.indexByte (l ++ m) c = Lib.indexByte l c
  | [], h => absurd rfl h
  | x :: l, h => by
    have ih := index_more' c m l
    rw [List.cons_append]
    rw [Lib.indexByte] at h ⊢
    rw [Lib.indexByte]
    by_cases e : (x == c) = true
    · rw [if_pos e, if_pos e]
    · rw [if_neg e] at h
      by_cases e2 : (Lib.indexByte l c == -1) = true
      · rw [if_pos e2] at h
        exact absurd rfl h
      · rw [if_neg e, if_neg e, ih (by simpa using e2)]
theorem index_more (c : UInt8) (m : List UInt8) (l : List UInt8) (i : Nat) (h : Lib.indexByte l c = .ofNat i) : Lib.indexByte (l ++ m) c = .ofNat i := by
  rw [index_more' c m l (by rw [h]; intro h; cases h), h]

theorem isM_more (s y : ByteArray) (h : isM s = true) : isM (s ++ y) = true := by
  unfold isM at *
  rw [decide_eq_true_eq] at *
  have hl : 2 ≤ (bytesOf s).length := by
    have := congrArg List.length h
    rw [List.length_take] at this
    simp at this
    omega
  rw [bytesOf_append, List.take_append_of_le_length hl, h]

theorem nil_left (s : ByteArray) : ByteArray.empty ++ s = s := by apply bytesOf_inj; rw [bytesOf_append]; rfl
theorem nil_right (s : ByteArray) : s ++ ByteArray.empty = s := by apply bytesOf_inj; rw [bytesOf_append]; exact List.append_nil _
theorem readN_end {fu : Nat} {D : ByteArray} {g m a : Nat} {l : List GPart} (hl : l ≠ []) (ha : D.size ≤ a) : readN fu D g m a l = .ok l a := by
  cases g with
  | zero => rw [readN]
  | succ g => rw [readN, if_neg (by have : l.length ≠ 0 := fun h => hl (List.eq_nil_of_length_eq_zero h); omega)]


def fileS (l : List GPart) (C : List Ch) : ByteArray := strOf (fileL l C)
theorem fileL_lt (l : List GPart) (C : List Ch) : ∀ x ∈ fileL l C, x < 256 := by
  intro x hx
  unfold fileL at hx
  rw [List.mem_flatMap] at hx
  obtain ⟨p, -, h⟩ := hx
  exact bytesOf_lt _ x h
theorem fileS_bytes (l : List GPart) (C : List Ch) : bytesOf (fileS l C) = fileL l C := bytesOf_strOf _ (fileL_lt l C)
theorem fileS_cons (p : GPart) (l : List GPart) (C : List Ch) : fileS (p :: l) C = partB p C ++ fileS l C := by
  apply bytesOf_inj
  rw [bytesOf_append, fileS_bytes, fileS_bytes]
  rfl

theorem fileS_nil (C : List Ch) : fileS [] C = .empty := rfl


/-- a part that is read anywhere as it is written -/
def Back (fu : Nat) (C : List Ch) (p : GPart) : Prop := 18 ≤ (partB p C).size ∧ ∀ x y m, p.data.size ≤ m → partN fu (x ++ partB p C ++ y) m x.size = .ok p (x.size + (partB p C).size)

theorem file_back (fu : Nat) (C : List Ch) : ∀ (l : List GPart) (x : ByteArray) (m g : Nat) (acc : List GPart), (∀ p ∈ l, Back fu C p) → (l.map fun p => p.data.size).sum ≤ m → acc.length + l.length ≤ 1024 → g + acc.length = 1026 → acc ++ l ≠ [] →
    ∃ e, readN fu (x ++ fileS l C) g m x.size acc = .ok (acc ++ l) e
  | [], x, m, g, acc, hb, hm, hl, hg, hne => by
    rw [List.append_nil] at *
    exact ⟨_, readN_end hne (by rw [fileS_nil, ByteArray.size_append]; exact Nat.le_refl _)⟩
  | p :: r, x, m, g, acc, hb, hm, hl, hg, hne => by
    obtain ⟨g', rfl⟩ : ∃ g', g = g' + 1 := ⟨g - 1, by omega⟩
    obtain ⟨h1, h2⟩ := hb p (by simp)
    rw [List.map_cons, List.sum_cons] at hm
    rw [List.length_cons] at hl
    have e : x ++ fileS (p :: r) C = x ++ partB p C ++ fileS r C := by rw [fileS_cons]; apply bytesOf_inj; simp only [bytesOf_append, List.append_assoc]
    obtain ⟨e', he⟩ := file_back fu C r (x ++ partB p C) (m - p.data.size) g' (acc ++ [p]) (fun q hq => hb q (by simp [hq])) (by omega) (by rw [List.length_append, List.length_singleton]; omega) (by rw [List.length_append, List.length_singleton]; omega) (by simp)
    refine ⟨e', ?_⟩
    rw [readN, if_pos (.inr (by rw [e]; simp only [ByteArray.size_append]; omega)), if_neg (by omega), e, h2 x (fileS r C) m (by omega), RR.bind]
    rw [ByteArray.size_append] at he
    rw [he]
    simp


theorem ofInt_nat32 (a : Nat) (h : a < 2 ^ 32) : (BitVec.ofInt 32 (a : Int)).toNat = a := by
  rw [BitVec.toNat_ofInt]
  omega
theorem xor_u32_nat (a b : Nat) (ha : a < 2 ^ 32) (hb : b < 2 ^ 32) : Go.bits .xor .u32 (a : Int) (b : Int) = ((a ^^^ b : Nat) : Int) := by
  have h : a ^^^ b < 2 ^ 32 := Nat.xor_lt_two_pow ha hb
  show IntKind.u32.wrap ((BitVec.ofInt 32 (a : Int) ^^^ BitVec.ofInt 32 (b : Int)).toNat : Nat) = _
  rw [BitVec.toNat_xor, ofInt_nat32 a ha, ofInt_nat32 b hb]
  generalize a ^^^ b = c at *
  exact IntWalk.u32_in _ (by omega)
theorem and_u32_one (a : Nat) (ha : a < 2 ^ 32) : Go.bits .and .u32 (a : Int) 1 = ((a % 2 : Nat) : Int) := by
  show IntKind.u32.wrap ((BitVec.ofInt 32 (a : Int) &&& BitVec.ofInt 32 ((1 : Nat) : Int)).toNat : Nat) = _
  rw [BitVec.toNat_and, ofInt_nat32 a ha, ofInt_nat32 1 (by decide), Nat.and_one_is_mod]
  exact IntWalk.u32_in _ (by omega)

theorem xor_r {a b c : Nat} (h : a ^^^ c = b ^^^ c) : a = b := by
  have := congrArg (fun z => z ^^^ c) h
  simpa [Nat.xor_assoc] using this
theorem xor_l {a b c : Nat} (h : c ^^^ a = c ^^^ b) : a = b := by
  rw [Nat.xor_comm c a, Nat.xor_comm c b] at h
  exact xor_r h
theorem mid_lt {P S : List Nat} {x : Nat} (hP : ∀ z ∈ P, z < 256) (hS : ∀ z ∈ S, z < 256) (hx : x < 256) : ∀ z ∈ P ++ x :: S, z < 256 := by
  intro z hz
  rw [List.mem_append, List.mem_cons] at hz
  rcases hz with h | h | h
  · exact hP z h
  · rw [h]; exact hx
  · exact hS z h

/-! the sum's steps on natural numbers -/
def crc1N (n : Nat) : Nat := n / 2 ^^^ (if n % 2 = 1 then 3988292384 else 0)
def crcKN : Nat → Nat → Nat
  | 0, n => n
  | k + 1, n => crc1N (crcKN k n)
theorem crc1N_lt (n : Nat) (h : n < 2 ^ 32) : crc1N n < 2 ^ 32 := by
  unfold crc1N
  refine Nat.xor_lt_two_pow (by omega) ?_
  split <;> decide
theorem crc1_nat (n : Nat) (h : n < 2 ^ 32) : crc1 (n : Int) = ((crc1N n : Nat) : Int) := by
  unfold crc1 crc1N
  rw [and_u32_one n h]
  have e2 : ((n : Int) / 2) = ((n / 2 : Nat) : Int) := by omega
  rw [e2]
  rcases Nat.mod_two_eq_zero_or_one n with e | e
  · rw [e, if_neg (by decide)]
    have : Go.bits .and .u32 3988292384 (-((0 : Nat) : Int) % 4294967296) = ((0 : Nat) : Int) := by decide +kernel
    rw [this, xor_u32_nat _ _ (by omega) (by decide)]
  · rw [e, if_pos rfl]
    have : Go.bits .and .u32 3988292384 (-((1 : Nat) : Int) % 4294967296) = ((3988292384 : Nat) : Int) := by decide +kernel
    rw [this, xor_u32_nat _ _ (by omega) (by decide)]
theorem crcKN_lt (k n : Nat) (h : n < 2 ^ 32) : crcKN k n < 2 ^ 32 := by
  induction k with
  | zero => exact h
  | succ k ih => exact crc1N_lt _ ih
theorem crcK_nat (k n : Nat) (h : n < 2 ^ 32) : crcK k (n : Int) = ((crcKN k n : Nat) : Int) := by
  induction k with
  | zero => rfl
  | succ k ih => rw [crcK, ih, crc1_nat _ (crcKN_lt k n h)]; rfl
theorem crc1N_inj (a b : Nat) (ha : a < 2 ^ 32) (hb : b < 2 ^ 32) (h : crc1N a = crc1N b) : a = b := by
  have mixed : ∀ x y : Nat, x < 2 ^ 31 → y < 2 ^ 31 → x ^^^ 3988292384 = y → False := by
    intro x y hx hy e
    have t := congrArg (fun z => Nat.testBit z 31) e
    simp only [Nat.testBit_xor, Nat.testBit_lt_two_pow hx, Nat.testBit_lt_two_pow hy] at t
    revert t
    decide
  unfold crc1N at h
  rcases Nat.mod_two_eq_zero_or_one a with ea | ea <;> rcases Nat.mod_two_eq_zero_or_one b with eb | eb
  · rw [if_neg (by omega), if_neg (by omega), Nat.xor_zero, Nat.xor_zero] at h
    omega
  · rw [if_neg (by omega), if_pos eb, Nat.xor_zero] at h
    exact (mixed (b / 2) (a / 2) (by omega) (by omega) h.symm).elim
  · rw [if_pos ea, if_neg (by omega), Nat.xor_zero] at h
    exact (mixed (a / 2) (b / 2) (by omega) (by omega) h).elim
  · rw [if_pos ea, if_pos eb] at h
    have := xor_r h
    omega
theorem crcKN_inj (k a b : Nat) (ha : a < 2 ^ 32) (hb : b < 2 ^ 32) (h : crcKN k a = crcKN k b) : a = b := by
  induction k with
  | zero => exact h
  | succ k ih => exact ih (crc1N_inj _ _ (crcKN_lt k a ha) (crcKN_lt k b hb) h)

def crcN (v : Nat) (D : List Nat) : Nat := D.foldl (fun v b => crcKN 8 (v ^^^ b)) v
theorem crcN_lt (D : List Nat) : ∀ v, v < 2 ^ 32 → (∀ x ∈ D, x < 256) → crcN v D < 2 ^ 32 := by
  induction D with
  | nil => intro v hv _; exact hv
  | cons x r ih =>
    intro v hv hD
    exact ih _ (crcKN_lt 8 _ (Nat.xor_lt_two_pow hv (Nat.lt_trans (hD x (by simp)) (by decide)))) fun y hy => hD y (by simp [hy])
theorem crc_nat (D : List Nat) : ∀ v : Nat, v < 2 ^ 32 → (∀ x ∈ D, x < 256) → D.foldl (fun (v : Int) (b : Nat) => crcK 8 (bits .xor .u32 v (b : Int))) (v : Int) = ((crcN v D : Nat) : Int) := by
  induction D with
  | nil => intro v hv _; rfl
  | cons x r ih =>
    intro v hv hD
    have hx : x < 2 ^ 32 := Nat.lt_trans (hD x (by simp)) (by decide)
    have hvx : v ^^^ x < 2 ^ 32 := Nat.xor_lt_two_pow hv hx
    rw [List.foldl_cons, xor_u32_nat v x hv hx, crcK_nat 8 _ hvx, ih _ (crcKN_lt 8 _ hvx) fun y hy => hD y (by simp [hy])]
    rfl
theorem crcN_inj (D : List Nat) : ∀ v u, v < 2 ^ 32 → u < 2 ^ 32 → (∀ x ∈ D, x < 256) → crcN v D = crcN u D → v = u := by
  induction D with
  | nil => intro v u _ _ _ h; exact h
  | cons x r ih =>
    intro v u hv hu hD h
    have hx : x < 2 ^ 32 := Nat.lt_trans (hD x (by simp)) (by decide)
    have h1 : v ^^^ x < 2 ^ 32 := Nat.xor_lt_two_pow hv hx
    have h2 : u ^^^ x < 2 ^ 32 := Nat.xor_lt_two_pow hu hx
    exact xor_r (crcKN_inj 8 _ _ h1 h2 (ih _ _ (crcKN_lt 8 _ h1) (crcKN_lt 8 _ h2) (fun y hy => hD y (by simp [hy])) h))
theorem sumOf_nat (D : List Nat) (hD : ∀ x ∈ D, x < 256) : sumOf D = ((4294967295 ^^^ crcN 4294967295 D : Nat) : Int) := by
  unfold sumOf crcTo
  have e : (4294967295 : Int) = ((4294967295 : Nat) : Int) := rfl
  rw [e, crc_nat D _ (by decide) hD]
  exact xor_u32_nat 4294967295 _ (by decide) (crcN_lt D _ (by decide) hD)


end Go.Proofs.Ytgjcnembeebjfaa
