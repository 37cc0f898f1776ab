/- Plain: any part that may be written is read back, wherever it stands. No program. -/
import Derived.Test.YtgjcnembeebjfaaGzX0
namespace Go.Proofs.Ytgjcnembeebjfaa
open Go
set_option linter.unusedVariables false

/-! no byte 00 -/
theorem index_at (c : UInt8) : ∀ (l r : List UInt8), Lib.indexByte l c = -1 → Lib.indexByte (l ++ c :: r) c = .ofNat l.length
  | [], r, _ => by simp [Lib.indexByte]
  | x :: l, r, h => by
    have ih := index_at c l r
    rw [Lib.indexByte] at h
    rw [List.cons_append, Lib.indexByte]
    by_cases e : (x == c) = true
    · rw [if_pos e] at h
      cases h
    · rw [if_neg e] at h
      by_cases e2 : (Lib.indexByte l c == -1) = true
      · rw [if_neg e, ih (by simpa using e2)]
        have : ((Int.ofNat l.length : Int) == -1) = false := by rw [beq_eq_false_iff_ne]; intro h; cases h
        rw [this]
        rfl
      · rw [if_neg e2] at h
        have := Lib.indexByte_ge l c
        omega
theorem index_none_left (c : UInt8) (a b : List UInt8) (h : Lib.indexByte (a ++ b) c = -1) : Lib.indexByte a c = -1 := by
  by_cases e : Lib.indexByte a c = -1
  · exact e
  · rw [index_more' c b a e] at h
    exact absurd h e
theorem index_none_right (c : UInt8) : ∀ (a b : List UInt8), Lib.indexByte (a ++ b) c = -1 → Lib.indexByte b c = -1
  | [], b, h => h
  | x :: a, b, h => by
    refine index_none_right c a b ?_
    rw [List.cons_append, Lib.indexByte] at h
    by_cases e : (x == c) = true
    · rw [if_pos e] at h
      cases h
    · rw [if_neg e] at h
      by_cases e2 : (Lib.indexByte (a ++ b) c == -1) = true
      · simpa using e2
      · rw [if_neg e2] at h
        have := Lib.indexByte_ge (a ++ b) c
        omega

theorem numL_lowL : ∀ (k n : Nat), numL (lowL n k) = n % 256 ^ k
  | 0, n => by rw [Nat.pow_zero, Nat.mod_one]; rfl
  | k + 1, n => by
    rw [lowL_succ, numL, numL_lowL k (n / 256), Nat.pow_succ, Nat.mul_comm (256 ^ k) 256, Nat.mod_mul]
    rw [Nat.mul_comm 256]

/-! the flags -/
def FB (t e n c h : Bool) : Nat :=
  let f1 := if t = true then 1 else 0
  let f2 := if e = true then f1 + 4 else f1
  let f3 := if n = true then f2 + 8 else f2
  let f4 := if c = true then f3 + 16 else f3
  if h = true then f4 + 2 else f4
theorem FB_facts : ∀ t e n c h : Bool, FB t e n c h < 32 ∧ (!(bits .and .u8 (FB t e n c h : Int) 1 == 0)) = t ∧ (!(bits .and .u8 (FB t e n c h : Int) 2 == 0)) = h ∧ (!(bits .and .u8 (FB t e n c h : Int) 4 == 0)) = e ∧ (!(bits .and .u8 (FB t e n c h : Int) 8 == 0)) = n ∧
    (!(bits .and .u8 (FB t e n c h : Int) 16 == 0)) = c ∧ (!(bits .and .u8 (FB t e n c h : Int) 224 == 0)) = false := by decide +kernel
def has (s : ByteArray) : Bool := decide (s ≠ .empty)
theorem fl5_eq (p : GPart) : fl5 p = FB p.text (has p.extra) (has p.name) (has p.comment) p.headSum := by
  unfold fl5 fl4 fl3 fl2 fl1 FB has
  by_cases h1 : p.extra = .empty <;> by_cases h2 : p.name = .empty <;> by_cases h3 : p.comment = .empty <;> simp [h1, h2, h3]

/-! the pieces of a head -/
def H10p (p : GPart) : ByteArray := ⟨#[31, 139]⟩ ++ strOf (lowL 8 1) ++ strOf (lowL (fl5 p) 1) ++ strOf (lowL p.time.toNat 4) ++ strOf (lowL p.more.toNat 1) ++ strOf (lowL p.system.toNat 1)
def pcE (x : ByteArray) : ByteArray := if x = .empty then .empty else strOf (lowL x.size 2) ++ x
def pcT (x : ByteArray) : ByteArray := if x = .empty then .empty else x ++ ⟨#[0]⟩
theorem mo3_eq (p : GPart) : mo3 p = pcE p.extra ++ pcT p.name ++ pcT p.comment := by
  unfold mo3 mo2 mo1 pcE pcT
  apply bytesOf_inj
  have e0 : bytesOf ⟨#[]⟩ = [] := rfl
  have e1 : bytesOf ByteArray.empty = [] := rfl
  by_cases h1 : p.extra = .empty <;> by_cases h2 : p.name = .empty <;> by_cases h3 : p.comment = .empty <;> simp [h1, h2, h3, bytesOf_append, e0, e1]
theorem hd1_eq (p : GPart) : hd1 p = H10p p ++ (pcE p.extra ++ pcT p.name ++ pcT p.comment) := by
  unfold hd1 H10p
  rw [mo3_eq]

theorem lowL_one (n : Nat) : lowL n 1 = [n % 256] := by rw [lowL_succ]; rfl
theorem H10p_bytes (p : GPart) : bytesOf (H10p p) = [31, 139, 8] ++ [fl5 p % 256] ++ lowL p.time.toNat 4 ++ [p.more.toNat % 256] ++ [p.system.toNat % 256] := by
  unfold H10p
  simp only [bytesOf_append, low_bytes]
  rw [lowL_one, lowL_one, lowL_one, lowL_one]
  rfl

theorem H10p_facts (p : GPart) (hg : goodN p = 0) : (H10p p).size = 10 ∧ isM (H10p p) = true ∧ gB (H10p p) 2 = 8 ∧ flag (H10p p) 224 = false ∧ flag (H10p p) 4 = has p.extra ∧ flag (H10p p) 8 = has p.name ∧ flag (H10p p) 16 = has p.comment ∧ flag (H10p p) 1 = p.text ∧
    flag (H10p p) 2 = p.headSum ∧ (numL (bytesOf ((H10p p).extract 4 8)) : Int) = p.time ∧ (gB (H10p p) 8 : Int) = p.more ∧ (gB (H10p p) 9 : Int) = p.system := by
  have hr : (0 ≤ p.time ∧ p.time < 4294967296) ∧ (0 ≤ p.more ∧ p.more ≤ 255) ∧ (0 ≤ p.system ∧ p.system ≤ 255) := by
    unfold goodN at hg
    split at hg
    · cases hg
    · omega
  obtain ⟨f0, f1, f2, f4, f8, f16, f224⟩ := FB_facts p.text (has p.extra) (has p.name) (has p.comment) p.headSum
  rw [← fl5_eq] at f0 f1 f2 f4 f8 f16 f224
  have hb := H10p_bytes p
  have hl4 := lowL_len p.time.toNat 4
  have hm : fl5 p % 256 = fl5 p := Nat.mod_eq_of_lt (by omega)
  rw [hm] at hb
  obtain ⟨t0, t1, t2, t3, ht⟩ : ∃ a b c d, lowL p.time.toNat 4 = [a, b, c, d] := by
    generalize lowL p.time.toNat 4 = l at hl4
    match l, hl4 with
    | [a, b, c, d], _ => exact ⟨a, b, c, d, rfl⟩
  have hn := numL_lowL 4 p.time.toNat
  rw [ht] at hb hn
  have g3 : gB (H10p p) 3 = fl5 p := by unfold gB; rw [hb]; rfl
  have hfl : ∀ m : Int, flag (H10p p) m = !(bits .and .u8 (fl5 p : Int) m == 0) := fun m => by unfold flag; rw [g3]
  refine ⟨?_, ?_, ?_, ?_, ?_, ?_, ?_, ?_, ?_, ?_, ?_, ?_⟩
  · rw [← bytesOf_length, hb]; rfl
  · unfold isM; rw [hb]; rfl
  · unfold gB; rw [hb]; rfl
  · rw [hfl, f224]
  · rw [hfl, f4]
  · rw [hfl, f8]
  · rw [hfl, f16]
  · rw [hfl, f1]
  · rw [hfl, f2]
  · rw [bytesOf_extract, hb]
    change ((numL [t0, t1, t2, t3] : Nat) : Int) = _
    rw [hn]
    have p4 : (256 : Nat) ^ 4 = 4294967296 := by decide
    rw [p4, Nat.mod_eq_of_lt (by omega)]
    omega
  · unfold gB
    rw [hb]
    change ((p.more.toNat % 256 : Nat) : Int) = _
    omega
  · unfold gB
    rw [hb]
    change ((p.system.toNat % 256 : Nat) : Int) = _
    omega

theorem optE_mid (x y e : ByteArray) (he : e.size ≤ 65535) : (if has e = true then extraM (x ++ pcE e ++ y) x.size else .ok .empty x.size) = .ok e (x.size + (pcE e).size) := by
  unfold pcE has
  by_cases h : e = .empty
  · rw [if_pos h, if_neg (by simp [h]), h]
    rfl
  · rw [if_neg h, if_pos (by simp [h])]
    have hl : (strOf (lowL e.size 2)).size = 2 := by rw [strOf_size, lowL_len]
    have p2 : (256 : Nat) ^ 2 = 65536 := by decide
    have hn : numL (bytesOf (strOf (lowL e.size 2))) = e.size := numS_low _ 2 (by rw [p2]; omega)
    have e1 : x ++ (strOf (lowL e.size 2) ++ e) ++ y = x ++ strOf (lowL e.size 2) ++ (e ++ y) := by apply bytesOf_inj; simp only [bytesOf_append, List.append_assoc]
    have e2 : x ++ (strOf (lowL e.size 2) ++ e) ++ y = x ++ strOf (lowL e.size 2) ++ e ++ y := by apply bytesOf_inj; simp only [bytesOf_append, List.append_assoc]
    have ht := takeM_mid x (strOf (lowL e.size 2)) (e ++ y) 2 hl
    rw [← e1] at ht
    unfold extraM
    rw [ht, RR.bind, hn]
    have hx := extract_mid (x ++ strOf (lowL e.size 2)) e y
    rw [← e2, ByteArray.size_append, hl] at hx
    rw [if_pos (by simp only [ByteArray.size_append, hl]; omega), hx]
    exact congrArg (RR.ok e) (by rw [ByteArray.size_append, hl]; omega)

theorem optT_mid (x y e : ByteArray) (he : e.size ≤ 256) (h0 : Lib.indexByte e.data.toList 0 = -1) : (if has e = true then textM (x ++ pcT e ++ y) x.size else .ok .empty x.size) = .ok e (x.size + (pcT e).size) := by
  unfold pcT has
  by_cases h : e = .empty
  · rw [if_pos h, if_neg (by simp [h]), h]
    rfl
  · rw [if_neg h, if_pos (by simp [h])]
    have e1 : x ++ (e ++ ⟨#[0]⟩) ++ y = x ++ (e ++ ⟨#[0]⟩ ++ y) := by apply bytesOf_inj; simp only [bytesOf_append, List.append_assoc]
    have e2 : x ++ (e ++ ⟨#[0]⟩) ++ y = x ++ e ++ (⟨#[0]⟩ ++ y) := by apply bytesOf_inj; simp only [bytesOf_append, List.append_assoc]
    have ht := extract_tail x (e ++ ⟨#[0]⟩ ++ y)
    rw [← e1] at ht
    have hi : Lib.indexByte (e ++ ⟨#[0]⟩ ++ y).data.toList 0 = .ofNat e.size := by
      have : (e ++ ⟨#[0]⟩ ++ y).data.toList = e.data.toList ++ 0 :: y.data.toList := by simp
      rw [this, index_at 0 _ _ h0]
      congr 1
    have hx := extract_mid x e (⟨#[0]⟩ ++ y)
    rw [← e2] at hx
    unfold textM
    rw [ht, hi]
    simp only []
    rw [if_neg (by omega), hx]
    congr 1
    rw [ByteArray.size_append]
    rfl

theorem sumM_mid (x h y : ByteArray) (p : GPart) (b : Bool) : sumM (x ++ (if b = true then h ++ strOf (lowL (sumOf (bytesOf h)).toNat 2) else h) ++ y) x.size p b (x.size + h.size) = .ok p (x.size + (if b = true then h ++ strOf (lowL (sumOf (bytesOf h)).toNat 2) else h).size) := by
  cases b with
  | false => rfl
  | true =>
    rw [if_pos rfl]
    obtain ⟨S, hS⟩ : ∃ S, strOf (lowL (sumOf (bytesOf h)).toNat 2) = S := ⟨_, rfl⟩
    have hl : S.size = 2 := by rw [← hS, strOf_size, lowL_len]
    have hs := sumOf_in (bytesOf h)
    have hn : (numL (bytesOf S) : Int) = bits .and .i64 (sumOf (bytesOf h)) 65535 := by
      rw [and_mask_i64 _ 16 (by decide) 65535 (by decide), ← hS, low_bytes, numL_lowL]
      have p2 : (256 : Nat) ^ 2 = 65536 := by decide
      rw [p2]
      generalize sumOf (bytesOf h) = z at *
      omega
    rw [hS]
    have e1 : x ++ (h ++ S) ++ y = x ++ h ++ S ++ y := by apply bytesOf_inj; simp only [bytesOf_append, List.append_assoc]
    have ht := takeM_mid (x ++ h) S y 2 hl
    rw [← e1, ByteArray.size_append] at ht
    have hx := extract_mid x h (S ++ y)
    have e2 : x ++ h ++ (S ++ y) = x ++ (h ++ S) ++ y := by apply bytesOf_inj; simp only [bytesOf_append, List.append_assoc]
    rw [e2] at hx
    unfold sumM
    rw [if_pos rfl, ht, RR.bind, hx]
    generalize bits .and .i64 (sumOf (bytesOf h)) 65535 = z at *
    rw [if_pos hn]
    congr 1
    rw [ByteArray.size_append, hl]
    omega

theorem head_good (x y : ByteArray) (p : GPart) (hg : goodN p = 0) : headM (x ++ hd2 p ++ y) x.size = .ok { p with data := .empty } (x.size + (hd2 p).size) := by
  obtain ⟨f0, fm, f1, f2, f3, f4, f5, f6, f7, f8, f9, f10⟩ := H10p_facts p hg
  have hs : p.name.size ≤ 256 ∧ p.comment.size ≤ 256 ∧ p.extra.size ≤ 65535 ∧ Lib.indexByte (p.name ++ p.comment).data.toList 0 = -1 := by
    unfold goodN at hg
    split at hg
    · cases hg
    · split at hg
      · cases hg
      · split at hg
        · cases hg
        · have := Lib.indexByte_ge (p.name ++ p.comment).data.toList 0
          exact ⟨by omega, by omega, by omega, by omega⟩
  obtain ⟨hn, hc, hx, hz⟩ := hs
  have hz' : (p.name ++ p.comment).data.toList = p.name.data.toList ++ p.comment.data.toList := by simp
  rw [hz'] at hz
  have hzn := index_none_left 0 _ _ hz
  have hzc := index_none_right 0 _ _ hz
  have h1 := hd1_eq p
  obtain ⟨H, hH⟩ : ∃ H, H10p p = H := ⟨_, rfl⟩
  rw [hH] at f0 fm f1 f2 f3 f4 f5 f6 f7 f8 f9 f10 h1
  obtain ⟨E, hE⟩ : ∃ E, (if p.headSum = true then strOf (lowL (sumOf (bytesOf (hd1 p))).toNat 2) else .empty) = E := ⟨_, rfl⟩
  have h2 : hd2 p = hd1 p ++ E := by
    unfold hd2
    rw [← hE]
    by_cases h : p.headSum = true
    · rw [if_pos h, if_pos h]
    · rw [if_neg h, if_neg h, nil_right]
  have h3 : hd2 p = if p.headSum = true then hd1 p ++ strOf (lowL (sumOf (bytesOf (hd1 p))).toNat 2) else hd1 p := rfl
  have hm : isM ((x ++ hd2 p ++ y).extract x.size (x ++ hd2 p ++ y).size) = true := by
    have e : x ++ hd2 p ++ y = x ++ (H ++ (pcE p.extra ++ pcT p.name ++ pcT p.comment ++ E ++ y)) := by rw [h2, h1]; apply bytesOf_inj; simp only [bytesOf_append, List.append_assoc]
    rw [e, extract_tail]
    exact isM_more _ _ fm
  have ht := takeM_mid x H (pcE p.extra ++ pcT p.name ++ pcT p.comment ++ E ++ y) 10 f0
  rw [show x ++ H ++ (pcE p.extra ++ pcT p.name ++ pcT p.comment ++ E ++ y) = x ++ hd2 p ++ y by rw [h2, h1]; apply bytesOf_inj; simp only [bytesOf_append, List.append_assoc]] at ht
  have t1 := optE_mid (x ++ H) (pcT p.name ++ pcT p.comment ++ E ++ y) p.extra hx
  rw [show x ++ H ++ pcE p.extra ++ (pcT p.name ++ pcT p.comment ++ E ++ y) = x ++ hd2 p ++ y by rw [h2, h1]; apply bytesOf_inj; simp only [bytesOf_append, List.append_assoc], ByteArray.size_append, f0] at t1
  have t2 := optT_mid (x ++ H ++ pcE p.extra) (pcT p.comment ++ E ++ y) p.name hn hzn
  rw [show x ++ H ++ pcE p.extra ++ pcT p.name ++ (pcT p.comment ++ E ++ y) = x ++ hd2 p ++ y by rw [h2, h1]; apply bytesOf_inj; simp only [bytesOf_append, List.append_assoc], ByteArray.size_append, ByteArray.size_append, f0] at t2
  have t3 := optT_mid (x ++ H ++ pcE p.extra ++ pcT p.name) (E ++ y) p.comment hc hzc
  rw [show x ++ H ++ pcE p.extra ++ pcT p.name ++ pcT p.comment ++ (E ++ y) = x ++ hd2 p ++ y by rw [h2, h1]; apply bytesOf_inj; simp only [bytesOf_append, List.append_assoc], ByteArray.size_append, ByteArray.size_append, ByteArray.size_append, f0] at t3
  have hlen : x.size + 10 + (pcE p.extra).size + (pcT p.name).size + (pcT p.comment).size = x.size + (hd1 p).size := by
    rw [h1]
    simp only [ByteArray.size_append, f0]
    omega
  have t4 := fun q : GPart => sumM_mid x (hd1 p) y q p.headSum
  rw [← h3] at t4
  unfold headM
  rw [if_neg (by rw [hm]; simp), ht]
  simp only [RR.bind]
  rw [if_neg (by simp [f1]), if_neg (by simp [f2])]
  unfold restM
  rw [f3, f4, f5, f6, f7, t1]
  simp only [RR.bind]
  rw [t2]
  simp only []
  rw [t3]
  simp only []
  rw [hlen, t4]
  congr 1
  have e10 : ∀ z : GPart, z.name = p.name → z.comment = p.comment → z.extra = p.extra → z.text = p.text → z.headSum = p.headSum → z.time = p.time → z.more = p.more → z.system = p.system → z.data = .empty → z = { p with data := .empty } := by
    intro z h1 h2 h3 h4 h5 h6 h7 h8 h9
    cases z
    cases p
    simp_all
  exact e10 _ rfl rfl rfl rfl rfl f8 f9 f10 rfl

theorem good_back (fu : Nat) (C : List Ch) (p : GPart) (hg : goodN p = 0) (hd : p.data.size ≤ 1048576) (hfu : p.data.size + C.length + 1 ≤ fu) : Back fu C p := by
  obtain ⟨PK, hPK⟩ : ∃ z, strOf (pack (packAll (bytesOf p.data) C)) = z := ⟨_, rfl⟩
  obtain ⟨S7, hS7⟩ : ∃ z, strOf (lowL (sumOf (bytesOf p.data)).toNat 4) = z := ⟨_, rfl⟩
  obtain ⟨S8, hS8⟩ : ∃ z, strOf (lowL p.data.size 4) = z := ⟨_, rfl⟩
  have hP : partB p C = hd2 p ++ PK ++ S7 ++ S8 := by
    unfold partB
    simp only [hPK, hS7, hS8]
  have hsin := sumOf_in (bytesOf p.data)
  have p4 : (256 : Nat) ^ 4 = 4294967296 := by decide
  have z7 : S7.size = 4 := by rw [← hS7, strOf_size, lowL_len]
  have z8 : S8.size = 4 := by rw [← hS8, strOf_size, lowL_len]
  have n7 : (numL (bytesOf S7) : Int) = sumOf (bytesOf p.data) := by
    rw [← hS7, numS_low _ 4 (by rw [p4]; omega), Int.toNat_of_nonneg hsin.1]
  have n8 : numL (bytesOf S8) = p.data.size := by
    rw [← hS8, numS_low _ 4 (by rw [p4]; omega)]
  have hps : PK.size = ((packAll (bytesOf p.data) C).length + 7) / 8 := by rw [← hPK, packed_size]
  have hH : 10 ≤ (hd2 p).size := by
    have h1 := hd1_eq p
    have h2 := (H10p_facts p hg).1
    unfold hd2
    split <;> simp only [h1, ByteArray.size_append, h2] <;> omega
  refine ⟨by rw [hP]; simp only [ByteArray.size_append, z7, z8]; omega, fun x y m hm => ?_⟩
  have e1 : x ++ (hd2 p ++ PK ++ S7 ++ S8) ++ y = x ++ hd2 p ++ (PK ++ (S7 ++ S8 ++ y)) := by apply bytesOf_inj; simp only [bytesOf_append, List.append_assoc]
  have e2 : x ++ (hd2 p ++ PK ++ S7 ++ S8) ++ y = (x ++ hd2 p ++ PK) ++ (S7 ++ S8) ++ y := by apply bytesOf_inj; simp only [bytesOf_append, List.append_assoc]
  have hh := head_good x (PK ++ (S7 ++ S8 ++ y)) p hg
  rw [← e1, ← hP] at hh
  have hu : unpN fu (x ++ partB p C ++ y) (x.size + (hd2 p).size) m = ⟨(packAll (bytesOf p.data) C).length, bytesOf p.data, 0⟩ := by
    unfold unpN
    have e3 := extract_tail (x ++ hd2 p) (PK ++ (S7 ++ S8 ++ y))
    rw [← e1, ← hP, ByteArray.size_append] at e3
    rw [e3, ← hPK]
    exact pack_run (bytesOf p.data) (bytesOf_lt p.data) C _ m (by rw [bytesOf_length]; exact hm) fu (by rw [bytesOf_length]; exact hfu)
  have ht := takeM_mid (x ++ hd2 p ++ PK) (S7 ++ S8) y 8 (by rw [ByteArray.size_append, z7, z8])
  rw [← e2, ← hP] at ht
  have hq : (x ++ hd2 p ++ PK).size = x.size + (hd2 p).size + ((packAll (bytesOf p.data) C).length + 7) / 8 := by rw [ByteArray.size_append, ByteArray.size_append, hps]
  rw [partN_ok hh, hu, tailN_back _ _ _ _ _ p.data S7 S8 hq.symm ht z7 z8 n7 n8]
  congr 1
  rw [hP]
  simp only [ByteArray.size_append, z7, z8]
  omega

end Go.Proofs.Ytgjcnembeebjfaa
