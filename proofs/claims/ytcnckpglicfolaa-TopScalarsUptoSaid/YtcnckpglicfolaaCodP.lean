/- Plain laws: scalars out of bytes in four codings, and back. No program. -/
import Derived.WalkKit
namespace Go.Proofs.Ytcnckpglicfolaa

/-- what stands behind the first byte of a scalar of UTF-8 -/
def u8tail : Nat → Nat → Nat → Nat → Nat → List Nat → Int × Nat
  | 0, i, _, _, v, _ => ((v : Int), i)
  | _ + 1, i, _, _, _, [] => (-1, i)
  | k + 1, i, lo, hi, v, x :: r => if x < lo ∨ hi < x then (-1, i) else u8tail k (i + 1) 128 191 (v * 64 + x % 64) r

def u8more (b : Nat) : Nat := if b < 224 then 1 else if b < 240 then 2 else 3
def u8lo (b : Nat) : Nat := if b = 224 then 160 else if b = 240 then 144 else 128
def u8hi (b : Nat) : Nat := if b = 237 then 159 else if b = 244 then 143 else 191
def u8bits (b : Nat) : Nat := if b < 224 then b % 32 else if b < 240 then b % 16 else b % 8

theorem u8rng (b x : Nat) : ¬ (x < u8lo b ∨ u8hi b < x) ↔ 128 ≤ x ∧ x ≤ 191 ∧ (b = 224 → 160 ≤ x) ∧ (b = 240 → 144 ≤ x) ∧ (b = 237 → x ≤ 159) ∧ (b = 244 → x ≤ 143) := by
  unfold u8lo u8hi
  by_cases h1 : b = 224
  · subst h1; simp; omega
  · by_cases h2 : b = 240
    · subst h2; simp; omega
    · by_cases h3 : b = 237
      · subst h3; simp; omega
      · by_cases h4 : b = 244
        · subst h4; simp; omega
        · simp [h1, h2, h3, h4]

def u8one : List Nat → Int × Nat
  | [] => (-1, 1)
  | b :: r => if b < 128 then ((b : Int), 1) else if b < 194 ∨ 244 < b then (-1, 1) else u8tail (u8more b) 1 (u8lo b) (u8hi b) (u8bits b) r

def unit2 (big : Bool) : List Nat → Int
  | x :: y :: _ => if big then ((x * 256 + y : Nat) : Int) else ((y * 256 + x : Nat) : Int)
  | _ => -1

def wone (big : Bool) (l : List Nat) : Int × Nat :=
  let a := unit2 big l
  if a < 0 then (-1, 1)
  else if a < 55296 ∨ 57343 < a then (a, 2)
  else if 56320 ≤ a then (-1, 2)
  else
    let b := unit2 big (l.drop 2)
    if b < 56320 ∨ 57343 < b then (-1, 2) else (65536 + (a - 55296) * 1024 + (b - 56320), 4)

/-- one scalar from the front of bytes, and how many bytes it has; -1: a bad one -/
def dec1 (c : Nat) (l : List Nat) : Int × Nat :=
  if c = 1 then u8one l else if c = 2 then wone false l else if c = 3 then wone true l else (((l.headD 0 : Nat) : Int), 1)

def okRune (r : Int) (c : Nat) : Prop := 0 ≤ r ∧ r ≤ 1114111 ∧ ¬ (55296 ≤ r ∧ r ≤ 57343) ∧ (c = 4 → r ≤ 255)

def u16b (big : Bool) (u : Nat) : List Nat := if big then [u / 256, u % 256] else [u % 256, u / 256]

def enc8 (r : Nat) : List Nat :=
  if r < 128 then [r] else if r < 2048 then [192 + r / 64, 128 + r % 64] else if r < 65536 then [224 + r / 4096, 128 + r / 64 % 64, 128 + r % 64]
  else [240 + r / 262144, 128 + r / 4096 % 64, 128 + r / 64 % 64, 128 + r % 64]

def enc16 (big : Bool) (r : Nat) : List Nat :=
  if r < 65536 then u16b big r else u16b big (55296 + (r - 65536) / 1024) ++ u16b big (56320 + (r - 65536) % 1024)

/-- a scalar's bytes -/
def enc1 (r c : Nat) : List Nat := if c = 4 then [r] else if c = 1 then enc8 r else enc16 (c == 3) r

theorem enc1_pos (r c : Nat) : 1 ≤ (enc1 r c).length := by
  unfold enc1 enc8 enc16 u16b
  repeat' split
  all_goals simp

theorem enc1_len (r c : Nat) : (enc1 r c).length ≤ 4 := by
  unfold enc1 enc8 enc16 u16b
  repeat' split
  all_goals simp

theorem enc1_lt (r c : Nat) (h : okRune r c) : ∀ x ∈ enc1 r c, x < 256 := by
  obtain ⟨_, h1, h2, h3⟩ := h
  unfold enc1 enc8 enc16 u16b
  repeat' split
  all_goals (intro x hx; simp at hx; omega)

/-! ### what is encoded is told again -/
theorem u8_back (r : Nat) (h1 : r ≤ 1114111) (h2 : ¬ (55296 ≤ r ∧ r ≤ 57343)) (t : List Nat) : u8one (enc8 r ++ t) = ((r : Int), (enc8 r).length) := by
  unfold enc8
  by_cases a : r < 128
  · rw [if_pos a]; simp [u8one, a]
  · rw [if_neg a]
    by_cases b : r < 2048
    · rw [if_pos b]
      simp only [List.cons_append, List.nil_append, u8one, List.length_cons, List.length_nil]
      rw [if_neg (by omega), if_neg (by omega)]
      have e1 : u8more (192 + r / 64) = 1 := by unfold u8more; rw [if_pos (by omega)]
      have e2 : u8lo (192 + r / 64) = 128 := by unfold u8lo; rw [if_neg (by omega), if_neg (by omega)]
      have e3 : u8hi (192 + r / 64) = 191 := by unfold u8hi; rw [if_neg (by omega), if_neg (by omega)]
      have e4 : u8bits (192 + r / 64) = r / 64 := by unfold u8bits; rw [if_pos (by omega)]; omega
      rw [e1, e2, e3, e4]
      simp only [u8tail]
      rw [if_neg (by omega)]
      simp only [Prod.mk.injEq, and_true]
      omega
    · rw [if_neg b]
      by_cases d : r < 65536
      · rw [if_pos d]
        simp only [List.cons_append, List.nil_append, u8one, List.length_cons, List.length_nil]
        rw [if_neg (by omega), if_neg (by omega)]
        have e1 : u8more (224 + r / 4096) = 2 := by unfold u8more; rw [if_neg (by omega), if_pos (by omega)]
        have e4 : u8bits (224 + r / 4096) = r / 4096 := by unfold u8bits; rw [if_neg (by omega), if_pos (by omega)]; omega
        have e2 : ¬ (128 + r / 64 % 64 < u8lo (224 + r / 4096) ∨ u8hi (224 + r / 4096) < 128 + r / 64 % 64) := by
          rw [u8rng]; omega
        rw [e1, e4]
        simp only [u8tail]
        rw [if_neg e2, if_neg (by omega)]
        simp only [Prod.mk.injEq, and_true]
        omega
      · rw [if_neg d]
        simp only [List.cons_append, List.nil_append, u8one, List.length_cons, List.length_nil]
        rw [if_neg (by omega), if_neg (by omega)]
        have e1 : u8more (240 + r / 262144) = 3 := by unfold u8more; rw [if_neg (by omega), if_neg (by omega)]
        have e4 : u8bits (240 + r / 262144) = r / 262144 := by unfold u8bits; rw [if_neg (by omega), if_neg (by omega)]; omega
        have e2 : ¬ (128 + r / 4096 % 64 < u8lo (240 + r / 262144) ∨ u8hi (240 + r / 262144) < 128 + r / 4096 % 64) := by
          rw [u8rng]; omega
        rw [e1, e4]
        simp only [u8tail]
        rw [if_neg e2, if_neg (by omega), if_neg (by omega)]
        simp only [Prod.mk.injEq, and_true]
        omega

theorem u16_back (big : Bool) (r : Nat) (h1 : r ≤ 1114111) (h2 : ¬ (55296 ≤ r ∧ r ≤ 57343)) (t : List Nat) : wone big (enc16 big r ++ t) = ((r : Int), (enc16 big r).length) := by
  unfold enc16 u16b
  by_cases a : r < 65536
  · rw [if_pos a]
    cases big
    all_goals
      simp only [wone, unit2, if_true, Bool.false_eq_true, if_false, List.cons_append, List.nil_append, List.length_cons, List.length_nil]
      rw [if_neg (by omega), if_pos (by omega)]
      simp only [Prod.mk.injEq, and_true]
      omega
  · rw [if_neg a]
    cases big
    all_goals
      simp only [wone, unit2, if_true, Bool.false_eq_true, if_false, List.cons_append, List.nil_append, List.length_cons, List.length_nil, List.drop_succ_cons, List.drop_zero]
      rw [if_neg (by omega), if_neg (by omega), if_neg (by omega), if_neg (by omega)]
      simp only [Prod.mk.injEq, and_true]
      omega

theorem dec_enc (r c : Nat) (hc : 1 ≤ c ∧ c ≤ 4) (h : okRune r c) (t : List Nat) : dec1 c (enc1 r c ++ t) = ((r : Int), (enc1 r c).length) := by
  obtain ⟨_, h1, h2, h3⟩ := h
  rcases (show c = 1 ∨ c = 2 ∨ c = 3 ∨ c = 4 by omega) with rfl | rfl | rfl | rfl
  · simp only [dec1, enc1, if_true]
    rw [if_neg (by decide)]
    exact u8_back r (by omega) (by omega) t
  · simp only [dec1, enc1, if_true]
    rw [if_neg (by decide), if_neg (by decide), if_neg (by decide)]
    exact u16_back false r (by omega) (by omega) t
  · simp only [dec1, enc1, if_true]
    rw [if_neg (by decide), if_neg (by decide), if_neg (by decide), if_neg (by decide)]
    exact u16_back true r (by omega) (by omega) t
  · simp [dec1, enc1]

/-! ### what is told is a scalar, and its bytes stood there -/
theorem u8tail_len (k i lo hi v : Nat) (l : List Nat) : i ≤ (u8tail k i lo hi v l).2 ∧ (u8tail k i lo hi v l).2 ≤ i + l.length := by
  induction k generalizing i lo hi v l with
  | zero => simp [u8tail]
  | succ k ih =>
    cases l with
    | nil => simp [u8tail]
    | cons x r =>
      simp only [u8tail]
      split
      · simp
      · have := ih (i + 1) 128 191 (v * 64 + x % 64) r
        simp only [List.length_cons]
        omega

theorem unit2_neg (big : Bool) (l : List Nat) : unit2 big l < 0 ↔ l.length < 2 := by
  match l with
  | [] => simp [unit2]
  | [_] => simp [unit2]
  | x :: y :: r => simp only [unit2, List.length_cons]; split <;> omega

theorem dec1_len (c : Nat) (l : List Nat) (h : l ≠ []) : 1 ≤ (dec1 c l).2 ∧ (dec1 c l).2 ≤ l.length := by
  have hl : 1 ≤ l.length := by cases l with
    | nil => exact absurd rfl h
    | cons _ _ => simp
  have hw : ∀ big, 1 ≤ (wone big l).2 ∧ (wone big l).2 ≤ l.length := by
    intro big
    unfold wone
    have h1 := unit2_neg big l
    have h2 := unit2_neg big (l.drop 2)
    rw [List.length_drop] at h2
    dsimp only
    repeat' split
    all_goals (dsimp only; omega)
  unfold dec1
  split
  · cases l with
    | nil => exact absurd rfl h
    | cons b r =>
      simp only [u8one]
      by_cases a : b < 128
      · rw [if_pos a]; simp
      · rw [if_neg a]
        by_cases a2 : b < 194 ∨ 244 < b
        · rw [if_pos a2]; simp
        · rw [if_neg a2]
          have := u8tail_len (u8more b) 1 (u8lo b) (u8hi b) (u8bits b) r
          simp only [List.length_cons] at hl ⊢
          omega
  · split
    · exact hw false
    · split
      · exact hw true
      · simpa using hl

theorem u8_inv (l : List Nat) (hb : ∀ x ∈ l, x < 256) (v : Int) (n : Nat) (h : u8one l = (v, n)) (hv : 0 ≤ v) : v ≤ 1114111 ∧ ¬ (55296 ≤ v ∧ v ≤ 57343) ∧ enc8 v.toNat = l.take n := by
  cases l with
  | nil => simp only [u8one, Prod.mk.injEq] at h; omega
  | cons b r =>
    have hb0 : b < 256 := hb b (by simp)
    simp only [u8one] at h
    by_cases a : b < 128
    · rw [if_pos a] at h
      simp only [Prod.mk.injEq] at h
      obtain ⟨rfl, rfl⟩ := h
      refine ⟨by omega, by omega, ?_⟩
      simp [enc8, a]
    · rw [if_neg a] at h
      by_cases a2 : b < 194 ∨ 244 < b
      · rw [if_pos a2] at h; simp only [Prod.mk.injEq] at h; omega
      · rw [if_neg a2] at h
        by_cases b1 : b < 224
        · have e1 : u8more b = 1 := by unfold u8more; rw [if_pos b1]
          have e2 : u8lo b = 128 := by unfold u8lo; rw [if_neg (by omega), if_neg (by omega)]
          have e3 : u8hi b = 191 := by unfold u8hi; rw [if_neg (by omega), if_neg (by omega)]
          have e4 : u8bits b = b % 32 := by unfold u8bits; rw [if_pos b1]
          rw [e1, e2, e3, e4] at h
          match r, h with
          | [], h => simp only [u8tail, Prod.mk.injEq] at h; omega
          | x :: r', h =>
            simp only [u8tail] at h
            by_cases c1 : x < 128 ∨ 191 < x
            · rw [if_pos c1] at h; simp only [Prod.mk.injEq] at h; omega
            · rw [if_neg c1] at h
              simp only [Prod.mk.injEq] at h
              obtain ⟨rfl, rfl⟩ := h
              refine ⟨by omega, by omega, ?_⟩
              unfold enc8
              rw [if_neg (by omega), if_pos (by omega)]
              simp only [List.take_succ_cons, List.take_zero, List.cons.injEq, and_true]
              omega
        · by_cases b2 : b < 240
          · have e1 : u8more b = 2 := by unfold u8more; rw [if_neg b1, if_pos b2]
            have e4 : u8bits b = b % 16 := by unfold u8bits; rw [if_neg b1, if_pos b2]
            rw [e1, e4] at h
            match r, h with
            | [], h => simp only [u8tail, Prod.mk.injEq] at h; omega
            | x :: r', h =>
              simp only [u8tail] at h
              by_cases c1 : x < u8lo b ∨ u8hi b < x
              · rw [if_pos c1] at h; simp only [Prod.mk.injEq] at h; omega
              · rw [if_neg c1] at h
                have hlo : (b = 224 → 160 ≤ x) ∧ (b = 237 → x ≤ 159) ∧ 128 ≤ x ∧ x ≤ 191 := by
                  rw [u8rng] at c1; omega
                match r', h with
                | [], h => simp only [u8tail, Prod.mk.injEq] at h; omega
                | y :: r'', h =>
                  simp only [u8tail] at h
                  by_cases c2 : y < 128 ∨ 191 < y
                  · rw [if_pos c2] at h; simp only [Prod.mk.injEq] at h; omega
                  · rw [if_neg c2] at h
                    simp only [Prod.mk.injEq] at h
                    obtain ⟨rfl, rfl⟩ := h
                    refine ⟨by omega, by omega, ?_⟩
                    unfold enc8
                    rw [if_neg (by omega), if_neg (by omega), if_pos (by omega)]
                    simp only [List.take_succ_cons, List.take_zero, List.cons.injEq, and_true]
                    omega
          · have e1 : u8more b = 3 := by unfold u8more; rw [if_neg b1, if_neg b2]
            have e4 : u8bits b = b % 8 := by unfold u8bits; rw [if_neg b1, if_neg b2]
            rw [e1, e4] at h
            match r, h with
            | [], h => simp only [u8tail, Prod.mk.injEq] at h; omega
            | x :: r', h =>
              simp only [u8tail] at h
              by_cases c1 : x < u8lo b ∨ u8hi b < x
              · rw [if_pos c1] at h; simp only [Prod.mk.injEq] at h; omega
              · rw [if_neg c1] at h
                have hlo : (b = 240 → 144 ≤ x) ∧ (b = 244 → x ≤ 143) ∧ 128 ≤ x ∧ x ≤ 191 := by
                  rw [u8rng] at c1; omega
                match r', h with
                | [], h => simp only [u8tail, Prod.mk.injEq] at h; omega
                | y :: r'', h =>
                  simp only [u8tail] at h
                  by_cases c2 : y < 128 ∨ 191 < y
                  · rw [if_pos c2] at h; simp only [Prod.mk.injEq] at h; omega
                  · rw [if_neg c2] at h
                    match r'', h with
                    | [], h => simp only [u8tail, Prod.mk.injEq] at h; omega
                    | z :: r3, h =>
                      simp only [u8tail] at h
                      by_cases c3 : z < 128 ∨ 191 < z
                      · rw [if_pos c3] at h; simp only [Prod.mk.injEq] at h; omega
                      · rw [if_neg c3] at h
                        simp only [Prod.mk.injEq] at h
                        obtain ⟨rfl, rfl⟩ := h
                        refine ⟨by omega, by omega, ?_⟩
                        unfold enc8
                        rw [if_neg (by omega), if_neg (by omega), if_neg (by omega)]
                        simp only [List.take_succ_cons, List.take_zero, List.cons.injEq, and_true]
                        omega

theorem u16_inv (big : Bool) (l : List Nat) (hb : ∀ x ∈ l, x < 256) (v : Int) (n : Nat) (h : wone big l = (v, n)) (hv : 0 ≤ v) : v ≤ 1114111 ∧ ¬ (55296 ≤ v ∧ v ≤ 57343) ∧ enc16 big v.toNat = l.take n := by
  unfold wone at h
  dsimp only at h
  by_cases a0 : unit2 big l < 0
  · rw [if_pos a0] at h; simp only [Prod.mk.injEq] at h; omega
  · rw [if_neg a0] at h
    have hl := mt (unit2_neg big l).2 a0
    match l, hl with
    | x :: y :: r, _ =>
      have hx : x < 256 := hb x (by simp)
      have hy : y < 256 := hb y (by simp)
      have hu : unit2 big (x :: y :: r) = if big then ((x * 256 + y : Nat) : Int) else ((y * 256 + x : Nat) : Int) := rfl
      by_cases a1 : unit2 big (x :: y :: r) < 55296 ∨ 57343 < unit2 big (x :: y :: r)
      · rw [if_pos a1] at h
        simp only [Prod.mk.injEq] at h
        obtain ⟨rfl, rfl⟩ := h
        rw [hu] at a1 ⊢
        cases big
        all_goals
          simp only [if_true, Bool.false_eq_true, if_false] at a1 ⊢
          refine ⟨by omega, by omega, ?_⟩
          unfold enc16 u16b
          simp only [if_true, Bool.false_eq_true, if_false]
          rw [if_pos (by omega)]
          simp only [List.take_succ_cons, List.take_zero, List.cons.injEq, and_true]
          omega
      · rw [if_neg a1] at h
        by_cases a2 : 56320 ≤ unit2 big (x :: y :: r)
        · rw [if_pos a2] at h; simp only [Prod.mk.injEq] at h; omega
        · rw [if_neg a2] at h
          simp only [List.drop_succ_cons, List.drop_zero] at h
          by_cases a3 : unit2 big r < 56320 ∨ 57343 < unit2 big r
          · rw [if_pos a3] at h; simp only [Prod.mk.injEq] at h; omega
          · rw [if_neg a3] at h
            have hl2 := mt (unit2_neg big r).2 (by omega)
            match r, hl2 with
            | p :: q :: r', _ =>
              have hp : p < 256 := hb p (by simp)
              have hq : q < 256 := hb q (by simp)
              have hu2 : unit2 big (p :: q :: r') = if big then ((p * 256 + q : Nat) : Int) else ((q * 256 + p : Nat) : Int) := rfl
              simp only [Prod.mk.injEq] at h
              obtain ⟨rfl, rfl⟩ := h
              rw [hu] at a1 a2 ⊢
              rw [hu2] at a3 ⊢
              cases big
              all_goals
                simp only [if_true, Bool.false_eq_true, if_false] at a1 a2 a3 ⊢
                refine ⟨by omega, by omega, ?_⟩
                unfold enc16 u16b
                simp only [if_true, Bool.false_eq_true, if_false]
                rw [if_neg (by omega)]
                simp only [List.take_succ_cons, List.take_zero, List.cons_append, List.nil_append, List.cons.injEq, and_true]
                omega
            | [], h => simp at h
            | [_], h => simp at h
    | [], h => simp at h
    | [_], h => simp at h

theorem latin_inv (l : List Nat) (hne : l ≠ []) (hb : ∀ x ∈ l, x < 256) (v : Int) (n : Nat) (h : (((l.headD 0 : Nat) : Int), 1) = (v, n)) : (0 ≤ v ∧ v ≤ 255) ∧ [v.toNat] = l.take n := by
  cases l with
  | nil => exact absurd rfl hne
  | cons b r =>
    have := hb b (by simp)
    simp only [List.headD_cons, Prod.mk.injEq] at h
    obtain ⟨rfl, rfl⟩ := h
    exact ⟨⟨by omega, by omega⟩, by simp⟩

theorem okRune_mk {v : Int} {c : Nat} (h0 : 0 ≤ v) (h1 : v ≤ 1114111) (h2 : ¬ (55296 ≤ v ∧ v ≤ 57343)) (h3 : c = 4 → v ≤ 255) : okRune v c := ⟨h0, h1, h2, h3⟩

theorem enc_dec (c : Nat) (hc : 1 ≤ c ∧ c ≤ 4) (l : List Nat) (hne : l ≠ []) (hb : ∀ x ∈ l, x < 256) (v : Int) (n : Nat) (h : dec1 c l = (v, n)) (hv : 0 ≤ v) : okRune v c ∧ enc1 v.toNat c = l.take n := by
  unfold dec1 at h
  rcases (show c = 1 ∨ c = 2 ∨ c = 3 ∨ c = 4 by omega) with e | e | e | e
  · rw [if_pos e] at h
    obtain ⟨h1, h2, h3⟩ := u8_inv l hb v n h hv
    refine ⟨okRune_mk hv h1 h2 (fun h => absurd h (by omega)), ?_⟩
    unfold enc1
    rw [if_neg (by omega), if_pos e]; exact h3
  · rw [if_neg (by omega), if_pos e] at h
    obtain ⟨h1, h2, h3⟩ := u16_inv false l hb v n h hv
    refine ⟨okRune_mk hv h1 h2 (fun h => absurd h (by omega)), ?_⟩
    unfold enc1
    rw [if_neg (by omega), if_neg (by omega), show (c == 3) = false by rw [e]; rfl]; exact h3
  · rw [if_neg (by omega), if_neg (by omega), if_pos e] at h
    obtain ⟨h1, h2, h3⟩ := u16_inv true l hb v n h hv
    refine ⟨okRune_mk hv h1 h2 (fun h => absurd h (by omega)), ?_⟩
    unfold enc1
    rw [if_neg (by omega), if_neg (by omega), show (c == 3) = true by rw [e]; rfl]; exact h3
  · rw [if_neg (by omega), if_neg (by omega), if_neg (by omega)] at h
    obtain ⟨h1, h3⟩ := latin_inv l hne hb v n h
    refine ⟨okRune_mk h1.1 (by omega) (by omega) (fun _ => h1.2), ?_⟩
    unfold enc1
    rw [if_pos e]; exact h3

end Go.Proofs.Ytcnckpglicfolaa
