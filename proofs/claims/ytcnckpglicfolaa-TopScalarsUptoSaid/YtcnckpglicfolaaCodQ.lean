/- Plain laws: texts of scalars. No program. -/
import Derived.Test.YtcnckpglicfolaaCodP
namespace Go.Proofs.Ytcnckpglicfolaa

/-- what bytes tell from a place on: each scalar (or -1) and its place -/
def decGo (c : Nat) : Nat → List Nat → Nat → List (Int × Nat)
  | 0, _, _ => []
  | _ + 1, [], _ => []
  | k + 1, b :: l, at_ => ((dec1 c (b :: l)).1, at_) :: decGo c k ((b :: l).drop (dec1 c (b :: l)).2) (at_ + (dec1 c (b :: l)).2)

def decAll (c : Nat) (l : List Nat) (at_ : Nat) : List (Int × Nat) := decGo c l.length l at_

theorem decGo_fuel (c : Nat) : ∀ (k k' : Nat) (l : List Nat) (at_ : Nat), l.length ≤ k → l.length ≤ k' → decGo c k l at_ = decGo c k' l at_ := by
  intro k
  induction k with
  | zero =>
    intro k' l at_ h _
    have : l = [] := List.eq_nil_of_length_eq_zero (by omega)
    subst this
    cases k' <;> rfl
  | succ k ih =>
    intro k' l at_ h h'
    cases l with
    | nil => cases k' <;> rfl
    | cons b r =>
      cases k' with
      | zero => simp at h'
      | succ k' =>
        have hl := dec1_len c (b :: r) (by simp)
        have e1 : ((b :: r).drop (dec1 c (b :: r)).2).length ≤ r.length := by rw [List.length_drop]; simp only [List.length_cons] at hl ⊢; omega
        simp only [List.length_cons] at h h'
        simp only [decGo]
        rw [ih k' _ _ (by omega) (by omega)]

theorem decAll_nil (c at_ : Nat) : decAll c [] at_ = [] := rfl

theorem decAll_cons (c : Nat) (l : List Nat) (at_ : Nat) (h : l ≠ []) : decAll c l at_ = ((dec1 c l).1, at_) :: decAll c (l.drop (dec1 c l).2) (at_ + (dec1 c l).2) := by
  cases l with
  | nil => exact absurd rfl h
  | cons b r =>
    have hl := dec1_len c (b :: r) (by simp)
    unfold decAll
    simp only [List.length_cons, decGo]
    congr 1
    exact decGo_fuel c _ _ _ _ (by rw [List.length_drop]; simp only [List.length_cons] at hl ⊢; omega) (Nat.le_refl _)

def runesOf (D : List (Int × Nat)) : List Int := D.map fun p => if p.1 < 0 then 65533 else p.1
def placesOf (D : List (Int × Nat)) : List Nat := D.map (·.2)
def badOf (D : List (Int × Nat)) : Nat := (D.filter fun p => decide (p.1 < 0)).length

theorem badOf_le (D : List (Int × Nat)) : badOf D ≤ D.length := List.length_filter_le _ _

theorem decAll_len (c : Nat) : ∀ (n : Nat) (l : List Nat) (at_ : Nat), l.length ≤ n → (decAll c l at_).length ≤ l.length := by
  intro n
  induction n with
  | zero => intro l at_ h; have : l = [] := List.eq_nil_of_length_eq_zero (by omega); subst this; simp [decAll_nil]
  | succ n ih =>
    intro l at_ h
    by_cases hl : l = []
    · subst hl; simp [decAll_nil]
    · have h1 := dec1_len c l hl
      rw [decAll_cons c l at_ hl, List.length_cons]
      have := ih (l.drop (dec1 c l).2) (at_ + (dec1 c l).2) (by rw [List.length_drop]; omega)
      rw [List.length_drop] at this
      omega

/-- the marks -/
def markB (c : Nat) : List Nat := if c = 1 then [239, 187, 191] else if c = 2 then [255, 254] else if c = 3 then [254, 255] else []

def begins (l m : List Nat) : Bool := decide (l.take m.length = m)

theorem begins_iff (l m : List Nat) : begins l m = true ↔ ∃ t, l = m ++ t := by
  unfold begins
  rw [decide_eq_true_iff]
  constructor
  · intro h; exact ⟨l.drop m.length, by conv => lhs; rw [← List.take_append_drop m.length l, h]⟩
  · rintro ⟨t, rfl⟩; simp

def sniff (l : List Nat) : Nat := if begins l (markB 1) then 1 else if begins l (markB 2) then 2 else if begins l (markB 3) then 3 else 1
def sniffLen (l : List Nat) : Nat := if begins l (markB 1) then 3 else if begins l (markB 2) then 2 else if begins l (markB 3) then 2 else 0
def codingOf (c : Nat) (l : List Nat) : Nat := if c = 0 then sniff l else c
def startOf (c : Nat) (l : List Nat) : Nat := if begins l (markB c) then (markB c).length else 0

theorem startOf_le (c : Nat) (l : List Nat) : startOf c l ≤ l.length := by
  unfold startOf
  split
  · rename_i h
    obtain ⟨t, rfl⟩ := (begins_iff _ _).1 h
    simp
  · omega

/-- what a text tells -/
def told (c : Nat) (l : List Nat) : List (Int × Nat) := decAll c (l.drop (startOf c l)) (startOf c l)

/-- the bytes of scalars -/
def encAll (rs : List Int) (c : Nat) : List Nat := rs.flatMap fun r => enc1 r.toNat c

theorem encAll_cons (r : Int) (rs : List Int) (c : Nat) : encAll (r :: rs) c = enc1 r.toNat c ++ encAll rs c := rfl
theorem encAll_append (a b : List Int) (c : Nat) : encAll (a ++ b) c = encAll a c ++ encAll b c := by simp [encAll]
theorem encAll_len (rs : List Int) (c : Nat) : (encAll rs c).length ≤ 4 * rs.length := by
  induction rs with
  | nil => simp [encAll]
  | cons r rs ih => rw [encAll_cons, List.length_append, List.length_cons]; have := enc1_len r.toNat c; omega
theorem encAll_lt (rs : List Int) (c : Nat) (h : ∀ r ∈ rs, okRune r c) : ∀ x ∈ encAll rs c, x < 256 := by
  intro x hx
  unfold encAll at hx
  obtain ⟨r, hr, hxr⟩ := List.mem_flatMap.1 hx
  have ho := h r hr
  have e : ((r.toNat : Nat) : Int) = r := Int.toNat_of_nonneg ho.1
  exact enc1_lt r.toNat c (by rw [e]; exact ho) x hxr

/-- decoding what was encoded -/
theorem dec_encAll (c : Nat) (hc : 1 ≤ c ∧ c ≤ 4) (rs : List Int) (h : ∀ r ∈ rs, okRune r c) (at_ : Nat) (t : List Nat) : ∃ P, P.map (·.1) = rs ∧ decAll c (encAll rs c ++ t) at_ = P ++ decAll c t (at_ + (encAll rs c).length) := by
  induction rs generalizing at_ with
  | nil => exact ⟨[], rfl, by simp [encAll]⟩
  | cons r rs ih =>
    have ho := h r (by simp)
    have e : ((r.toNat : Nat) : Int) = r := Int.toNat_of_nonneg ho.1
    have hd := dec_enc r.toNat c hc (by rw [e]; exact ho) (encAll rs c ++ t)
    rw [e] at hd
    obtain ⟨P, h1, h2⟩ := ih (fun x hx => h x (by simp [hx])) (at_ + (enc1 r.toNat c).length)
    refine ⟨(r, at_) :: P, by simp [h1], ?_⟩
    rw [encAll_cons, List.append_assoc, decAll_cons c _ at_ (by have := enc1_pos r.toNat c; intro hn; rw [List.append_eq_nil_iff] at hn; rw [hn.1] at this; simp at this), hd]
    simp only [List.drop_left, h2, List.length_append, List.cons_append]
    rw [Nat.add_assoc]

theorem runes_of_ok (D : List (Int × Nat)) (rs : List Int) (h : D.map (·.1) = rs) (hr : ∀ r ∈ rs, 0 ≤ r) : runesOf D = rs ∧ badOf D = 0 := by
  subst h
  constructor
  · unfold runesOf
    apply List.map_congr_left
    intro p hp
    have := hr p.1 (List.mem_map.2 ⟨p, hp, rfl⟩)
    rw [if_neg (by omega)]
  · unfold badOf
    rw [List.length_eq_zero_iff, List.filter_eq_nil_iff]
    intro p hp
    have := hr p.1 (List.mem_map.2 ⟨p, hp, rfl⟩)
    simp; omega

theorem bom_mark (c : Nat) (hc : 1 ≤ c ∧ c ≤ 3) : enc1 65279 c = markB c := by
  rcases (show c = 1 ∨ c = 2 ∨ c = 3 by omega) with rfl | rfl | rfl <;> rfl

/-- a text that begins with a scalar that is no mark doesn't begin as a mark -/
theorem no_mark (c : Nat) (hc : 1 ≤ c ∧ c ≤ 3) (r : Int) (ho : okRune r c) (hr : r ≠ 65279) (t : List Nat) : begins (enc1 r.toNat c ++ t) (markB c) = false := by
  cases hb : begins (enc1 r.toNat c ++ t) (markB c) with
  | false => rfl
  | true =>
    obtain ⟨u, hu⟩ := (begins_iff _ _).1 hb
    have e : ((r.toNat : Nat) : Int) = r := Int.toNat_of_nonneg ho.1
    have h1 := dec_enc r.toNat c (by omega) (by rw [e]; exact ho) t
    have h2 := dec_enc 65279 c (by omega) ⟨by decide, by decide, by decide, fun h => by omega⟩ u
    rw [bom_mark c hc, ← hu, h1] at h2
    simp only [Prod.mk.injEq] at h2
    omega

end Go.Proofs.Ytcnckpglicfolaa
