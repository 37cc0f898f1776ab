/- Plain laws: what bytes tell in a coding is scalars; what scalars tell is told back. No program. -/
import Derived.Test.YtcnckpglicfolaaCodQ
namespace Go.Proofs.Ytcnckpglicfolaa
open Go.RowKit

theorem u8tail1 (i lo hi v : Nat) (l : List Nat) : (u8tail 1 i lo hi v l).1 = -1 ∨ ∃ x r, l = x :: r ∧ ¬ (x < lo ∨ hi < x) ∧ (u8tail 1 i lo hi v l).1 = ((v * 64 + x % 64 : Nat) : Int) := by
  cases l with
  | nil => exact .inl rfl
  | cons x r =>
    by_cases h : x < lo ∨ hi < x
    · left; simp [u8tail, h]
    · right; exact ⟨x, r, rfl, h, by simp [u8tail, h]⟩
theorem u8tail2 (i lo hi v : Nat) (l : List Nat) : (u8tail 2 i lo hi v l).1 = -1 ∨ ∃ x y r, l = x :: y :: r ∧ ¬ (x < lo ∨ hi < x) ∧ ¬ (y < 128 ∨ 191 < y) ∧ (u8tail 2 i lo hi v l).1 = (((v * 64 + x % 64) * 64 + y % 64 : Nat) : Int) := by
  cases l with
  | nil => exact .inl rfl
  | cons x r =>
    by_cases h : x < lo ∨ hi < x
    · left; simp [u8tail, h]
    · have e : u8tail 2 i lo hi v (x :: r) = u8tail 1 (i + 1) 128 191 (v * 64 + x % 64) r := by rw [u8tail, if_neg h]
      rw [e]
      rcases u8tail1 (i + 1) 128 191 (v * 64 + x % 64) r with h1 | ⟨y, r', rfl, h1, h2⟩
      · exact .inl h1
      · exact .inr ⟨x, y, r', rfl, h, h1, h2⟩
theorem u8tail3 (i lo hi v : Nat) (l : List Nat) : (u8tail 3 i lo hi v l).1 = -1 ∨ ∃ x y z r, l = x :: y :: z :: r ∧ ¬ (x < lo ∨ hi < x) ∧ ¬ (y < 128 ∨ 191 < y) ∧ ¬ (z < 128 ∨ 191 < z) ∧ (u8tail 3 i lo hi v l).1 = ((((v * 64 + x % 64) * 64 + y % 64) * 64 + z % 64 : Nat) : Int) := by
  cases l with
  | nil => exact .inl rfl
  | cons x r =>
    by_cases h : x < lo ∨ hi < x
    · left; simp [u8tail, h]
    · have e : u8tail 3 i lo hi v (x :: r) = u8tail 2 (i + 1) 128 191 (v * 64 + x % 64) r := by rw [u8tail, if_neg h]
      rw [e]
      rcases u8tail2 (i + 1) 128 191 (v * 64 + x % 64) r with h1 | ⟨y, z, r', rfl, h1, h2, h3⟩
      · exact .inl h1
      · exact .inr ⟨x, y, z, r', rfl, h, h1, h2, h3⟩

/-- a scalar -/
def Scal (r : Int) : Prop := 0 ≤ r ∧ r ≤ 1114111 ∧ ¬ (55296 ≤ r ∧ r ≤ 57343)
theorem Scal.ok {r : Int} (h : Scal r) {c : Nat} (hc : c ≠ 4) : okRune r c := ⟨h.1, h.2.1, h.2.2, fun h4 => absurd h4 hc⟩

theorem u8_scal (l : List Nat) : (u8one l).1 < 0 ∨ Scal (u8one l).1 := by
  cases l with
  | nil => left; simp [u8one]
  | cons b r =>
    by_cases h1 : b < 128
    · right
      simp only [u8one, h1, if_true]
      refine ⟨by omega, by omega, by omega⟩
    · by_cases h2 : b < 194 ∨ 244 < b
      · left; simp [u8one, h1, h2]
      · have e : u8one (b :: r) = u8tail (u8more b) 1 (u8lo b) (u8hi b) (u8bits b) r := by simp [u8one, h1, h2]
        rw [e]
        by_cases h3 : b < 224
        · rw [show u8more b = 1 by unfold u8more; rw [if_pos h3]]
          rcases u8tail1 1 (u8lo b) (u8hi b) (u8bits b) r with h | ⟨x, r', rfl, hx, h⟩
          · left; rw [h]; decide
          · right
            rw [h, show u8bits b = b % 32 by unfold u8bits; rw [if_pos h3]]
            refine ⟨by omega, by omega, by omega⟩
        · by_cases h4 : b < 240
          · rw [show u8more b = 2 by unfold u8more; rw [if_neg h3, if_pos h4]]
            rcases u8tail2 1 (u8lo b) (u8hi b) (u8bits b) r with h | ⟨x, y, r', rfl, hx, hy, h⟩
            · left; rw [h]; decide
            · right
              rw [h, show u8bits b = b % 16 by unfold u8bits; rw [if_neg h3, if_pos h4]]
              have hx2 := (u8rng b x).1 hx
              refine ⟨by omega, by omega, ?_⟩
              by_cases h5 : b = 237
              · have := hx2.2.2.2.2.1 h5; omega
              · omega
          · rw [show u8more b = 3 by unfold u8more; rw [if_neg h3, if_neg h4]]
            rcases u8tail3 1 (u8lo b) (u8hi b) (u8bits b) r with h | ⟨x, y, z, r', rfl, hx, hy, hz, h⟩
            · left; rw [h]; decide
            · right
              rw [h, show u8bits b = b % 8 by unfold u8bits; rw [if_neg h3, if_neg h4]]
              have hx2 := (u8rng b x).1 hx
              refine ⟨by omega, ?_, ?_⟩
              · by_cases h5 : b = 244
                · have := hx2.2.2.2.2.2 h5; omega
                · omega
              · by_cases h5 : b = 240
                · have := hx2.2.2.2.1 h5; omega
                · omega

theorem unit2_lt (big : Bool) (l : List Nat) (h : ∀ x ∈ l, x < 256) : unit2 big l < 65536 := by
  rcases l with _ | ⟨x, _ | ⟨y, r⟩⟩
  · simp [unit2]
  · simp [unit2]
  · have h1 := h x (by simp)
    have h2 := h y (by simp)
    show (if big then ((x * 256 + y : Nat) : Int) else ((y * 256 + x : Nat) : Int)) < 65536
    cases big
    · show ((y * 256 + x : Nat) : Int) < 65536
      omega
    · show ((x * 256 + y : Nat) : Int) < 65536
      omega
theorem w_scal (big : Bool) (l : List Nat) (h : ∀ x ∈ l, x < 256) : (wone big l).1 < 0 ∨ Scal (wone big l).1 := by
  have ha := unit2_lt big l h
  have hb := unit2_lt big (l.drop 2) (fun x hx => h x (List.mem_of_mem_drop hx))
  unfold wone
  simp only
  generalize unit2 big l = a at *
  generalize unit2 big (l.drop 2) = b at *
  split
  · left; simp
  · split
    · right
      refine ⟨by simp only; omega, by simp only; omega, by simp only; omega⟩
    · split
      · left; simp
      · split
        · left; simp
        · right
          refine ⟨by simp only; omega, by simp only; omega, by simp only; omega⟩
theorem dec1_scal (c : Nat) (l : List Nat) (h : ∀ x ∈ l, x < 256) : (dec1 c l).1 < 0 ∨ Scal (dec1 c l).1 := by
  unfold dec1
  split
  · exact u8_scal l
  · split
    · exact w_scal false l h
    · split
      · exact w_scal true l h
      · right
        have h0 : l.headD 0 < 256 := by
          cases l with
          | nil => decide
          | cons x r => exact h x (by simp)
        refine ⟨by simp only; omega, by simp only; omega, by simp only; omega⟩

theorem decGo_scal (c : Nat) : ∀ (k : Nat) (l : List Nat) (at_ : Nat), (∀ x ∈ l, x < 256) → ∀ p ∈ decGo c k l at_, p.1 < 0 ∨ Scal p.1 := by
  intro k
  induction k with
  | zero => intro l at_ h p hp; simp [decGo] at hp
  | succ k ih =>
    intro l at_ h p hp
    cases l with
    | nil => simp [decGo] at hp
    | cons x r =>
      simp only [decGo, List.mem_cons] at hp
      rcases hp with rfl | hp
      · exact dec1_scal c _ h
      · exact ih _ _ (fun y hy => h y (List.mem_of_mem_drop hy)) p hp

/-- what bytes tell is scalars -/
theorem runes_scal (c : Nat) (b : List Nat) (h : ∀ x ∈ b, x < 256) : ∀ r ∈ runesOf (told c b), Scal r := by
  intro r hr
  unfold runesOf at hr
  rw [List.mem_map] at hr
  obtain ⟨p, hp, rfl⟩ := hr
  have := decGo_scal c _ (b.drop (startOf c b)) (startOf c b) (fun x hx => h x (List.mem_of_mem_drop hx)) p hp
  split
  · exact ⟨by decide, by decide, by decide⟩
  · rename_i hn
    rcases this with h1 | h1
    · exact absurd h1 hn
    · exact h1

end Go.Proofs.Ytcnckpglicfolaa
