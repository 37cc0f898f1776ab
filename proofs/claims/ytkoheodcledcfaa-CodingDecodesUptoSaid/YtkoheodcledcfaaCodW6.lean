/- Walks over package coding: Decode, asked for a coding that is none; what is told, place by place. -/
import Derived.Test.YtkoheodcledcfaaCodL1
namespace Go.Proofs.Ytkoheodcledcfaa
open Go.RowKit

theorem decode_none (s : ByteArray) (c : Int) (strict : Bool) (hc : c < 0 ∨ 4 < c) (w : World) :
    Calls Try.prog 11 #[.string s, .int .i64 c, .bool strict] w fun e w' => e = .returned (.tuple #[.agg #[.int .i64 0, .slice none 0 0, .slice none 0 0, .int .i64 0], .agg #[.int .i64 1, .int .i64 0]]) ∧ Mut [] w w' := by
  rcases hc with h | h
  · go_enter Try.func11, Try.ntmps11
    go_wp2_with fail
    obtain ⟨⟨q1, q2⟩, m⟩ := hold_new w (.int .i64 0) (.slice none 0 0) (.slice none 0 0) (.int .i64 0) (.int .i64 1) (.int .i64 0)
    exact bodyPost_ret (results_text q1 q2 rfl rfl) rfl ⟨rfl, m⟩
  · have h' : ¬ c < 0 := by omega
    go_enter Try.func11, Try.ntmps11
    go_wp2_with fail
    obtain ⟨⟨q1, q2⟩, m⟩ := hold_new w (.int .i64 0) (.slice none 0 0) (.slice none 0 0) (.int .i64 0) (.int .i64 1) (.int .i64 0)
    exact bodyPost_ret (results_text q1 q2 rfl rfl) rfl ⟨rfl, m⟩

/-- the places, and where the bytes end -/
def endsOf (c : Nat) (l : List Nat) (at_ : Nat) : List Nat := placesOf (decAll c l at_) ++ [at_ + l.length]

theorem endsOf_head (c : Nat) (l : List Nat) (at_ : Nat) : (endsOf c l at_).getD 0 0 = at_ := by
  unfold endsOf
  by_cases h : l = []
  · subst h; simp [decAll_nil, placesOf]
  · rw [decAll_cons c l at_ h]; simp [placesOf]

theorem endsOf_cons (c : Nat) (l : List Nat) (at_ : Nat) (h : l ≠ []) : endsOf c l at_ = at_ :: endsOf c (l.drop (dec1 c l).2) (at_ + (dec1 c l).2) := by
  have hl := dec1_len c l h
  unfold endsOf
  rw [decAll_cons c l at_ h, List.length_drop, show at_ + (dec1 c l).2 + (l.length - (dec1 c l).2) = at_ + l.length by omega]
  rfl

theorem dec_at (c : Nat) (hc : 1 ≤ c ∧ c ≤ 4) : ∀ (n : Nat) (l : List Nat) (at_ : Nat), l.length ≤ n → (∀ x ∈ l, x < 256) → ∀ i, i < (decAll c l at_).length →
    at_ ≤ (endsOf c l at_).getD i 0 ∧ (endsOf c l at_).getD i 0 < (endsOf c l at_).getD (i + 1) 0 ∧ (endsOf c l at_).getD (i + 1) 0 ≤ at_ + l.length ∧
    (0 ≤ ((decAll c l at_).getD i (0, 0)).1 → okRune ((decAll c l at_).getD i (0, 0)).1 c ∧ enc1 ((decAll c l at_).getD i (0, 0)).1.toNat c = (l.drop ((endsOf c l at_).getD i 0 - at_)).take ((endsOf c l at_).getD (i + 1) 0 - (endsOf c l at_).getD i 0)) := by
  intro n
  induction n with
  | zero =>
    intro l at_ h _ i hi
    have : l = [] := List.eq_nil_of_length_eq_zero (by omega)
    subst this
    simp [decAll_nil] at hi
  | succ n ih =>
    intro l at_ h hb i hi
    by_cases hl : l = []
    · subst hl
      simp [decAll_nil] at hi
    · have h1 := dec1_len c l hl
      have he := endsOf_cons c l at_ hl
      have hd := decAll_cons c l at_ hl
      have hh := endsOf_head c (l.drop (dec1 c l).2) (at_ + (dec1 c l).2)
      rw [he, hd]
      cases i with
      | zero =>
        simp only [List.getD_cons_zero, List.getD_cons_succ, hh]
        refine ⟨Nat.le_refl _, by omega, by omega, fun hv => ?_⟩
        have := enc_dec c hc l hl hb (dec1 c l).1 (dec1 c l).2 rfl hv
        rw [Nat.sub_self, List.drop_zero, Nat.add_sub_cancel_left]
        exact this
      | succ i =>
        rw [hd, List.length_cons] at hi
        obtain ⟨q1, q2, q3, q4⟩ := ih (l.drop (dec1 c l).2) (at_ + (dec1 c l).2) (by rw [List.length_drop]; omega) (fun x hx => hb x (List.mem_of_mem_drop hx)) i (by omega)
        rw [List.length_drop] at q3
        simp only [List.getD_cons_succ]
        refine ⟨by omega, q2, by omega, fun hv => ?_⟩
        obtain ⟨r1, r2⟩ := q4 hv
        refine ⟨r1, ?_⟩
        rw [r2, List.drop_drop]
        congr 2
        omega

/-- what a whole text tells, place by place -/
theorem told_at (c : Nat) (hc : 1 ≤ c ∧ c ≤ 4) (b : List Nat) (hb : ∀ x ∈ b, x < 256) (i : Nat) (hi : i < (told c b).length) :
    (placesOf (told c b) ++ [b.length]).getD i 0 < (placesOf (told c b) ++ [b.length]).getD (i + 1) 0 ∧ (placesOf (told c b) ++ [b.length]).getD (i + 1) 0 ≤ b.length ∧
    (0 ≤ ((told c b).getD i (0, 0)).1 → okRune ((told c b).getD i (0, 0)).1 c ∧ enc1 ((told c b).getD i (0, 0)).1.toNat c = (b.drop ((placesOf (told c b) ++ [b.length]).getD i 0)).take ((placesOf (told c b) ++ [b.length]).getD (i + 1) 0 - (placesOf (told c b) ++ [b.length]).getD i 0)) := by
  have hst := startOf_le c b
  have he : endsOf c (b.drop (startOf c b)) (startOf c b) = placesOf (told c b) ++ [b.length] := by
    unfold endsOf told
    rw [List.length_drop, show startOf c b + (b.length - startOf c b) = b.length by omega]
  have h := dec_at c hc _ (b.drop (startOf c b)) (startOf c b) (Nat.le_refl _) (fun x hx => hb x (List.mem_of_mem_drop hx)) i hi
  rw [he, List.length_drop] at h
  obtain ⟨q1, q2, q3, q4⟩ := h
  refine ⟨q2, by omega, fun hv => ?_⟩
  obtain ⟨r1, r2⟩ := q4 hv
  refine ⟨r1, ?_⟩
  have r3 : enc1 ((told c b).getD i (0, 0)).1.toNat c = _ := r2
  rw [r3, List.drop_drop]
  congr 2
  omega

theorem told_first (c : Nat) (b : List Nat) : (placesOf (told c b) ++ [b.length]).getD 0 0 ≤ 3 := by
  have hst := startOf_le c b
  have he : endsOf c (b.drop (startOf c b)) (startOf c b) = placesOf (told c b) ++ [b.length] := by
    unfold endsOf told
    rw [List.length_drop, show startOf c b + (b.length - startOf c b) = b.length by omega]
  rw [← he, endsOf_head]
  unfold startOf
  split
  · unfold markB
    split
    · decide
    · split
      · decide
      · split <;> decide
  · omega

theorem told_latin (b : List Nat) (i : Nat) (hi : i < (told 4 b).length) : 0 ≤ ((told 4 b).getD i (0, 0)).1 := by
  have h : ∀ (n : Nat) (l : List Nat) (at_ : Nat), l.length ≤ n → ∀ p ∈ decAll 4 l at_, (0 : Int) ≤ p.1 := by
    intro n
    induction n with
    | zero =>
      intro l at_ h p hp
      have : l = [] := List.eq_nil_of_length_eq_zero (by omega)
      subst this
      simp [decAll_nil] at hp
    | succ n ih =>
      intro l at_ h p hp
      by_cases hl : l = []
      · subst hl; simp [decAll_nil] at hp
      · have h1 := dec1_len 4 l hl
        rw [decAll_cons 4 l at_ hl] at hp
        rcases List.mem_cons.1 hp with rfl | hp
        · show (0 : Int) ≤ (dec1 4 l).1
          unfold dec1
          simp
        · exact ih _ _ (by rw [List.length_drop]; omega) p hp
  have e : (told 4 b).getD i (0, 0) = (told 4 b)[i] := by simp [List.getD, hi]
  rw [e]
  exact h _ _ _ (Nat.le_refl _) _ (List.getElem_mem hi)

end Go.Proofs.Ytkoheodcledcfaa
