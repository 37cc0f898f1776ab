/- Plain laws: even lengths. No program. -/
import Derived.Test.YtbgejebnpmogoaaHufF1
namespace Go.Proofs.Ytbgejebnpmogoaa

def cntTo (U : List Bool) (i : Nat) : Nat := (U.take i).count true
def numOf (U : List Bool) : Nat := U.count true
def kOf (m : Nat) : Nat := if m = 1 then 1 else m.log2
def shortOf (m : Nat) : Nat := 2 ^ (m.log2 + 1) - m
def evenAt (U : List Bool) (i : Nat) : Nat :=
  if numOf U = 0 ∨ 32768 < numOf U then 0
  else if U.getD i false = true then (if cntTo U i < shortOf (numOf U) then kOf (numOf U) else kOf (numOf U) + 1) else 0
def evenOf (U : List Bool) : List Nat := (List.range U.length).map (evenAt U)
def evenI (U : List Bool) : List Int := (evenOf U).map fun n : Nat => (n : Int)
def evenTo (U : List Bool) (i : Nat) : List Int := (List.range U.length).map fun j => if j < i then ((evenAt U j : Nat) : Int) else 0

theorem evenI_length (U : List Bool) : (evenI U).length = U.length := by simp [evenI, evenOf]
theorem evenOf_length (U : List Bool) : (evenOf U).length = U.length := by simp [evenOf]
theorem lensOf_evenI (U : List Bool) : lensOf (evenI U) = evenOf U := by
  unfold lensOf evenI
  rw [List.map_map]
  have : (Int.toNat ∘ fun n : Nat => (n : Int)) = id := by funext n; simp
  rw [this, List.map_id]
theorem evenTo_zero (U : List Bool) : evenTo U 0 = List.replicate U.length 0 := by
  apply List.ext_getElem <;> simp [evenTo]
theorem evenTo_all (U : List Bool) : evenTo U U.length = evenI U := by
  unfold evenTo evenI evenOf
  rw [List.map_map]
  apply List.map_congr_left
  intro j hj
  rw [if_pos (List.mem_range.1 hj)]
  rfl
theorem evenTo_step (U : List Bool) (i : Nat) : (evenTo U i).set i ((evenAt U i : Nat) : Int) = evenTo U (i + 1) := by
  apply List.ext_getElem
  · simp [evenTo]
  · intro j h1 h2
    rw [List.getElem_set]
    simp only [evenTo, List.getElem_map, List.getElem_range]
    by_cases hj : i = j
    · rw [if_pos hj, if_pos (by omega), hj]
    · rw [if_neg hj]
      by_cases h3 : j < i
      · rw [if_pos h3, if_pos (by omega)]
      · rw [if_neg h3, if_neg (by omega)]
theorem evenTo_skip (U : List Bool) (i : Nat) (h : U.getD i false = false) : evenTo U (i + 1) = evenTo U i := by
  unfold evenTo
  apply List.map_congr_left
  intro j _
  by_cases hj : j < i
  · rw [if_pos hj, if_pos (by omega)]
  · rw [if_neg hj]
    by_cases h2 : j < i + 1
    · rw [if_pos h2, show j = i by omega]
      unfold evenAt
      rw [h]
      split <;> simp
    · rw [if_neg h2]
theorem evenI_none (U : List Bool) (h : numOf U = 0 ∨ 32768 < numOf U) : evenI U = List.replicate U.length 0 := by
  apply List.ext_getElem
  · simp [evenI, evenOf]
  · intro j h1 h2
    simp [evenI, evenOf, evenAt, h]

theorem cntTo_succ (U : List Bool) (i : Nat) (hi : i < U.length) : cntTo U (i + 1) = cntTo U i + (if U.getD i false = true then 1 else 0) := by
  unfold cntTo
  rw [List.take_add_one, List.count_append]
  simp only [List.getElem?_eq_getElem hi, Option.toList_some, List.getD, Option.getD_some]
  cases U[i] <;> simp
theorem cntTo_all (U : List Bool) : cntTo U U.length = numOf U := by unfold cntTo numOf; rw [List.take_length]
theorem cntTo_le (U : List Bool) (i : Nat) : cntTo U i ≤ numOf U := List.Sublist.count_le true (List.take_sublist i U)
theorem cntTo_len (U : List Bool) (i : Nat) : cntTo U i ≤ U.length := Nat.le_trans (cntTo_le U i) List.count_le_length
theorem cntTo_lt (U : List Bool) (i : Nat) (hi : i < U.length) (h : U.getD i false = true) : cntTo U i < numOf U := by
  have h1 := cntTo_succ U i hi
  rw [if_pos h] at h1
  have := cntTo_le U (i + 1)
  omega

theorem log2_is (m k : Nat) (h1 : 2 ^ k ≤ m) (h2 : m < 2 ^ (k + 1)) : m.log2 = k := by
  have h0 : m ≠ 0 := by have : 0 < 2 ^ k := Nat.pow_pos (by decide); omega
  exact (Nat.log2_eq_iff h0).2 ⟨h1, h2⟩

theorem log2_spec (m : Nat) (h : 0 < m) : 2 ^ m.log2 ≤ m ∧ m < 2 ^ (m.log2 + 1) := ⟨Nat.log2_self_le (by omega), Nat.lt_log2_self⟩

theorem lenAt_even (U : List Bool) (i : Nat) (hi : i < U.length) : lenAt (evenOf U) i = evenAt U i := by
  simp [lenAt, evenOf, List.getD, hi]

theorem even_take (U : List Bool) (k s : Nat) (hk : k ≤ 13) (hat : ∀ i, i < U.length → evenAt U i = if U.getD i false = true then (if cntTo U i < s then k else k + 1) else 0) (hk0 : 0 < k) :
    ∀ i, i ≤ U.length → usedOf ((evenOf U).take i) = cntTo U i ∧ room ((evenOf U).take i) = min (cntTo U i) s * 2 ^ (15 - k) + (cntTo U i - s) * 2 ^ (14 - k) := by
  intro i
  induction i with
  | zero => intro _; exact ⟨rfl, by simp [room, cntTo]⟩
  | succ i ih =>
    intro hi
    obtain ⟨h1, h2⟩ := ih (by omega)
    rw [take_lenAt _ i (by rw [evenOf_length]; omega), used_snoc, room_snoc, lenAt_even U i (by omega), hat i (by omega), cntTo_succ U i (by omega), h1, h2]
    by_cases hu : U.getD i false = true
    · rw [if_pos hu, if_pos hu]
      by_cases hs : cntTo U i < s
      · rw [if_pos hs, if_pos hk0, if_neg (by omega), show min (cntTo U i + 1) s = min (cntTo U i) s + 1 by omega, show cntTo U i + 1 - s = 0 by omega, show cntTo U i - s = 0 by omega, Nat.add_mul]
        exact ⟨rfl, by omega⟩
      · rw [if_neg hs, if_pos (by omega), if_neg (by omega), show min (cntTo U i + 1) s = min (cntTo U i) s by omega, show cntTo U i + 1 - s = (cntTo U i - s) + 1 by omega, Nat.add_mul, show 15 - (k + 1) = 14 - k by omega]
        exact ⟨rfl, by omega⟩
    · rw [if_neg hu, if_neg hu]
      simp

theorem even_good (U : List Bool) (hl : U.length ≤ 1024) : newErr (evenI U) = 0 ∧ (2 ≤ numOf U → room (evenOf U) = 32768) ∧ (numOf U = 1 → longOf (evenOf U) = 1 ∧ room (evenOf U) = 16384) ∧ (numOf U = 0 → usedOf (evenOf U) = 0) := by
  have hml : numOf U ≤ 1024 := Nat.le_trans List.count_le_length hl
  have hok : okLens (evenI U) = true := by
    apply List.all_eq_true.2
    intro x hx
    obtain ⟨n, hn, rfl⟩ := List.mem_map.1 hx
    obtain ⟨j, _, rfl⟩ := List.mem_map.1 hn
    have hb : evenAt U j ≤ 15 := by
      unfold evenAt
      split
      · omega
      · rename_i h0
        have hlg : (numOf U).log2 ≤ 10 := by
          have h1 := (log2_spec (numOf U) (by omega)).1
          by_cases h : (numOf U).log2 ≤ 10
          · exact h
          · have : 2 ^ 11 ≤ 2 ^ (numOf U).log2 := Nat.pow_le_pow_right (by decide) (by omega)
            omega
        have hk : kOf (numOf U) ≤ 10 := by unfold kOf; split <;> omega
        split
        · split <;> omega
        · omega
    simp only [Bool.and_eq_true, decide_eq_true_eq]
    omega
  have h15 := (lens_ok _ hok).1
  rw [lensOf_evenI] at h15
  have fin : ∀ rm us lg, room (evenOf U) = rm → usedOf (evenOf U) = us → longOf (evenOf U) = lg → (rm = 32768 ∨ us = 0 ∨ (us = 1 ∧ lg = 1)) → rm ≤ 32768 → newErr (evenI U) = 0 := by
    intro rm us lg e1 e2 e3 hc hr
    unfold newErr
    rw [if_neg (by rw [evenI_length]; omega), if_neg (by rw [hok]; simp), lensOf_evenI, e1, e2, e3, if_neg (by omega), if_neg]
    rintro ⟨a1, a2, a3⟩
    omega
  by_cases hm0 : numOf U = 0
  · have hz : evenOf U = List.replicate U.length 0 := by
      have := congrArg lensOf (evenI_none U (.inl hm0))
      rw [lensOf_evenI] at this
      rw [this]
      simp [lensOf]
    have hu : usedOf (evenOf U) = 0 := by rw [hz]; simp [usedOf]
    have hr := (used_take (evenOf U) _ (Nat.le_refl _)).1
    rw [List.take_length] at hr
    obtain ⟨r1, r2⟩ := hr hu
    exact ⟨fin _ _ _ rfl rfl rfl (.inr (.inl hu)) (by rw [r1]; omega), fun h => by omega, fun h => by omega, fun _ => hu⟩
  · have hat : ∀ i, i < U.length → evenAt U i = if U.getD i false = true then (if cntTo U i < shortOf (numOf U) then kOf (numOf U) else kOf (numOf U) + 1) else 0 := by
      intro i _
      unfold evenAt
      rw [if_neg (by omega)]
    have hlg : (numOf U).log2 ≤ 10 := by
      have h1 := (log2_spec (numOf U) (by omega)).1
      by_cases h : (numOf U).log2 ≤ 10
      · exact h
      · have : 2 ^ 11 ≤ 2 ^ (numOf U).log2 := Nat.pow_le_pow_right (by decide) (by omega)
        omega
    have hk13 : kOf (numOf U) ≤ 13 := by unfold kOf; split <;> omega
    have hk0 : 0 < kOf (numOf U) := by
      unfold kOf
      split
      · omega
      · rename_i h1
        have := (log2_spec (numOf U) (by omega)).2
        by_cases h : 0 < (numOf U).log2
        · exact h
        · have e : (numOf U).log2 = 0 := by omega
          rw [e] at this
          omega
    obtain ⟨hu, hr⟩ := even_take U _ _ hk13 hat hk0 U.length (Nat.le_refl _)
    have htk : (evenOf U).take U.length = evenOf U := List.take_of_length_le (by rw [evenOf_length]; exact Nat.le_refl _)
    rw [htk, cntTo_all] at hu hr
    by_cases hm1 : numOf U = 1
    · have e1 : kOf (numOf U) = 1 := by unfold kOf; rw [if_pos hm1]
      have e2 : shortOf (numOf U) = 1 := by rw [hm1]; decide
      rw [e1, e2, hm1] at hr
      have hr' : room (evenOf U) = 16384 := by simpa using hr
      have hlong := (one_code (evenOf U) h15 (by omega)).1 hr'
      exact ⟨fin 16384 1 1 hr' (hu.trans hm1) hlong (.inr (.inr ⟨rfl, rfl⟩)) (by decide), fun h => absurd h (by rw [hm1]; decide), fun _ => ⟨hlong, hr'⟩, fun h => absurd h (by rw [hm1]; decide)⟩
    · have e1 : kOf (numOf U) = (numOf U).log2 := by unfold kOf; rw [if_neg hm1]
      obtain ⟨s1, s2⟩ := log2_spec (numOf U) (by omega)
      rw [e1] at hr hk13 hk0
      have hsm : shortOf (numOf U) ≤ numOf U := by unfold shortOf; rw [Nat.pow_succ]; omega
      have hfull : room (evenOf U) = 32768 := by
        rw [hr, Nat.min_eq_right hsm, show 15 - (numOf U).log2 = (14 - (numOf U).log2) + 1 by omega, Nat.pow_succ, ← Nat.mul_assoc, Nat.mul_right_comm, ← Nat.add_mul]
        have e3 : shortOf (numOf U) * 2 + (numOf U - shortOf (numOf U)) = 2 ^ ((numOf U).log2 + 1) := by
          have : shortOf (numOf U) = 2 ^ ((numOf U).log2 + 1) - numOf U := rfl
          omega
        rw [e3, ← Nat.pow_add, show (numOf U).log2 + 1 + (14 - (numOf U).log2) = 15 by omega]
      exact ⟨fin _ _ _ rfl rfl rfl (.inl hfull) (by omega), fun _ => hfull, fun h => by omega, fun h => by omega⟩

end Go.Proofs.Ytbgejebnpmogoaa
