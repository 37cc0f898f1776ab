/- The law HuffOrder. -/
import Derived.Test.YtbgejebnpmogoaaHufL1
namespace Go.Proofs.Ytbgejebnpmogoaa
open Go.RowKit

theorem lens_get (xs : List Int) (h : okLens xs = true) (i : Nat) : xs.getD i 0 = ((lenAt (lensOf xs) i : Nat) : Int) := ((lens_ok xs h).2 i).symm
theorem lensOf_length (xs : List Int) : (lensOf xs).length = xs.length := by simp [lensOf]

/-- what a table's maker is handed: a copy of the lengths -/
theorem order_told (ls : List Nat) (h15 : ∀ n ∈ ls, n ≤ 15) (i k : Nat) (hk : k < i) (hi : i < ls.length) (ha : 1 ≤ lenAt ls k) (hb : 1 ≤ lenAt ls i) : decide (lenAt ls k ≤ lenAt ls i) = decide (loOf ls k < loOf ls i) := by
  have pk : 0 < 2 ^ (15 - lenAt ls k) := Nat.pow_pos (by decide)
  have pi : 0 < 2 ^ (15 - lenAt ls i) := Nat.pow_pos (by decide)
  by_cases h : lenAt ls k ≤ lenAt ls i
  · have := lo_order ls h15 k i (by omega) hi ha hb (by omega)
    rw [decide_eq_true h, decide_eq_true (by omega)]
  · have := lo_order ls h15 i k hi (by omega) hb ha (by omega)
    rw [decide_eq_false h, decide_eq_false (by omega)]

set_option maxHeartbeats 1600000 in
set_option maxRecDepth 1000000 in
theorem lawHuffOrder {w : World} (v0 : Value) (xs : List Int) (h : Ints .i64 w v0 xs) (hl : xs.length ≤ 1048576) :
    Calls Try.prog 4 #[v0] w fun e w' => e = .returned (.bool true) ∧ Below w.heap.size w w' := by
  have HX := Lib.hid h
  obtain ⟨p0, c0, rfl, hr0⟩ := h.read
  have HR0 := Lib.hid hr0
  clear h hr0
  go_enter Try.func4, Try.ntmps4
  go_wp2_with fail
  refine (speaks_any w).mono ?_
  rintro e w1 ⟨rfl, m1⟩
  have M1 := Lib.hid m1
  clear m1
  go_wp2_with (at_builtin; (refine wp_appI rfl (.tmp 15) (.tmp 16) rfl (IRow.empty _) rfl (HX.out.src (M1.out.alloc _)) rfl (by rw [List.length_nil]; omega) ?_))
  intro v2 w2 r2 m2 f2
  have hM2 : Mut [] w w2 := (M1.out.alloc _).trans m2 (by have := M1.out.size; simp [Value.ownBlock]; omega)
  have HN := Lib.hid (new_row xs (by omega) v2 w2 r2)
  obtain ⟨p2, c2, rfl, -⟩ := r2.read
  have HM2 := Lib.hid hM2
  clear r2 m2 f2 hM2
  go_wp2_with fail
  refine HN.out.mono ?_
  rintro e w3 ⟨he, m3⟩
  have HM3 : Hid (Mut [] w w3) := Lib.hid (HM2.out.trans m3 (by simp))
  clear m3
  rcases he with ⟨h0, rfl⟩ | ⟨h0, b, rfl, hT⟩
  · have hne : ((newErr xs : Int) == 0) = false := by simpa using h0
    go_wp2_with fail
    exact bodyPost_ret (results_tmp rfl _ _ _) rfl ⟨rfl, HM3.out.nil (by simp)⟩
  · obtain ⟨hx1, hx2, hx3, hx4⟩ := newErr_len' xs h0
    have HT := Lib.hid hT
    have h15 := (lens_ok xs hx2).1
    have hget := lens_get xs hx2
    have hln := lensOf_length xs
    obtain ⟨ls, hls⟩ : ∃ ls, lensOf xs = ls := ⟨_, rfl⟩
    rw [hls] at HT h15 hget hln hx3
    have H15 := Lib.hid h15
    have HG := Lib.hid hget
    clear hT h0 hx2 hx4 h15 hget hls HN HX
    go_wp2_with fail
    refine (codes_any _ _ b ls w3 HT.out (by omega)).mono ?_
    rintro e w4 ⟨v, rfl, hv, hm4, hf4⟩
    have HM4 : Hid (Mut [] w w4) := Lib.hid (HM3.out.trans hm4 (by simp))
    obtain ⟨pc, cc, rfl, hcc⟩ := hv.read
    rw [codesI_length] at hcc ⊢
    have HCC := Lib.hid hcc
    clear hv hm4 hf4 hcc HT
    have HRL : Hid (∀ i, i < ls.length → ∃ a, p0 = some a ∧ ∀ n, (w4.drewN n).cell? (a.add i) = some (.int .i64 ((lenAt ls i : Nat) : Int))) := Lib.hid (fun i hi => by
      obtain ⟨a, h1, h2⟩ := HR0.out w4 HM4.out i (by omega)
      refine ⟨a, h1, fun n => ?_⟩
      rw [← HG.out i]
      exact h2)
    have HCL : Hid (∀ i, i < ls.length → ∃ a, pc = some a ∧ ∀ n, (w4.drewN n).cell? (a.add i) = some (.int .i64 ((codeOf ls i : Nat) : Int))) := Lib.hid (fun i hi => by
      obtain ⟨a, h1, h2⟩ := HCC.out w4 (Mut.refl _ _) i hi
      refine ⟨a, h1, fun n => ?_⟩
      rw [codesI_get ls i hi] at h2
      exact h2)
    clear HR0 HCC HG
    have hls : ls.length ≤ 1024 := by omega
    rw [← hln] at *
    clear hln
    go_wp2_with fail
    go_loopw [6] (fun x wx => ∃ i m : Nat, x = .int .i64 (i : Int) ∧ i ≤ ls.length ∧ wx = w4.drewN m) (fun x _ => ls.length - (intOf x).toNat)
    case atStart => exact ⟨0, 0, rfl, Nat.zero_le _, rfl⟩
    case round =>
      obtain ⟨i, m, rfl, hi, rfl⟩ := hrel
      by_cases hend : i < ls.length
      · have hendI : (i : Int) < (ls.length : Int) := by omega
        go_wp2_with fail
        go_loopw [7] (fun x wx => ∃ k m : Nat, x = .int .i64 (k : Int) ∧ k ≤ i ∧ wx = w4.drewN m) (fun x _ => i - (intOf x).toNat)
        case atStart => exact ⟨0, m, rfl, Nat.zero_le _, rfl⟩
        case round =>
          obtain ⟨k, m2, rfl, hk, rfl⟩ := hrel
          by_cases hkd : k < i
          · have hkdI : (k : Int) < (i : Int) := by omega
            have hkl : k < ls.length := by omega
            have hkI : (k : Int) < (ls.length : Int) := by omega
            obtain ⟨a, rfl, cak⟩ := HRL.out k hkl
            obtain ⟨a', e', cai⟩ := HRL.out i hend
            obtain rfl : a = a' := by simpa using e'
            obtain ⟨c, rfl, cck⟩ := HCL.out k hkl
            obtain ⟨c', e2', cci⟩ := HCL.out i hend
            obtain rfl : c = c' := by simpa using e2'
            have hak15 := H15.out _ (lenAt_mem ls k hkl)
            have hai15 := H15.out _ (lenAt_mem ls i hend)
            have HO : Hid (1 ≤ lenAt ls k → 1 ≤ lenAt ls i → decide (lenAt ls k ≤ lenAt ls i) = decide (loOf ls k < loOf ls i)) := Lib.hid (order_told ls H15.out i k hkd hend)
            have HK : Hid (1 ≤ lenAt ls k → codeOf ls k < 2 ^ lenAt ls k) := Lib.hid (code_lt ls H15.out hx3 k hkl)
            have HI : Hid (1 ≤ lenAt ls i → codeOf ls i < 2 ^ lenAt ls i) := Lib.hid (code_lt ls H15.out hx3 i hend)
            have HOL : Hid (loOf ls k = codeOf ls k * 2 ^ (15 - lenAt ls k) ∧ loOf ls i = codeOf ls i * 2 ^ (15 - lenAt ls i)) := Lib.hid ⟨rfl, rfl⟩
            generalize lenAt ls k = A at *
            generalize lenAt ls i = B at *
            generalize codeOf ls k = CA at *
            generalize codeOf ls i = CB at *
            generalize loOf ls k = X at *
            generalize loOf ls i = Y at *
            clear e' e2'
            by_cases hA : A = 0
            · subst hA
              clear HO HK HI HOL
              go_wp2_with fail
              go_quiet (fail)
              go_wp2_with fail
              exact ⟨⟨k + 1, _, by rw [Int.natCast_add]; rfl, by omega, rfl⟩, by simp only [intOf]; omega⟩
            · by_cases hB : B = 0
              · subst hB
                have hAI : ((A : Int) == 0) = false := by simpa using hA
                clear HO HK HI HOL
                go_wp2_with fail
                go_quiet (fail)
                go_wp2_with fail
                exact ⟨⟨k + 1, _, by rw [Int.natCast_add]; rfl, by omega, rfl⟩, by simp only [intOf]; omega⟩
              · have hAI : ((A : Int) == 0) = false := by simpa using hA
                have hBI : ((B : Int) == 0) = false := by simpa using hB
                go_wp2_with fail
                go_quiet (fail)
                go_wp2_with fail
                go_quiet (fail)
                have hlo : ∀ L c : Nat, 1 ≤ L → L ≤ 15 → c < 2 ^ L → wrap64 ((c : Int) * 2 ^ (15 - L)) = ((c * 2 ^ (15 - L) : Nat) : Int) := by
                  intro L c h1 h2 h3
                  have h4 : c * 2 ^ (15 - L) < 32768 := by
                    have h5 : c * 2 ^ (15 - L) < 2 ^ L * 2 ^ (15 - L) := Nat.mul_lt_mul_of_pos_right h3 (Nat.pow_pos (by decide))
                    rw [← Nat.pow_add, show L + (15 - L) = 15 by omega] at h5
                    exact h5
                  have h6 : ((c : Int) * 2 ^ (15 - L)) = ((c * 2 ^ (15 - L) : Nat) : Int) := by simp
                  rw [h6]
                  generalize c * 2 ^ (15 - L) = z at *
                  exact IntWalk.wrap64_in _ (by omega)
                have e1 := hlo A CA (by omega) hak15 (HK.out (by omega))
                have e2 := hlo B CB (by omega) hai15 (HI.out (by omega))
                rw [← HOL.out.1] at e1
                rw [← HOL.out.2] at e2
                rw [e1, e2]
                have ho := HO.out (by omega) (by omega)
                clear e1 e2 hlo HO HK HI HOL
                by_cases hab : A ≤ B
                · have hxy : X < Y := by rw [decide_eq_true hab] at ho; exact of_decide_eq_true ho.symm
                  have habI : (A : Int) ≤ (B : Int) := by omega
                  have hxyI : (X : Int) < (Y : Int) := by omega
                  clear ho
                  go_wp2_with fail
                  exact ⟨⟨k + 1, _, by rw [Int.natCast_add]; rfl, by omega, rfl⟩, by simp only [intOf]; omega⟩
                · have hxy : ¬ X < Y := by rw [decide_eq_false hab] at ho; exact of_decide_eq_false ho.symm
                  have habI : ¬ (A : Int) ≤ (B : Int) := by omega
                  have hxyI : ¬ (X : Int) < (Y : Int) := by omega
                  clear ho
                  go_wp2_with fail
                  exact ⟨⟨k + 1, _, by rw [Int.natCast_add]; rfl, by omega, rfl⟩, by simp only [intOf]; omega⟩
          · have hkdI : ¬ (k : Int) < (i : Int) := by omega
            go_wp2_with fail
            exact ⟨⟨i + 1, m2, by rw [Int.natCast_add]; rfl, by omega, rfl⟩, by simp only [intOf]; omega⟩
      · have hendI : ¬ (i : Int) < (ls.length : Int) := by omega
        go_wp2_with fail
        exact bodyPost_ret (results_tmp rfl _ _ _) rfl ⟨rfl, (HM4.out.drewN m).nil (by simp)⟩

end Go.Proofs.Ytbgejebnpmogoaa
