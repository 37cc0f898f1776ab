/- The law HuffEven. -/
import Derived.Test.YtbgejebnpmogoaaHufF3
namespace Go.Proofs.Ytbgejebnpmogoaa
open Go.RowKit

/-- lengths that are too many are told so -/
theorem newErr_many (xs : List Int) (h : 1024 < xs.length) : newErr xs ≠ 0 := by rw [newErr_len xs h]; decide

set_option maxHeartbeats 1600000 in
set_option maxRecDepth 1000000 in
theorem lawHuffEven {w : World} (v0 : Value) (U : List Bool) (h : Bools w v0 U) (hl : U.length ≤ 1048576) :
    Calls Try.prog 6 #[v0] w fun e w' => e = .returned (.bool true) ∧ Below w.heap.size w w' := by
  have HX := Lib.hid h
  obtain ⟨p0, c0, rfl, hr0⟩ := h.read
  have HR0 := Lib.hid hr0
  have hel := evenI_length U
  clear h hr0
  go_enter Try.func6, Try.ntmps6
  go_wp2_with fail
  refine (speaks_any w).mono ?_
  rintro e w1 ⟨rfl, m1⟩
  have M1 := Lib.hid m1
  clear m1
  go_wp2_with (at_builtin; (refine wp_appB rfl (.tmp 8) (.tmp 9) rfl (BoRow.empty _) rfl (HX.out.src (M1.out.alloc _)) rfl (by rw [List.length_nil]; omega) ?_))
  intro v2 w2 r2 m2 f2
  have hM2 : Mut [] w w2 := (M1.out.alloc _).trans m2 (by have := M1.out.size; simp [Value.ownBlock]; omega)
  have r2' : BoRow w2 v2 U := r2
  obtain ⟨p2, c2, rfl, k2⟩ := r2'.read
  have HE := Lib.hid (even_any U hl p2 c2 w2 k2)
  have HM2 := Lib.hid hM2
  clear r2 r2' m2 f2 hM2 k2
  go_wp2_with fail
  refine HE.out.mono ?_
  rintro e w3 ⟨v3, rfl, r3, m3, f3⟩
  have HM3 : Hid (Mut [] w w3) := Lib.hid (HM2.out.trans m3 (by simp))
  have R3 := Lib.hid r3
  obtain ⟨p3, c3, rfl, k3⟩ := r3.read
  have K3 := Lib.hid k3
  have HF := Lib.hid (refeven_any U hl p0 c0 w3 (fun w' m i hi => HR0.out w' (HM3.out.trans m (by simp)) i hi))
  clear HE m3 f3 r3 k3
  go_wp2_with fail
  refine HF.out.mono ?_
  rintro e w4 ⟨v4, rfl, r4, m4, f4⟩
  obtain ⟨p4, c4, rfl, k4⟩ := r4.read
  have HM4 : Hid (Mut [] w w4) := Lib.hid (HM3.out.trans m4 (by simp))
  have M34 := Lib.hid m4
  have K4 := Lib.hid k4
  clear HF m4 f4 r4 k4
  go_wp2_with fail
  refine (ints_any _ _ p3 p4 c3 c4 (evenI U) (evenI U) (by rw [hel]; omega) w4 (by rw [hel]) (by rw [hel]) (fun i hi => K3.out _ M34.out i hi) (fun i hi => K4.out _ (Mut.refl _ _) i hi)).mono ?_
  rintro e w5 ⟨rfl, n, rfl⟩
  have hR5 : IRow (w4.drewN n) (.slice p3 (evenI U).length c3) (evenI U) := R3.out.mut (M34.out.drewN n) (by simp)
  have HN := Lib.hid (new_row (evenI U) (by rw [hel]; omega) _ (w4.drewN n) hR5)
  rw [hel] at HN
  clear hR5
  go_wp2_with fail
  refine HN.out.mono ?_
  rintro e w6 ⟨he, m6⟩
  have HM6 : Hid (Mut [] w w6) := Lib.hid ((HM4.out.drewN n).trans m6 (by simp))
  clear m6 HN
  have HBIG : Hid (newErr (evenI U) ≠ 0 → 1024 < U.length) := Lib.hid (fun h => by
    by_cases hh : U.length ≤ 1024
    · exact absurd (even_good U hh).1 h
    · omega)
  rcases he with ⟨h0, rfl⟩ | ⟨h0, b, rfl, _⟩
  · have hbig := HBIG.out h0
    have hne : ((newErr (evenI U) : Int) == 0) = false := by simpa using h0
    have hbigI : (1024 : Int) < (U.length : Int) := by omega
    clear HBIG h0
    generalize newErr (evenI U) = er at *
    go_wp2_with fail
    exact bodyPost_ret (results_tmp rfl _ _ _) rfl ⟨rfl, HM6.out.nil (by simp)⟩
  · clear HBIG h0
    go_wp2_with fail
    exact bodyPost_ret (results_tmp rfl _ _ _) rfl ⟨rfl, HM6.out.nil (by simp)⟩

end Go.Proofs.Ytbgejebnpmogoaa
