/- The law HuffTables. -/
import Derived.Test.YtbgejebnpmogoaaHufF1
namespace Go.Proofs.Ytbgejebnpmogoaa
open Go.RowKit

set_option maxHeartbeats 1600000 in
set_option maxRecDepth 1000000 in
theorem lawHuffTables {w : World} (v0 : Value) (xs : List Int) (h : Ints .i64 w v0 xs) (hl : xs.length ≤ 1048576) :
    Calls Try.prog 3 #[v0] w fun e w' => e = .returned (.bool true) ∧ Below w.heap.size w w' := by
  have HX := Lib.hid h
  obtain ⟨p0, c0, rfl, hr0⟩ := h.read
  have HR0 := Lib.hid hr0
  clear h hr0
  go_enter Try.func3, Try.ntmps3
  go_wp2_with fail
  refine (speaks_any w).mono ?_
  rintro e w1 ⟨rfl, m1⟩
  have M1 := Lib.hid m1
  clear m1
  go_wp2_with (at_builtin; (refine wp_appI rfl (.tmp 11) (.tmp 12) rfl (IRow.empty _) rfl (HX.out.src (M1.out.alloc _)) rfl (by rw [List.length_nil]; omega) ?_))
  intro v2 w2 r2 m2 f2
  have hM2 : Mut [] w w2 := (M1.out.alloc _).trans m2 (by have := M1.out.size; simp [Value.ownBlock]; omega)
  have r2' : IRow w2 v2 xs := r2
  have HN := Lib.hid (new_row xs (by omega) v2 w2 r2')
  obtain ⟨p2, c2, rfl, k2⟩ := r2'.read
  have HM2 := Lib.hid hM2
  have K2 := Lib.hid k2
  clear r2 r2' m2 f2 hM2 k2
  go_wp2_with fail
  refine HN.out.mono ?_
  rintro e w3 ⟨he, m3⟩
  have HM23 := Lib.hid m3
  have HM3 : Hid (Mut [] w w3) := Lib.hid (HM2.out.trans m3 (by simp))
  clear m3 HN
  have HF := Lib.hid (refnew_any xs (by omega) p0 c0 w3 (fun w' m i hi => HR0.out w' (HM3.out.trans m (by simp)) i hi))
  rcases he with ⟨h0, rfl⟩ | ⟨h0, b, rfl, hT⟩
  · have hne : ((newErr xs : Int) == 0) = false := by simpa using h0
    have hne2 : ((newErr xs : Int) != 0) = true := by simpa using h0
    have H0 := Lib.hid h0
    clear h0
    go_wp2_with fail
    refine HF.out.mono ?_
    rintro e w4 ⟨he, m4⟩
    obtain ⟨_, rfl⟩ := he.resolve_right (fun h => H0.out h.1)
    have HM4 : Hid (Mut [] w w4) := Lib.hid (HM3.out.trans m4 (by simp))
    have HM24 : Hid (Mut [] w2 w4) := Lib.hid (HM23.out.trans m4 (by simp))
    clear m4 HF he H0
    generalize newErr xs = er at *
    go_wp2_with fail
    refine (codes_nil w4).mono ?_
    rintro e w5 ⟨rfl, rfl⟩
    go_wp2_with fail
    refine (ints_any _ _ none none 0 0 [] [] (by decide) w4 rfl rfl (fun i hi => absurd hi (by simp)) (fun i hi => absurd hi (by simp))).mono ?_
    rintro e w5 ⟨rfl, n, rfl⟩
    go_wp2_with fail
    refine (ints_any _ _ p2 p0 c2 c0 xs xs (by omega) _ rfl rfl (fun i hi => K2.out _ (HM24.out.drewN n) i hi) (fun i hi => HR0.out _ (HM4.out.drewN n) i hi)).mono ?_
    rintro e w6 ⟨rfl, n2, rfl⟩
    go_wp2_with fail
    refine (codes_nil _).mono ?_
    rintro e w7 ⟨rfl, rfl⟩
    go_wp2_with fail
    exact bodyPost_ret (results_tmp rfl _ _ _) rfl ⟨rfl, (HM4.out.drewN _).nil (by simp)⟩
  · have H0 := Lib.hid h0
    have hl1024 := (newErr_len' xs h0).1
    have hlen := lensOf_length xs
    have HT := Lib.hid hT
    clear h0 hT
    go_wp2_with fail
    refine HF.out.mono ?_
    rintro e w4 ⟨he, m4⟩
    obtain ⟨_, vc, rfl, hrc, hfc⟩ := he.resolve_left (fun h => h.1 H0.out)
    obtain ⟨pc, cc, rfl, kc⟩ := hrc.read
    have HM4 : Hid (Mut [] w w4) := Lib.hid (HM3.out.trans m4 (by simp))
    have HM24 : Hid (Mut [] w2 w4) := Lib.hid (HM23.out.trans m4 (by simp))
    have HT4 := Lib.hid (HT.out.mut m4 (by simp))
    have KC := Lib.hid kc
    clear m4 HF HT hrc hfc kc he
    go_wp2_with fail
    refine (codes_any _ _ b _ w4 HT4.out (by omega)).mono ?_
    rintro e w5 ⟨vd, rfl, hrd, m5, hfd⟩
    obtain ⟨pd, cd, rfl, kd⟩ := hrd.read
    have HM5 : Hid (Mut [] w w5) := Lib.hid (HM4.out.trans m5 (by simp))
    have HM25 : Hid (Mut [] w2 w5) := Lib.hid (HM24.out.trans m5 (by simp))
    have HM45 := Lib.hid m5
    have KD := Lib.hid kd
    have hcl := codesI_length (lensOf xs)
    clear m5 hrd hfd kd
    go_wp2_with fail
    refine (ints_any _ _ pd pc cd cc (codesI (lensOf xs)) (codesI (lensOf xs)) (by rw [hcl, hlen]; omega) w5 (by rw [hcl, hlen]) (by rw [hcl, hlen]) (fun i hi => KD.out _ (Mut.refl _ _) i hi) (fun i hi => KC.out _ HM45.out i hi)).mono ?_
    rintro e w6 ⟨rfl, n, rfl⟩
    go_wp2_with fail
    refine (ints_any _ _ p2 p0 c2 c0 xs xs (by omega) _ rfl rfl (fun i hi => K2.out _ (HM25.out.drewN n) i hi) (fun i hi => HR0.out _ (HM5.out.drewN n) i hi)).mono ?_
    rintro e w6 ⟨rfl, n2, rfl⟩
    go_wp2_with fail
    refine (codes_nil _).mono ?_
    rintro e w7 ⟨rfl, rfl⟩
    go_wp2_with fail
    exact bodyPost_ret (results_tmp rfl _ _ _) rfl ⟨rfl, (HM5.out.drewN _).nil (by simp)⟩

end Go.Proofs.Ytbgejebnpmogoaa
