/- The law TopCodes. -/
import Derived.Test.YtbgejebnpmogoaaHufB
import Derived.Test.YtbgejebnpmogoaaHufL2
import Derived.StillTailTactics
namespace Go.Proofs.Ytbgejebnpmogoaa
open Go.RowKit

theorem pre_free (ls : List Nat) (hg : Good ls) (s t : Nat) (hs : s < ls.length) (ht : t < ls.length) (hn : 1 ≤ lenAt ls s) (hle : lenAt ls s ≤ lenAt ls t) (hne : s ≠ t) : codeOf ls s ≠ codeOf ls t / 2 ^ (lenAt ls t - lenAt ls s) := by
  intro h
  have h15 := hg.h15 _ (lenAt_mem ls t ht)
  have hd : 0 < 2 ^ (lenAt ls t - lenAt ls s) := Nat.pow_pos (by decide)
  have h1 := Nat.div_mul_le_self (codeOf ls t) (2 ^ (lenAt ls t - lenAt ls s))
  have h2 := Nat.lt_div_mul_add (a := codeOf ls t) hd
  rw [← h] at h1 h2
  have e : 2 ^ (15 - lenAt ls s) = 2 ^ (lenAt ls t - lenAt ls s) * 2 ^ (15 - lenAt ls t) := by rw [← Nat.pow_add]; congr 1; omega
  have p : 0 < 2 ^ (15 - lenAt ls t) := Nat.pow_pos (by decide)
  have h3 : loOf ls s ≤ loOf ls t := by
    unfold loOf
    rw [e, ← Nat.mul_assoc]
    exact Nat.mul_le_mul_right _ h1
  have h4 : loOf ls t < loOf ls s + 2 ^ (15 - lenAt ls s) := by
    unfold loOf
    rw [e, ← Nat.mul_assoc, ← Nat.add_mul]
    exact Nat.mul_lt_mul_of_pos_right h2 p
  by_cases hlt : lenAt ls s < lenAt ls t
  · have := lo_order ls hg.h15 s t hs ht hn (by omega) (.inl hlt)
    omega
  · rcases Nat.lt_or_gt_of_ne hne with q | q
    · have := lo_order ls hg.h15 s t hs ht hn (by omega) (.inr ⟨by omega, q⟩)
      omega
    · have := lo_order ls hg.h15 t s ht hs (by omega) hn (.inr ⟨by omega, q⟩)
      omega

set_option maxHeartbeats 3200000 in
set_option maxRecDepth 1000000 in
theorem lawTopCodes {w : World} (v0 : Value) (ys : List Int) (h : Ints .i64 w v0 ys) (hl : ys.length ≤ 1048576) (v1 : Value) (xs : List Int) (h1 : Ints .i64 w v1 xs) (hx : xs.length ≤ 1048576) :
    Calls Try.prog 9 #[v0, v1] w fun e w' => e = .returned (.bool true) ∧ Below w.heap.size w w' := by
  have HX := Lib.hid h
  obtain ⟨p0, c0, rfl, hr0⟩ := h.read
  obtain ⟨p1, c1, rfl, hr1⟩ := h1.read
  have HR0 := Lib.hid hr0
  have HR1 := Lib.hid hr1
  clear h hr0 h1 hr1
  have hNE0 : newErr [1, 1] = 0 := by decide +kernel
  have hls0 : lensOf [1, 1] = [1, 1] := by decide +kernel
  have HI : Hid (IRow (w.alloc (.cells #[.int .i64 1, .int .i64 1] 3)) (.slice (some ⟨w.heap.size, 0, none⟩) 2 2) [1, 1]) :=
    Lib.hid ⟨rfl, .inr ⟨w.heap.size, 2, _, rfl, Nat.zero_le _, heap_alloc_new w _, Nat.le_refl _, by decide, rfl, rfl⟩⟩
  have HNE0 := Lib.hid hNE0
  have HLS0 := Lib.hid hls0
  clear hNE0 hls0
  go_enter Try.func9, Try.ntmps9
  go_wp2_with fail
  refine (new_row [1, 1] (by decide) _ _ HI.out).mono ?_
  rintro e wa ⟨he, hm⟩
  obtain ⟨_, b0, rfl, hT0⟩ := he.resolve_left (fun h => h.1 HNE0.out)
  rw [HLS0.out] at hT0
  have HMa : Hid (Mut [] w wa) := Lib.hid (((Mut.refl [] w).alloc _).trans hm (by simp))
  have HT0 := Lib.hid hT0
  clear he hm hT0 HI HNE0 HLS0
  go_wp2_with fail
  refine (codes_any _ _ b0 _ wa HT0.out (by decide)).mono ?_
  rintro e w1 ⟨vq, rfl, hq, mq, _⟩
  obtain ⟨pq, cq, rfl, _⟩ := hq.read
  have hq2 : (codesI [1, 1]).length = 2 := by rw [codesI_length]; rfl
  rw [hq2]
  have M1 : Hid (Mut [] w w1) := Lib.hid (HMa.out.trans mq (by simp))
  clear hq mq hq2 HMa HT0
  go_wp2_with (at_builtin; (refine wp_appI rfl (.tmp 37) (.tmp 38) rfl (IRow.empty _) rfl (HX.out.src (M1.out.alloc _)) rfl (by rw [List.length_nil]; omega) ?_))
  intro v2 w2 r2 m2 f2
  have hM2 : Mut [] w w2 := (M1.out.alloc _).trans m2 (by have := M1.out.size; simp [Value.ownBlock]; omega)
  have r2' : IRow w2 v2 ys := r2
  have HN := Lib.hid (new_row ys (by omega) v2 w2 r2')
  obtain ⟨p2, c2, rfl, -⟩ := r2'.read
  have HM2 := Lib.hid hM2
  clear r2 r2' m2 f2 hM2 HX
  go_wp2_with fail
  refine HN.out.mono ?_
  rintro e w4 ⟨he, m3⟩
  have HM4 : Hid (Mut [] w w4) := Lib.hid (HM2.out.trans m3 (by simp))
  clear m3 HN
  rcases he with ⟨h0, rfl⟩ | ⟨h0, b, rfl, hT⟩
  · have hne : ((newErr ys : Int) == 0) = false := by simpa using h0
    clear h0
    generalize newErr ys = er at *
    go_wp2_with (go_at_call 14; refine (codes_nil _).mono ?_; rintro e w9 ⟨rfl, rfl⟩)
    exact bodyPost_ret (results_tmp rfl _ _ _) rfl ⟨rfl, HM4.out.nil (by simp)⟩
  have hE := newErr_len' ys h0
  have hgood := good_of ys h0
  have hget := lens_get ys hE.2.1
  have hlen := lensOf_length ys
  have hL0 := hE.1
  obtain ⟨ls, hls⟩ : ∃ ls, lensOf ys = ls := ⟨_, rfl⟩
  rw [hls] at hT hgood hget hlen
  have HGD := Lib.hid hgood
  have HT := Lib.hid hT
  have HL15 := Lib.hid (long_le ls hgood.h15)
  clear hT hgood hls hE h0
  have hL2 : ls.length ≤ 1024 := by omega
  go_wp2_with fail
  refine (codes_any _ _ b ls w4 HT.out hL2).mono ?_
  rintro e w5 ⟨vc, rfl, hrc, m5, fc⟩
  obtain ⟨pc, cc, rfl, kc⟩ := hrc.read
  rw [codesI_length] at kc ⊢
  have HM5 : Hid (Mut [] w w5) := Lib.hid (HM4.out.trans m5 (by simp))
  have HT5 := Lib.hid (HT.out.mut m5 (by simp))
  have HS45 := Lib.hid m5.size
  have HS24 : Hid (w.heap.size ≤ w4.heap.size) := Lib.hid HM4.out.size
  have HCL : Hid (∀ W : World, Mut [] w5 W → ∀ i, i < ls.length → ∃ a, pc = some a ∧ ∀ n, (W.drewN n).cell? (a.add i) = some (.int .i64 ((codeOf ls i : Nat) : Int))) := Lib.hid (fun W m i hi => by
    obtain ⟨a, e1, e2⟩ := kc W m i hi
    refine ⟨a, e1, fun n => ?_⟩
    rw [codesI_get ls i hi] at e2
    exact e2)
  have HLL : Hid (∀ W : World, Mut [] w5 W → ∀ i, i < ls.length → ∃ a, p0 = some a ∧ ∀ n, (W.drewN n).cell? (a.add i) = some (.int .i64 ((lenAt ls i : Nat) : Int))) := Lib.hid (fun W m i hi => by
    obtain ⟨a, e1, e2⟩ := HR0.out W (HM5.out.trans m (by simp)) i (by omega)
    refine ⟨a, e1, fun n => ?_⟩
    rw [← hget i]
    exact e2)
  clear m5 hrc fc kc HR0 HT hget HM4 HM2 M1
  rw [← hlen] at *
  clear hlen
  go_wp2_with fail
  go_loopw [10] (fun x wx => ∃ i m : Nat, x = .int .i64 (i : Int) ∧ i ≤ ls.length ∧ wx = w5.drewN m) (fun x _ => ls.length - (intOf x).toNat)
  case atStart => exact ⟨0, 0, rfl, Nat.zero_le _, rfl⟩
  case round =>
   obtain ⟨i, m, rfl, hi, rfl⟩ := hrel
   by_cases hend : i < ls.length
   · have hendI : (i : Int) < (ls.length : Int) := by omega
     go_wp2_with fail
     go_loopw [11] (fun x wx => ∃ k m : Nat, x = .int .i64 (k : Int) ∧ k ≤ i ∧ wx = w5.drewN m) (fun x _ => i - (intOf x).toNat)
     case atStart => exact ⟨0, m, rfl, Nat.zero_le _, rfl⟩
     case round =>
      obtain ⟨k, m2, rfl, hk, rfl⟩ := hrel
      by_cases hkd : k < i
      · have hkdI : (k : Int) < (i : Int) := by omega
        have hkl : k < ls.length := by omega
        have hkI : (k : Int) < (ls.length : Int) := by omega
        obtain ⟨a, rfl, cai⟩ := HLL.out w5 (Mut.refl _ _) i hend
        obtain ⟨a', e', cak⟩ := HLL.out w5 (Mut.refl _ _) k hkl
        obtain rfl : a = a' := by simpa using e'
        obtain ⟨c, rfl, cci⟩ := HCL.out w5 (Mut.refl _ _) i hend
        obtain ⟨c', e2', cck⟩ := HCL.out w5 (Mut.refl _ _) k hkl
        obtain rfl : c = c' := by simpa using e2'
        have hai15 := HGD.out.h15 _ (lenAt_mem ls i hend)
        have hak15 := HGD.out.h15 _ (lenAt_mem ls k hkl)
        have HP1 : Hid (1 ≤ lenAt ls i → lenAt ls i ≤ lenAt ls k → codeOf ls i ≠ codeOf ls k / 2 ^ (lenAt ls k - lenAt ls i)) := Lib.hid (fun h1 h2 => pre_free ls HGD.out i k hend hkl h1 h2 (by omega))
        have HP2 : Hid (1 ≤ lenAt ls k → lenAt ls k ≤ lenAt ls i → codeOf ls k ≠ codeOf ls i / 2 ^ (lenAt ls i - lenAt ls k)) := Lib.hid (fun h1 h2 => pre_free ls HGD.out k i hkl hend h1 h2 (by omega))
        generalize lenAt ls i = A at *
        generalize lenAt ls k = B at *
        generalize codeOf ls i = CA at *
        generalize codeOf ls k = CB at *
        clear e' e2'
        by_cases hab : A ≤ B
        · have habI : (A : Int) ≤ (B : Int) := by omega
          by_cases hA : A = 0
          · subst hA
            clear HP1 HP2
            go_wp2_with fail
            go_quiet (fail)
            go_upto_region 16 with fail
            rw [show min (0 : Int) (B : Int) = 0 by omega]
            go_quiet (fail)
            go_wp2_with fail
            exact ⟨⟨k + 1, _, by rw [Int.natCast_add]; rfl, by omega, rfl⟩, by simp only [intOf]; omega⟩
          · have hne := HP1.out (by omega) hab
            obtain ⟨d, hd⟩ : ∃ d, B - A = d := ⟨_, rfl⟩
            rw [hd] at hne
            have hdI : (B : Int) - (A : Int) = (d : Int) := by omega
            have hd0 : (0 : Int) ≤ (d : Int) := by omega
            have hd64 : (d : Int) < 64 := by omega
            have hA0 : (0 : Int) < (A : Int) := by omega
            have hA0N : 0 < A := by omega
            have hAd : decide (0 < A) = true := decide_eq_true hA0N
            obtain ⟨X, hX⟩ : ∃ X, CB / 2 ^ d = X := ⟨_, rfl⟩
            rw [hX] at hne
            have hXI : (CB : Int) / 2 ^ d = (X : Int) := by rw [← hX]; simp
            have hneI : ((CA : Int) == (X : Int)) = false := by rw [beq_eq_false_iff_ne]; omega
            have hmin : min (A : Int) (B : Int) = (A : Int) := by omega
            have HMN := Lib.hid hmin
            clear HP1 HP2 hX hd hne hmin
            go_wp2_with fail
            go_quiet (fail)
            go_upto_region 16 with fail
            rw [HMN.out]
            go_quiet (fail)
            go_wp2_with fail
            exact ⟨⟨k + 1, _, by rw [Int.natCast_add]; rfl, by omega, rfl⟩, by simp only [intOf]; omega⟩
        · have habI : ¬ (A : Int) ≤ (B : Int) := by omega
          by_cases hB : B = 0
          · subst hB
            clear HP1 HP2
            go_wp2_with fail
            go_quiet (fail)
            go_upto_region 16 with fail
            rw [show min (A : Int) (0 : Int) = 0 by omega]
            go_quiet (fail)
            go_wp2_with fail
            exact ⟨⟨k + 1, _, by rw [Int.natCast_add]; rfl, by omega, rfl⟩, by simp only [intOf]; omega⟩
          · have hne := HP2.out (by omega) (by omega)
            obtain ⟨d, hd⟩ : ∃ d, A - B = d := ⟨_, rfl⟩
            rw [hd] at hne
            have hdI : (A : Int) - (B : Int) = (d : Int) := by omega
            have hd0 : (0 : Int) ≤ (d : Int) := by omega
            have hd64 : (d : Int) < 64 := by omega
            have hB0 : (0 : Int) < (B : Int) := by omega
            have hB0N : 0 < B := by omega
            have hBd : decide (0 < B) = true := decide_eq_true hB0N
            obtain ⟨X, hX⟩ : ∃ X, CA / 2 ^ d = X := ⟨_, rfl⟩
            rw [hX] at hne
            have hXI : (CA : Int) / 2 ^ d = (X : Int) := by rw [← hX]; simp
            have hneI : ((X : Int) == (CB : Int)) = false := by rw [beq_eq_false_iff_ne]; omega
            have hmin : min (A : Int) (B : Int) = (B : Int) := by omega
            have HMN := Lib.hid hmin
            clear HP1 HP2 hX hd hne hmin
            go_wp2_with fail
            go_quiet (fail)
            go_upto_region 16 with fail
            rw [HMN.out]
            go_quiet (fail)
            go_wp2_with fail
            exact ⟨⟨k + 1, _, by rw [Int.natCast_add]; rfl, by omega, rfl⟩, by simp only [intOf]; omega⟩
      · have hkdI : ¬ (k : Int) < (i : Int) := by omega
        go_wp2_with fail
        exact ⟨⟨i + 1, m2, by rw [Int.natCast_add]; rfl, by omega, rfl⟩, by simp only [intOf]; omega⟩
   · have hendI : ¬ (i : Int) < (ls.length : Int) := by omega
     go_upto_region 18 with fail
     have hm0 : Mut [] w5 (w5.drewN m) := (Mut.refl _ _).drewN m
     have HM5 := Lib.hid (HM5.out.trans hm0 (by simp))
     have HT5 := Lib.hid (HT5.out.mut hm0 (by simp))
     have HS45 : Hid (w4.heap.size ≤ (w5.drewN m).heap.size) := Lib.hid HS45.out
     have HLL : Hid (∀ W : World, Mut [] (w5.drewN m) W → ∀ i, i < ls.length → ∃ a, p0 = some a ∧ W.cell? (a.add i) = some (.int .i64 ((lenAt ls i : Nat) : Int))) := Lib.hid (fun W q i hi => by
       obtain ⟨a, e1, e2⟩ := HLL.out W (hm0.trans q (by simp)) i hi
       exact ⟨a, e1, e2 0⟩)
     have HCL : Hid (∀ W : World, Mut [] (w5.drewN m) W → ∀ i, i < ls.length → ∃ a, pc = some a ∧ W.cell? (a.add i) = some (.int .i64 ((codeOf ls i : Nat) : Int))) := Lib.hid (fun W q i hi => by
       obtain ⟨a, e1, e2⟩ := HCL.out W (hm0.trans q (by simp)) i hi
       exact ⟨a, e1, e2 0⟩)
     clear hm0
     generalize w5.drewN m = w5 at *
     go_upto_region 19 with fail
     have hB := BSt.start w5
     have hM6 : Mut [] w5 (w5.alloc (.cells #[.slice none 0 0, .int .i64 0] 49)) := (Mut.refl _ _).alloc _
     generalize hW6 : w5.alloc (.cells #[.slice none 0 0, .int .i64 0] 49) = W6 at *
     generalize hwb : w5.heap.size = wb at *
     have HB0 := Lib.hid hB
     have HM6 := Lib.hid hM6
     have HWB := Lib.hid hwb
     clear hB hM6 hW6 hwb
     go_wp2_with fail
     go_loopw [16, 17] (fun wv x wx => ∃ (i : Nat) (want : List Nat), x = .int .i64 (i : Int) ∧ i ≤ xs.length ∧ i ≤ 3000 ∧ Hid (BSt W6 wx wb (wbits ls want) wv want ∧ (∀ k ∈ want, k < ls.length ∧ 1 ≤ lenAt ls k) ∧ want.length ≤ i)) (fun _ x _ => xs.length - (intOf x).toNat)
     case atStart => exact ⟨0, [], rfl, Nat.zero_le _, Nat.zero_le _, Lib.hid ⟨HB0.out, by simp, Nat.zero_le _⟩⟩
     case round =>
       obtain ⟨i, want, rfl, hi, hi2, HB⟩ := hrel
       have hm5 : Mut [] w5 wr := HM6.out.trans HB.out.1.kept (fun x hx => by have := HWB.out; simp at hx; omega)
       have HM5R := Lib.hid hm5
       clear hm5
       go_upto_region 21 with fail
       go_cut [106] (fun s106 wx => wx = wr ∧ ∃ q : Bool, s106 = .bool q ∧ Hid (q = true ↔ i < xs.length ∧ i < 3000 ∧ 0 < ls.length))
       case first =>
         by_cases hg1 : i < xs.length
         · have hg1I : (i : Int) < (xs.length : Int) := by omega
           by_cases hg2 : i < 3000
           · have hg2I : (i : Int) < 3000 := by omega
             by_cases hg3 : 0 < ls.length
             · have hg3I : (0 : Int) < (ls.length : Int) := by omega
               go_wp2_with fail
               go_meet
               exact ⟨rfl, _, rfl, Lib.hid (by simp [hg1, hg2, hg3])⟩
             · have hg3I : ¬ (0 : Int) < (ls.length : Int) := by omega
               go_wp2_with fail
               go_meet
               exact ⟨rfl, _, rfl, Lib.hid (by simp [hg1, hg2, hg3])⟩
           · have hg2I : ¬ (i : Int) < 3000 := by omega
             go_wp2_with fail
             go_meet
             exact ⟨rfl, _, rfl, Lib.hid (by simp [hg1, hg2])⟩
         · have hg1I : ¬ (i : Int) < (xs.length : Int) := by omega
           go_wp2_with fail
           go_meet
           exact ⟨rfl, _, rfl, Lib.hid (by simp [hg1])⟩
       case rest =>
       obtain ⟨rfl, q, rfl, HQ⟩ := hcut
       cases q
       case true =>
         have hgo := HQ.out.1 rfl
         have hgo1 : (i : Int) < (xs.length : Int) := by omega
         have hgo2 : (i : Int) < 3000 := by omega
         have hL1 : 0 < ls.length := hgo.2.2
         obtain ⟨a, rfl, cx⟩ := HR1.out wc (HM5.out.trans HM5R.out (by simp)) i hgo.1
         obtain ⟨k, hk, hkm⟩ := sym_mod (xs.getD i 0) ls.length (by omega) (by omega)
         generalize xs.getD i 0 = x at *
         have hkI : (k : Int) < (ls.length : Int) := by omega
         have hln0 : ((ls.length : Int) == 0) = false := by simpa using (show ¬ (ls.length : Int) = 0 by omega)
         obtain ⟨a2, rfl, cl⟩ := HLL.out wc HM5R.out k hk
         obtain ⟨a3, rfl, cc2⟩ := HCL.out wc HM5R.out k hk
         have hn15 := HGD.out.h15 _ (lenAt_mem ls k hk)
         have hwl := wbits_len ls want HGD.out.h15 (fun k hk => (HB.out.2.1 k hk).1)
         have hwn := HB.out.2.2
         have HSN : Hid (wbits ls (want ++ [k]) = wbits ls want ++ highBits ((codeOf ls k : Nat) : Int) (lenAt ls k)) := Lib.hid (wbits_snoc ls want k)
         have HBC := Lib.hid (HB.out.1.drew.code ((codeOf ls k : Nat) : Int) (lenAt ls k) (by omega) (by omega))
         have HKL : Hid (k < ls.length ∧ lenAt ls k = lenAt ls k) := Lib.hid ⟨hk, rfl⟩
         obtain ⟨n, hn⟩ : ∃ n, lenAt ls k = n := ⟨_, rfl⟩
         obtain ⟨cd, hcd⟩ : ∃ c, codeOf ls k = c := ⟨_, rfl⟩
         rw [hn] at cl hn15
         rw [hcd] at cc2
         rw [hn, hcd] at HBC HSN
         have HNN := Lib.hid hn
         clear hn hcd hwl hwn HKL
         go_upto_region 24 with fail
         clear hkm cx
         by_cases hz : n = 0
         · subst hz
           clear HBC HSN
           go_wp2_with fail
           exact ⟨⟨i + 1, want, by rw [Int.natCast_add]; rfl, by omega, by omega, Lib.hid ⟨HB.out.1, HB.out.2.1, by have := HB.out.2.2; omega⟩⟩, by simp only [intOf]; omega⟩
         · have hzI : (0 : Int) < (n : Int) := by omega
           go_upto_region 25 with fail
           go_still_tail 8, (by kernel_rfl)
           go_upto_region 26 with (go_at_call 22; refine HBC.out.mono ?_; rintro e w7 ⟨rfl, hb7⟩; have HB7 := Lib.hid hb7; clear hb7)
           clear HBC
           go_wp2_with (at_builtin; (refine wp_appI rfl (.tmp 136) (.tmp 138) rfl (HB7.out.row.mut ((Mut.refl [] w7).alloc _) (by simp)) rfl (src_one (heap_alloc_new w7 _)) rfl (by have := HB.out.2.2; simp [natI]; omega) ?_))
           intro v8 w8 r8 m8 f8
           have hb8 := HB7.out.add _ k r8 m8 f8
           rw [← HSN.out] at hb8
           have HB8 : Hid (BSt W6 w8 wb (wbits ls (want ++ [k])) v8 (want ++ [k]) ∧ (∀ q ∈ want ++ [k], q < ls.length ∧ 1 ≤ lenAt ls q) ∧ (want ++ [k]).length ≤ i + 1) := Lib.hid ⟨hb8, fun q hq => by
             rcases List.mem_append.1 hq with h | h
             · exact HB.out.2.1 q h
             · have e : q = k := by simpa using h
               rw [e, HNN.out]
               exact ⟨hk, by omega⟩, by rw [List.length_append]; have := HB.out.2.2; simp; omega⟩
           obtain ⟨pv8, lv8, cv8, rfl⟩ := r8.form
           clear r8 m8 f8 hb8 HB HB7 HSN
           go_wp2_with fail
           exact ⟨⟨i + 1, want ++ [k], by rw [Int.natCast_add]; rfl, by omega, by omega, HB8⟩, by simp only [intOf]; omega⟩
       case false =>
         have hS := wbits_len ls want HGD.out.h15 (fun k hk => (HB.out.2.1 k hk).1)
         have hwl := HB.out.2.2
         obtain ⟨r9, hwr9, _⟩ := HB.out.1.wr
         have HWALL := Lib.hid (wall_any wb r9 _ wc hwr9)
         have hsz := wstr_size (wbits ls want)
         have HBK : Hid (∀ j, j < want.length → nextRes ls (peekNum (strOf (pack (wbits ls want))) (posAt ls want j) 15) (min 15 (8 * (strOf (pack (wbits ls want))).size - posAt ls want j)) = (want.getD j 0, lenAt ls (want.getD j 0), 0)) := Lib.hid (back_next ls HGD.out want HB.out.2.1)
         have HPL : Hid (∀ j, posAt ls want j ≤ (wbits ls want).length) := Lib.hid (posAt_le ls want)
         have HPF : Hid (posAt ls want want.length = (wbits ls want).length) := Lib.hid (by unfold posAt; rw [List.take_length])
         obtain ⟨S, hSS⟩ : ∃ S, strOf (pack (wbits ls want)) = S := ⟨_, rfl⟩
         rw [hSS] at HWALL HBK hsz
         obtain ⟨pw, cw, rfl, kw⟩ := HB.out.1.row.read
         have hwnl : (natI want).length = want.length := by simp [natI]
         have HE0 : Hid (∀ W : World, W = wc.alloc (.cells #[.string S, .int .i64 0] 67) → ESt w W w2.heap.size w4.heap.size b wc.heap.size ls (.slice pw (natI want).length cw) want S (posAt ls want 0)) := Lib.hid (by
           rintro W rfl
           have m0 : Mut [] wc (wc.alloc (.cells #[.string S, .int .i64 0] 67)) := (Mut.refl _ _).alloc _
           refine ⟨(HT5.out.mut HM5R.out (by simp)).mut m0 (by simp), open_is S wc, HB.out.1.row.mut m0 (by simp), (HM5.out.trans HM5R.out (by simp)).trans m0 (by simp), ?_, ?_, fun g hg => ?_⟩
           · have := HM5R.out.size
             have := HS45.out
             have := HWB.out
             omega
           · exact (HM5.out.trans HM5R.out (by simp)).size
           · have := HB.out.1.row.lt hg
             omega)
         rw [hwnl] at HE0 kw ⊢
         clear hSS hwnl HB HM5R HLL HCL HB0 HM6 HR1 HQ kw hwr9
         go_wp2_with (first | (go_at_call 23; refine HWALL.out.mono ?_; rintro e w9 ⟨rfl, rfl⟩) | (go_at_call 16; refine (open_any _ _).mono ?_; rintro e w10 ⟨rfl, rfl⟩))
         have HE := Lib.hid (HE0.out _ rfl)
         generalize wc.alloc (.cells #[.string S, .int .i64 0] 67) = W0 at *
         generalize wc.heap.size = rb at *
         generalize w2.heap.size = lo at *
         generalize w4.heap.size = hi4 at *
         clear HE0 HWALL
         go_loopw [20] (fun x wx => ∃ j : Nat, x = .int .i64 (j : Int) ∧ j ≤ want.length ∧ Hid (ESt w wx lo hi4 b rb ls (.slice pw want.length cw) want S (posAt ls want j))) (fun x _ => want.length - (intOf x).toNat)
         case atStart => exact ⟨0, rfl, Nat.zero_le _, HE⟩
         case round =>
           clear HE
           obtain ⟨j, rfl, hj, HE⟩ := hrel
           have hpl := HPL.out j
           by_cases hend : j < want.length
           · have hendI : (j : Int) < (want.length : Int) := by omega
             have hN := next_any lo hi4 b ls rb S (posAt ls want j) wr HE.out.tab HE.out.rd (by omega) (by omega) HL15.out hL2
             rw [HBK.out j hend] at hN
             have HN : Hid (Calls Try.prog 15 #[.pointer (some ⟨b, 0, none⟩), .pointer (some ⟨rb, 0, none⟩)] wr fun e w' => e = .returned (.tuple #[.int .i64 ((want.getD j 0 : Nat) : Int), .int .i64 0]) ∧ Hid (ESt w w' lo hi4 b rb ls (.slice pw want.length cw) want S (posAt ls want (j + 1)))) := Lib.hid
               (hN.mono fun e w' ⟨he, hr, hm⟩ => ⟨he, Lib.hid (by rw [posAt_succ ls want j hend] at *; exact HE.out.step hr hm)⟩)
             obtain ⟨y, hy⟩ : ∃ y, want.getD j 0 = y := ⟨_, rfl⟩
             rw [hy] at HN
             have HY := Lib.hid hy
             clear hN HBK HPL HPF hpl hy
             go_upto_region 32 with (go_at_call 15; refine HN.out.mono ?_; rintro e w11 ⟨rfl, HE2⟩)
             obtain ⟨p', c', e1, e2⟩ := HE2.out.row.read
             simp at e1
             obtain ⟨e1a, e1b⟩ := e1
             subst e1a
             clear e1b
             obtain ⟨a, rfl, cx⟩ := e2 w11 (Mut.refl _ _) j (by simp [natI]; omega)
             have hg : (natI want).getD j 0 = ((y : Nat) : Int) := by rw [← HY.out]; simp [natI, List.getD, hend]
             rw [hg] at cx
             clear e2 hg HN HE
             go_wp2_with fail
             exact ⟨⟨j + 1, by rw [Int.natCast_add]; rfl, by omega, HE2⟩, by simp only [intOf]; omega⟩
           · have hendI : ¬ (j : Int) < (want.length : Int) := by omega
             have ej : j = want.length := by omega
             subst ej
             clear HBK HPL HPF hpl
             go_wp2_with fail
             exact bodyPost_ret (results_tmp rfl _ _ _) rfl ⟨rfl, HE.out.kept.nil (by simp)⟩

end Go.Proofs.Ytbgejebnpmogoaa
