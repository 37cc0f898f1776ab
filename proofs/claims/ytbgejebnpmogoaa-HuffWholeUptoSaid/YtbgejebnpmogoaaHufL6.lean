/- The law HuffWhole. -/
import Derived.Test.YtbgejebnpmogoaaHufL5
import Derived.Test.YtbgejebnpmogoaaHufL4
import Derived.BigQuiet
namespace Go.Proofs.Ytbgejebnpmogoaa
open Go.RowKit

theorem whole2 (U : List Bool) (hl : U.length ≤ 1024) (h2 : 2 ≤ numOf U) (pv : Nat) : ∃ i n, nextRes (evenOf U) pv 15 = (i, n, 0) ∧ i < U.length ∧ U.getD i false = true ∧ n = evenAt U i := by
  obtain ⟨g1, g2, _, _⟩ := even_good U hl
  have hg := good_of _ g1
  rw [lensOf_evenI] at hg
  have hroom := g2 h2
  obtain ⟨i, hi, hn, h3, h4⟩ := cover (evenOf U) hg.h15 (flipN 15 pv) (by rw [hroom]; exact flip_lt 15 _)
  have hh := hit_of _ hg.h15 hg.fits pv i hi hn h3 h4
  have h15 := hg.h15 _ (lenAt_mem _ i hi)
  rw [evenOf_length] at hi
  refine ⟨i, lenAt (evenOf U) i, ?_, hi, ?_, lenAt_even U i hi⟩
  · unfold nextRes found
    rw [symTo_is _ hg.h15 hg.fits _ _ i (Nat.le_refl _) (by rw [evenOf_length]; exact hi) hh]
    simp only
    rw [if_pos ⟨hn, h15⟩]
  · rw [lenAt_even U i hi] at hn
    unfold evenAt at hn
    split at hn
    · omega
    · split at hn
      · assumption
      · omega

theorem nextRes_none (ls : List Nat) (pv th : Nat) (h : ∀ i, i < ls.length → hit ls pv i = false) (hb : begOf (longOf ls) th = false) : nextRes ls pv th = (0, 0, 5) := by
  have e : symTo ls ls.length pv = none := by
    apply List.find?_eq_none.2
    intro i hi
    rw [h i (List.mem_range.1 hi)]
    simp
  unfold nextRes found
  rw [e]
  simp [hb]

theorem whole1 (U : List Bool) (hl : U.length ≤ 1024) (h1 : numOf U = 1) (pv : Nat) : (pv % 2 = 0 → ∃ a, nextRes (evenOf U) pv 15 = (a, 1, 0)) ∧ (pv % 2 = 1 → nextRes (evenOf U) pv 15 = (0, 0, 5)) := by
  obtain ⟨g1, _, g3, _⟩ := even_good U hl
  have hg := good_of _ g1
  rw [lensOf_evenI] at hg
  obtain ⟨hlong, hroom⟩ := g3 h1
  obtain ⟨j, hj, hlj⟩ := long_some (evenOf U) (by omega)
  rw [hlong] at hlj
  have hhi := hi_room (evenOf U) hg.h15 j hj (by omega)
  rw [hroom, hlj] at hhi
  have hlo : loOf (evenOf U) j = codeOf (evenOf U) j * 2 ^ 14 := by unfold loOf; rw [hlj]
  have hc : codeOf (evenOf U) j = 0 := by
    rw [hlo] at hhi
    simp only [Nat.reduceSub, Nat.reducePow] at hhi
    omega
  have hfl : flipN 15 pv = 16384 * (pv % 2) + flipN 14 (pv / 2) := rfl
  constructor
  · intro h
    have hh : hit (evenOf U) pv j = true := by
      unfold hit
      rw [hlj, hc]
      simp only [Bool.and_eq_true, decide_eq_true_eq]
      exact ⟨by decide, by rw [show (2 : Nat) ^ 1 = 2 from rfl, h]; rfl⟩
    refine ⟨j, ?_⟩
    unfold nextRes found
    rw [symTo_is _ hg.h15 hg.fits _ _ j (Nat.le_refl _) hj hh]
    simp only [hlj]
    rfl
  · intro h
    refine nextRes_none _ _ _ (fun i hi => ?_) (by rw [hlong]; rfl)
    by_cases hh : hit (evenOf U) pv i = true
    · exfalso
      obtain ⟨a1, a2, a3⟩ := hit_in _ hg.h15 hg.fits pv i hi hh
      have := hi_room (evenOf U) hg.h15 i hi a1
      rw [hroom] at this
      rw [hfl, h] at a3
      omega
    · simpa using hh

theorem whole0 (U : List Bool) (hl : U.length ≤ 1024) (h0 : numOf U = 0) (pv : Nat) : nextRes (evenOf U) pv 15 = (0, 0, 5) := by
  obtain ⟨_, _, _, g4⟩ := even_good U hl
  have hu := g4 h0
  have hlong := long_used _ hu
  refine nextRes_none _ _ _ (fun i hi => ?_) (by rw [hlong]; rfl)
  have h1 := longOf_ge (evenOf U) _ (lenAt_mem _ i hi)
  unfold hit
  rw [decide_eq_false (show ¬ 1 ≤ lenAt (evenOf U) i by omega)]
  rfl

/-- two bytes as a string -/
def two (a b : Nat) : ByteArray := ⟨(([(a : Int), (b : Int)].map fun z => UInt8.ofNat z.toNat).toArray)⟩

theorem two_size (a b : Nat) : (two a b).size = 2 := rfl
theorem two_bytes (a b : Nat) (ha : a < 256) (hb : b < 256) : bytesOf (two a b) = [a, b] := by
  simp [two, bytesOf, UInt8.toNat_ofNat', Nat.mod_eq_of_lt ha, Nat.mod_eq_of_lt hb]
theorem two_peek (a b : Nat) (ha : a < 256) (hb : b < 256) : peekNum (two a b) 0 15 = (a + b * 256) % 32768 := by
  unfold peekNum
  rw [List.drop_zero, num_take]
  unfold strBits
  rw [two_bytes a b ha hb, bytesBits, bytesBits, num_append, num_append, num_bits8 a ha, num_bits8 b hb]
  simp [bytesBits, num, bits8]

set_option maxHeartbeats 1600000 in
set_option maxRecDepth 1000000 in
theorem lawHuffWhole {w : World} (v0 : Value) (U : List Bool) (h : Bools w v0 U) (hl : U.length ≤ 1048576) (v : Int) (_ : (Lit.int .i64 v).wf = true) :
    Calls Try.prog 7 #[v0, .int .i64 v] w fun e w' => e = .returned (.bool true) ∧ Below w.heap.size w w' := by
  have HX := Lib.hid h
  obtain ⟨p0, c0, rfl, hr0⟩ := h.read
  have HR0 := Lib.hid hr0
  have hel := evenI_length U
  clear h hr0
  by_cases hbig : 1024 < U.length
  · have hbigI : (1024 : Int) < (U.length : Int) := by omega
    go_enter Try.func7, Try.ntmps7
    go_wp2_with fail
    refine (speaks_any w).mono ?_
    rintro e w1 ⟨rfl, m1⟩
    have M1 := Lib.hid m1
    clear m1
    go_wp2_with fail
    exact bodyPost_ret (results_tmp rfl _ _ _) rfl ⟨rfl, M1.out.nil (by simp)⟩
  have hbigI : ¬ (1024 : Int) < (U.length : Int) := by omega
  have hl2 : U.length ≤ 1024 := by omega
  go_enter Try.func7, Try.ntmps7
  go_wp2_with fail
  refine (speaks_any w).mono ?_
  rintro e w1 ⟨rfl, m1⟩
  have M1 := Lib.hid m1
  clear m1
  go_wp2_with (at_builtin; (refine wp_appB rfl (.tmp 18) (.tmp 19) rfl (BoRow.empty _) rfl (HX.out.src (M1.out.alloc _)) rfl (by rw [List.length_nil]; omega) ?_))
  intro v2 w2 r2 m2 f2
  have hM2 : Mut [] w w2 := (M1.out.alloc _).trans m2 (by have := M1.out.size; simp [Value.ownBlock]; omega)
  have r2' : BoRow w2 v2 U := r2
  obtain ⟨p2, c2, rfl, k2⟩ := r2'.read
  have HE := Lib.hid (even_any U hl p2 c2 w2 k2)
  have HM2 := Lib.hid hM2
  clear r2 r2' m2 f2 hM2 k2
  go_wp2_with fail
  refine HE.out.mono ?_
  rintro e w3 ⟨v3, rfl, r3, m3, f3⟩
  have HM3 : Hid (Mut [] w w3) := Lib.hid (HM2.out.trans m3 (by simp))
  have R3 := Lib.hid r3
  have HN := Lib.hid (new_row (evenI U) (by rw [hel]; omega) _ w3 r3)
  obtain ⟨p3, c3, rfl, k3⟩ := r3.read
  rw [hel] at HN R3 ⊢
  have K3 := Lib.hid k3
  clear HE m3 f3 r3 k3
  go_wp2_with fail
  refine HN.out.mono ?_
  rintro e w4 ⟨he, m4⟩
  have hnz := (even_good U hl2).1
  obtain ⟨_, b, rfl, hT⟩ := he.resolve_left (fun h => h.1 hnz)
  rw [lensOf_evenI] at hT
  have HT := Lib.hid hT
  have HM4 : Hid (Mut [] w w4) := Lib.hid (HM3.out.trans m4 (by simp))
  have M34 := Lib.hid m4
  clear hT m4 he HN hnz
  go_wp2_with fail
  go_loop [8, 9] (fun m x => ∃ i : Nat, x = .int .i64 (i : Int) ∧ i ≤ U.length ∧ m = .int .i64 (cntTo U i : Nat)) (fun _ x => U.length - (intOf x).toNat)
  case atStart => exact ⟨0, rfl, by omega, rfl⟩
  case round =>
    obtain ⟨i, rfl, hi, rfl⟩ := hrel
    have hcb := cntTo_len U i
    by_cases hend : i < U.length
    · have hendI : (i : Int) < (U.length : Int) := by omega
      obtain ⟨a, rfl, ca⟩ := HR0.out w4 HM4.out i hend
      have HS := Lib.hid (cntTo_succ U i hend)
      generalize U.getD i false = b at *
      generalize cntTo U i = c at *
      cases b
      · go_wp2_with fail
        exact ⟨⟨i + 1, by rw [Int.natCast_add]; rfl, by omega, by rw [HS.out]; rfl⟩, by simp only [intOf]; omega⟩
      · go_wp2_with fail
        exact ⟨⟨i + 1, by rw [Int.natCast_add]; rfl, by omega, by rw [HS.out, if_pos rfl, Int.natCast_add]; rfl⟩, by simp only [intOf]; omega⟩
    · have e : i = U.length := by omega
      have hendI : ¬ (i : Int) < (U.length : Int) := by omega
      subst e
      rw [cntTo_all] at hcb ⊢
      obtain ⟨A, hA⟩ : ∃ A : Nat, v % 256 = (A : Int) := ⟨(v % 256).toNat, by omega⟩
      obtain ⟨B, hB⟩ : ∃ B : Nat, v / 256 % 256 = (B : Int) := ⟨(v / 256 % 256).toNat, by omega⟩
      have hA8 : A < 256 := by omega
      have hB8 : B < 256 := by omega
      have HPK := Lib.hid (two_peek A B hA8 hB8)
      have HSZ := Lib.hid (two_size A B)
      have hodd : v % 2 = ((A % 2 : Nat) : Int) := by omega
      have HOD : Hid ((A + B * 256) % 32768 % 2 = A % 2) := Lib.hid (by omega)
      have hconv : (convert 46 9 (.slice (some ⟨w4.heap.size, 0, none⟩) 2 2)).run Try.prog (w4.alloc (.cells #[.int .u8 (A : Int), .int .u8 (B : Int)] 5)) = .ok (.string (two A B)) (w4.alloc (.cells #[.int .u8 (A : Int), .int .u8 (B : Int)] 5)) :=
        conv_row Try.underlying46 Try.underlying5 Try.underlying9 (xs := [(A : Int), (B : Int)]) ⟨rfl, .inr ⟨w4.heap.size, 2, _, rfl, Nat.zero_le _, heap_alloc_new w4 _, Nat.le_refl _, by unfold maxLen; decide, rfl, rfl⟩⟩
      generalize two A B = S at *
      go_upto_region 16 with (go_at_call 16; refine (open_any _ _).mono ?_; rintro e w5 ⟨rfl, rfl⟩)
      have hM5 : Mut [] w4 ((w4.alloc (.cells #[.int .u8 (A : Int), .int .u8 (B : Int)] 5)).alloc (.cells #[.string S, .int .i64 0] 67)) := ((Mut.refl [] w4).alloc _).alloc _
      have hrd : RdIs ((w4.alloc (.cells #[.int .u8 (A : Int), .int .u8 (B : Int)] 5)).alloc (.cells #[.string S, .int .i64 0] 67)) (w4.heap.size + 1) S 0 := by
        have h1 := open_is S (w4.alloc (.cells #[.int .u8 (A : Int), .int .u8 (B : Int)] 5))
        rw [World.size_alloc] at h1
        exact h1
      have hT5 := HT.out.mut hM5 (by simp)
      have hlong15 : longOf (evenOf U) ≤ 15 := by
        have hg := good_of _ (even_good U hl2).1
        rw [lensOf_evenI] at hg
        exact long_le _ hg.h15
      have hN := next_any _ _ b (evenOf U) (w4.heap.size + 1) S 0 _ hT5 hrd (by rw [HSZ.out]; decide) (Nat.zero_le _) hlong15 (by rw [evenOf_length]; omega)
      rw [HPK.out, HSZ.out, show min 15 (8 * 2 - 0) = 15 from rfl] at hN
      have HM5 : Hid (Mut [] w _) := Lib.hid (HM4.out.trans hM5 (by simp))
      have HF5 : Hid (w.heap.size ≤ w4.heap.size + 1) := Lib.hid (by have := HM4.out.size; omega)
      have HCI : Hid (∀ i, i < U.length → (evenI U).getD i 0 = ((evenAt U i : Nat) : Int)) := Lib.hid (fun i hi => by simp [evenI, evenOf, List.getD, hi])
      have K35 : Hid (∀ w', Mut [] ((w4.alloc (.cells #[.int .u8 (A : Int), .int .u8 (B : Int)] 5)).alloc (.cells #[.string S, .int .i64 0] 67)) w' ∨ Mut [w4.heap.size + 1] ((w4.alloc (.cells #[.int .u8 (A : Int), .int .u8 (B : Int)] 5)).alloc (.cells #[.string S, .int .i64 0] 67)) w' → ∀ i, i < U.length → ∃ a : Addr, p3 = some a ∧ w'.cell? (a.add i) = some (.int .i64 ((evenAt U i : Nat) : Int))) := Lib.hid (fun w' hm i hi => by
        have m34 : Mut [] w4 w' := by
          rcases hm with h | h
          · exact hM5.trans h (by simp)
          · exact hM5.trans h (by simp)
        obtain ⟨a, e1, e2⟩ := K3.out w' (M34.out.trans m34 (by simp)) i (by rw [hel]; exact hi)
        refine ⟨a, e1, ?_⟩
        rw [e2, HCI.out i hi])
      have HN := Lib.hid hN
      clear hN hT5 hrd hM5 K3 hconv HT
      generalize (w4.alloc (.cells #[.int .u8 (A : Int), .int .u8 (B : Int)] 5)).alloc (.cells #[.string S, .int .i64 0] 67) = W5 at *
      generalize w4.heap.size + 1 = rb at *
      obtain ⟨m, hm⟩ : ∃ m, numOf U = m := ⟨_, rfl⟩
      rw [hm]
      rcases (show m = 0 ∨ m = 1 ∨ 2 ≤ m by omega) with h0 | h1 | h2
      · subst h0
        have hres := whole0 U hl2 hm ((A + B * 256) % 32768)
        have hN := HN.out
        rw [hres] at hN
        have HN2 := Lib.hid hN
        clear hN HN hres hm
        go_wp2_with (go_at_call 15; refine HN2.out.mono ?_; rintro e w6 ⟨rfl, _, m6⟩; have M6 := Lib.hid m6; clear m6)
        exact bodyPost_ret (results_tmp rfl _ _ _) rfl ⟨rfl, (HM5.out.trans M6.out (by have := HF5.out; simp; omega)).nil (by simp)⟩
      · subst h1
        have hpar := HOD.out
        have hand : Go.bits .and .i64 v 1 = ((A % 2 : Nat) : Int) := by rw [and1_i64]; exact hodd
        obtain ⟨w1a, w1b⟩ := whole1 U hl2 hm ((A + B * 256) % 32768)
        rw [hpar] at w1a w1b
        have hN := HN.out
        rcases (show A % 2 = 0 ∨ A % 2 = 1 by omega) with hp | hp
        · obtain ⟨a, hres⟩ := w1a hp
          rw [hres] at hN
          rw [hp] at hand
          have HN2 := Lib.hid hN
          clear hN HN hres hm w1a w1b hpar hp hodd HOD hA
          go_wp2_with (go_at_call 15; refine HN2.out.mono ?_; rintro e w6 ⟨rfl, _, m6⟩; have M6 := Lib.hid m6; clear m6)
          exact bodyPost_ret (results_tmp rfl _ _ _) rfl ⟨rfl, (HM5.out.trans M6.out (by have := HF5.out; simp; omega)).nil (by simp)⟩
        · have hres := w1b hp
          rw [hres] at hN
          rw [hp] at hand
          have HN2 := Lib.hid hN
          clear hN HN hres hm w1a w1b hpar hp hodd HOD hA
          go_wp2_with (go_at_call 15; refine HN2.out.mono ?_; rintro e w6 ⟨rfl, _, m6⟩; have M6 := Lib.hid m6; clear m6)
          exact bodyPost_ret (results_tmp rfl _ _ _) rfl ⟨rfl, (HM5.out.trans M6.out (by have := HF5.out; simp; omega)).nil (by simp)⟩
      · obtain ⟨i, n, hres, hi, hu, hn⟩ := whole2 U hl2 (by omega) ((A + B * 256) % 32768)
        have hN := HN.out
        rw [hres, Nat.zero_add] at hN
        have HN2 := Lib.hid hN
        have h2I : ¬ (m : Int) < 2 := by omega
        have hiI : (i : Int) < (U.length : Int) := by omega
        have HU := Lib.hid hu
        have HNN := Lib.hid hn
        clear hN HN hres hm hu hn
        go_upto_region 19 with (go_at_call 15; refine HN2.out.mono ?_; rintro e w6 ⟨rfl, r6, m6⟩; have R6 := Lib.hid r6; have M6 := Lib.hid m6; clear r6 m6)
        have HM6 : Hid (Mut [] w w6) := Lib.hid (HM5.out.trans M6.out (by have := HF5.out; simp; omega))
        obtain ⟨a, rfl, ca⟩ := HR0.out w6 HM6.out i hi
        rw [HU.out] at ca
        obtain ⟨a3, rfl, ca3⟩ := K35.out w6 (.inr M6.out) i hi
        rw [← HNN.out] at ca3
        have HTA : Hid (∀ k, Calls Try.prog 19 #[.pointer (some ⟨rb, 0, none⟩)] (w6.drewN k) fun e w' => e = .returned (.int .i64 (n : Int)) ∧ w' = w6.drewN k) := Lib.hid (fun k => (taken_any rb S n (w6.drewN k) (R6.out.drewN k)).mono fun e w' ⟨h1, h2⟩ => ⟨h1, h2.symm⟩)
        go_quiet ((go_at_call 19; exact (HTA.out _).mono fun e w'' ⟨he, hw⟩ => ⟨he, _, hw⟩))
        go_wp2_with fail
        exact bodyPost_ret (results_tmp rfl _ _ _) rfl ⟨rfl, (HM6.out.drewN _).nil (by simp)⟩

end Go.Proofs.Ytbgejebnpmogoaa
