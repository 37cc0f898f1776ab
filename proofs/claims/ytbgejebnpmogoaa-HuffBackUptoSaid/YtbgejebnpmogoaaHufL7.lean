/- The law HuffBack. -/
import Derived.Test.YtbgejebnpmogoaaHufB
import Derived.StillTailTactics
namespace Go.Proofs.Ytbgejebnpmogoaa
open Go.RowKit

set_option maxHeartbeats 3200000 in
set_option maxRecDepth 1000000 in
theorem lawHuffBack {w : World} (v0 : Value) (U : List Bool) (h : Bools w v0 U) (hl : U.length ≤ 1048576) (v1 : Value) (xs : List Int) (h1 : Ints .i64 w v1 xs) (hx : xs.length ≤ 1048576) :
    Calls Try.prog 8 #[v0, v1] w fun e w' => e = .returned (.bool true) ∧ Below w.heap.size w w' := by
  have HX := Lib.hid h
  obtain ⟨p0, c0, rfl, hr0⟩ := h.read
  obtain ⟨p1, c1, rfl, hr1⟩ := h1.read
  have HR1 := Lib.hid hr1
  have hel := evenI_length U
  clear h hr0 h1 hr1
  by_cases hsm : U.length < 1 ∨ 1024 < U.length
  · go_enter Try.func8, Try.ntmps8
    go_wp2_with fail
    refine (speaks_any w).mono ?_
    rintro e w1 ⟨rfl, m1⟩
    have M1 := Lib.hid m1
    clear m1
    rcases hsm with hsm | hsm
    · have hsmI : (U.length : Int) < 1 := by omega
      go_wp2_with fail
      exact bodyPost_ret (results_tmp rfl _ _ _) rfl ⟨rfl, M1.out.nil (by simp)⟩
    · have hsmI : ¬ (U.length : Int) < 1 := by omega
      have hsmI2 : (1024 : Int) < (U.length : Int) := by omega
      go_wp2_with fail
      exact bodyPost_ret (results_tmp rfl _ _ _) rfl ⟨rfl, M1.out.nil (by simp)⟩
  have hl2 : U.length ≤ 1024 := by omega
  have hl1 : 1 ≤ U.length := by omega
  have hb1 : ¬ (U.length : Int) < 1 := by omega
  have hb2 : ¬ (1024 : Int) < (U.length : Int) := by omega
  go_enter Try.func8, Try.ntmps8
  go_wp2_with fail
  refine (speaks_any w).mono ?_
  rintro e w1 ⟨rfl, m1⟩
  have M1 := Lib.hid m1
  clear m1 hsm
  go_wp2_with (at_builtin; (refine wp_appB rfl (.tmp 27) (.tmp 28) rfl (BoRow.empty _) rfl (HX.out.src (M1.out.alloc _)) rfl (by rw [List.length_nil]; omega) ?_))
  intro v2 w2 r2 m2 f2
  have hM2 : Mut [] w w2 := (M1.out.alloc _).trans m2 (by have := M1.out.size; simp [Value.ownBlock]; omega)
  have r2' : BoRow w2 v2 U := r2
  obtain ⟨p2, c2, rfl, k2⟩ := r2'.read
  have HE := Lib.hid (even_any U hl p2 c2 w2 k2)
  have HM2 := Lib.hid hM2
  clear r2 r2' m2 f2 hM2 k2
  go_wp2_with fail
  refine HE.out.mono ?_
  rintro e w3 ⟨v3, rfl, r3, m3, f3⟩
  have HM3 : Hid (Mut [] w w3) := Lib.hid (HM2.out.trans m3 (by simp))
  have HN := Lib.hid (new_row (evenI U) (by rw [hel]; omega) _ w3 r3)
  obtain ⟨p3, c3, rfl, k3⟩ := r3.read
  rw [hel] at HN ⊢
  have K3 := Lib.hid k3
  clear HE m3 f3 r3 k3 HX
  go_wp2_with fail
  refine HN.out.mono ?_
  rintro e w4 ⟨he, m4⟩
  have hnz := (even_good U hl2).1
  obtain ⟨_, b, rfl, hT⟩ := he.resolve_left (fun h => h.1 hnz)
  have hgood := good_of _ hnz
  rw [lensOf_evenI] at hT hgood
  have HGD := Lib.hid hgood
  have HT := Lib.hid hT
  have HM4 : Hid (Mut [] w w4) := Lib.hid (HM3.out.trans m4 (by simp))
  have M34 := Lib.hid m4
  have HS34 := Lib.hid m4.size
  clear hT m4 he HN hnz hgood
  have hlen := evenOf_length U
  have HCI : Hid (∀ i, i < U.length → (evenI U).getD i 0 = ((lenAt (evenOf U) i : Nat) : Int)) := Lib.hid (fun i hi => by rw [lenAt_even U i hi]; simp [evenI, evenOf, List.getD, hi])
  obtain ⟨ls, hls⟩ : ∃ ls, evenOf U = ls := ⟨_, rfl⟩
  rw [hls] at HT HGD hlen HCI
  have HL15 := Lib.hid (long_le ls HGD.out.h15)
  go_wp2_with fail
  refine (codes_any _ _ b ls w4 HT.out (by omega)).mono ?_
  rintro e w5 ⟨vc, rfl, hrc, m5, fc⟩
  obtain ⟨pc, cc, rfl, kc⟩ := hrc.read
  rw [codesI_length] at kc ⊢
  have HM5 : Hid (Mut [] w w5) := Lib.hid (HM4.out.trans m5 (by simp))
  have HT5 := Lib.hid (HT.out.mut m5 (by simp))
  have HS45 := Lib.hid m5.size
  have HCL : Hid (∀ W : World, Mut [] w5 W → ∀ i, i < ls.length → ∃ a, pc = some a ∧ W.cell? (a.add i) = some (.int .i64 ((codeOf ls i : Nat) : Int))) := Lib.hid (fun W m i hi => by
    obtain ⟨a, e1, e2⟩ := kc W m i hi
    refine ⟨a, e1, ?_⟩
    rw [e2, codesI_get ls i hi])
  have HLL : Hid (∀ W : World, Mut [] w5 W → ∀ i, i < ls.length → ∃ a, p3 = some a ∧ W.cell? (a.add i) = some (.int .i64 ((lenAt ls i : Nat) : Int))) := Lib.hid (fun W m i hi => by
    obtain ⟨a, e1, e2⟩ := K3.out W ((M34.out.trans m5 (by simp)).trans m (by simp)) i (by rw [hel]; omega)
    refine ⟨a, e1, ?_⟩
    rw [e2, HCI.out i (by omega)])
  clear m5 hrc fc kc K3 HCI HT hls hel M34
  have hL1 : 1 ≤ ls.length := by omega
  have hL2 : ls.length ≤ 1024 := by omega
  rw [← hlen] at *
  clear hlen
  go_upto_region 11 with fail
  have hB := BSt.start w5
  have hM6 : Mut [] w5 (w5.alloc (.cells #[.slice none 0 0, .int .i64 0] 49)) := (Mut.refl _ _).alloc _
  generalize hW6 : w5.alloc (.cells #[.slice none 0 0, .int .i64 0] 49) = W6 at *
  generalize hwb : w5.heap.size = wb at *
  have HB0 := Lib.hid hB
  have HM6 := Lib.hid hM6
  have HWB := Lib.hid hwb
  clear hB hM6 hW6 hwb
  go_wp2_with fail
  go_loopw [10, 11] (fun wv x wx => ∃ (i : Nat) (want : List Nat), x = .int .i64 (i : Int) ∧ i ≤ xs.length ∧ i ≤ 2000 ∧ Hid (BSt W6 wx wb (wbits ls want) wv want ∧ (∀ k ∈ want, k < ls.length ∧ 1 ≤ lenAt ls k) ∧ want.length ≤ i)) (fun _ x _ => xs.length - (intOf x).toNat)
  case atStart => exact ⟨0, [], rfl, Nat.zero_le _, Nat.zero_le _, Lib.hid ⟨HB0.out, by simp, Nat.zero_le _⟩⟩
  case round =>
    obtain ⟨i, want, rfl, hi, hi2, HB⟩ := hrel
    have hm5 : Mut [] w5 wr := HM6.out.trans HB.out.1.kept (fun x hx => by have := HWB.out; simp at hx; omega)
    have HM5R := Lib.hid hm5
    clear hm5
    go_upto_region 13 with fail
    go_cut [47] (fun s47 wx => wx = wr ∧ ∃ q : Bool, s47 = .bool q ∧ Hid (q = true ↔ i < xs.length ∧ i < 2000))
    case first =>
      by_cases hg1 : i < xs.length
      · have hg1I : (i : Int) < (xs.length : Int) := by omega
        by_cases hg2 : i < 2000
        · have hg2I : (i : Int) < 2000 := by omega
          go_wp2_with fail
          go_meet
          exact ⟨rfl, _, rfl, Lib.hid (by simp [hg1, hg2])⟩
        · have hg2I : ¬ (i : Int) < 2000 := by omega
          go_wp2_with fail
          go_meet
          exact ⟨rfl, _, rfl, Lib.hid (by simp [hg1, hg2])⟩
      · have hg1I : ¬ (i : Int) < (xs.length : Int) := by omega
        go_wp2_with fail
        go_meet
        exact ⟨rfl, _, rfl, Lib.hid (by simp [hg1])⟩
    case rest =>
    obtain ⟨rfl, q, rfl, HQ⟩ := hcut
    cases q
    case true =>
      have hgo := HQ.out.1 rfl
      have hgo1 : (i : Int) < (xs.length : Int) := by omega
      have hgo2 : (i : Int) < 2000 := by omega
      obtain ⟨a, rfl, cx⟩ := HR1.out wc (HM5.out.trans HM5R.out (by simp)) i hgo.1
      obtain ⟨k, hk, hkm⟩ := sym_mod (xs.getD i 0) ls.length (by omega) (by omega)
      generalize xs.getD i 0 = x at *
      have hkI : (k : Int) < (ls.length : Int) := by omega
      have hln0 : ((ls.length : Int) == 0) = false := by simpa using (show ¬ (ls.length : Int) = 0 by omega)
      obtain ⟨a2, rfl, cl⟩ := HLL.out wc HM5R.out k hk
      obtain ⟨a3, rfl, cc2⟩ := HCL.out wc HM5R.out k hk
      have hn15 := HGD.out.h15 _ (lenAt_mem ls k hk)
      have hwl := wbits_len ls want HGD.out.h15 (fun k hk => (HB.out.2.1 k hk).1)
      have hwn := HB.out.2.2
      have HSN : Hid (wbits ls (want ++ [k]) = wbits ls want ++ highBits ((codeOf ls k : Nat) : Int) (lenAt ls k)) := Lib.hid (wbits_snoc ls want k)
      have HBC := Lib.hid (HB.out.1.drew.code ((codeOf ls k : Nat) : Int) (lenAt ls k) (by omega) (by omega))
      have HKL : Hid (k < ls.length ∧ lenAt ls k = lenAt ls k) := Lib.hid ⟨hk, rfl⟩
      obtain ⟨n, hn⟩ : ∃ n, lenAt ls k = n := ⟨_, rfl⟩
      obtain ⟨cd, hcd⟩ : ∃ c, codeOf ls k = c := ⟨_, rfl⟩
      rw [hn] at cl hn15
      rw [hcd] at cc2
      rw [hn, hcd] at HBC HSN
      have HNN := Lib.hid hn
      clear hn hcd hwl hwn HKL
      go_upto_region 16 with fail
      clear hkm cx
      by_cases hz : n = 0
      · subst hz
        clear HBC HSN
        go_wp2_with fail
        exact ⟨⟨i + 1, want, by rw [Int.natCast_add]; rfl, by omega, by omega, Lib.hid ⟨HB.out.1, HB.out.2.1, by have := HB.out.2.2; omega⟩⟩, by simp only [intOf]; omega⟩
      · have hzI : (0 : Int) < (n : Int) := by omega
        go_upto_region 17 with fail
        go_still_tail 8, (by kernel_rfl)
        go_upto_region 18 with (go_at_call 22; refine HBC.out.mono ?_; rintro e w7 ⟨rfl, hb7⟩; have HB7 := Lib.hid hb7; clear hb7)
        clear HBC
        go_wp2_with (at_builtin; (refine wp_appI rfl (.tmp 77) (.tmp 79) rfl (HB7.out.row.mut ((Mut.refl [] w7).alloc _) (by simp)) rfl (src_one (heap_alloc_new w7 _)) rfl (by have := HB.out.2.2; simp [natI]; omega) ?_))
        intro v8 w8 r8 m8 f8
        have hb8 := HB7.out.add _ k r8 m8 f8
        rw [← HSN.out] at hb8
        have HB8 : Hid (BSt W6 w8 wb (wbits ls (want ++ [k])) v8 (want ++ [k]) ∧ (∀ q ∈ want ++ [k], q < ls.length ∧ 1 ≤ lenAt ls q) ∧ (want ++ [k]).length ≤ i + 1) := Lib.hid ⟨hb8, fun q hq => by
          rcases List.mem_append.1 hq with h | h
          · exact HB.out.2.1 q h
          · have e : q = k := by simpa using h
            rw [e, HNN.out]
            exact ⟨hk, by omega⟩, by rw [List.length_append]; have := HB.out.2.2; simp; omega⟩
        obtain ⟨pv8, lv8, cv8, rfl⟩ := r8.form
        clear r8 m8 f8 hb8 HB HB7 HSN
        go_wp2_with fail
        exact ⟨⟨i + 1, want ++ [k], by rw [Int.natCast_add]; rfl, by omega, by omega, HB8⟩, by simp only [intOf]; omega⟩
    case false =>
      have hS := wbits_len ls want HGD.out.h15 (fun k hk => (HB.out.2.1 k hk).1)
      have hwl := HB.out.2.2
      obtain ⟨r9, hwr9, _⟩ := HB.out.1.wr
      have HWALL := Lib.hid (wall_any wb r9 _ wc hwr9)
      have hsz := wstr_size (wbits ls want)
      have HBK : Hid (∀ j, j < want.length → nextRes ls (peekNum (strOf (pack (wbits ls want))) (posAt ls want j) 15) (min 15 (8 * (strOf (pack (wbits ls want))).size - posAt ls want j)) = (want.getD j 0, lenAt ls (want.getD j 0), 0)) := Lib.hid (back_next ls HGD.out want HB.out.2.1)
      have HPL : Hid (∀ j, posAt ls want j ≤ (wbits ls want).length) := Lib.hid (posAt_le ls want)
      have HPF : Hid (posAt ls want want.length = (wbits ls want).length) := Lib.hid (by unfold posAt; rw [List.take_length])
      obtain ⟨S, hSS⟩ : ∃ S, strOf (pack (wbits ls want)) = S := ⟨_, rfl⟩
      rw [hSS] at HWALL HBK hsz
      obtain ⟨pw, cw, rfl, kw⟩ := HB.out.1.row.read
      have hwnl : (natI want).length = want.length := by simp [natI]
      have HE0 : Hid (∀ W : World, W = wc.alloc (.cells #[.string S, .int .i64 0] 67) → ESt w W w3.heap.size w4.heap.size b wc.heap.size ls (.slice pw (natI want).length cw) want S (posAt ls want 0)) := Lib.hid (by
        rintro W rfl
        have m0 : Mut [] wc (wc.alloc (.cells #[.string S, .int .i64 0] 67)) := (Mut.refl _ _).alloc _
        refine ⟨(HT5.out.mut HM5R.out (by simp)).mut m0 (by simp), open_is S wc, HB.out.1.row.mut m0 (by simp), (HM5.out.trans HM5R.out (by simp)).trans m0 (by simp), ?_, ?_, fun g hg => ?_⟩
        · have := HM5R.out.size
          have := HS45.out
          have := HWB.out
          omega
        · exact (HM5.out.trans HM5R.out (by simp)).size
        · have := HB.out.1.row.lt hg
          omega)
      rw [hwnl] at HE0 kw ⊢
      clear hSS hwnl HB HM5R HLL HCL HB0 HM6 HR1 HQ kw hwr9
      go_wp2_with (first | (go_at_call 23; refine HWALL.out.mono ?_; rintro e w9 ⟨rfl, rfl⟩) | (go_at_call 16; refine (open_any _ _).mono ?_; rintro e w10 ⟨rfl, rfl⟩))
      have HE := Lib.hid (HE0.out _ rfl)
      generalize wc.alloc (.cells #[.string S, .int .i64 0] 67) = W0 at *
      generalize wc.heap.size = rb at *
      generalize w3.heap.size = lo at *
      generalize w4.heap.size = hi4 at *
      clear HE0 HWALL
      go_loopw [14] (fun x wx => ∃ j : Nat, x = .int .i64 (j : Int) ∧ j ≤ want.length ∧ Hid (ESt w wx lo hi4 b rb ls (.slice pw want.length cw) want S (posAt ls want j))) (fun x _ => want.length - (intOf x).toNat)
      case atStart => exact ⟨0, rfl, Nat.zero_le _, HE⟩
      case round =>
        clear HE
        obtain ⟨j, rfl, hj, HE⟩ := hrel
        have hpl := HPL.out j
        by_cases hend : j < want.length
        · have hendI : (j : Int) < (want.length : Int) := by omega
          have hN := next_any lo hi4 b ls rb S (posAt ls want j) wr HE.out.tab HE.out.rd (by omega) (by omega) HL15.out hL2
          rw [HBK.out j hend] at hN
          have HN : Hid (Calls Try.prog 15 #[.pointer (some ⟨b, 0, none⟩), .pointer (some ⟨rb, 0, none⟩)] wr fun e w' => e = .returned (.tuple #[.int .i64 ((want.getD j 0 : Nat) : Int), .int .i64 0]) ∧ Hid (ESt w w' lo hi4 b rb ls (.slice pw want.length cw) want S (posAt ls want (j + 1)))) := Lib.hid
            (hN.mono fun e w' ⟨he, hr, hm⟩ => ⟨he, Lib.hid (by rw [posAt_succ ls want j hend] at *; exact HE.out.step hr hm)⟩)
          obtain ⟨y, hy⟩ : ∃ y, want.getD j 0 = y := ⟨_, rfl⟩
          rw [hy] at HN
          have HY := Lib.hid hy
          clear hN HBK HPL HPF hpl hy
          go_upto_region 24 with (go_at_call 15; refine HN.out.mono ?_; rintro e w11 ⟨rfl, HE2⟩)
          obtain ⟨p', c', e1, e2⟩ := HE2.out.row.read
          simp at e1
          obtain ⟨e1a, e1b⟩ := e1
          subst e1a
          clear e1b
          obtain ⟨a, rfl, cx⟩ := e2 w11 (Mut.refl _ _) j (by simp [natI]; omega)
          have hg : (natI want).getD j 0 = ((y : Nat) : Int) := by rw [← HY.out]; simp [natI, List.getD, hend]
          rw [hg] at cx
          clear e2 hg HN HE
          go_wp2_with fail
          exact ⟨⟨j + 1, by rw [Int.natCast_add]; rfl, by omega, HE2⟩, by simp only [intOf]; omega⟩
        · have hendI : ¬ (j : Int) < (want.length : Int) := by omega
          have ej : j = want.length := by omega
          subst ej
          have hpf := HPF.out
          have HLF := Lib.hid (left_any rb S (posAt ls want want.length) wr HE.out.rd (by omega) (by omega))
          have hlt : 8 * (S.size : Int) - ((wbits ls want).length : Nat) < 8 := by omega
          clear HBK HPL HPF hpl
          go_wp2_with (go_at_call 24; refine HLF.out.mono ?_; rintro e w12 ⟨rfl, n, rfl⟩)
          exact bodyPost_ret (results_tmp rfl _ _ _) rfl ⟨rfl, (HE.out.kept.drewN n).nil (by simp)⟩

end Go.Proofs.Ytbgejebnpmogoaa
