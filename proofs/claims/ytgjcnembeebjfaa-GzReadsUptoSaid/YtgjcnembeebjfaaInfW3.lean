/- Walks over package inflate: stored, whole. -/
import Derived.Test.YtgjcnembeebjfaaInfW2
import Derived.Test.YtgjcnembeebjfaaReg
namespace Go.Proofs.Ytgjcnembeebjfaa
open Go.RowKit
set_option linter.unusedVariables false

/-- what stored leaves behind its head -/
def storedEnd (s : ByteArray) (out : List Nat) (m a n M : Nat) : US :=
  if n ^^^ M ≠ 65535 then ⟨8 * (a + 4), out, 11⟩ else if m < out.length + n then ⟨8 * (a + 4), out, 2⟩ else if a + 4 + n ≤ s.size then ⟨8 * (a + 4 + n), out ++ ((bytesOf s).drop (a + 4)).take n, 0⟩ else ⟨8 * (a + 4), out, 3⟩

set_option maxHeartbeats 1600000 in
theorem ustored_3 (b rb : Nat) (s : ByteArray) (t a n M : Nat) (ov : Value) (out : List Nat) (m : Nat) (w : World) (h : UIs w b rb s t ov out (m : Int) 0) (hs : s.size ≤ 140737488351232) (ha : (t + 7) / 8 = a)
    (hA : (bytesOf s).getD a 0 + 256 * (bytesOf s).getD (a + 1) 0 = n) (hC : (bytesOf s).getD (a + 2) 0 + 256 * (bytesOf s).getD (a + 3) 0 = M)
    (hend : a + 4 ≤ s.size) (hmo : m ≤ 9223372036854775807) (hB : out.length ≤ 1099511627776) (hout : out.length ≤ m) :
    Calls Try.prog 70 #[.pointer (some ⟨b, 0, none⟩)] w fun e w' => e = .returned (.tuple #[]) ∧ ∃ ov', UAt w' b rb s ov' m (storedEnd s out m a n M) ∧ UG w w' b rb ov ov' := by
  obtain ⟨ao, cap, rfl⟩ := row_form h.row
  obtain ⟨hd, hhd, hz, e0, e1⟩ := two_bytes s a (by omega)
  obtain ⟨ot, hot, oz, e2, e3⟩ := two_bytes s (a + 2) (by omega)
  have hn16 : n < 65536 := by
    have l0 := (hd[0]).toNat_lt
    have l1 := (hd[1]).toNat_lt
    rw [e0] at l0
    rw [e1] at l1
    omega
  have hM16 : M < 65536 := by
    have l0 := (ot[0]).toNat_lt
    have l1 := (ot[1]).toNat_lt
    rw [e2] at l0
    rw [e3, show a + 2 + 1 = a + 3 from rfl] at l1
    omega
  have hv3 : Go.bits .xor .i64 (n : Int) (M : Int) = ((n ^^^ M : Nat) : Int) := xor_i64_nat _ _ (by omega) (by omega)
  have HV1 : Hid (Go.bits .or .i64 ((hd[0]).toNat : Int) (wrap64 (((hd[1]).toNat : Int) * 256)) = (n : Int)) := by
    have l0 := (hd[0]).toNat_lt
    have l1 := (hd[1]).toNat_lt
    rw [e0] at l0 ⊢
    rw [e1] at l1 ⊢
    rw [or_bytes _ _ (by omega) (by omega), hA]
    exact Lib.hid rfl
  obtain ⟨Y, hY⟩ : ∃ Y : Int, ((ot[1]).toNat : Int) * 256 = Y := ⟨_, rfl⟩
  have hY0 : 0 ≤ Y ∧ Y < 65536 := by have := (ot[1]).toNat_lt; omega
  have hY1 : wrap64 Y = Y := IntWalk.wrap64_in _ (by omega)
  have hY2 : IntKind.i64.wrap Y = Y := IntWalk.i64_in _ (by omega)
  have HV2 : Hid (Go.bits .or .i64 ((ot[0]).toNat : Int) Y = (M : Int)) := by
    rw [← hY1, ← hY]
    have l0 := (ot[0]).toNat_lt
    have l1 := (ot[1]).toNat_lt
    rw [e2] at l0 ⊢
    rw [e3] at l1 ⊢
    rw [or_bytes _ _ (by omega) (by omega)]
    exact Lib.hid (congrArg _ hC)
  obtain ⟨X, hX⟩ : ∃ X, n ^^^ M = X := ⟨_, rfl⟩
  rw [hX] at hv3
  have HX := Lib.hid hX
  have HV3 := Lib.hid hv3
  have HY := Lib.hid hY
  have HY1 := Lib.hid hY1
  have HY2 := Lib.hid hY2
  clear hA hC e0 e1 e2 e3 hX hv3 hY hY1 hY2 hY0 hM16
  have HB1 := Lib.hid (ubytes_ok b rb s t 2 a 2 hd (.slice ao out.length cap) out m 0 w h hs ha rfl (by omega) hhd)
  have HB2 : Hid (∀ w1, UIs w1 b rb s (8 * (a + 2)) (.slice ao out.length cap) out m 0 → Calls Try.prog 89 #[.pointer (some ⟨rb, 0, none⟩), .int .i64 2] w1 fun e w' => e = .returned (.tuple #[.string ot, .int .i64 0]) ∧ UIs w' b rb s (8 * (a + 4)) (.slice ao out.length cap) out m 0 ∧ Mut [rb] w1 w') :=
    Lib.hid (fun w1 h => ubytes_ok b rb s (8 * (a + 2)) 2 (a + 2) 2 ot (.slice ao out.length cap) out m 0 w1 h hs (by omega) rfl (by omega) hot)
  obtain ⟨c0, c1, c2, c3, f1, f3⟩ := cellsU h.box
  have HFN : Hid (∀ w1 t, UIs w1 b rb s t (.slice ao out.length cap) out m 0 → ∀ k, Calls Try.prog 90 #[.pointer (some ⟨b, 0, none⟩), .bool false, .int .i64 k] w1 fun e w' => e = .returned (.bool false) ∧ w1 = w') := Lib.hid (fun w1 t h k => ufail_no b rb s t (.slice ao out.length cap) out m k w1 h)
  have HFY : Hid (∀ w1 t, UIs w1 b rb s t (.slice ao out.length cap) out m 0 → ∀ k : Nat, k ≠ 0 → Calls Try.prog 90 #[.pointer (some ⟨b, 0, none⟩), .bool true, .int .i64 (k : Int)] w1 fun e w' => e = .returned (.bool true) ∧ UIs w' b rb s t (.slice ao out.length cap) out m k ∧ Mut [b] w1 w') := Lib.hid (fun w1 t h k hk => ufail_yes b rb s t (.slice ao out.length cap) out m k k w1 h rfl hk)
  clear h ha hhd hot
  go_enter Try.func70, Try.ntmps70
  go_wp2_with fail
  refine HB1.out.mono ?_
  rintro e w1 ⟨rfl, hu1, hm1⟩
  have HU1 := Lib.hid hu1
  have HM1 := Lib.hid hm1
  obtain ⟨d0, d1, d2, d3, g1, g3⟩ := cellsU HU1.out.box
  clear hu1 hm1 c0 c1 c2 c3 f1 f3
  go_wp2_with fail
  refine (HFN.out w1 _ HU1.out _).mono ?_
  rintro e wz ⟨rfl, rfl⟩
  go_wp2_with fail
  refine (HB2.out _ HU1.out).mono ?_
  rintro e w2 ⟨rfl, hu2, hm2⟩
  have HU2 := Lib.hid hu2
  have HM2 := Lib.hid (HM1.out.trans' hm2)
  obtain ⟨c0, c1, c2, c3, f1, f3⟩ := cellsU HU2.out.box
  clear hu2 hm2 d0 d1 d2 d3 g1 g3 HM1 HU1
  go_wp2_with fail
  refine (HFN.out w2 _ HU2.out _).mono ?_
  rintro e wz ⟨rfl, rfl⟩
  have hw : ∀ c : UInt8, IntKind.i64.wrap (c.toNat : Int) = (c.toNat : Int) ∧ wrap64 (c.toNat : Int) = (c.toNat : Int) := fun c => by have := c.toNat_lt; exact ⟨IntWalk.i64_in _ (by omega), IntWalk.wrap64_in _ (by omega)⟩
  have w0 := hw (hd[0])
  have w1' := hw (hd[1])
  have w2' := hw (ot[0])
  have w3' := hw (ot[1])
  obtain ⟨p0, q0⟩ := w0
  obtain ⟨p1, q1⟩ := w1'
  obtain ⟨p2, q2⟩ := w2'
  obtain ⟨p3, q3⟩ := w3'
  clear hw
  go_wp2_with fail
  go_quiet (fail)
  rw [HV1.out]
  have HU2b : Hid (UIs (w2.drewN nq) b rb s (8 * (a + 4)) (.slice ao out.length cap) out m 0 ∧ Mut [rb] w (w2.drewN nq)) :=
    Lib.hid ⟨HU2.out.mut ((Mut.refl [] w2).drewN nq) (by simp) (by simp) (by simp), HM2.out.drewN nq⟩
  generalize w2.drewN nq = w2b at *
  obtain ⟨d0, d1, d2, d3, g1, g3⟩ := cellsU HU2b.out.1.box
  clear HV1 HU2 HM2 c0 c1 c2 c3 f1 f3 HB1 HB2
  have hY := HY.out
  have hY1 := HY1.out
  have hY2 := HY2.out
  have hv2 := HV2.out
  have hv3 := HV3.out
  clear HV2 HV3 HY HY1 HY2

  by_cases hx : X = 65535
  case neg =>
    have hxI : ((X : Int) != 65535) = true := by simp only [bne_iff_ne, ne_eq]; omega
    have HUB := Lib.hid (HU2b.out.1)
    have HS : Hid (storedEnd s out m a n M = ⟨8 * (a + 4), out, 11⟩) := Lib.hid (by unfold storedEnd; rw [HX.out, if_pos hx])
    have HFB : Hid (∀ q, Calls Try.prog 90 #[.pointer (some ⟨b, 0, none⟩), .bool true, .int .i64 11] (w2b.drewN q) fun e w' => e = .returned (.bool true) ∧ UIs w' b rb s (8 * (a + 4)) (.slice ao out.length cap) out m 11 ∧ Mut [b] (w2b.drewN q) w') :=
      Lib.hid (fun q => HFY.out (w2b.drewN q) _ (HU2b.out.1.mut ((Mut.refl [] w2b).drewN q) (by simp) (by simp) (by simp)) 11 (by decide))
    go_wp2_with fail
    clear d0 d1 d2 d3 g1 g3 HUB HFN HFY HX
    refine wp_region_bar 12 _ rfl (by kernel_rfl) (by kernel_rfl) ?_
    simp only [List.take_succ_cons, List.take_zero, List.drop_succ_cons, List.drop_zero]
    repeat (go_big_quiet_step (fail))
    refine wpQuiet_nil ?_
    rintro _ ⟨nq, rfl⟩ K hK
    go_simp
    go_at_call 90
    refine (HFB.out _).mono ?_
    rintro e w3 ⟨rfl, hu, hm⟩
    have HU := Lib.hid hu
    have HM := Lib.hid hm
    clear hu hm
    go_simp
    refine hK _ _ ?_; clear hK K
    repeat (go_big_quiet_step (fail))
    refine wpQuiet_nil ?_
    rintro _ ⟨nq2, rfl⟩
    go_wp2_with fail
    refine bodyPost_ret (results_none rfl _ _ _) rfl ⟨rfl, _, ?_, UG.of ?_⟩
    · rw [HS.out]
      exact HU.out.mut ((Mut.refl [] w3).drewN nq2) (by simp) (by simp) (by simp)
    · exact (((HU2b.out.2.mono (by simp)).drewN nq).trans' (HM.out.mono (by simp))).drewN nq2
  case pos =>
    subst hx
    have hxI : (((65535 : Nat) : Int) != 65535) = false := rfl
    by_cases hlong : m < out.length + n
    case pos =>
      have hmD : decide ((m : Int) - (out.length : Int) < (n : Int)) = true := decide_eq_true (by omega)
      have HS : Hid (storedEnd s out m a n M = ⟨8 * (a + 4), out, 2⟩) := Lib.hid (by unfold storedEnd; rw [HX.out, if_neg (by simp), if_pos hlong])
      have HFD : Hid (∀ q k, Calls Try.prog 90 #[.pointer (some ⟨b, 0, none⟩), .bool false, .int .i64 k] (w2b.drewN q) fun e w' => e = .returned (.bool false) ∧ w' = w2b.drewN q) :=
        Lib.hid (fun q k => (HFN.out (w2b.drewN q) _ (HU2b.out.1.mut ((Mut.refl [] w2b).drewN q) (by simp) (by simp) (by simp)) k).mono fun e w' ⟨h1, h2⟩ => ⟨h1, h2.symm⟩)
      have HFB : Hid (∀ q, Calls Try.prog 90 #[.pointer (some ⟨b, 0, none⟩), .bool true, .int .i64 2] (w2b.drewN q) fun e w' => e = .returned (.bool true) ∧ UIs w' b rb s (8 * (a + 4)) (.slice ao out.length cap) out m 2 ∧ Mut [b] (w2b.drewN q) w') :=
        Lib.hid (fun q => HFY.out (w2b.drewN q) _ (HU2b.out.1.mut ((Mut.refl [] w2b).drewN q) (by simp) (by simp) (by simp)) 2 (by decide))
      clear HFN HFY HX hlong
      go_wp2_with fail
      refine wp_region_bar 27 _ rfl (by kernel_rfl) (by kernel_rfl) ?_
      simp only [List.take_succ_cons, List.take_zero, List.drop_succ_cons, List.drop_zero]
      repeat (go_big_quiet_step ((go_at_call 90; exact (HFD.out _ _).mono fun e w'' ⟨he, hw⟩ => ⟨he, _, hw⟩)))
      refine wpQuiet_nil ?_
      rintro _ ⟨nq, rfl⟩ K hK
      go_simp
      go_at_call 90
      refine (HFB.out _).mono ?_
      rintro e w3 ⟨rfl, hu, hm⟩
      have HU := Lib.hid hu
      have HM := Lib.hid hm
      clear hu hm
      go_simp
      refine hK _ _ ?_; clear hK K
      repeat (go_big_quiet_step (fail))
      refine wpQuiet_nil ?_
      rintro _ ⟨nq2, rfl⟩
      go_wp2_with fail
      refine bodyPost_ret (results_none rfl _ _ _) rfl ⟨rfl, _, ?_, UG.of ?_⟩
      · rw [HS.out]
        exact HU.out.mut ((Mut.refl [] w3).drewN nq2) (by simp) (by simp) (by simp)
      · exact (((HU2b.out.2.mono (by simp)).drewN nq).trans' (HM.out.mono (by simp))).drewN nq2
    case neg =>
      have hmD : decide ((m : Int) - (out.length : Int) < (n : Int)) = false := decide_eq_false (by omega)
      have HFD : Hid (∀ q k, Calls Try.prog 90 #[.pointer (some ⟨b, 0, none⟩), .bool false, .int .i64 k] (w2b.drewN q) fun e w' => e = .returned (.bool false) ∧ w' = w2b.drewN q) :=
        Lib.hid (fun q k => (HFN.out (w2b.drewN q) _ (HU2b.out.1.mut ((Mut.refl [] w2b).drewN q) (by simp) (by simp) (by simp)) k).mono fun e w' ⟨h1, h2⟩ => ⟨h1, h2.symm⟩)
      have HS : Hid (storedEnd s out m a n M = if a + 4 + n ≤ s.size then ⟨8 * (a + 4 + n), out ++ ((bytesOf s).drop (a + 4)).take n, 0⟩ else ⟨8 * (a + 4), out, 3⟩) := Lib.hid (by unfold storedEnd; rw [HX.out, if_neg (by simp), if_neg hlong])
      have HL := Lib.hid hlong
      clear HX hlong
      go_wp2_with fail
      go_quiet ((go_at_call 90; exact (HFD.out _ _).mono fun e w'' ⟨he, hw⟩ => ⟨he, _, hw⟩))
      have HU3 : Hid (UIs (w2b.drewN nq) b rb s (8 * (a + 4)) (.slice ao out.length cap) out m 0 ∧ Mut [rb] w (w2b.drewN nq)) :=
        Lib.hid ⟨HU2b.out.1.mut ((Mut.refl [] w2b).drewN nq) (by simp) (by simp) (by simp), HU2b.out.2.drewN nq⟩
      generalize w2b.drewN nq = w3 at *
      obtain ⟨c0, c1, c2, c3, f1, f3⟩ := cellsU HU3.out.1.box
      clear d0 d1 d2 d3 g1 g3 HU2b HFD hv2 hv3 hY hY1 hY2 hmD p0 q0 p1 q1 p2 q2 p3 q3 hxI
      by_cases hall : a + 4 + n ≤ s.size
      case neg =>
        have HB3 := Lib.hid (ubytes_end b rb s (8 * (a + 4)) n n (.slice ao out.length cap) out m 0 w3 HU3.out.1 hs (by omega) rfl (by omega))
        have HFB := Lib.hid (HFY.out w3 _ HU3.out.1 3 (by decide))
        have HS2 : Hid (storedEnd s out m a n M = ⟨8 * (a + 4), out, 3⟩) := Lib.hid (by rw [HS.out, if_neg hall])
        clear HFY HFN HS
        go_wp2_with fail
        refine HB3.out.mono ?_
        rintro e w4 ⟨rfl, rfl⟩
        go_wp2_with fail
        refine HFB.out.mono ?_
        rintro e w4 ⟨rfl, hu, hm⟩
        have HU := Lib.hid hu
        have HM := Lib.hid hm
        clear hu hm
        obtain ⟨d0, d1, d2, d3, g1, g3⟩ := cells4 HU.out.box
        clear c0 c1 c2 c3 f1 f3
        obtain ⟨i0, hi, hz0, hz1, hz2⟩ := info_parts info_u8r
        have hr := HU.out.row
        go_wp2_with (at_builtin; refine wp_app rfl (.tmp 88) (.tmp 89) 54 9 rfl 5 i0 (.int .u8 0) 1 1 Try.underlying54 hi hz0 hz1 hz2 rfl hr rfl (Src.ofString _ Try.underlying9 ByteArray.empty) rfl (by unfold maxLen; have : ByteArray.empty.size = 0 := rfl; omega) (by have : ByteArray.empty.size = 0 := rfl; omega) ?_)
        intro v' w5 hr1 hg1 hfr
        rw [byteCells_eq'] at hr1
        have hap := HU.out.appended v' [] 0 rfl hr1 hg1
        have hb5 : w5.heap[b]? = _ := ((Mut.refl (Value.slice ao out.length cap).ownBlock.toList w4).grown hg1 (by intro g hg; simp [hg])).get HU.out.box (by simpa using HU.out.ne.2.1)
        obtain ⟨ap, ac, rfl⟩ := row_form hr1
        obtain ⟨c0, c1, c2, c3, f1, f3⟩ := cells4 hb5
        have HAP := Lib.hid hap
        have HFR := Lib.hid hfr
        clear hr hr1 hg1 hfr hap hb5 hi hz0 hz1 hz2 d0 d1 d2 d3 g1 g3
        go_wp2_with fail
        go_end0
        rw [HS2.out]
        refine ⟨rfl, _, by have := HAP.out.1; rw [List.append_nil] at this; exact this, ?_, ?_⟩
        · refine ((HU3.out.2.mono (by simp)).trans' (HM.out.mono (by simp))).trans' (HAP.out.2.mono ?_)
          intro y hy
          rcases List.mem_cons.1 hy with rfl | hy
          · exact .inl (by simp)
          · exact .inl (by simp [hy])
        · intro g hg
          rcases HFR.out g hg with h | h
          · exact .inl h
          · exact .inr (Nat.le_trans HU3.out.2.size (Nat.le_trans HM.out.size h))
      case pos =>
        obtain ⟨x, hx⟩ : ∃ x, s.extract (a + 4) (a + 4 + n) = x := ⟨_, rfl⟩
        have hxs : x.size = n := by rw [← hx]; simp; omega
        have hxb : bytesOf x = ((bytesOf s).drop (a + 4)).take n := by rw [← hx, bytesOf_extract, List.drop_take]; congr 1; omega
        have HB3 := Lib.hid (ubytes_ok b rb s (8 * (a + 4)) n (a + 4) n x (.slice ao out.length cap) out m 0 w3 HU3.out.1 hs (by omega) rfl hall hx)
        have HS2 : Hid (storedEnd s out m a n M = ⟨8 * (a + 4 + n), out ++ bytesOf x, 0⟩) := Lib.hid (by rw [HS.out, if_pos hall, hxb])
        clear HFY HS hx hxb hall
        go_wp2_with fail
        refine HB3.out.mono ?_
        rintro e w4 ⟨rfl, hu4, hm4⟩
        have HU4 := Lib.hid hu4
        have HM4 := Lib.hid (HU3.out.2.trans' hm4)
        obtain ⟨d0, d1, d2, d3, g1, g3⟩ := cellsU HU4.out.box
        clear hu4 hm4 c0 c1 c2 c3 f1 f3 HU3
        go_wp2_with fail
        refine (HFN.out w4 _ HU4.out _).mono ?_
        rintro e wz ⟨rfl, rfl⟩
        obtain ⟨i0, hi, hz0, hz1, hz2⟩ := info_parts info_u8r
        have hr := HU4.out.row
        have hol : out.length + x.size ≤ 1099511693312 := by omega
        go_wp2_with (at_builtin; refine wp_app rfl (.tmp 88) (.tmp 89) 54 9 rfl 5 i0 (.int .u8 0) 1 1 Try.underlying54 hi hz0 hz1 hz2 rfl hr rfl (Src.ofString _ Try.underlying9 x) rfl (by unfold maxLen; omega) (by omega) ?_)
        intro v' w5 hr1 hg1 hfr
        rw [byteCells_eq'] at hr1
        have hap := HU4.out.appended v' (bytesOf x) n (by rw [bytesOf_length, hxs]) hr1 hg1
        have hb5 : w5.heap[b]? = _ := ((Mut.refl (Value.slice ao out.length cap).ownBlock.toList w4).grown hg1 (by intro g hg; simp [hg])).get HU4.out.box (by simpa using HU4.out.ne.2.1)
        obtain ⟨ap, ac, rfl⟩ := row_form hr1
        obtain ⟨c0, c1, c2, c3, f1, f3⟩ := cellsU hb5
        have HAP := Lib.hid hap
        have HFR := Lib.hid hfr
        clear hr hr1 hg1 hfr hap hb5 hi hz0 hz1 hz2 d0 d1 d2 d3 g1 g3
        go_wp2_with fail
        go_end0
        rw [HS2.out]
        refine ⟨rfl, _, HAP.out.1, ?_, ?_⟩
        · refine (HM4.out.mono (by simp)).trans' (HAP.out.2.mono ?_)
          intro y hy
          rcases List.mem_cons.1 hy with rfl | hy
          · exact .inl (by simp)
          · exact .inl (by simp [hy])
        · intro g hg
          rcases HFR.out g hg with h | h
          · exact .inl h
          · exact .inr (Nat.le_trans HM4.out.size h)

/-- stored, in the machine's form -/
theorem stored_eq (s : ByteArray) (m : Nat) (st : US) (he : st.er = 0) : (storedU s m st).2 =
    if (st.t + 7) / 8 + 2 ≤ s.size then (if (st.t + 7) / 8 + 4 ≤ s.size then storedEnd s st.out m ((st.t + 7) / 8) ((bytesOf s).getD ((st.t + 7) / 8) 0 + 256 * (bytesOf s).getD ((st.t + 7) / 8 + 1) 0)
      ((bytesOf s).getD ((st.t + 7) / 8 + 2) 0 + 256 * (bytesOf s).getD ((st.t + 7) / 8 + 3) 0) else ⟨8 * ((st.t + 7) / 8 + 2), st.out, 3⟩) else ⟨st.t, st.out, 3⟩ := by
  obtain ⟨t, out, er⟩ := st
  simp only at he
  subst he
  simp only
  generalize ha : (t + 7) / 8 = a
  have le : ∀ b, b + 2 ≤ s.size → le16 (((bytesOf s).drop b).take 2) = (bytesOf s).getD b 0 + 256 * (bytesOf s).getD (b + 1) 0 := by
    intro b hb
    unfold le16
    simp only [List.getD, List.getElem?_take, List.getElem?_drop]
    simp
  have q1 : (8 * (a + 2) + 7) / 8 = a + 2 := by omega
  have q2 : (8 * (a + 4) + 7) / 8 = a + 4 := by omega
  have e1 : ∀ n b t out, (t + 7) / 8 = b → bytesU n s m ⟨t, out, 0⟩ = if b + n ≤ s.size then (((bytesOf s).drop b).take n, ⟨8 * (b + n), out, 0⟩) else ([], ⟨t, out, 3⟩) := by
    intro n b t out hb
    simp [bytesU, hb]
  have e3 : ∀ n t out, bytesU n s m ⟨t, out, 3⟩ = ([], ⟨t, out, 3⟩) := by intro n t out; simp [bytesU]
  have e4 : ∀ b k t out, failU b k s m ⟨t, out, 3⟩ = (true, ⟨t, out, 3⟩) := by intro b k t out; simp [failU]
  unfold storedU
  simp only [UM.bind]
  rw [e1 2 a t out ha]
  by_cases h2 : a + 2 ≤ s.size
  · rw [if_pos h2, if_pos h2]
    simp only
    rw [e1 2 (a + 2) _ out q1]
    by_cases h4 : a + 4 ≤ s.size
    · rw [if_pos h4, if_pos (show a + 2 + 2 ≤ s.size by omega), le a h2, le (a + 2) (by omega)]
      simp only
      generalize (bytesOf s).getD a 0 + 256 * (bytesOf s).getD (a + 1) 0 = n
      rw [show a + 2 + 1 = a + 3 from rfl, show a + 2 + 2 = a + 4 from rfl]
      generalize (bytesOf s).getD (a + 2) 0 + 256 * (bytesOf s).getD (a + 3) 0 = M
      unfold storedEnd
      by_cases hx : n ^^^ M ≠ 65535
      · rw [if_pos hx]
        simp [failU, hx, UM.ret]
      · rw [if_neg hx]
        by_cases hl : m < out.length + n
        · rw [if_pos hl]
          simp [failU, hx, longU, hl, UM.ret, UM.bind]
        · rw [if_neg hl]
          have eF : failU (decide (n ^^^ M ≠ 65535)) 11 s m ⟨8 * (a + 4), out, 0⟩ = (false, ⟨8 * (a + 4), out, 0⟩) := by simp [failU, hx]
          have eL : longU n s m ⟨8 * (a + 4), out, 0⟩ = (false, ⟨8 * (a + 4), out, 0⟩) := by simp [longU, failU, hl]
          rw [eF]
          show (((longU n).bind fun b => if b = true then UM.ret () else (bytesU n).bind pushU) s m ⟨8 * (a + 4), out, 0⟩).2 = _
          show ((if (longU n s m ⟨8 * (a + 4), out, 0⟩).1 = true then UM.ret () else (bytesU n).bind pushU) s m (longU n s m ⟨8 * (a + 4), out, 0⟩).2).2 = _
          rw [eL]
          show (pushU (bytesU n s m ⟨8 * (a + 4), out, 0⟩).1 s m (bytesU n s m ⟨8 * (a + 4), out, 0⟩).2).2 = _
          rw [e1 n (a + 4) _ out q2]
          by_cases hall : a + 4 + n ≤ s.size
          · rw [if_pos hall, if_pos hall]
            simp [pushU]
          · rw [if_neg hall, if_neg hall]
            simp [pushU]
    · rw [if_neg h4, if_neg (show ¬ a + 2 + 2 ≤ s.size by omega)]
      simp only
      rw [e4]
      simp [UM.ret]
  · rw [if_neg h2, if_neg h2]
    simp only
    rw [e3, e4]
    simp [UM.ret]

theorem ustored_any (b rb : Nat) (s : ByteArray) (st st' : US) (ov : Value) (m : Nat) (w : World) (h : UAt w b rb s ov m st) (hs : s.size ≤ 140737488351232) (ht : st.t ≤ 8 * s.size) (he : st.er = 0) (hm : m ≤ 9223372036854775807) (hB : st.out.length ≤ 1099511627776) (hout : st.out.length ≤ m) (hu : (storedU s m st).2 = st') :
    Calls Try.prog 70 #[.pointer (some ⟨b, 0, none⟩)] w fun e w' => e = .returned (.tuple #[]) ∧ ∃ ov', UAt w' b rb s ov' m st' ∧ UG w w' b rb ov ov' := by
  subst hu
  rw [stored_eq s m st he]
  obtain ⟨t, out, er⟩ := st
  simp only at he ht hout hB ⊢
  subst he
  by_cases h2 : (t + 7) / 8 + 2 ≤ s.size
  · rw [if_pos h2]
    by_cases h4 : (t + 7) / 8 + 4 ≤ s.size
    · rw [if_pos h4]
      exact ustored_3 b rb s t _ _ _ ov out m w h hs rfl rfl rfl h4 hm hB hout
    · rw [if_neg h4]
      exact (ustored_2 b rb s t _ ov out m w h hs ht rfl h2 (by omega)).mono fun e w' ⟨h1, h2, h3⟩ => ⟨h1, _, h2, UG.of h3⟩
  · rw [if_neg h2]
    exact (ustored_1 b rb s t ov out m w h hs ht (by omega)).mono fun e w' ⟨h1, h2, h3⟩ => ⟨h1, _, h2, UG.of h3⟩

end Go.Proofs.Ytgjcnembeebjfaa
