/- The law CodingPlaces. -/
import Derived.Test.YtkoheodcledcfaaCodW6
import Derived.Deep.DeepCutAuto
import Derived.Deep.LoopGhost
import Derived.Deep.RegionWith
import Derived.BigQuiet
namespace Go.Proofs.Ytkoheodcledcfaa
open Go.RowKit

theorem badOf_take_succ (T : List (Int × Nat)) (i : Nat) (hi : i < T.length) : badOf (T.take (i + 1)) = badOf (T.take i) + (if (T.getD i (0, 0)).1 < 0 then 1 else 0) := by
  rw [List.take_add_one]
  simp only [List.getD, List.getElem?_eq_getElem hi, Option.toList, Option.getD_some]
  exact badOf_snoc _ _ _

theorem badOf_take_le (T : List (Int × Nat)) (i : Nat) : badOf (T.take i) ≤ badOf T := by
  have h : badOf T = badOf (T.take i) + badOf (T.drop i) := by
    conv => lhs; rw [← List.take_append_drop i T]
    unfold badOf
    rw [List.filter_append, List.length_append]
  omega

theorem DecPost.loose {w : World} {k : Nat} {T : List (Int × Nat)} {size : Nat} {x : Value} {w' : World} (h : DecPost w k false T size x w') :
    ∃ vr vp, x = .tuple #[.agg #[.int .i64 (k : Int), vr, vp, .int .i64 (badOf T : Int)], .agg #[.int .i64 0, .int .i64 0]] ∧ IRow w' vr (runesOf T) ∧ IRow w' vp (((placesOf T).map fun n : Nat => (n : Int)) ++ [(size : Int)]) := by
  rcases h with ⟨D, p, E, h1, h2, h3, h4, _⟩ | ⟨_, vr, vp, h1, h2, h3, _⟩
  · simp at h4
  · exact ⟨vr, vp, h1, h2, h3⟩

theorem DecPost.strict {w : World} {k : Nat} {T : List (Int × Nat)} {size : Nat} {x : Value} {w' : World} (h : DecPost w k true T size x w') :
    ∃ a0 v1 v2 a3 e at_, x = .tuple #[.agg #[.int .i64 a0, v1, v2, .int .i64 a3], .agg #[.int .i64 e, .int .i64 at_]] ∧ (∃ p l c, v1 = .slice p l c) ∧ (∃ p l c, v2 = .slice p l c) ∧ ((e == 0) = ((badOf T : Int) == 0)) := by
  rcases h with ⟨D, p, E, h1, h2, h3, h4, h5⟩ | ⟨h0, vr, vp, h1, h2, h3, _⟩
  · refine ⟨_, _, _, _, _, _, h5, ⟨_, _, _, rfl⟩, ⟨_, _, _, rfl⟩, ?_⟩
    have : 0 < badOf T := by
      rw [h1]
      unfold badOf
      rw [List.filter_append, List.filter_cons_of_pos (by simpa using h3)]
      simp
      omega
    have e1 : ((17 : Int) == 0) = false := rfl
    have e2 : ((badOf T : Int) == 0) = false := by rw [beq_eq_false_iff_ne]; omega
    rw [e1, e2]
  · refine ⟨_, _, _, _, _, _, h1, h2.form, h3.form, ?_⟩
    rw [h0 rfl]
    rfl

theorem strOf_extract (s : ByteArray) (a b : Nat) : s.extract a b = strOf (((bytesOf s).drop a).take (b - a)) := by
  apply bytesOf_inj
  rw [bytesOf_extract, bytesOf_strOf, List.drop_take]
  intro x hx
  exact bytesOf_lt s x (List.mem_of_mem_drop (List.mem_of_mem_take hx))

theorem Mut.then0' {S : List Nat} {a b c : World} (h : Mut S a b) (k : Mut [] b c) : Mut S a c := h.trans k (by simp)

theorem one_row (W' W'' : World) (r : Int) (h : W''.heap = (W'.alloc (.cells #[.int .i64 r] 3)).heap) : IRow W'' (.slice (some ⟨W'.heap.size, 0, none⟩) 1 1) [r] := by
  refine ⟨rfl, .inr ⟨W'.heap.size, 1, #[.int .i64 r], rfl, Nat.zero_le _, ?_, Nat.le_refl _, by decide, rfl, rfl⟩⟩
  rw [h]
  exact heap_alloc_new W' _

theorem mut_like (W' W'' : World) (o : Obj) (h : W''.heap = (W'.alloc o).heap) (h1 : W''.os = W'.os) (h2 : W''.tape = W'.tape) (h3 : W''.output = W'.output) : Mut [] W' W'' := by
  have m := (Mut.refl [] W').alloc o
  exact ⟨h1, h2, h3, by rw [h]; exact m.size, fun k hk hn => by rw [h]; exact m.block k hk hn⟩

set_option maxHeartbeats 3200000 in
set_option maxRecDepth 1000000 in
theorem lawCodingPlaces {w : World} (s : ByteArray) (_ : s.size ≤ maxLen) (hs : s.size ≤ 1048576) (c : Int) (_ : (Lit.int .i64 c).wf = true) :
    Calls Try.prog 5 #[.string s, .int .i64 c] w fun e w' => e = .returned (.bool true) ∧ Below w.heap.size w w' := by
  by_cases hc : c < 0 ∨ 4 < c
  · rcases hc with h | h
    · go_enter Try.func5, Try.ntmps5
      go_wp2_with fail
      refine (speaks_any w).mono ?_
      rintro e w1 ⟨rfl, m1⟩
      have M1 := Lib.hid m1
      clear m1
      go_wp2_with fail
      refine (decode_none s c false (.inl h) w1).mono ?_
      rintro e w2 ⟨rfl, m2⟩
      have M2 := Lib.hid (M1.out.trans m2 (by simp))
      clear m2
      go_wp2_with fail
      exact bodyPost_ret (results_tmp rfl _ _ _) rfl ⟨rfl, ((M2.out.alloc _).alloc _).nil (by simp)⟩
    · have h' : ¬ c < 0 := by omega
      go_enter Try.func5, Try.ntmps5
      go_wp2_with fail
      refine (speaks_any w).mono ?_
      rintro e w1 ⟨rfl, m1⟩
      have M1 := Lib.hid m1
      clear m1
      go_wp2_with fail
      refine (decode_none s c false (.inr h) w1).mono ?_
      rintro e w2 ⟨rfl, m2⟩
      have M2 := Lib.hid (M1.out.trans m2 (by simp))
      clear m2
      go_wp2_with fail
      exact bodyPost_ret (results_tmp rfl _ _ _) rfl ⟨rfl, ((M2.out.alloc _).alloc _).nil (by simp)⟩
  · obtain ⟨q, rfl⟩ : ∃ q : Nat, c = q := ⟨c.toNat, by omega⟩
    have hq4 : q ≤ 4 := by omega
    obtain ⟨k1, k4⟩ := codingOf_rng q (bytesOf s) hq4
    have HD1 := Lib.hid (fun w => decode_go s q false hq4 (by omega) w)
    have HD2 := Lib.hid (fun w => decode_go s q true hq4 (by omega) w)
    generalize codingOf q (bytesOf s) = k at *
    have HAT := Lib.hid (told_at k ⟨k1, k4⟩ (bytesOf s) (bytesOf_lt s))
    have HFST := Lib.hid (told_first k (bytesOf s))
    have HLAT : Hid (k = 4 → ∀ i, i < (told k (bytesOf s)).length → 0 ≤ ((told k (bytesOf s)).getD i (0, 0)).1) := Lib.hid (by intro h; subst h; exact told_latin _)
    have HTL := Lib.hid (told_len k s)
    rw [bytesOf_length] at HAT HFST
    generalize told k (bytesOf s) = T at *
    clear hc
    go_enter Try.func5, Try.ntmps5
    go_wp2_with fail
    refine (speaks_any w).mono ?_
    rintro e w1 ⟨rfl, m1⟩
    have M1 := Lib.hid m1
    clear m1
    go_wp2_with fail
    refine (HD1.out w1).mono ?_
    rintro e w2 ⟨x, rfl, hp, m2⟩
    obtain ⟨vr, vp, rfl, hr, hq⟩ := hp.loose
    obtain ⟨p1, c1, rfl, r1⟩ := hr.read
    obtain ⟨g2, c2, rfl, r2⟩ := hq.at (by simp)
    have lr : (runesOf T).length = T.length := by unfold runesOf; rw [List.length_map]
    have lp : (((placesOf T).map fun n : Nat => (n : Int)) ++ [(s.size : Int)]).length = T.length + 1 := by unfold placesOf; simp
    rw [lr] at r1 ⊢
    rw [lp] at r2 ⊢
    have R1 := Lib.hid r1
    have R2 : Hid (∀ w', Mut [] w2 w' → ∀ i, i < T.length + 1 → w'.cell? ⟨g2, i, none⟩ = some (.int .i64 (((placesOf T ++ [s.size]).getD i 0 : Nat) : Int))) := Lib.hid fun w' m i hi => by
      rw [r2 w' m i (by omega)]
      have e3 : ((placesOf T).map fun n : Nat => (n : Int)) ++ [(s.size : Int)] = (placesOf T ++ [s.size]).map fun n : Nat => (n : Int) := by simp
      have lq : i < (placesOf T ++ [s.size]).length := by unfold placesOf; simpa using hi
      rw [e3, List.getD_eq_getElem?_getD, List.getElem?_map, List.getElem?_eq_getElem lq]
      simp [List.getElem?_eq_getElem lq]
    have M2 := Lib.hid (M1.out.trans m2 (by simp))
    obtain ⟨bd, hbd⟩ : ∃ bd, badOf T = bd := ⟨_, rfl⟩
    rw [hbd]
    have HBD := Lib.hid hbd
    obtain ⟨h3, m3⟩ := hold_new w2 (.int .i64 (k : Int)) (.slice p1 T.length c1) (.slice (some ⟨g2, 0, none⟩) (T.length + 1) c2) (.int .i64 (bd : Int)) (.int .i64 0) (.int .i64 0)
    have H3 := Lib.hid h3
    have M3 := Lib.hid m3
    clear hr hq hp m2 r1 r2 h3 m3 lr lp hbd
    go_wp2_with fail
    generalize ((w2.alloc (.cells #[.int .i64 (k : Int), .slice p1 T.length c1, .slice (some ⟨g2, 0, none⟩) (T.length + 1) c2, .int .i64 (bd : Int)] 25)).alloc (.cells #[.int .i64 0, .int .i64 0] 28)) = W at *
    have R1W : Hid (∀ w', Mut [] W w' → ∀ i, i < T.length → ∃ a : Addr, p1 = some a ∧ w'.cell? (a.add i) = some (.int .i64 ((runesOf T).getD i 0))) := Lib.hid fun w' m => R1.out w' (M3.out.trans m (by simp))
    have R2W : Hid (∀ w', Mut [] W w' → ∀ i, i < T.length + 1 → w'.cell? ⟨g2, i, none⟩ = some (.int .i64 (((placesOf T ++ [s.size]).getD i 0 : Nat) : Int))) := Lib.hid fun w' m => R2.out w' (M3.out.trans m (by simp))
    have MW := Lib.hid (M2.out.trans M3.out (by simp))
    clear R1 R2 M1 M2 M3
    go_loopw [7, 8] (fun b x wx => ∃ (i bad : Nat), b = .int .i64 (bad : Int) ∧ x = .int .i64 (i : Int) ∧ i ≤ T.length ∧ Hid (bad ≤ badOf (T.take i)) ∧ Hid (Mut [] W wx)) (fun _ x _ => T.length - (intOf x).toNat)
    case atStart => exact ⟨0, 0, rfl, rfl, by omega, Lib.hid (by omega), Lib.hid (Mut.refl _ _)⟩
    case round =>
      obtain ⟨i, bad, rfl, rfl, hi, HB, HM⟩ := hrel
      have hTL : T.length ≤ 1048576 := by have := HTL.out; omega
      have hbadl : bad ≤ T.length := by have := HB.out; have := badOf_le (T.take i); rw [List.length_take] at this; omega
      obtain ⟨d0, d1, d2, d3, d4, d5⟩ := (H3.out.step HM.out).cells
      by_cases hend : i < T.length
      · have hendI : (i : Int) < (T.length : Int) := by omega
        obtain ⟨a, rfl, ca⟩ := R1W.out wr HM.out i hend
        have cb := R2W.out wr HM.out i (by omega)
        have cb' := R2W.out wr HM.out (i + 1) (by omega)
        have hat := HAT.out i hend
        have hbs := badOf_take_succ T i hend
        have hru : (runesOf T).getD i 0 = if (T.getD i (0, 0)).1 < 0 then 65533 else (T.getD i (0, 0)).1 := by unfold runesOf; simp [List.getD, hend]
        have hlat : k = 4 → 0 ≤ (T.getD i (0, 0)).1 := fun h => HLAT.out h i hend
        have hcall : ∀ w', Mut [] W w' → w'.cell? (a.add i) = some (.int .i64 ((runesOf T).getD i 0)) := fun w' m => by
          obtain ⟨a2, h, h2⟩ := R1W.out w' m i hend
          cases h
          exact h2
        rw [hru] at ca hcall
        generalize (T.getD i (0, 0)).1 = v at *
        generalize (placesOf T ++ [s.size]).getD i 0 = A at *
        generalize (placesOf T ++ [s.size]).getD (i + 1) 0 = B at *
        obtain ⟨hAB, hBs, hv⟩ := hat
        have HV := Lib.hid hv
        have HBS := Lib.hid hbs
        have HL := Lib.hid hlat
        have hABI : ¬ (B : Int) ≤ (A : Int) := by omega
        clear hv hbs hru hlat
        have ca1 : ∀ n, (wr.drewN n).cell? (a.add i) = some (.int .i64 (if v < 0 then 65533 else v)) := fun n => ca
        have cb1 : ∀ n, (wr.drewN n).cell? ⟨g2, i, none⟩ = some (.int .i64 (A : Int)) := fun n => cb
        have cb2 : ∀ n, (wr.drewN n).cell? ⟨g2, i + 1, none⟩ = some (.int .i64 (B : Int)) := fun n => cb'
        have e0 : ∀ n, (wr.drewN n).cell? ⟨w2.heap.size, 0, none⟩ = some (.int .i64 (k : Int)) := fun n => d0
        have e1 : ∀ n, (wr.drewN n).cell? ⟨w2.heap.size, 1, none⟩ = some (.slice (some a) T.length c1) := fun n => d1
        have e2 : ∀ n, (wr.drewN n).cell? ⟨w2.heap.size, 2, none⟩ = some (.slice (some ⟨g2, 0, none⟩) (T.length + 1) c2) := fun n => d2
        have hi1 : IntKind.i64.wrap ((i : Int) + 1) = (i : Int) + 1 := IntWalk.i64_in _ (by omega)
        have hi2 : (i : Int) + 1 < (T.length : Int) + 1 := by omega
        have hi3 : (i : Int) < (T.length : Int) + 1 := by omega
        have hi4 : (0 : Int) ≤ (i : Int) := by omega
        have hi5 : (0 : Int) ≤ (i : Int) + 1 := by omega
        have hi6 : ((i : Int) + 1).toNat = i + 1 := by omega
        go_wp2_with fail
        go_quiet (fail)
        obtain ⟨r, hr⟩ : ∃ r, (if v < 0 then 65533 else v) = r := ⟨_, rfl⟩
        have hrb : ¬ (v < 0 ∧ r ≠ 65533) := by rintro ⟨h1, h2⟩; rw [if_pos h1] at hr; exact h2 hr.symm
        have HRB := Lib.hid hrb
        obtain ⟨S, E, hSE, hSE2⟩ : ∃ S E, encRes [r] k false = .tuple #[.string S, .int .i64 E] ∧ E = 0 ∧ (0 ≤ v → S = s.extract A B) := by
          by_cases hneg : v < 0
          · rw [if_pos hneg] at hr
            refine ⟨_, 0, by rw [encRes_ok]; intro y hy; rw [List.mem_singleton] at hy; subst hy; subst hr; unfold okRune; have := HL.out; omega, rfl, fun h => by omega⟩
          · rw [if_neg hneg] at hr
            subst hr
            obtain ⟨q1, q2⟩ := HV.out (by omega)
            refine ⟨s.extract A B, 0, ?_, rfl, fun _ => rfl⟩
            rw [encRes_ok (by intro y hy; rw [List.mem_singleton] at hy; subst hy; exact q1), if_neg (by decide), List.nil_append, strOf_extract, ← q2]
            simp [encAll]
        obtain ⟨rfl, hS⟩ := hSE2
        have HSE := Lib.hid hSE
        have HS := Lib.hid hS
        rw [hr] at ca ca1 hcall
        have HCA := Lib.hid hcall
        clear hcall
        clear hSE hS hr hrb
        have d0a : ∀ o, (wr.alloc o).cell? ⟨w2.heap.size, 0, none⟩ = some (.int .i64 (k : Int)) := fun o => cellOf (H3.out.step (HM.out.alloc o)).1 0 rfl
        have d0b : ∀ n o, ((wr.drewN n).alloc o).cell? ⟨w2.heap.size, 0, none⟩ = some (.int .i64 (k : Int)) := fun n o => d0a o
        go_upto_region 13 with fail
        go_cut [11, 12] (fun x y wx => x = .string S ∧ y = .int .i64 0 ∧ Hid (Mut [] W wx))
        case first =>
          have hone := Lib.hid (fun n : Nat => one_row wr ((wr.drewN n).alloc (.cells #[.int .i64 r] 3)) r rfl)
          have hmut := Lib.hid (fun n : Nat => (HM.out.drewN n).alloc (.cells #[.int .i64 r] 3))
          go_region_with (go_at_call 16; refine (encode_go [r] k false ⟨k1, k4⟩ (by simp) _ _ (hone.out _)).mono ?_; rintro e w5 ⟨rfl, m5⟩; rw [HSE.out]; have M5 := Lib.hid ((hmut.out _).then0' m5); clear m5)
          all_goals first
            | (go_meet; exact ⟨rfl, rfl, M5⟩)
            | (go_step; go_meet; exact ⟨rfl, rfl, M5⟩)
            | (simp only [Exit.then]; go_step; go_meet; exact ⟨rfl, rfl, M5⟩)
            | (go_wp2_with fail; go_meet; exact ⟨rfl, rfl, M5⟩)
        case rest =>
          obtain ⟨rfl, rfl, HM2⟩ := hcut
          clear ca ca1 cb cb' cb1 cb2 d0 d1 d2 d3 d4 d5 d0a d0b e0 e1 e2
          obtain ⟨d0, d1, d2, d3, d4, d5⟩ := (H3.out.step HM2.out).cells
          have ca := HCA.out wc HM2.out
          have hA0 : (0 : Int) ≤ (A : Int) := by omega
          have hAB2 : (A : Int) ≤ (B : Int) := by omega
          have hB2 : (B : Int) ≤ (s.size : Int) := by omega
          have hb1 : (bad : Int) + 1 ≤ 1048577 := by omega
          by_cases heq : S = s.extract A B
          · subst heq
            go_wp2_with fail
            exact ⟨⟨i + 1, bad, rfl, by rw [Int.natCast_add]; rfl, by omega, Lib.hid (by rw [HBS.out]; have := HB.out; omega), HM2⟩, by simp only [intOf]; omega⟩
          · have hse : (S.toList == (s.extract A B).toList) = false := by rw [str_eq]; exact decide_eq_false heq
            have hneg : v < 0 := by
              by_cases h : v < 0
              · exact h
              · exact absurd (HS.out (by omega)) heq
            have hr : r = 65533 := by
              by_cases h : r = 65533
              · exact h
              · exact absurd ⟨hneg, h⟩ HRB.out
            have HN := Lib.hid hneg
            subst hr
            clear heq hneg
            go_wp2_with fail
            exact ⟨⟨i + 1, bad + 1, by rw [Int.natCast_add]; rfl, by rw [Int.natCast_add]; rfl, by omega, Lib.hid (by rw [HBS.out, if_pos HN.out]; have := HB.out; omega), HM2⟩, by simp only [intOf]; omega⟩
      · have e : i = T.length := by omega
        have hendI : ¬ (i : Int) < (T.length : Int) := by omega
        subst e
        have HBD2 : Hid (bad ≤ bd) := Lib.hid (by have := HB.out; rw [List.take_length, HBD.out] at this; exact this)
        clear d0 d2 d3 d4 d5 hend
        go_wp2_with fail
        refine (HD2.out wr).mono ?_
        rintro e w5 ⟨x, rfl, hp, m5⟩
        obtain ⟨f0, f1, f2, f3, fe, fa, rfl, ⟨_, _, _, rfl⟩, ⟨_, _, _, rfl⟩, hcode⟩ := hp.strict
        rw [HBD.out] at hcode
        have M5 := Lib.hid (HM.out.trans m5 (by simp))
        have hm6 : ∀ o o', Mut [] W ((w5.alloc o).alloc o') := fun o o' => (M5.out.alloc _).alloc _
        have c1' : ∀ o o', ((w5.alloc o).alloc o').cell? ⟨w2.heap.size, 1, none⟩ = _ := fun o o' => (H3.out.step (hm6 o o')).cells.2.1
        have c2' : ∀ o o', ((w5.alloc o).alloc o').cell? ⟨w2.heap.size, 2, none⟩ = _ := fun o o' => (H3.out.step (hm6 o o')).cells.2.2.1
        have c3' : ∀ o o', ((w5.alloc o).alloc o').cell? ⟨w2.heap.size, 3, none⟩ = _ := fun o o' => (H3.out.step (hm6 o o')).cells.2.2.2.1
        have q1 : ∀ o o', ((w5.alloc o).alloc o').cell? ⟨g2, T.length, none⟩ = some (.int .i64 (s.size : Int)) := fun o o' => by
          rw [R2W.out _ (hm6 o o') T.length (by omega)]
          have lp : (placesOf T).length = T.length := by unfold placesOf; rw [List.length_map]
          rw [← lp, List.getD_eq_getElem?_getD, List.getElem?_concat_length]
          rfl
        have q2 : ∀ o o', ((w5.alloc o).alloc o').cell? ⟨g2, 0, none⟩ = some (.int .i64 (((placesOf T ++ [s.size]).getD 0 0 : Nat) : Int)) := fun o o' => R2W.out _ (hm6 o o') 0 (by omega)
        have hf3 := HFST.out
        generalize (placesOf T ++ [s.size]).getD 0 0 = P0 at *
        have hf3I : (P0 : Int) ≤ 3 := by omega
        have hbl : (bad : Int) ≤ (bd : Int) := by have := HBD2.out; omega
        have hll : (T.length : Int) < (T.length : Int) + 1 := by omega
        have hl1 : ((T.length : Int) + 1 == (T.length : Int) + 1) = true := by simp
        have hss : ((s.size : Int) == (s.size : Int)) = true := by simp
        have HC := Lib.hid hcode
        have MF := Lib.hid ((MW.out.trans M5.out (by simp)))
        clear hm6 hp m5 hf3
        go_wp2_with fail
        exact bodyPost_ret (results_tmp rfl _ _ _) rfl ⟨rfl, ((MF.out.alloc _).alloc _).nil (by simp)⟩

end Go.Proofs.Ytkoheodcledcfaa
