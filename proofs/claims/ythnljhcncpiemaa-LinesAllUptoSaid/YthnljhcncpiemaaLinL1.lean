/- The laws of lines: what speaks asks; LinesPlaces, LinesSplit. -/
import Derived.Test.YthnljhcncpiemaaLinW4
import Derived.Test.YthnljhcncpiemaaLinF1
namespace Go.Proofs.Ythnljhcncpiemaa
open Go.RowKit
set_option linter.unusedVariables false

theorem PRow.one (w : World) (x : Nat × Nat) : PRow 31 (w.alloc (.cells (spCell x).toArray 31)) (.slice (some ⟨w.heap.size, 0, none⟩) 1 1) [x] :=
  ⟨by simp [spCells, spCell], .inr ⟨w.heap.size, 1, (spCell x).toArray, rfl, Nat.zero_le _, heap_alloc_new w _, Nat.le_refl _, by decide, rfl, by simp [spCells, spCell]⟩⟩

theorem lnCells_at (T : List LineV) : ∀ (i : Nat) (hi : i < T.length) (j : Nat), j < 4 → (lnCells T)[4 * i + j]? = (lnCell (T[i]'hi))[j]? := by
  induction T with
  | nil => intro i hi; simp at hi
  | cons x r ih =>
    intro i hi j hj
    have e : lnCells (x :: r) = lnCell x ++ lnCells r := by simp [lnCells]
    rw [e]
    cases i with
    | zero =>
      rw [List.getElem?_append_left (by simp [lnCell]; omega)]
      simp
    | succ i =>
      rw [List.getElem?_append_right (by simp [lnCell]; omega)]
      have : 4 * (i + 1) + j - (lnCell x).length = 4 * i + j := by simp [lnCell]; omega
      rw [this, ih i (by simpa using hi) j hj]
      simp

theorem LRow.cells {w : World} {g n c : Nat} {T : List LineV} (h : LRow w (.slice (some ⟨g, 0, none⟩) n c) T) (i : Nat) (hi : i < T.length) :
    w.cell? ⟨g, i * 4, none⟩ = some (.int .i64 ((T[i]'hi).1 : Int)) ∧ w.cell? ⟨g, i * 4 + 2, none⟩ = some (.int .i64 ((T[i]'hi).2.1.2 : Int)) ∧ w.cell? ⟨g, i * 4 + 3, none⟩ = some (slV (T[i]'hi).2.2) := by
  rcases h.2 with ⟨h1, _⟩ | ⟨g', cap, cur, h1, _, hh, r1, r2, r3, r4⟩
  · cases h1
  · simp only [Value.slice.injEq, Option.some.injEq, Addr.mk.injEq] at h1
    obtain ⟨⟨e1, -⟩, -, -⟩ := h1
    subst e1
    have key : ∀ j u, j < 4 → (lnCell (T[i]'hi))[j]? = some u → w.cell? ⟨g, i * 4 + j, none⟩ = some u := by
      intro j u hj hu
      have h2 := lnCells_at T i hi j hj
      rw [hu, ← r4, List.getElem?_take, Nat.mul_comm] at h2
      split at h2
      · exact cellOf hh _ (by simpa using h2)
      · simp at h2
    exact ⟨key 0 _ (by decide) rfl, key 2 _ (by decide) rfl, key 3 _ (by decide) rfl⟩

theorem speaks_sel : selN false (lns [97, 98, 10, 99]) (selAll (lns [97, 98, 10, 99]) [(1, 4)]) (lns [97, 98, 10, 99]).length = [(1, (0, 2), 1), (2, (3, 4), 0)] := by decide +kernel

set_option maxHeartbeats 800000 in
set_option maxRecDepth 100000 in
theorem speaks_any (w : World) : Calls Try.prog 7 #[] w fun e w' => e = .returned (.bool true) ∧ Mut [] w w' := by
  have HS := Lib.hid (select_any ⟨#[97, 98, 10, 99]⟩ (by decide) [(1, 4)] (by decide) (by decide) false _ _ (PRow.one w (1, 4)))
  have HM := Lib.hid ((Mut.refl [] w).alloc (.cells (spCell (1, 4)).toArray 31))
  go_enter Try.func7, Try.ntmps7
  go_wp2_with fail
  refine HS.out.mono ?_
  rintro e w1 ⟨u, R, rfl, hg, hR, hm⟩
  rw [show bytesOf ⟨#[97, 98, 10, 99]⟩ = [97, 98, 10, 99] from rfl, speaks_sel] at hR
  obtain ⟨r1, r2, rfl⟩ : ∃ r1 r2, R = [r1, r2] := by
    have hl := congrArg List.length hR
    rw [List.length_map] at hl
    obtain ⟨r1, R, rfl⟩ := List.exists_cons_of_length_eq_add_one hl
    obtain ⟨r2, R, rfl⟩ := List.exists_cons_of_length_eq_add_one (by simpa using hl : R.length = 0 + 1)
    have : R = [] := List.eq_nil_of_length_eq_zero (by simpa using hl)
    subst this
    exact ⟨r1, r2, rfl⟩
  obtain ⟨n1, ⟨a1, b1⟩, p1, l1, c1⟩ := r1
  obtain ⟨n2, ⟨a2, b2⟩, p2, l2, c2⟩ := r2
  simp only [List.map_cons, List.map_nil, lnStrip, List.cons.injEq, Prod.mk.injEq, and_true] at hR
  obtain ⟨⟨rfl, ⟨rfl, rfl⟩, rfl⟩, rfl, ⟨rfl, rfl⟩, rfl⟩ := hR
  obtain ⟨g, c, rfl, -, -⟩ := row_some hg.row (by simp)
  have k3 := (hg.row.cells 0 (by simp)).2.2
  have k6 := (hg.row.cells 1 (by simp)).2.1
  simp only [List.getElem_cons_zero, List.getElem_cons_succ, slV, Nat.zero_mul, Nat.zero_add, Nat.one_mul] at k3 k6
  have HMM := Lib.hid (HM.out.trans' hm)
  clear hg hm HS HM
  go_wp2_with fail
  refine bodyPost_ret (results_tmp rfl _ _ _) rfl ⟨rfl, HMM.out⟩

set_option maxHeartbeats 1600000 in
set_option maxRecDepth 100000 in
theorem lawLinesPlaces {w : World} (s : ByteArray) (wd : s.size ≤ maxLen) :
    Calls Try.prog 6 #[.string s] w fun e w' => e = .returned (.bool true) ∧ Below w.heap.size w w' := by
  go_enter Try.func6, Try.ntmps6
  go_wp2_with fail
  refine (speaks_any _).mono ?_
  rintro e w1 ⟨rfl, hm1⟩
  have HM1 := Lib.hid hm1
  clear hm1
  dsimp only
  by_cases hbig : 5000 < s.size
  · have hI : (5000 : Int) < (s.size : Int) := by omega
    go_wp2_with fail
    exact bodyPost_ret (results_tmp rfl _ _ _) rfl ⟨rfl, HM1.out.nil (by simp)⟩
  · have hI : ¬ (5000 : Int) < (s.size : Int) := by omega
    have HSP := Lib.hid (split_any s (by omega) w1)
    obtain ⟨D, hD⟩ : ∃ D, bytesOf s = D := ⟨_, rfl⟩
    have hDl : D.length = s.size := by rw [← hD, bytesOf_length]
    obtain ⟨L, hL⟩ : ∃ L, lns D = L := ⟨_, rfl⟩
    rw [hD, hL] at HSP
    have hLs : L.length ≤ s.size := by rw [← hL, ← hDl]; exact lns_len D
    have hsq : Sq 0 L := by rw [← hL]; exact lns_sq D
    have HC : Hid (∀ i, i < D.length → cnt L (i : Int) = 1 + (D.take i).count 10) := Lib.hid fun i hi => by
      have := splF_cnt D 0 0 i (Nat.le_refl _) (Nat.zero_le _) (by omega)
      rw [← hL]
      simpa [lns] using this
    have HCA : Hid (cnt L (s.size : Int) = L.length) := Lib.hid (by
      rw [← hL]
      exact splF_cnt_all D 0 0 (Nat.le_refl _) _ (by omega))
    have HCN : Hid (cnt L (-1) = 0) := Lib.hid (by
      unfold cnt
      rw [List.countP_eq_zero]
      intro x hx
      simp only [decide_eq_true_eq]
      omega)
    have HD := Lib.hid hD
    clear hD hL
    go_wp2_with fail
    refine HSP.out.mono ?_
    rintro e w2 ⟨v, rfl, hr, hf, hm2⟩
    obtain ⟨p, c, rfl⟩ := hr.form
    have HR := Lib.hid hr
    have HM2 := Lib.hid (HM1.out.trans' hm2)
    clear hr hf hm2 HM1 HSP
    have HAT : Hid (∀ (pl : Int) W, Mut [] w2 W → Calls Try.prog 10 #[.slice p L.length c, .int .i64 pl] W fun e w' => e = .returned (.int .i64 ((cnt L pl : Int) - 1)) ∧ Mut [] W w') :=
      Lib.hid fun pl W m => at_any L hsq (by omega) pl _ W (HR.out.mut m (by simp))
    have HW0 : Hid (Mut [] w2 w2) := Lib.hid (Mut.refl _ _)
    go_wp2_with fail
    go_loopw [4, 5] (fun a b wx => ∃ k : Nat, a = .int .i64 ((D.take k).count 10 : Nat) ∧ b = .int .i64 (k : Int) ∧ k ≤ s.size ∧ Hid (Mut [] w2 wx)) (fun a b _ => s.size - (intOf b).toNat)
    case atStart => exact ⟨0, by simp, rfl, Nat.zero_le _, HW0⟩
    case round =>
      obtain ⟨k, rfl, rfl, hk, HW⟩ := hrel
      clear HW0
      obtain ⟨n, hn⟩ : ∃ n, (D.take k).count 10 = n := ⟨_, rfl⟩
      have hnk : n ≤ k := by rw [← hn]; exact Nat.le_trans List.count_le_length (by rw [List.length_take]; omega)
      rw [hn]
      by_cases hlt : k < s.size
      case pos =>
        have hkI : (k : Int) < (s.size : Int) := by omega
        have hca := HAT.out (k : Int) _ HW.out
        rw [HC.out k (by omega), hn, show ((1 + n : Nat) : Int) - 1 = (n : Int) by omega] at hca
        have HCALL := Lib.hid hca
        have hb := byte10 (s[k]'hlt)
        have hkD : k < D.length := by omega
        have hbD : (s[k]'hlt).toNat = D[k]'hkD := by
          rw [bytesOf_get s k hlt]
          simp only [HD.out]
        have hnext : (D.take (k + 1)).count 10 = n + if D[k]'hkD = 10 then 1 else 0 := by
          rw [List.take_succ_eq_append_getElem hkD, List.count_append, hn]
          congr 1
          simp [List.count_cons]
        clear hca hn
        by_cases h10 : D[k]'hkD = 10
        case pos =>
          rw [if_pos h10] at hnext
          rw [hbD, decide_eq_true h10] at hb
          have hb2 : ((s[k]'hlt) == 10) = true := by
            rw [beq_iff_eq]
            exact UInt8.toNat_inj.1 (hbD.trans h10)
          have HN := Lib.hid hnext
          clear hnext h10
          go_wp2_with (refine HCALL.out.mono ?_; rintro e w3 ⟨rfl, hm3⟩; have HW3 := Lib.hid (HW.out.trans' hm3); clear hm3)
          exact ⟨⟨k + 1, by rw [HN.out, Int.natCast_add]; rfl, by rw [Int.natCast_add]; rfl, hlt, HW3⟩, by simp only [intOf]; omega⟩
        case neg =>
          rw [if_neg h10] at hnext
          rw [hbD, decide_eq_false h10] at hb
          have HN := Lib.hid hnext
          clear hnext h10
          go_wp2_with (refine HCALL.out.mono ?_; rintro e w3 ⟨rfl, hm3⟩; have HW3 := Lib.hid (HW.out.trans' hm3); clear hm3)
          exact ⟨⟨k + 1, by rw [HN.out]; rfl, by rw [Int.natCast_add]; rfl, hlt, HW3⟩, by simp only [intOf]; omega⟩
      case neg =>
        have hkI : ¬ (k : Int) < (s.size : Int) := by omega
        have hc1 := HAT.out (s.size : Int) _ HW.out
        rw [HCA.out] at hc1
        have HC1 := Lib.hid hc1
        clear hc1 hn
        go_wp2_with fail
        refine HC1.out.mono ?_
        rintro e w3 ⟨rfl, hm3⟩
        have hc2 := HAT.out (-1) _ (HW.out.trans' hm3)
        rw [HCN.out] at hc2
        have HC2 := Lib.hid hc2
        have HM3 := Lib.hid (HM2.out.trans' (HW.out.trans' hm3))
        clear hc2 hm3
        go_wp2_with fail
        refine HC2.out.mono ?_
        rintro e w4 ⟨rfl, hm4⟩
        have HM4 := Lib.hid (HM3.out.trans' hm4)
        clear hm4
        go_wp2_with fail
        exact bodyPost_ret (results_tmp rfl _ _ _) rfl ⟨rfl, HM4.out.nil (by simp)⟩

set_option maxHeartbeats 3200000 in
set_option maxRecDepth 100000 in
theorem lawLinesSplit {w : World} (s : ByteArray) (wd : s.size ≤ maxLen) (zd : s.size ≤ 1048576) (pl : Int) (wp : (Lit.int .i64 pl).wf = true) :
    Calls Try.prog 3 #[.string s, .int .i64 pl] w fun e w' => e = .returned (.bool true) ∧ Below w.heap.size w w' := by
  clear wd wp
  obtain ⟨D, hD⟩ : ∃ D, bytesOf s = D := ⟨_, rfl⟩
  have hDl : D.length = s.size := by rw [← hD, bytesOf_length]
  obtain ⟨L, hL⟩ : ∃ L, lns D = L := ⟨_, rfl⟩
  have HSP := Lib.hid fun w => split_any s (by omega) w
  have HSR := Lib.hid fun w => rsplit_any s (by omega) w
  rw [hD, hL] at HSP HSR
  have hLs : L.length ≤ s.size := by rw [← hL, ← hDl]; exact lns_len D
  have hsq : Sq 0 L := by rw [← hL]; exact lns_sq D
  have hen : en 0 L = s.size ∨ en 0 L = s.size + 1 := by
    have := splF_en D 0 0 (Nat.le_refl _)
    rw [← hL, ← hDl]
    simpa [lns] using this
  have HEND : Hid (∀ k (h : k < L.length), (L[k]'h).1 ≤ (L[k]'h).2 ∧ (L[k]'h).2 ≤ s.size) := Lib.hid fun k h => by
    have := splF_le D 0 0 (Nat.le_refl _) (L[k]'h) (by rw [show splF D 0 0 = L from hL]; exact List.getElem_mem h)
    rw [hDl] at this
    omega
  have HEN := Lib.hid hen
  have HSQ := Lib.hid hsq
  clear hD hL hen hDl hsq
  go_enter Try.func3, Try.ntmps3
  go_wp2_with fail
  refine (speaks_any _).mono ?_
  rintro e w1 ⟨rfl, hm1⟩
  have HM1 := Lib.hid hm1
  clear hm1
  dsimp only
  go_wp2_with fail
  refine (HSP.out _).mono ?_
  rintro e w2 ⟨v, rfl, hr, -, hm2⟩
  obtain ⟨p, c, rfl⟩ := hr.form
  have HR := Lib.hid hr
  have HM2 := Lib.hid (HM1.out.trans' hm2)
  clear hr hm2 HM1 HSP
  go_wp2_with fail
  refine (HSR.out _).mono ?_
  rintro e w3 ⟨v, rfl, hg⟩
  obtain ⟨p', c', rfl⟩ := hg.row.form
  have HR3 := Lib.hid (HR.out.mut hg.kept (by simp))
  have HQ3 := Lib.hid hg.row
  have HM3 := Lib.hid (HM2.out.trans' hg.kept)
  clear hg HR HM2 HSR
  have HA := Lib.hid (at_any L HSQ.out (by omega) pl _ w3 HR3.out)
  go_wp2_with fail
  refine HA.out.mono ?_
  rintro e w4 ⟨rfl, hm4⟩
  have HR4 := Lib.hid (HR3.out.mut hm4 (by simp))
  have HQ4 := Lib.hid (HQ3.out.mut hm4 (by simp))
  have HM4 := Lib.hid (HM3.out.trans' hm4)
  clear hm4 HR3 HQ3 HM3 HA
  have HB := Lib.hid (rat_any L HSQ.out (by omega) pl _ w4 HQ4.out)
  go_wp2_with fail
  refine HB.out.mono ?_
  rintro e w5 ⟨rfl, hw⟩
  have HR5 : Hid (PRow 31 w5 (.slice p L.length c) L) := Lib.hid (by rw [hw]; exact HR4.out)
  have HQ5 : Hid (PRow 30 w5 (.slice p' L.length c') L) := Lib.hid (by rw [hw]; exact HQ4.out)
  have HM5 : Hid (Mut [] w w5) := Lib.hid (by rw [hw]; exact HM4.out)
  clear hw HR4 HQ4 HM4 HB
  go_wp2_with fail
  go_loopw [7, 8] (fun a b wx => ∃ k o n : Nat, a = .int .i64 (o : Int) ∧ b = .int .i64 (k : Int) ∧ k ≤ L.length ∧ Hid (o = en 0 (L.take k)) ∧ wx = w5.drewN n) (fun a b _ => L.length - (intOf b).toNat)
  case atStart => exact ⟨0, 0, 0, rfl, rfl, Nat.zero_le _, Lib.hid rfl, rfl⟩
  case round =>
    obtain ⟨k, o, n, rfl, rfl, hk, HO, rfl⟩ := hrel
    by_cases hlt : k < L.length
    case pos =>
      have hkI : (k : Int) < (L.length : Int) := by omega
      obtain ⟨g, c1, hv, -, -⟩ := row_some HR5.out (by omega)
      simp only [Value.slice.injEq] at hv
      obtain ⟨rfl, -, rfl⟩ := hv
      obtain ⟨g', c1', hv', -, -⟩ := row_some HQ5.out (by omega)
      simp only [Value.slice.injEq] at hv'
      obtain ⟨rfl, -, rfl⟩ := hv'
      obtain ⟨x0, x1⟩ := HR5.out.cells k hlt
      obtain ⟨y0, y1⟩ := HQ5.out.cells k hlt
      rw [Nat.mul_comm] at x0 x1 y0 y1
      have hx := (sq_get L 0 k HSQ.out hlt).1
      rw [← HO.out] at hx
      have hnx := en_take L 0 k hlt
      have hbd := HEND.out k hlt
      rw [hx] at x0 y0
      obtain ⟨z, hz⟩ : ∃ z, (L[k]'hlt).2 = z := ⟨_, rfl⟩
      rw [hz] at x1 y1 hnx hbd
      have HN := Lib.hid hnx
      clear hx hz hnx
      have hob : z ≤ s.size := hbd.2
      clear hbd
      go_wp2_with fail
      go_quiet (fail)
      go_wp2_with fail
      exact ⟨⟨k + 1, z + 1, _, by rw [Int.natCast_add]; rfl, by rw [Int.natCast_add]; rfl, hlt, Lib.hid HN.out.symm, rfl⟩, by simp only [intOf]; omega⟩
    case neg =>
      have hkI : ¬ (k : Int) < (L.length : Int) := by omega
      have ho : o = en 0 L := by
        have := HO.out
        rw [List.take_of_length_le (by omega)] at this
        exact this
      have HFIN : Hid (Below w.heap.size w (w5.drewN n)) := Lib.hid ((HM5.out.drewN n).nil (by simp))
      rcases HEN.out with he | he
      · have hoI : ((o : Int) == (s.size : Int)) = true := by rw [beq_iff_eq, ho, he]
        clear ho he
        go_wp2_with fail
        exact bodyPost_ret (results_tmp rfl _ _ _) rfl ⟨rfl, HFIN.out⟩
      · have hoI : ((o : Int) == (s.size : Int)) = false := by rw [beq_eq_false_iff_ne, ho, he]; omega
        have hoJ : ((o : Int) == (s.size : Int) + 1) = true := by rw [beq_iff_eq, ho, he]; omega
        clear ho he
        go_wp2_with fail
        exact bodyPost_ret (results_tmp rfl _ _ _) rfl ⟨rfl, HFIN.out⟩

end Go.Proofs.Ythnljhcncpiemaa
