/- Walk over the law InflateCut. -/
import Derived.Test.YtcdoamaljgjojaaInfL2
import Derived.Deep.DeepCutAuto
namespace Go.Proofs.Ytcdoamaljgjojaa
open Go.RowKit
set_option linter.unusedVariables false

theorem unpRes_zero {st : US} {x : ByteArray} {n a b : Int} (h : st.er = 0) (e : unpRes 0 st = .tuple #[.string x, .int .i64 n, .agg #[.int .i64 a, .int .i64 b]]) : x = strOf st.out ∧ n = ((0 + (st.t + 7) / 8 : Nat) : Int) ∧ a = 0 ∧ b = 0 := by
  rw [unpRes_ok h _ rfl] at e
  simp only [Value.tuple.injEq, Array.mk.injEq, List.cons.injEq, Value.string.injEq, Value.int.injEq, Value.agg.injEq, true_and, and_true] at e
  exact ⟨e.1.symm, e.2.1.symm, e.2.2.1.symm, e.2.2.2.symm⟩

theorem unpRes_nz {st : US} {x : ByteArray} {n a b : Int} (h : st.er ≠ 0) (e : unpRes 0 st = .tuple #[.string x, .int .i64 n, .agg #[.int .i64 a, .int .i64 b]]) : x = ByteArray.empty ∧ n = 0 ∧ a = (st.er : Int) ∧ b = ((0 + st.t / 8 : Nat) : Int) := by
  rw [unpRes_bad h] at e
  simp only [Value.tuple.injEq, Array.mk.injEq, List.cons.injEq, Value.string.injEq, Value.int.injEq, Value.agg.injEq, true_and, and_true] at e
  exact ⟨e.1.symm, e.2.1.symm, e.2.2.1.symm, e.2.2.2.symm⟩

set_option maxHeartbeats 3200000 in
set_option maxRecDepth 100000 in
theorem lawInflateCut {w : World} (data : ByteArray) (wd : data.size ≤ maxLen) (zd : data.size ≤ 1048576) (cut : Int) (wc : (Lit.int .i64 cut).wf = true) :
    Calls Try.prog 6 #[.string data, .int .i64 cut] w fun e w' => e = .returned (.bool true) ∧ Below w.heap.size w w' := by
  clear wd wc
  obtain ⟨F, hF⟩ : ∃ F, 8 * data.size + 1 = F := ⟨_, rfl⟩
  have HS := Lib.hid (speaks3_any w)
  have H1 : Hid (∀ w, Calls Try.prog 17 #[.string data, .int .i64 0, .int .i64 1048576] w fun e w' => e = .returned (unpRes 0 (runU F data 1048576)) ∧ Mut [] w w') :=
    Lib.hid fun w => unpack_0 data 1048576 F w (by omega) (by decide) (by omega) 1048576 rfl
  have H2 : Hid (∀ k, ∃ p, data.extract 0 k = p ∧ (runU F p 1048576 = runU F data 1048576 ∨ (runU F p 1048576).er = 3) ∧ ∀ w, Calls Try.prog 17 #[.string p, .int .i64 0, .int .i64 1048576] w fun e w' => e = .returned (unpRes 0 (runU F p 1048576)) ∧ Mut [] w w') :=
    Lib.hid fun k => ⟨_, rfl, run_cut F _ _ _ (pre_extract data k), fun w => unpack_0 _ 1048576 F w (by simp; omega) (by decide) (by simp; omega) 1048576 rfl⟩
  generalize runU F data 1048576 = st at *
  go_enter Try.func6, Try.ntmps6
  go_wp2_with fail
  refine HS.out.mono ?_
  rintro e w1 ⟨rfl, hm⟩
  have HM1 := Lib.hid hm
  clear hm HS
  go_upto_region 3 with fail
  go_cut [20] (fun q wx => wx = w1 ∧ q = .bool (decide (cut < 0 ∨ (data.size : Int) < cut)))
  case first =>
    by_cases h1 : cut < 0
    · go_wp2_with fail
      go_meet
      exact ⟨rfl, congrArg _ (decide_eq_true (by omega)).symm⟩
    · go_wp2_with fail
      go_meet
      exact ⟨rfl, congrArg _ (decide_eq_decide.2 (by omega))⟩
  case rest =>
    obtain ⟨rfl, rfl⟩ := hcut
    go_upto_if 20 with fail
    go_cut [1] (fun p wx => wx = wc ∧ ∃ c : Nat, p = .int .i64 (c : Int) ∧ (c ≤ data.size ∨ (c = 1 ∧ data.size = 0)))
    case first =>
      by_cases h : cut < 0 ∨ (data.size : Int) < cut
      · have hd : decide (cut < 0 ∨ (data.size : Int) < cut) = true := decide_eq_true h
        go_wp2_with fail
        go_meet
        exact ⟨rfl, 1, rfl, by omega⟩
      · have hd : decide (cut < 0 ∨ (data.size : Int) < cut) = false := decide_eq_false h
        go_wp2_with fail
        go_meet
        exact ⟨rfl, cut.toNat, by congr 1; omega, by omega⟩
    case rest =>
      obtain ⟨rfl, c, rfl, hc⟩ := hcut
      obtain ⟨x, n, a, b, hx⟩ := unpRes_form 0 st
      have HX := Lib.hid hx
      have h1 := H1.out wc
      rw [hx] at h1
      have H1' := Lib.hid h1
      clear h1 hx H1
      have H2B : (¬ data.size < c ∧ ∃ st2 : US, (st2 = st ∨ st2.er = 3) ∧ ∀ w, Calls Try.prog 17 #[.string (data.extract 0 (data.size - c)), .int .i64 0, .int .i64 1048576] w fun e w' => e = .returned (unpRes 0 st2) ∧ Mut [] w w') ∨
          (data.size < c ∧ ∃ st2 : US, (st2 = st ∨ st2.er = 3) ∧ ∀ w, Calls Try.prog 17 #[.string ByteArray.empty, .int .i64 0, .int .i64 1048576] w fun e w' => e = .returned (unpRes 0 st2) ∧ Mut [] w w') := by
        rcases hc with hc | ⟨rfl, hz⟩
        · obtain ⟨p, rfl, hor, h2⟩ := H2.out (data.size - c)
          exact .inl ⟨by omega, _, hor, h2⟩
        · obtain ⟨p, hp, hor, h2⟩ := H2.out 0
          have e : ByteArray.empty = p := by
            apply bytesOf_inj
            rw [← hp, bytesOf_extract]
            simp [bytesOf]
          subst e
          exact .inr ⟨by omega, _, hor, h2⟩
      clear H2 hc
      have fin : ∀ st2 : US, (st2 = st ∨ st2.er = 3) → True := fun _ _ => trivial
      rcases H2B with ⟨hcn, st2, hor, h2⟩ | ⟨hcn, st2, hor, h2⟩
      all_goals
        have HOR := Lib.hid hor
        have H2' := Lib.hid h2
        clear hor h2 fin
        go_wp2_with fail
        refine H1'.out.mono ?_
        rintro e w2 ⟨rfl, hm⟩
        have HM2 := Lib.hid (HM1.out.trans' hm)
        clear hm H1' HM1
        go_upto_region 6 with fail
        have hfa := heap_alloc_new w2 (.cells #[.int .i64 a, .int .i64 b] 28)
        have HM3 := Lib.hid (HM2.out.alloc (.cells #[.int .i64 a, .int .i64 b] 28))
        generalize w2.alloc (.cells #[.int .i64 a, .int .i64 b] 28) = w3 at *
        generalize w2.heap.size = fa at *
        go_wp2_with fail
        obtain ⟨x2, n2, a2, b2, hx2⟩ := unpRes_form 0 st2
        have HX2 := Lib.hid hx2
        have h2 := H2'.out w3
        rw [hx2] at h2
        refine h2.mono ?_
        rintro e w4 ⟨rfl, hm⟩
        have hfb := ((Mut.refl [] w4).alloc (.cells #[.int .i64 a2, .int .i64 b2] 28)).get (hm.get hfa (by simp)) (by simp)
        have hfc := heap_alloc_new w4 (.cells #[.int .i64 a2, .int .i64 b2] 28)
        obtain ⟨c0, c1, -, -⟩ := cells2 hfb
        obtain ⟨d0, d1, -, -⟩ := cells2 hfc
        have HM5 := Lib.hid ((HM3.out.trans' hm).alloc (.cells #[.int .i64 a2, .int .i64 b2] 28))
        clear hm h2 hfa hx2 H2' HM3 HM2 hfb hfc
        go_upto_region 7 with fail
        generalize w4.alloc (.cells #[.int .i64 a2, .int .i64 b2] 28) = w5 at *
        generalize w4.heap.size = fc at *
        by_cases he2 : st2.er = 0
        case pos =>
          have hst : st2 = st := by
            rcases HOR.out with h | h
            · exact h
            · rw [he2] at h; cases h
          obtain ⟨rfl, rfl, rfl, rfl⟩ := unpRes_zero he2 HX2.out
          have hxe := HX.out
          rw [← hst] at hxe
          obtain ⟨rfl, rfl, rfl, rfl⟩ := unpRes_zero he2 hxe
          have hss := str_eq (strOf st2.out) (strOf st2.out)
          rw [decide_eq_true rfl] at hss
          have HH := Lib.hid hst
          clear hst hxe
          go_wp2_with fail
          go_ret
          exact ⟨rfl, HM5.out.nil (by simp)⟩
        case neg =>
          obtain ⟨rfl, rfl, ha2, hb2⟩ := unpRes_nz he2 HX2.out
          have hz : ByteArray.empty.toList.isEmpty = true := by rw [str_toList]; rfl
          have q0 : (a2 == 0) = false := by rw [beq_eq_false_iff_ne]; omega
          have q0' : (a2 == (0 : Int) && b2 == (0 : Int)) = false := by rw [q0]; rfl
          by_cases h3 : st2.er = 3
          case pos =>
            have q3 : (a2 == 3) = true := by rw [ha2, h3]; rfl
            clear ha2 hb2 h3 he2
            go_wp2_with fail
            go_ret
            exact ⟨rfl, HM5.out.nil (by simp)⟩
          case neg =>
            have hst : st2 = st := by
              rcases HOR.out with h | h
              · exact h
              · exact absurd h h3
            have hxe := HX.out
            rw [← hst] at hxe
            obtain ⟨rfl, rfl, ha, hb⟩ := unpRes_nz he2 hxe
            have q3 : (a2 == 3) = false := by rw [beq_eq_false_iff_ne]; omega
            have e1 : a = a2 := by omega
            have e2 : b = b2 := by omega
            subst e1 e2
            have qa : (a == a) = true := by simp
            have qb : (b == b) = true := by simp
            clear ha hb ha2 hb2 hst hxe h3
            go_wp2_with fail
            go_ret
            exact ⟨rfl, HM5.out.nil (by simp)⟩

end Go.Proofs.Ytcdoamaljgjojaa
