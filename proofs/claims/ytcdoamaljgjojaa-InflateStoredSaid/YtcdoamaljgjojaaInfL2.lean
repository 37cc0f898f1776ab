/- Walk over the law InflateMore. -/
import Derived.Test.YtcdoamaljgjojaaInfU
namespace Go.Proofs.Ytcdoamaljgjojaa
open Go.RowKit
set_option linter.unusedVariables false

theorem strOf_nil : strOf [] = ByteArray.empty := rfl
theorem strOf_ne {l : List Nat} (h : l ≠ []) : strOf l ≠ ByteArray.empty := fun e => by
  have := congrArg ByteArray.size e
  rw [strOf_size] at this
  exact h (List.eq_nil_of_length_eq_zero this)

theorem unpRes_form (k : Nat) (st : US) : ∃ x n a b, unpRes k st = .tuple #[.string x, .int .i64 n, .agg #[.int .i64 a, .int .i64 b]] := by
  by_cases h : st.er = 0
  · exact ⟨_, _, _, _, unpRes_ok h _ rfl⟩
  · exact ⟨_, _, _, _, unpRes_bad h⟩

set_option maxHeartbeats 3200000 in
set_option maxRecDepth 100000 in
theorem lawInflateMore {w : World} (data : ByteArray) (wd : data.size ≤ maxLen) (zd : data.size ≤ 1048576) (more : ByteArray) (wm : more.size ≤ maxLen) (zm : more.size ≤ 1048576) (ahead : ByteArray) (wa : ahead.size ≤ maxLen) (za : ahead.size ≤ 1048576) :
    Calls Try.prog 4 #[.string data, .string more, .string ahead] w fun e w' => e = .returned (.bool true) ∧ Below w.heap.size w w' := by
  clear wd wm wa
  obtain ⟨F, hF⟩ : ∃ F, 8 * (data.size + more.size) + 1 = F := ⟨_, rfl⟩
  have HS := Lib.hid (speaks3_any w)
  have H1 : Hid (∀ w, Calls Try.prog 17 #[.string data, .int .i64 0, .int .i64 1048576] w fun e w' => e = .returned (unpRes 0 (runU F data 1048576)) ∧ Mut [] w w') :=
    Lib.hid fun w => unpack_0 data 1048576 F w (by omega) (by decide) (by omega) 1048576 rfl
  have H2 : Hid (∀ w, Calls Try.prog 17 #[.string (ahead ++ data ++ more), .int .i64 (ahead.size : Int), .int .i64 1048576] w fun e w' => e = .returned (unpRes ahead.size (runU F (data ++ more) 1048576)) ∧ Mut [] w w') :=
    Lib.hid fun w => unpack_any (ahead ++ data ++ more) (data ++ more) ahead.size 1048576 F w (by simp; omega) (by simp only [ByteArray.size_append]; omega) (by
      apply bytesOf_inj
      rw [bytesOf_extract, bytesOf_append, bytesOf_append, bytesOf_append, List.take_of_length_le (by simp [bytesOf_length]; omega)]
      rw [List.append_assoc, List.drop_append_of_le_length (by rw [bytesOf_length]; omega), List.drop_of_length_le (by rw [bytesOf_length]; omega), List.nil_append]) (by decide) (by simp; omega) _ 1048576 rfl rfl
  have hin := run_inside F data 1048576
  have hmost := run_most F data 1048576
  have HMORE := Lib.hid (run_more F data (data ++ more) 1048576 (pre_append data more))
  have HBD : Hid (∀ k, k ≤ 1048576 → (runU F data 1048576).er = 0 → (runU F data 1048576).out.length ≤ k → runU F data k = runU F data 1048576) := Lib.hid fun k h1 h2 h3 => run_bound F data k 1048576 h1 h2 h3
  have HLS : Hid (∀ k, k < (runU F data 1048576).out.length → (runU F data k).er = 2) := Lib.hid fun k h => run_less F data k 1048576 h
  have HU : Hid (∀ (k : Nat) (K : Int) w, K = (k : Int) → k ≤ 1048576 → Calls Try.prog 17 #[.string data, .int .i64 0, .int .i64 K] w fun e w' => e = .returned (unpRes 0 (runU F data k)) ∧ Mut [] w w') :=
    Lib.hid fun k K w hK hk => unpack_0 data k F w (by omega) (by omega) (by omega) K hK
  generalize runU F data 1048576 = st at *
  generalize runU F (data ++ more) 1048576 = st' at *
  go_enter Try.func4, Try.ntmps4
  go_wp2_with fail
  refine HS.out.mono ?_
  rintro e w1 ⟨rfl, hm⟩
  have HM1 := Lib.hid hm
  clear hm HS
  go_wp2_with fail
  by_cases he : st.er = 0
  case neg =>
    have h1 := H1.out w1
    rw [unpRes_bad he] at h1
    have heI : ((st.er : Int) == 0) = false := by rw [beq_eq_false_iff_ne]; omega
    have heI' : ((st.er : Int) != 0) = true := by simp [bne, heI]
    refine h1.mono ?_
    rintro e w2 ⟨rfl, hm⟩
    have HM2 := Lib.hid (HM1.out.trans' hm)
    clear hm h1
    go_wp2_with fail
    have hfa := heap_alloc_new w2 (.cells #[.int .i64 (st.er : Int), .int .i64 ((st.t : Int) / 8)] 28)
    have hma : Mut [] w2 (w2.alloc (.cells #[.int .i64 (st.er : Int), .int .i64 ((st.t : Int) / 8)] 28)) := (Mut.refl [] w2).alloc _
    have HM3 := Lib.hid (HM2.out.trans' hma)
    clear hma
    generalize w2.alloc (.cells #[.int .i64 (st.er : Int), .int .i64 ((st.t : Int) / 8)] 28) = w3 at *
    generalize w2.heap.size = fa at *
    obtain ⟨x, n, a, b, hx⟩ := unpRes_form ahead.size st'
    have h2 := H2.out w3
    rw [hx] at h2
    refine h2.mono ?_
    rintro e w4 ⟨rfl, hm⟩
    have hfb := hm.get hfa (by simp)
    obtain ⟨c0, c1, -, -⟩ := cells2 (((Mut.refl [] w4).alloc (.cells #[.int .i64 a, .int .i64 b] 28)).get hfb (by simp))
    have HM4 := Lib.hid (HM3.out.trans' hm)
    clear hm h2 hfb hfa H1 H2 hx HM1 HM2 HM3
    go_wp2_with fail
    go_ret
    exact ⟨rfl, (HM4.out.alloc _).nil (by simp)⟩
  case pos =>
    have h1 := H1.out w1
    obtain ⟨n, hn⟩ : ∃ n, (st.t + 7) / 8 = n := ⟨_, rfl⟩
    rw [unpRes_ok he (n : Int) (by omega)] at h1
    have e2 := HMORE.out he
    refine h1.mono ?_
    rintro e w2 ⟨rfl, hm⟩
    have HM2 := Lib.hid (HM1.out.trans' hm)
    clear hm h1
    go_wp2_with fail
    have hfa := heap_alloc_new w2 (.cells #[.int .i64 0, .int .i64 0] 28)
    have hma : Mut [] w2 (w2.alloc (.cells #[.int .i64 0, .int .i64 0] 28)) := (Mut.refl [] w2).alloc _
    have HM3 := Lib.hid (HM2.out.trans' hma)
    clear hma
    generalize w2.alloc (.cells #[.int .i64 0, .int .i64 0] 28) = w3 at *
    generalize w2.heap.size = fa at *
    have h2 := H2.out w3
    rw [e2, unpRes_ok he ((ahead.size : Int) + (n : Int)) (by rw [hn]; omega)] at h2
    refine h2.mono ?_
    rintro e w4 ⟨rfl, hm⟩
    have hfb := ((Mut.refl [] w4).alloc (.cells #[.int .i64 0, .int .i64 0] 28)).get (hm.get hfa (by simp)) (by simp)
    have hfc := heap_alloc_new w4 (.cells #[.int .i64 0, .int .i64 0] 28)
    obtain ⟨c0, c1, -, -⟩ := cells2 hfb
    obtain ⟨d0, d1, -, -⟩ := cells2 hfc
    have HM5 := Lib.hid ((HM3.out.trans' hm).alloc (.cells #[.int .i64 0, .int .i64 0] 28))
    have hnI : (n : Int) ≤ (data.size : Int) := by omega
    have hss := str_eq (strOf st.out) (strOf st.out)
    rw [decide_eq_true rfl] at hss
    clear hm h2 hfa H1 H2 HM1 HM2 HM3 HMORE
    go_upto_region 7 with fail
    generalize w4.alloc (.cells #[.int .i64 0, .int .i64 0] 28) = w5 at *
    generalize w4.heap.size = fc at *
    have hsz : ((strOf st.out).size : Int) = (st.out.length : Int) := by rw [strOf_size]
    have h3 := HU.out st.out.length (st.out.length : Int) w5 rfl hmost
    rw [HBD.out _ hmost he (Nat.le_refl _), unpRes_ok he (n : Int) (by omega)] at h3
    have H3 := Lib.hid h3
    clear h3
    go_wp2_with fail
    refine H3.out.mono ?_
    rintro e w6 ⟨rfl, hm⟩
    have hma6 : Mut [] w5 (w6.alloc (.cells #[.int .i64 0, .int .i64 0] 28)) := hm.alloc _
    obtain ⟨p0, p1, -, -⟩ := cells2 (hma6.get hfb (by simp))
    have hfd := heap_alloc_new w6 (.cells #[.int .i64 0, .int .i64 0] 28)
    obtain ⟨r0, r1, k0, k1⟩ := cells2 hfd
    have HM6 := Lib.hid (HM5.out.trans' hma6)
    have HM5S := Lib.hid (HM5.out.trans' hm)
    clear hma6 hm hfb hfc c0 c1 d0 d1 H3 HM5 HU hin
    have HU2 : Hid (∀ k, st.out.length = k + 1 → ∀ w7, Calls Try.prog 17 #[.string data, .int .i64 0, .int .i64 (k : Int)] w7 fun e w' => ∃ a, e = .returned (.tuple #[.string ByteArray.empty, .int .i64 0, .agg #[.int .i64 2, .int .i64 a]]) ∧ Mut [] w7 w') :=
      Lib.hid fun k hk w7 => by
        have h2 := HLS.out k (by omega)
        have h := unpack_0 data k F w7 (by omega) (by omega) (by omega) k rfl
        rw [unpRes_bad (by rw [h2]; decide), h2] at h
        exact h.mono fun e w' ⟨q1, q2⟩ => ⟨_, q1, q2⟩
    have HFD : Hid (w.heap.size ≤ w6.heap.size) := Lib.hid (by have := HM6.out.size; have := HM5S.out.size; omega)
    go_upto_region 10 with fail
    generalize w6.alloc (.cells #[.int .i64 0, .int .i64 0] 28) = w7 at *
    generalize w6.heap.size = fd at *
    clear HLS HBD
    cases hout : st.out with
    | nil =>
      rw [hout] at hss hsz
      have hse' : (strOf []).toList.isEmpty = true := by rw [str_toList]; rfl
      clear HU2
      go_wp2_with fail
      go_ret
      exact ⟨rfl, HM6.out.nil (by simp)⟩
    | cons z r =>
      obtain ⟨k, hk⟩ : ∃ k, r.length = k := ⟨_, rfl⟩
      have hse' : (strOf st.out).toList.isEmpty = false := by
        rw [str_toList, hout]
        rfl
      rw [hout] at hse' hss hsz
      have hkI : ((z :: r).length : Int) - 1 = (k : Int) := by rw [List.length_cons]; omega
      have hkL : (z :: r).length = k + 1 := by rw [List.length_cons]; omega
      have H7 := Lib.hid (HU2.out k (by rw [hout, List.length_cons, hk]) w7)
      have hlm : (z :: r).length ≤ 1048576 := by rw [← hout]; exact hmost
      have HHO := Lib.hid (And.intro hout hk)
      clear HU2 hout hmost hk
      generalize (z :: r) = L at *
      go_wp2_with fail
      refine H7.out.mono ?_
      rintro e w8 ⟨a8, rfl, hm8⟩
      obtain ⟨r0, r1, k0, k1⟩ := cells2 (hm8.get hfd (by simp))
      have h2 := heap_set (heap_set (hm8.get hfd (by simp)) 0 (.int .i64 2)) 1 (.int .i64 a8)
      have hfin := cellOf h2 0 (x := .int .i64 2) rfl
      have HM9 : Hid (Below w.heap.size w ((w8.setCell ⟨fd, 0, none⟩ (.int .i64 2)).setCell ⟨fd, 1, none⟩ (.int .i64 a8))) := Lib.hid ((((HM6.out.trans' hm8).setCell (.inr HFD.out) _).setCell (.inr HFD.out) _).nil (by simp))
      clear hm8 hfd p0 p1 h2 H7 HM6
      go_wp2_with fail
      go_ret
      exact ⟨rfl, HM9.out⟩

end Go.Proofs.Ytcdoamaljgjojaa
