/- Walks over package ferretlaw03: speaks. -/
import Derived.Test.YtcdoamaljgjojaaInfWc
import Derived.Test.YtcdoamaljgjojaaInfS
namespace Go.Proofs.Ytcdoamaljgjojaa
open Go.RowKit
set_option linter.unusedVariables false

/-- what Unpack answers, when all is well -/
theorem unpRes_ok {k : Nat} {st : US} (h : st.er = 0) (n : Int) (hn : n = ((k + (st.t + 7) / 8 : Nat) : Int)) : unpRes k st = .tuple #[.string (strOf st.out), .int .i64 n, .agg #[.int .i64 0, .int .i64 0]] := by
  unfold unpRes
  rw [if_pos h, hn]
theorem unpRes_bad {k : Nat} {st : US} (h : st.er ≠ 0) : unpRes k st = .tuple #[.string ByteArray.empty, .int .i64 0, .agg #[.int .i64 (st.er : Int), .int .i64 ((k + st.t / 8 : Nat) : Int)]] := by
  unfold unpRes
  rw [if_neg h]

/-- Unpack, from the beginning -/
theorem unpack_0 (s : ByteArray) (m F : Nat) (w : World) (hs : s.size ≤ 140737488351232) (hm : m ≤ 1073741824) (hF : 8 * s.size < F) (mI : Int) (hmI : mI = (m : Int)) :
    Calls Try.prog 17 #[.string s, .int .i64 0, .int .i64 mI] w fun e w' => e = .returned (unpRes 0 (runU F s m)) ∧ Mut [] w w' :=
  unpack_any s s 0 m F w hs (Nat.zero_le _) (by simp) hm hF 0 mI rfl hmI

theorem ab_run : runU 100 ⟨#[1, 2, 0, 253, 255, 97, 98]⟩ 9 = ⟨56, [97, 98], 0⟩ :=
  run_stored 100 ⟨#[1, 2, 0, 253, 255, 97, 98]⟩ 9 [[97, 98]] (by decide) (by decide) (by decide) (by decide) (by decide)

set_option maxHeartbeats 800000 in
theorem speaks3_any (w : World) : Calls Try.prog 12 #[] w fun e w' => e = .returned (.bool true) ∧ Mut [] w w' := by
  have h := unpack_0 ⟨#[1, 2, 0, 253, 255, 97, 98]⟩ 9 100 w (by decide) (by decide) (by decide) 9 rfl
  rw [ab_run, unpRes_ok rfl 7 rfl] at h
  have hs : strOf [97, 98] = ⟨#[97, 98]⟩ := by decide
  simp only [hs] at h
  have H := Lib.hid h
  clear h hs
  go_enter Try.func12, Try.ntmps12
  go_wp2_with fail
  refine H.out.mono ?_
  rintro e w1 ⟨rfl, hm⟩
  have HM := Lib.hid hm
  clear hm
  go_wp2_with fail
  go_ret
  exact ⟨rfl, HM.out.alloc _⟩

end Go.Proofs.Ytcdoamaljgjojaa
