/- Walks over package ferretlaw04: speaks, and the law SqueezePlain. -/
import Derived.Test.YtcdoamaljgjojaaGSza
namespace Go.Proofs.Ytcdoamaljgjojaa
open Go.RowKit
set_option linter.unusedVariables false

set_option maxRecDepth 100000 in
theorem speaks4_any (w : World) : Calls Try.prog 18 #[] w fun e w' => e = .returned (.bool true) ∧ Mut [] w w' := by
  have h := pack_nil ⟨#[97, 98]⟩ 1 (by decide) (by decide) w
  have e : strOf (blk (bytesOf ⟨#[97, 98]⟩) 1) = ⟨#[1, 2, 0, 253, 255, 97, 98]⟩ := by decide
  rw [e] at h
  have H := Lib.hid h
  clear h e
  go_enter Try.func18, Try.ntmps18
  go_wp2_with fail
  refine H.out.mono ?_
  rintro e w1 ⟨rfl, hm⟩
  have HM := Lib.hid hm
  clear hm
  go_wp2_with fail
  go_ret
  exact ⟨rfl, HM.out⟩

set_option maxHeartbeats 1600000 in
set_option maxRecDepth 100000 in
theorem lawSqueezePlain {w : World} (data : ByteArray) (wd : data.size ≤ maxLen) (zd : data.size ≤ 1048576) :
    Calls Try.prog 9 #[.string data] w fun e w' => e = .returned (.bool true) ∧ Below w.heap.size w w' := by
  obtain ⟨N, hN⟩ : ∃ N, max 1 ((data.size + 65534) / 65535) = N := ⟨_, rfl⟩
  have HS := Lib.hid (speaks4_any w)
  have HP := Lib.hid (fun w => pack_nil data N (by omega) hN.symm w)
  obtain ⟨s, hs⟩ : ∃ s, strOf (blk (bytesOf data) N) = s := ⟨_, rfl⟩
  rw [hs] at HP
  have hlen : s.size = 5 * N + data.size := by
    rw [← hs, strOf_size, blk_len, bytesOf_length]
    omega
  obtain ⟨M, hM⟩ : ∃ M, (data.size + 65534) / 65535 = M := ⟨_, rfl⟩
  have hMI : ((data.size : Int) + 65534).tdiv 65535 = (M : Int) := by rw [Int.tdiv_eq_ediv_of_nonneg (by omega)]; omega
  have hlI : (s.size : Int) = (data.size : Int) + 5 * (N : Int) := by omega
  have HTL : Hid (data.size ≤ 65535 → s.extract 5 s.size = data) := Lib.hid fun h => by
    have h1 : N = 1 := by omega
    apply bytesOf_inj
    rw [bytesOf_extract, ← hs, bytesOf_strOf _ (blk_lt _ (bytesOf_lt data) N), h1, List.take_of_length_le (by rw [strOf_size]; exact Nat.le_refl _)]
    show ((([] : List Nat) ++ storedOne _ (chunk (bytesOf data) 0))).drop 5 = _
    show chunk (bytesOf data) 0 = _
    unfold chunk
    rw [Nat.mul_zero, List.drop_zero, List.take_of_length_le (by rw [bytesOf_length]; exact h)]
  have HN := Lib.hid hN
  clear hN hs wd
  go_enter Try.func9, Try.ntmps9
  go_wp2_with fail
  refine HS.out.mono ?_
  rintro e w1 ⟨rfl, hm⟩
  have HM1 := Lib.hid hm
  clear hm HS
  go_wp2_with fail
  refine (HP.out w1).mono ?_
  rintro e w2 ⟨rfl, hm⟩
  have HM2 := Lib.hid (HM1.out.trans' hm)
  clear hm HP
  by_cases hbig : data.size ≤ 65535
  · have h1 := HN.out
    have hM1 : (M : Int) ≤ 1 := by omega
    have q : ((s.size : Int) == (data.size : Int) + 5) = true := by
      rw [hlI]
      have : N = 1 := by omega
      simp [this]
    have q2 : (5 : Int) ≤ (s.size : Int) := by omega
    have hbI : ¬ (65535 : Int) < (data.size : Int) := by omega
    have hx := HTL.out hbig
    have hss := str_eq data data
    rw [decide_eq_true rfl] at hss
    clear h1 hlen hlI hM hbig
    go_wp2_with fail
    go_ret
    exact ⟨rfl, HM2.out.nil (by simp)⟩
  · have h1 := HN.out
    have hM1 : (1 : Int) < (M : Int) := by omega
    have q : ((s.size : Int) == (data.size : Int) + 5 * (M : Int)) = true := by
      rw [hlI]
      have : N = M := by omega
      simp [this]
    have hbI : (65535 : Int) < (data.size : Int) := by omega
    have hMl : (M : Int) ≤ 1000 := by omega
    clear h1 hlen hlI hM hbig
    go_wp2_with fail
    go_ret
    exact ⟨rfl, HM2.out.nil (by simp)⟩

end Go.Proofs.Ytcdoamaljgjojaa
