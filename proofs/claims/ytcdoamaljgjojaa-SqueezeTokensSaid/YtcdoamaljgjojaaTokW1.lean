/- Walk over package squeeze: alike. -/
import Derived.Test.YtcdoamaljgjojaaTokP
import Derived.Test.YtcdoamaljgjojaaBase
import Derived.Deep.DeepCutAuto
import Derived.Deep.LoopGhost
namespace Go.Proofs.Ytcdoamaljgjojaa
open Go.RowKit
set_option linter.unusedVariables false

theorem u8_eq (x y : UInt8) : ((x.toNat : Int) == (y.toNat : Int)) = decide (x.toNat = y.toNat) := by
  by_cases h : x.toNat = y.toNat
  · rw [decide_eq_true h, h]; simp
  · rw [decide_eq_false h, beq_eq_false_iff_ne]; omega

set_option maxHeartbeats 1600000 in
set_option maxRecDepth 100000 in
theorem alike_any (data : ByteArray) (D : List Nat) (hD : bytesOf data = D) (p te d : Nat) (hz : data.size ≤ 1073741824) (ht : te ≤ data.size) (hpz : p ≤ data.size) (hd1 : 1 ≤ d) (hd : d ≤ p) (w : World) :
    Calls Try.prog 29 #[.string data, .int .i64 (p : Int), .int .i64 (te : Int), .int .i64 (d : Int)] w fun e w' => e = .returned (.int .i64 (alk D p te d 258 : Nat)) ∧ ∃ n, w' = w.drewN n := by
  obtain ⟨res, hres⟩ : ∃ res, alk D p te d 258 = res := ⟨_, rfl⟩
  have HR := Lib.hid hres
  rw [hres]
  clear hres
  have HD := Lib.hid hD
  clear hD
  go_enter Try.func29, Try.ntmps29
  go_wp2_with fail
  go_loopw [9] (fun c wx => ∃ n m : Nat, c = .int .i64 (n : Int) ∧ n ≤ 258 ∧ Hid (alk D p te d n = n) ∧ wx = w.drewN m) (fun c _ => 258 - (intOf c).toNat)
  case atStart => exact ⟨0, 0, rfl, by omega, Lib.hid rfl, rfl⟩
  case round =>
    obtain ⟨n, m, rfl, hn, HN, rfl⟩ := hrel
    by_cases h1 : n < 258
    case neg =>
      have e : n = 258 := by omega
      have hI : decide ((n : Int) < 258) = false := decide_eq_false (by omega)
      have hr : (n : Int) = (res : Int) := by
        have h2 := HN.out
        have h3 := HR.out
        rw [e] at h2
        omega
      have HE := Lib.hid hr
      clear e hr
      go_wp2_with fail
      go_quiet (fail)
      go_wp2_with fail
      go_ret
      exact ⟨by rw [HE.out]; rfl, _, World.drewN_drewN _ _ _⟩
    case pos =>
      have h1I : (n : Int) < 258 := by omega
      by_cases h2 : p + n < te
      case neg =>
        have hI1 : decide ((n : Int) < 258) = true := decide_eq_true h1I
        obtain ⟨i, hi⟩ : ∃ i, p + n = i := ⟨_, rfl⟩
        have hiI : (p : Int) + (n : Int) = (i : Int) := by omega
        have hil : i ≤ 1073743000 := by omega
        have hI2 : decide ((i : Int) < (te : Int)) = false := decide_eq_false (by omega)
        have hI2n : decide (i < te) = false := decide_eq_false (by omega)
        have hr : (n : Int) = (res : Int) := by
          have h3 := HR.out
          have h4 := alk_stop D p te d n HN.out (fun h => h2 h.1) (258 - n)
          rw [show n + (258 - n) = 258 by omega] at h4
          omega
        have HE := Lib.hid hr
        clear hr h2 hi
        go_wp2_with fail
        go_quiet (fail)
        go_wp2_with fail
        go_ret
        exact ⟨by rw [HE.out]; rfl, _, World.drewN_drewN _ _ _⟩
      case pos =>
        obtain ⟨i, hi⟩ : ∃ i, p + n = i := ⟨_, rfl⟩
        obtain ⟨j, hj⟩ : ∃ j, p + n - d = j := ⟨_, rfl⟩
        have hI1 : decide ((n : Int) < 258) = true := decide_eq_true h1I
        have hI2 : decide ((i : Int) < (te : Int)) = true := decide_eq_true (by omega)
        have hI2n : decide (i < te) = true := decide_eq_true (by omega)
        have hiI : (p : Int) + (n : Int) = (i : Int) := by omega
        have hjI : (i : Int) - (d : Int) = (j : Int) := by omega
        have hil : i < data.size := by omega
        have hjl : j < data.size := by omega
        have hq := u8_eq (data[i]'hil) (data[j]'hjl)
        have hC : alkC D p te d n ↔ (data[i]'hil).toNat = (data[j]'hjl).toNat := by
          unfold alkC
          rw [hi, show i - d = j by omega, ← HD.out, bytesOf_getD data i hil, bytesOf_getD data j hjl]
          exact ⟨fun h => h.2, fun h => ⟨by omega, h⟩⟩
        have HC := Lib.hid hC
        by_cases hxy : (data[i]'hil).toNat = (data[j]'hjl).toNat
        case pos =>
          rw [decide_eq_true hxy] at hq
          have HN1 : Hid (alk D p te d (n + 1) = n + 1) := Lib.hid (by rw [alk, if_pos ⟨HN.out, hC.2 hxy⟩])
          clear hC hxy hi hj h2
          go_wp2_with fail
          go_quiet (fail)
          go_wp2_with fail
          exact ⟨⟨n + 1, _, by rw [Int.natCast_add]; rfl, by omega, HN1, rfl⟩, by simp only [intOf]; omega⟩
        case neg =>
          rw [decide_eq_false hxy] at hq
          have hq2 : ((data[i]'hil).toNat == (data[j]'hjl).toNat) = false := by rw [beq_eq_false_iff_ne]; exact hxy
          have hq3 : (data[i]'hil == data[j]'hjl) = false := by rw [beq_eq_false_iff_ne]; exact fun h => hxy (by rw [h])
          have hr : (n : Int) = (res : Int) := by
            have h3 := HR.out
            have h4 := alk_stop D p te d n HN.out (fun h => hxy (hC.1 h)) (258 - n)
            rw [show n + (258 - n) = 258 by omega] at h4
            omega
          have HE := Lib.hid hr
          clear hC hxy hi hj h2 hr
          go_wp2_with fail
          go_quiet (fail)
          go_wp2_with fail
          go_ret
          exact ⟨by rw [HE.out]; rfl, _, World.drewN_drewN _ _ _⟩

end Go.Proofs.Ytcdoamaljgjojaa
