/- Walks over package ferretref07: Mark, Scalar, Bytes. -/
import Derived.Test.YtkoheodcledcfaaCodW5
namespace Go.Proofs.Ytkoheodcledcfaa
open Go.RowKit

theorem conv1 (w : World) (x : Nat) (X : Int) (hx : X = (x : Int)) : (convert 61 9 (.slice (some ⟨w.heap.size, 0, none⟩) 1 1)).run Try.prog (w.alloc (.cells #[.int .u8 X] 5)) = .ok (.string (strOf [x])) (w.alloc (.cells #[.int .u8 X] 5)) := by
  subst hx
  exact BRow.conv (L := [x]) ⟨rfl, .inr ⟨w.heap.size, 1, _, rfl, Nat.zero_le _, heap_alloc_new w _, Nat.le_refl _, by decide, rfl, rfl⟩⟩
theorem conv2 (w : World) (x y : Nat) (X Y : Int) (hx : X = (x : Int)) (hy : Y = (y : Int)) : (convert 61 9 (.slice (some ⟨w.heap.size, 0, none⟩) 2 2)).run Try.prog (w.alloc (.cells #[.int .u8 X, .int .u8 Y] 5)) = .ok (.string (strOf [x, y])) (w.alloc (.cells #[.int .u8 X, .int .u8 Y] 5)) := by
  subst hx hy
  exact BRow.conv (L := [x, y]) ⟨rfl, .inr ⟨w.heap.size, 2, _, rfl, Nat.zero_le _, heap_alloc_new w _, Nat.le_refl _, by decide, rfl, rfl⟩⟩
theorem conv3 (w : World) (x y z : Nat) (X Y Z : Int) (hx : X = (x : Int)) (hy : Y = (y : Int)) (hz : Z = (z : Int)) : (convert 61 9 (.slice (some ⟨w.heap.size, 0, none⟩) 3 3)).run Try.prog (w.alloc (.cells #[.int .u8 X, .int .u8 Y, .int .u8 Z] 5)) = .ok (.string (strOf [x, y, z])) (w.alloc (.cells #[.int .u8 X, .int .u8 Y, .int .u8 Z] 5)) := by
  subst hx hy hz
  exact BRow.conv (L := [x, y, z]) ⟨rfl, .inr ⟨w.heap.size, 3, _, rfl, Nat.zero_le _, heap_alloc_new w _, Nat.le_refl _, by decide, rfl, rfl⟩⟩
theorem conv4 (w : World) (x y z v : Nat) (X Y Z V : Int) (hx : X = (x : Int)) (hy : Y = (y : Int)) (hz : Z = (z : Int)) (hv : V = (v : Int)) : (convert 61 9 (.slice (some ⟨w.heap.size, 0, none⟩) 4 4)).run Try.prog (w.alloc (.cells #[.int .u8 X, .int .u8 Y, .int .u8 Z, .int .u8 V] 5)) = .ok (.string (strOf [x, y, z, v])) (w.alloc (.cells #[.int .u8 X, .int .u8 Y, .int .u8 Z, .int .u8 V] 5)) := by
  subst hx hy hz hv
  exact BRow.conv (L := [x, y, z, v]) ⟨rfl, .inr ⟨w.heap.size, 4, _, rfl, Nat.zero_le _, heap_alloc_new w _, Nat.le_refl _, by decide, rfl, rfl⟩⟩

set_option maxHeartbeats 800000 in
set_option maxRecDepth 1000000 in
theorem rmark_any (c : Nat) (hc : c ≤ 4) (w : World) : Calls Try.prog 14 #[.int .i64 (c : Int)] w fun e w' => e = .returned (.string (strOf (markB c))) ∧ Mut [] w w' := by
  have h1 := conv3 w 239 187 191 239 187 191 rfl rfl rfl
  have h2 := conv2 w 255 254 255 254 rfl rfl
  have h3 := conv2 w 254 255 254 255 rfl rfl
  rcases (show c = 0 ∨ c = 1 ∨ c = 2 ∨ c = 3 ∨ c = 4 by omega) with rfl | rfl | rfl | rfl | rfl
  · go_enter Try.func14, Try.ntmps14
    go_wp2_with fail
    exact bodyPost_ret (results_tmp rfl _ _ _) rfl ⟨rfl, Mut.refl _ _⟩
  · go_enter Try.func14, Try.ntmps14
    go_wp2_with fail
    exact bodyPost_ret (results_tmp rfl _ _ _) rfl ⟨rfl, (Mut.refl _ _).alloc _⟩
  · go_enter Try.func14, Try.ntmps14
    go_wp2_with fail
    exact bodyPost_ret (results_tmp rfl _ _ _) rfl ⟨rfl, (Mut.refl _ _).alloc _⟩
  · go_enter Try.func14, Try.ntmps14
    go_wp2_with fail
    exact bodyPost_ret (results_tmp rfl _ _ _) rfl ⟨rfl, (Mut.refl _ _).alloc _⟩
  · go_enter Try.func14, Try.ntmps14
    go_wp2_with fail
    exact bodyPost_ret (results_tmp rfl _ _ _) rfl ⟨rfl, Mut.refl _ _⟩

def isScalar (r : Int) : Bool := decide (0 ≤ r ∧ r ≤ 1114111 ∧ ¬ (55296 ≤ r ∧ r ≤ 57343))
theorem isScalar_t {r : Int} (h : 0 ≤ r ∧ r ≤ 1114111 ∧ ¬ (55296 ≤ r ∧ r ≤ 57343)) : isScalar r = true := by unfold isScalar; exact decide_eq_true h
theorem isScalar_f {r : Int} (h : ¬ (0 ≤ r ∧ r ≤ 1114111 ∧ ¬ (55296 ≤ r ∧ r ≤ 57343))) : isScalar r = false := by unfold isScalar; exact decide_eq_false h

set_option maxRecDepth 1000000 in
theorem rscalar_any (r : Int) (w : World) : Calls Try.prog 27 #[.int .i64 r] w fun e w' => e = .returned (.bool (isScalar r)) ∧ w = w' := by
  by_cases h1 : 0 ≤ r
  · by_cases h2 : r ≤ 1114111
    · by_cases h3 : r < 55296
      · rw [isScalar_t (by omega)]
        go_enter Try.func27, Try.ntmps27
        go_wp2_with fail
        exact bodyPost_ret (results_tmp rfl _ _ _) rfl ⟨rfl, rfl⟩
      · by_cases h4 : 57343 < r
        · rw [isScalar_t (by omega)]
          go_enter Try.func27, Try.ntmps27
          go_wp2_with fail
          exact bodyPost_ret (results_tmp rfl _ _ _) rfl ⟨rfl, rfl⟩
        · rw [isScalar_f (by omega)]
          go_enter Try.func27, Try.ntmps27
          go_wp2_with fail
          exact bodyPost_ret (results_tmp rfl _ _ _) rfl ⟨rfl, rfl⟩
    · rw [isScalar_f (by omega)]
      go_enter Try.func27, Try.ntmps27
      go_wp2_with fail
      exact bodyPost_ret (results_tmp rfl _ _ _) rfl ⟨rfl, rfl⟩
  · rw [isScalar_f (by omega)]
    go_enter Try.func27, Try.ntmps27
    go_wp2_with fail
    exact bodyPost_ret (results_tmp rfl _ _ _) rfl ⟨rfl, rfl⟩

set_option maxHeartbeats 800000 in
set_option maxRecDepth 1000000 in
theorem rbytes_latin (x : Nat) (hx : x ≤ 255) (w : World) : Calls Try.prog 28 #[.int .i64 (x : Int), .int .i64 4] w fun e w' => e = .returned (.string (strOf (enc1 x 4))) ∧ Mut [] w w' := by
  have e : enc1 x 4 = [x] := by
    unfold enc1
    rw [if_pos rfl]
  rw [e]
  have hcv := conv1 w x (x : Int) rfl
  go_enter Try.func28, Try.ntmps28
  go_wp2_with fail
  exact bodyPost_ret (results_tmp (t := 4) rfl _ _ _) rfl ⟨rfl, (Mut.refl _ _).alloc _⟩

set_option maxHeartbeats 800000 in
set_option maxRecDepth 1000000 in
theorem rbytes_u1 (x : Nat) (x1 : x < 128) (w : World) : Calls Try.prog 28 #[.int .i64 (x : Int), .int .i64 1] w fun e w' => e = .returned (.string (strOf (enc1 x 1))) ∧ Mut [] w w' := by
  have e : enc1 x 1 = [x] := by
    unfold enc1 enc8
    rw [if_neg (by decide), if_pos rfl, if_pos x1]
  rw [e]
  have hcv := conv1 w x (x : Int) rfl
  have y1 : (x : Int) < 128 := by omega
  go_enter Try.func28, Try.ntmps28
  go_wp2_with fail
  exact bodyPost_ret (results_tmp (t := 4) rfl _ _ _) rfl ⟨rfl, (Mut.refl _ _).alloc _⟩

set_option maxHeartbeats 800000 in
set_option maxRecDepth 1000000 in
theorem rbytes_u2 (x : Nat) (x1 : ¬ x < 128) (x2 : x < 2048) (w : World) : Calls Try.prog 28 #[.int .i64 (x : Int), .int .i64 1] w fun e w' => e = .returned (.string (strOf (enc1 x 1))) ∧ Mut [] w w' := by
  have e : enc1 x 1 = [192 + x / 64, 128 + x % 64] := by
    unfold enc1 enc8
    rw [if_neg (by decide), if_pos rfl, if_neg x1, if_pos x2]
  rw [e]
  have hcv := conv2 w (192 + x / 64) (128 + x % 64) (192 + (x : Int) / 64) (128 + (x : Int) % 64) (by omega) (by omega)
  have y1 : ¬ (x : Int) < 128 := by omega
  have y2 : (x : Int) < 2048 := by omega
  go_enter Try.func28, Try.ntmps28
  go_wp2_with fail
  exact bodyPost_ret (results_tmp (t := 4) rfl _ _ _) rfl ⟨rfl, (Mut.refl _ _).alloc _⟩

set_option maxHeartbeats 800000 in
set_option maxRecDepth 1000000 in
theorem rbytes_u3 (x : Nat) (x1 : ¬ x < 2048) (x2 : x < 65536) (w : World) : Calls Try.prog 28 #[.int .i64 (x : Int), .int .i64 1] w fun e w' => e = .returned (.string (strOf (enc1 x 1))) ∧ Mut [] w w' := by
  have e : enc1 x 1 = [224 + x / 4096, 128 + x / 64 % 64, 128 + x % 64] := by
    unfold enc1 enc8
    rw [if_neg (by decide), if_pos rfl, if_neg (by omega), if_neg x1, if_pos x2]
  rw [e]
  have hcv := conv3 w (224 + x / 4096) (128 + x / 64 % 64) (128 + x % 64) (224 + (x : Int) / 4096) (128 + (x : Int) / 64 % 64) (128 + (x : Int) % 64) (by omega) (by omega) (by omega)
  have y1 : ¬ (x : Int) < 128 := by omega
  have y2 : ¬ (x : Int) < 2048 := by omega
  have y3 : (x : Int) < 65536 := by omega
  go_enter Try.func28, Try.ntmps28
  go_wp2_with fail
  exact bodyPost_ret (results_tmp (t := 4) rfl _ _ _) rfl ⟨rfl, (Mut.refl _ _).alloc _⟩

set_option maxHeartbeats 800000 in
set_option maxRecDepth 1000000 in
theorem rbytes_u4 (x : Nat) (x1 : ¬ x < 65536) (x2 : x ≤ 1114111) (w : World) : Calls Try.prog 28 #[.int .i64 (x : Int), .int .i64 1] w fun e w' => e = .returned (.string (strOf (enc1 x 1))) ∧ Mut [] w w' := by
  have e : enc1 x 1 = [240 + x / 262144, 128 + x / 4096 % 64, 128 + x / 64 % 64, 128 + x % 64] := by
    unfold enc1 enc8
    rw [if_neg (by decide), if_pos rfl, if_neg (by omega), if_neg (by omega), if_neg x1]
  rw [e]
  have hcv := conv4 w (240 + x / 262144) (128 + x / 4096 % 64) (128 + x / 64 % 64) (128 + x % 64) (240 + (x : Int) / 262144) (128 + (x : Int) / 4096 % 64) (128 + (x : Int) / 64 % 64) (128 + (x : Int) % 64) (by omega) (by omega) (by omega) (by omega)
  have y1 : ¬ (x : Int) < 128 := by omega
  have y2 : ¬ (x : Int) < 2048 := by omega
  have y3 : ¬ (x : Int) < 65536 := by omega
  go_enter Try.func28, Try.ntmps28
  go_wp2_with fail
  exact bodyPost_ret (results_tmp (t := 4) rfl _ _ _) rfl ⟨rfl, (Mut.refl _ _).alloc _⟩

set_option maxHeartbeats 800000 in
set_option maxRecDepth 1000000 in
theorem rbytes_w2 (x : Nat) (x1 : x < 65536) (w : World) : Calls Try.prog 28 #[.int .i64 (x : Int), .int .i64 2] w fun e w' => e = .returned (.string (strOf (enc1 x 2))) ∧ Mut [] w w' := by
  have e : enc1 x 2 = [x % 256, x / 256] := by
    unfold enc1 enc16 u16b
    rw [if_neg (by decide), if_neg (by decide), if_pos x1]
    rfl
  rw [e]
  have hcv := conv2 w (x % 256) (x / 256) ((x : Int) % 256) ((x : Int) / 256) (by omega) (by omega)
  have y1 : ¬ 65535 < (x : Int) := by omega
  go_enter Try.func28, Try.ntmps28
  go_wp2_with fail
  exact bodyPost_ret (results_tmp (t := 4) rfl _ _ _) rfl ⟨rfl, (Mut.refl _ _).alloc _⟩

set_option maxHeartbeats 800000 in
set_option maxRecDepth 1000000 in
theorem rbytes_w3 (x : Nat) (x1 : x < 65536) (w : World) : Calls Try.prog 28 #[.int .i64 (x : Int), .int .i64 3] w fun e w' => e = .returned (.string (strOf (enc1 x 3))) ∧ Mut [] w w' := by
  have e : enc1 x 3 = [x / 256, x % 256] := by
    unfold enc1 enc16 u16b
    rw [if_neg (by decide), if_neg (by decide), if_pos x1]
    rfl
  rw [e]
  have hcv := conv2 w (x / 256) (x % 256) ((x : Int) / 256) ((x : Int) % 256) (by omega) (by omega)
  have y1 : ¬ 65535 < (x : Int) := by omega
  go_enter Try.func28, Try.ntmps28
  go_wp2_with fail
  exact bodyPost_ret (results_tmp (t := 4) rfl _ _ _) rfl ⟨rfl, (Mut.refl _ _).alloc _⟩

theorem rbytes_w (c : Nat) (hc : c = 2 ∨ c = 3) (x : Nat) (x1 : x < 65536) (w : World) : Calls Try.prog 28 #[.int .i64 (x : Int), .int .i64 (c : Int)] w fun e w' => e = .returned (.string (strOf (enc1 x c))) ∧ Mut [] w w' := by
  rcases hc with rfl | rfl
  · exact rbytes_w2 x x1 w
  · exact rbytes_w3 x x1 w

theorem enc1_w (c : Nat) (hc : c = 2 ∨ c = 3) (x : Nat) (x1 : x < 65536) : enc1 x c = u16b (c == 3) x := by
  unfold enc1 enc16
  rw [if_neg (by omega), if_neg (by omega), if_pos x1]

theorem strOf_app (a b : List Nat) : strOf a ++ strOf b = strOf (a ++ b) := by
  apply ByteArray.ext
  simp [strOf, ByteArray.data_append]

set_option maxHeartbeats 1600000 in
set_option maxRecDepth 1000000 in
theorem rbytes_ww (c : Nat) (hc : c = 2 ∨ c = 3) (x : Nat) (x1 : ¬ x < 65536) (x2 : x ≤ 1114111) (w : World) : Calls Try.prog 28 #[.int .i64 (x : Int), .int .i64 (c : Int)] w fun e w' => e = .returned (.string (strOf (enc1 x c))) ∧ Mut [] w w' := by
  have y3 : 65535 < (x : Int) := by omega
  have y4 : (x : Int) ≤ 1114111 := by omega
  have hz4 : ((c : Int) == 4) = false := by rw [beq_eq_false_iff_ne]; omega
  have hz1' : ((c : Int) == 1) = false := by rw [beq_eq_false_iff_ne]; omega
  have e : enc1 x c = enc1 (55296 + (x - 65536) / 1024) c ++ enc1 (56320 + (x - 65536) % 1024) c := by
    have e0 : enc1 x c = u16b (c == 3) (55296 + (x - 65536) / 1024) ++ u16b (c == 3) (56320 + (x - 65536) % 1024) := by
      unfold enc1 enc16
      rw [if_neg (by omega), if_neg (by omega), if_neg x1]
    rw [e0, enc1_w c hc _ (by omega), enc1_w c hc _ (by omega)]
  rw [e, ← strOf_app]
  have l1 : (strOf (enc1 (55296 + (x - 65536) / 1024) c)).size ≤ 4 := by rw [strOf_size]; exact enc1_len _ _
  have l2 : (strOf (enc1 (56320 + (x - 65536) % 1024) c)).size ≤ 4 := by rw [strOf_size]; exact enc1_len _ _
  have HA := Lib.hid (fun w => rbytes_w c hc (55296 + (x - 65536) / 1024) (by omega) w)
  have HB := Lib.hid (fun w => rbytes_w c hc (56320 + (x - 65536) % 1024) (by omega) w)
  have E1 : Hid (55296 + ((x : Int) - 65536) / 1024 = ((55296 + (x - 65536) / 1024 : Nat) : Int)) := Lib.hid (by omega)
  have E2 : Hid (56320 + ((x : Int) - 65536) % 1024 = ((56320 + (x - 65536) % 1024 : Nat) : Int)) := Lib.hid (by omega)
  generalize strOf (enc1 (55296 + (x - 65536) / 1024) c) = sA at *
  generalize strOf (enc1 (56320 + (x - 65536) % 1024) c) = sB at *
  have hcat : sA.size + sB.size ≤ 8 := by omega
  clear l1 l2 e
  go_enter Try.func28, Try.ntmps28
  go_wp2_with fail
  rw [E1.out]
  refine (HA.out w).mono ?_
  rintro e w1 ⟨rfl, m1⟩
  have M1 := Lib.hid m1
  clear m1
  go_wp2_with fail
  rw [E2.out]
  refine (HB.out w1).mono ?_
  rintro e w2 ⟨rfl, m2⟩
  have M2 := Lib.hid (M1.out.trans m2 (by simp))
  clear m2
  go_wp2_with fail
  exact bodyPost_ret (results_tmp (t := 4) rfl _ _ _) rfl ⟨rfl, M2.out⟩

theorem rbytes_any (c : Nat) (x : Nat) (hc : 1 ≤ c ∧ c ≤ 4) (hok : okRune x c) (w : World) : Calls Try.prog 28 #[.int .i64 (x : Int), .int .i64 (c : Int)] w fun e w' => e = .returned (.string (strOf (enc1 x c))) ∧ Mut [] w w' := by
  obtain ⟨o1, o2, o3, o4⟩ := hok
  rcases (show c = 4 ∨ c = 1 ∨ (c = 2 ∨ c = 3) by omega) with rfl | rfl | h
  · exact rbytes_latin x (by have := o4 rfl; omega) w
  · by_cases x1 : x < 128
    · exact rbytes_u1 x x1 w
    · by_cases x2 : x < 2048
      · exact rbytes_u2 x x1 x2 w
      · by_cases x3 : x < 65536
        · exact rbytes_u3 x x2 x3 w
        · exact rbytes_u4 x x3 (by omega) w
  · by_cases x3 : x < 65536
    · exact rbytes_w c h x x3 w
    · exact rbytes_ww c h x x3 (by omega) w

end Go.Proofs.Ytkoheodcledcfaa
