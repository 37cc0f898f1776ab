/- The laws of bits: BitsNil, BitsPeeks. -/
import Derived.Test.YtlcfegckjkemhaaBitsL1
import Derived.Test.YtlcfegckjkemhaaBitsR
namespace Go.Proofs.Ytlcfegckjkemhaa
open Go.RowKit

set_option maxHeartbeats 400000 in
theorem lawBitsNil (n : Int) (_ : (Lit.int .i64 n).wf = true) (w : World) :
    Calls Try.prog 7 #[.int .i64 n] w fun e w' => e = .returned (.bool true) ∧ Below w.heap.size w w' := by
  go_enter Try.func7, Try.ntmps7
  go_wp2_with fail
  refine (speaks_any _).mono ?_
  rintro e w1 ⟨rfl, hb1⟩
  have S1 := Lib.hid (Sofar.of_below hb1)
  clear hb1
  go_wp2_with (first | (go_at_call 19; refine (take_nil n _).mono ?_; rintro e w' ⟨rfl, rfl⟩) | (go_at_call 23; refine (rbytes_nil n _).mono ?_; rintro e w' ⟨rfl, rfl⟩) | (go_at_call 21; refine (peek_nil n _).mono ?_; rintro e w' ⟨rfl, rfl⟩) | (go_at_call 22; refine (taken_nil _).mono ?_; rintro e w' ⟨rfl, rfl⟩) | (go_at_call 20; refine (left_nil _).mono ?_; rintro e w' ⟨rfl, rfl⟩))
  go_ret
  exact ⟨rfl, S1.out.below⟩

theorem mask15 (n : Int) : ∃ k : Nat, k ≤ 15 ∧ bits .and .i64 n 15 = (k : Int) := by
  have h := and_mask_i64 n 4 (by decide) 15 (by decide)
  exact ⟨(n % 2 ^ 4).toNat, by omega, by rw [h]; omega⟩

theorem rd_open2 (s : ByteArray) (w : World) : RdIs ((w.alloc (.cells #[.string s, .int .i64 0] 57)).alloc (.cells #[.string s, .int .i64 0] 57)) w.heap.size s 0 ∧
    RdIs ((w.alloc (.cells #[.string s, .int .i64 0] 57)).alloc (.cells #[.string s, .int .i64 0] 57)) (w.heap.size + 1) s 0 := by
  refine ⟨(open_is s w).mut ((Mut.refl [] _).alloc _) (by simp), ?_⟩
  have := open_is s (w.alloc (.cells #[.string s, .int .i64 0] 57))
  rwa [World.size_alloc] at this

theorem peek_two0 (s : ByteArray) (n m : Nat) (h : n ≤ 8 * s.size) (hn : n + m ≤ 61) : (((peekNum s 0 (n + m) : Nat) : Int) == bits .or .i64 ((peekNum s 0 n : Nat) : Int) (wrap64 (((peekNum s n m : Nat) : Int) * 2 ^ n))) = true := by
  have := peek_two s 0 n m (by omega) hn
  rw [Nat.zero_add] at this
  rw [this]; simp

set_option maxHeartbeats 800000 in
theorem peeks_ok (s : ByteArray) (hs : s.size ≤ 140737488355328) (n m : Int) (N M : Nat) (hn : bits .and .i64 n 15 = (N : Int)) (hm : bits .and .i64 m 15 = (M : Int)) (hN : N ≤ 15) (hM : M ≤ 15) (hle : N + M ≤ 8 * s.size) (w : World) :
    Calls Try.prog 6 #[.string s, .int .i64 n, .int .i64 m] w fun e w' => e = .returned (.bool true) ∧ Below w.heap.size w w' := by
  have HZ := Lib.hid (peek_two0 s N M (by omega) (by omega))
  go_enter Try.func6, Try.ntmps6
  go_wp2_with fail
  refine (speaks_any _).mono ?_
  rintro e w1 ⟨rfl, hb1⟩
  have S1 := Lib.hid (Sofar.of_below hb1)
  clear hb1
  go_wp2_with fail
  refine (open_any s _).mono ?_
  rintro e w2 ⟨rfl, rfl⟩
  go_wp2_with fail
  refine (open_any s _).mono ?_
  rintro e w2 ⟨rfl, rfl⟩
  go_wp2_with fail
  obtain ⟨hA, hB⟩ := rd_open2 s w1
  have S2 := (S1.out.alloc (.cells #[.string s, .int .i64 0] 57)).alloc (.cells #[.string s, .int .i64 0] 57)
  have hAl := S1.out.size
  generalize (w1.alloc (.cells #[.string s, .int .i64 0] 57)).alloc (.cells #[.string s, .int .i64 0] 57) = W0 at *
  generalize w1.heap.size = A at *
  have HA := Lib.hid hA
  have HB := Lib.hid hB
  have SS := Lib.hid S2
  clear hA hB S2 S1
  refine (peek_at A s 0 (N + M) _ (N + M) _ HA.out hs (by omega) (by omega) (by omega) (by omega)).mono ?_
  rintro e w2 ⟨rfl, q, rfl⟩
  go_wp2_with fail
  refine (take_ok_at A s 0 N _ _ (HA.out.drewN q) hs rfl (by omega) (by omega)).mono ?_
  rintro e w3 ⟨rfl, h3, m3⟩
  rw [Nat.zero_add] at h3
  have HA3 := Lib.hid h3
  have HB3 := Lib.hid ((HB.out.drewN q).mut m3 (by simp))
  have S3 := Lib.hid ((SS.out.drewN q).step m3 (by simpa using hAl))
  clear h3 m3 HA HB SS
  go_wp2_with fail
  refine (take_ok_at A s N M _ _ HA3.out hs rfl (by omega) (by omega)).mono ?_
  rintro e w4 ⟨rfl, h4, m4⟩
  have HA4 := Lib.hid h4
  have HB4 := Lib.hid (HB3.out.mut m4 (by simp))
  have S4 := Lib.hid (S3.out.step m4 (by simpa using hAl))
  clear h4 m4 HA3 HB3 S3
  go_wp2_with fail
  refine (take_ok_at (A + 1) s 0 (N + M) _ _ HB4.out hs (by omega) (by omega) (by omega)).mono ?_
  rintro e w5 ⟨rfl, h5, m5⟩
  have HA5 := Lib.hid (HA4.out.mut m5 (by simp))
  rw [Nat.zero_add] at h5
  have HB5 := Lib.hid h5
  have S5 := Lib.hid (S4.out.step m5 (by simp; omega))
  clear h5 m5 HA4 HB4 S4
  have hz := HZ.out
  generalize peekNum s 0 (N + M) = z at *
  generalize peekNum s 0 N = x at *
  generalize peekNum s N M = y at *
  go_wp2_with fail
  refine (taken_any A s _ _ HA5.out).mono ?_
  rintro e w6 ⟨rfl, rfl⟩
  go_wp2_with fail
  refine (taken_any (A + 1) s _ _ HB5.out).mono ?_
  rintro e w6 ⟨rfl, rfl⟩
  go_wp2_with fail
  go_ret
  exact ⟨rfl, S5.out.below⟩

set_option maxHeartbeats 800000 in
theorem peeks_end1 (s : ByteArray) (hs : s.size ≤ 140737488355328) (n m : Int) (N M : Nat) (hn : bits .and .i64 n 15 = (N : Int)) (hm : bits .and .i64 m 15 = (M : Int)) (hN : N ≤ 15) (hM : M ≤ 15) (hle : 8 * s.size < N) (w : World) :
    Calls Try.prog 6 #[.string s, .int .i64 n, .int .i64 m] w fun e w' => e = .returned (.bool true) ∧ Below w.heap.size w w' := by
  go_enter Try.func6, Try.ntmps6
  go_wp2_with fail
  refine (speaks_any _).mono ?_
  rintro e w1 ⟨rfl, hb1⟩
  have S1 := Lib.hid (Sofar.of_below hb1)
  clear hb1
  go_wp2_with fail
  refine (open_any s _).mono ?_
  rintro e w2 ⟨rfl, rfl⟩
  go_wp2_with fail
  refine (open_any s _).mono ?_
  rintro e w2 ⟨rfl, rfl⟩
  go_wp2_with fail
  obtain ⟨hA, hB⟩ := rd_open2 s w1
  have S2 := (S1.out.alloc (.cells #[.string s, .int .i64 0] 57)).alloc (.cells #[.string s, .int .i64 0] 57)
  have hAl := S1.out.size
  generalize (w1.alloc (.cells #[.string s, .int .i64 0] 57)).alloc (.cells #[.string s, .int .i64 0] 57) = W0 at *
  generalize w1.heap.size = A at *
  have HA := Lib.hid hA
  have HB := Lib.hid hB
  have SS := Lib.hid S2
  clear hA hB S2 S1
  refine (peek_at A s 0 (N + M) _ (8 * s.size) _ HA.out hs (by omega) (by omega) (by omega) (by omega)).mono ?_
  rintro e w2 ⟨rfl, q, rfl⟩
  generalize peekNum s 0 (N + M) = z at *
  go_wp2_with fail
  refine (take_end_at A s 0 N _ _ (HA.out.drewN q) hs (by omega) rfl (by omega) (by omega)).mono ?_
  rintro e w3 ⟨rfl, q3, rfl⟩
  go_wp2_with fail
  by_cases hM2 : M ≤ 8 * s.size
  · refine (take_ok_at A s 0 M _ _ (by exact HA.out) hs rfl (by omega) (by omega)).mono ?_
    rintro e w4 ⟨rfl, h4, m4⟩
    have HB4 := Lib.hid (RdIs.mut (by exact HB.out) m4 (by simp))
    have S4 := Lib.hid ((SS.out.drewN _).step m4 (by simpa using hAl))
    clear h4 m4 HA HB SS
    generalize peekNum s 0 M = y at *
    go_wp2_with fail
    refine (take_end_at (A + 1) s 0 (N + M) _ _ HB4.out hs (by omega) (by omega) (by omega) (by omega)).mono ?_
    rintro e w5 ⟨rfl, q5, rfl⟩
    have hlt : 8 * (s.size : Int) < (N : Int) + (M : Int) := by omega
    go_wp2_with fail
    refine (taken_any (A + 1) s _ _ (by exact HB4.out)).mono ?_
    rintro e w6 ⟨rfl, rfl⟩
    go_wp2_with fail
    go_ret
    exact ⟨rfl, (S4.out.drewN _).below⟩
  · refine (take_end_at A s 0 M _ _ (by exact HA.out) hs (by omega) rfl (by omega) (by omega)).mono ?_
    rintro e w4 ⟨rfl, q4, rfl⟩
    go_wp2_with fail
    refine (take_end_at (A + 1) s 0 (N + M) _ _ (by exact HB.out) hs (by omega) (by omega) (by omega) (by omega)).mono ?_
    rintro e w5 ⟨rfl, q5, rfl⟩
    have hlt : 8 * (s.size : Int) < (N : Int) + (M : Int) := by omega
    go_wp2_with fail
    refine (taken_any (A + 1) s _ _ (by exact HB.out)).mono ?_
    rintro e w6 ⟨rfl, rfl⟩
    go_wp2_with fail
    go_ret
    exact ⟨rfl, (SS.out.drewN _).below⟩

set_option maxHeartbeats 800000 in
theorem peeks_end2 (s : ByteArray) (hs : s.size ≤ 140737488355328) (n m : Int) (N M : Nat) (hn : bits .and .i64 n 15 = (N : Int)) (hm : bits .and .i64 m 15 = (M : Int)) (hN : N ≤ 15) (hM : M ≤ 15) (hle : N ≤ 8 * s.size) (hle2 : 8 * s.size < N + M) (w : World) :
    Calls Try.prog 6 #[.string s, .int .i64 n, .int .i64 m] w fun e w' => e = .returned (.bool true) ∧ Below w.heap.size w w' := by
  go_enter Try.func6, Try.ntmps6
  go_wp2_with fail
  refine (speaks_any _).mono ?_
  rintro e w1 ⟨rfl, hb1⟩
  have S1 := Lib.hid (Sofar.of_below hb1)
  clear hb1
  go_wp2_with fail
  refine (open_any s _).mono ?_
  rintro e w2 ⟨rfl, rfl⟩
  go_wp2_with fail
  refine (open_any s _).mono ?_
  rintro e w2 ⟨rfl, rfl⟩
  go_wp2_with fail
  obtain ⟨hA, hB⟩ := rd_open2 s w1
  have S2 := (S1.out.alloc (.cells #[.string s, .int .i64 0] 57)).alloc (.cells #[.string s, .int .i64 0] 57)
  have hAl := S1.out.size
  generalize (w1.alloc (.cells #[.string s, .int .i64 0] 57)).alloc (.cells #[.string s, .int .i64 0] 57) = W0 at *
  generalize w1.heap.size = A at *
  have HA := Lib.hid hA
  have HB := Lib.hid hB
  have SS := Lib.hid S2
  clear hA hB S2 S1
  refine (peek_at A s 0 (N + M) _ (8 * s.size) _ HA.out hs (by omega) (by omega) (by omega) (by omega)).mono ?_
  rintro e w2 ⟨rfl, q, rfl⟩
  generalize peekNum s 0 (N + M) = z at *
  go_wp2_with fail
  refine (take_ok_at A s 0 N _ _ (HA.out.drewN q) hs rfl (by omega) (by omega)).mono ?_
  rintro e w3 ⟨rfl, h3, m3⟩
  rw [Nat.zero_add] at h3
  have HA3 := Lib.hid h3
  have HB3 := Lib.hid ((HB.out.drewN q).mut m3 (by simp))
  have S3 := Lib.hid ((SS.out.drewN q).step m3 (by simpa using hAl))
  clear h3 m3 HA HB SS
  generalize peekNum s 0 N = x at *
  go_wp2_with fail
  refine (take_end_at A s N M _ _ HA3.out hs hle rfl (by omega) (by omega)).mono ?_
  rintro e w4 ⟨rfl, q4, rfl⟩
  go_wp2_with fail
  refine (take_end_at (A + 1) s 0 (N + M) _ _ (by exact HB3.out) hs (by omega) (by omega) (by omega) (by omega)).mono ?_
  rintro e w5 ⟨rfl, q5, rfl⟩
  have hlt : 8 * (s.size : Int) < (N : Int) + (M : Int) := by omega
  go_wp2_with fail
  refine (taken_any (A + 1) s _ _ (by exact HB3.out)).mono ?_
  rintro e w6 ⟨rfl, rfl⟩
  go_wp2_with fail
  go_ret
  exact ⟨rfl, (S3.out.drewN _).below⟩

theorem lawBitsPeeks (s : ByteArray) (_ : s.size ≤ maxLen) (hs : s.size ≤ 140737488351232) (n : Int) (_ : (Lit.int .i64 n).wf = true) (m : Int) (_ : (Lit.int .i64 m).wf = true) (w : World) :
    Calls Try.prog 6 #[.string s, .int .i64 n, .int .i64 m] w fun e w' => e = .returned (.bool true) ∧ Below w.heap.size w w' := by
  obtain ⟨N, hN, hn⟩ := mask15 n
  obtain ⟨M, hM, hm⟩ := mask15 m
  by_cases h : N + M ≤ 8 * s.size
  · exact peeks_ok s (by omega) n m N M hn hm hN hM h w
  · by_cases h2 : N ≤ 8 * s.size
    · exact peeks_end2 s (by omega) n m N M hn hm hN hM h2 (by omega) w
    · exact peeks_end1 s (by omega) n m N M hn hm hN hM (by omega) w

end Go.Proofs.Ytlcfegckjkemhaa
