/- Walks over package bits: the reader. Plain: one bit of a string. No program. -/
import Derived.Test.YtgjcnembeebjfaaBase
import Derived.Test.YtgjcnembeebjfaaGFb
import Derived.Deep.DeepCutAuto
import Derived.Deep.LoopGhost

namespace Go.Proofs.Ytgjcnembeebjfaa
open Go.RowKit

/-- A Reader at block b: its bytes, and how many bits were taken. -/
def RdIs (w : World) (b : Nat) (s : ByteArray) (t : Nat) : Prop := w.heap[b]? = some (.cells #[.string s, .int .i64 (t : Int)] 134 (0, 0))

theorem open_any (s : ByteArray) (w : World) : Calls Try.prog 48 #[.string s] w fun e w' => e = .returned (.pointer (some ⟨w.heap.size, 0, none⟩)) ∧ w' = w.alloc (.cells #[.string s, .int .i64 0] 134) := by
  go_enter Try.func48, Try.ntmps48
  go_wp2
  go_ret
  exact ⟨rfl, rfl⟩

theorem open_is (s : ByteArray) (w : World) : RdIs (w.alloc (.cells #[.string s, .int .i64 0] 134)) w.heap.size s 0 := heap_alloc_new w _

theorem left_any (b : Nat) (s : ByteArray) (t : Nat) (w : World) (h : RdIs w b s t) (hs : s.size ≤ 140737488355328) (ht : t ≤ 8 * s.size) :
    Calls Try.prog 114 #[.pointer (some ⟨b, 0, none⟩)] w fun e w' => e = .returned (.int .i64 (8 * s.size - t)) ∧ ∃ n, w' = w.drewN n := by
  obtain ⟨c0, c1, _, _⟩ := cells2 h
  clear h
  go_enter Try.func114, Try.ntmps114
  go_wp2
  go_quiet (fail)
  go_wp2
  go_ret
  exact ⟨rfl, _, rfl⟩

theorem peek_out (b : Nat) (n : Int) (w : World) (h : n < 0 ∨ 32 < n) :
    Calls Try.prog 107 #[.pointer (some ⟨b, 0, none⟩), .int .i64 n] w fun e w' => e = .returned (.tuple #[.int .i64 0, .int .i64 0]) ∧ w = w' := by
  rcases h with h | h
  · go_enter Try.func107, Try.ntmps107
    go_wp2
    go_ret2
    exact ⟨rfl, rfl⟩
  · have h2 : ¬ n < 0 := by omega
    go_enter Try.func107, Try.ntmps107
    go_wp2
    go_ret2
    exact ⟨rfl, rfl⟩

/-- the number of the next n bits -/
def peekNum (s : ByteArray) (t n : Nat) : Nat := num (((strBits s).drop t).take n)

/-- what Peek's loop holds after got bits -/
def PeekAt (s : ByteArray) (t d : Nat) (v a g : Value) (k : Nat) : Prop :=
  g = .int .i64 (k : Int) ∧ a = .int .i64 ((t + k : Nat) : Int) ∧ v = .int .i64 ((peekNum s t k : Nat) : Int) ∧ (k = 0 ∨ (t + k) % 8 = 0) ∧ k ≤ d + 7

theorem peek_byte (s : ByteArray) (a : Nat) (h : a < 8 * s.size) : num (((strBits s).drop a).take (8 - a % 8)) = (s[a / 8]'(by omega)).toNat / 2 ^ (a % 8) := by
  have hi : a / 8 < s.size := by omega
  have hi' : a / 8 < (bytesOf s).length := by rw [bytesOf_length]; exact hi
  have e1 : (strBits s).drop a = ((strBits s).drop (8 * (a / 8))).drop (a % 8) := by rw [List.drop_drop]; congr 1; omega
  have e2 : (bytesOf s)[a / 8] = (s[a / 8]'hi).toNat := by
    simp only [bytesOf, List.getElem_map, Array.getElem_toList]; rfl
  rw [e1, strBits, bytesBits_drop, List.drop_eq_getElem_cons hi', bytesBits, List.drop_append_of_le_length (by show a % 8 ≤ 8; omega), List.take_append_of_le_length (by rw [List.length_drop]; show 8 - a % 8 ≤ 8 - a % 8; omega),
    List.take_of_length_le (by rw [List.length_drop]; show 8 - a % 8 ≤ 8 - a % 8; omega), num_drop, num_bits8 _ (bytesOf_lt s _ (List.getElem_mem hi')), e2]

theorem peek_add (s : ByteArray) (t k m : Nat) (h : t + k ≤ 8 * s.size) : peekNum s t (k + m) = peekNum s t k + num (((strBits s).drop (t + k)).take m) * 2 ^ k := by
  unfold peekNum
  rw [List.take_add, num_append, List.drop_drop, List.length_take_of_le (by rw [List.length_drop, strBits_length]; omega)]

theorem peek_lt (s : ByteArray) (t k : Nat) : peekNum s t k < 2 ^ k :=
  Nat.lt_of_lt_of_le (num_lt _) (Nat.pow_le_pow_right (by decide) (List.length_take_le _ _))

theorem peek_step (s : ByteArray) (t k : Nat) (h : t + k < 8 * s.size) (hk : k < 32) :
    bits .or .i64 ((peekNum s t k : Nat) : Int) (wrap64 (wrap64 (((s[(t + k) / 8]'(by omega)).toNat : Int) / 2 ^ ((t + k) % 8)) * 2 ^ k)) = ((peekNum s t (k + (8 - (t + k) % 8)) : Nat) : Int) := by
  rw [peek_add s t k _ (by omega), peek_byte s (t + k) h]
  have hb := (s[(t + k) / 8]'(by omega)).toNat_lt
  generalize (s[(t + k) / 8]'(by omega)).toNat = B at *
  have h1 : B / 2 ^ ((t + k) % 8) ≤ B := Nat.div_le_self _ _
  have e1 : ((B : Int) / 2 ^ ((t + k) % 8)) = ((B / 2 ^ ((t + k) % 8) : Nat) : Int) := by simp
  rw [e1]
  generalize B / 2 ^ ((t + k) % 8) = C at *
  have hp : (2 : Nat) ^ k ≤ 2 ^ 31 := Nat.pow_le_pow_right (by decide) (by omega)
  have hm : C * 2 ^ k ≤ 255 * 2 ^ 31 := Nat.mul_le_mul (by omega) hp
  have e2 : wrap64 (C : Int) = C := IntWalk.wrap64_in _ (by omega)
  have e3 : ((C : Int) * 2 ^ k) = ((C * 2 ^ k : Nat) : Int) := by simp
  rw [e2, e3, IntWalk.wrap64_in _ (by omega)]
  have := peek_lt s t k
  exact or_i64_join k _ C this (by omega)

theorem peek_mask (s : ByteArray) (t k d : Nat) (h : d ≤ k) : ((peekNum s t k : Nat) : Int) % 2 ^ d = ((peekNum s t d : Nat) : Int) := by
  have e : peekNum s t d = peekNum s t k % 2 ^ d := by
    unfold peekNum
    rw [← num_take, List.take_take, Nat.min_eq_left h]
  rw [e]; simp

theorem peek_end (s : ByteArray) (t n d : Nat) (h : d = min n (8 * s.size - t)) : peekNum s t d = peekNum s t n := by
  unfold peekNum
  by_cases hn : n ≤ 8 * s.size - t
  · rw [h, Nat.min_eq_left hn]
  · rw [h, Nat.min_eq_right (by omega), List.take_of_length_le (by rw [List.length_drop, strBits_length]; omega), List.take_of_length_le (by rw [List.length_drop, strBits_length]; omega)]

set_option maxHeartbeats 800000 in
theorem peek_any (b : Nat) (s : ByteArray) (t n : Nat) (w : World) (h : RdIs w b s t) (hs : s.size ≤ 140737488355328) (ht : t ≤ 8 * s.size) (hn : n ≤ 32) :
    Calls Try.prog 107 #[.pointer (some ⟨b, 0, none⟩), .int .i64 (n : Int)] w fun e w' => e = .returned (.tuple #[.int .i64 (peekNum s t n : Nat), .int .i64 ((min n (8 * s.size - t) : Nat) : Int)]) ∧ ∃ n, w' = w.drewN n := by
  obtain ⟨c0, c1, _, _⟩ := cells2 h
  have H := Lib.hid h
  clear h
  have h1 : ¬ (n : Int) < 0 := by omega
  have h2 : ¬ 32 < (n : Int) := by omega
  go_enter Try.func107, Try.ntmps107
  go_upto_region 4 with (go_at_call 114; refine (left_any b s t _ H.out hs ht).mono ?_; rintro e w' ⟨rfl, nq, rfl⟩)
  go_cut [6, 7] (fun s6 s7 wx => s7 = .int .i64 0 ∧ s6 = .int .i64 ((min n (8 * s.size - t) : Nat) : Int) ∧ ∃ nq, wx = w.drewN nq)
  case first =>
    go_wp2_with (go_at_call 114; refine (left_any b s t _ H.out hs ht).mono ?_; rintro e w' ⟨rfl, nq, rfl⟩)
    all_goals (go_meet; exact ⟨rfl, by congr 1; omega, _, rfl⟩)
  case rest =>
    obtain ⟨rfl, rfl, nq, rfl⟩ := hcut
    obtain ⟨d, hd⟩ : ∃ d, d = min n (8 * s.size - t) := ⟨_, rfl⟩
    rw [← hd]
    have hd1 : t + d ≤ 8 * s.size := by omega
    have hd2 : d ≤ 32 := by omega
    have HD := Lib.hid hd
    clear hd
    go_wp2
    go_loop [7, 8, 9] (fun v a g => ∃ k, PeekAt s t d v a g k) (fun _ _ g => d - (intOf g).toNat)
    case atStart => exact ⟨0, rfl, rfl, rfl, .inl rfl, by omega⟩
    case round =>
      obtain ⟨k, rfl, rfl, rfl, hk, hk2⟩ := hrel
      have HK := Lib.hid hk
      clear hk
      by_cases hlt : k < d
      · have HS := Lib.hid (peek_step s t k (by omega) (by omega))
        go_wp2
        refine ⟨⟨k + (8 - (t + k) % 8), ?_, ?_, ?_, .inr (by omega), by omega⟩, ?_⟩
        · congr 1; omega
        · congr 1; omega
        · rw [HS.out]
        · simp only [intOf]; omega
      · have HS := Lib.hid (peek_mask s t k d (by omega))
        go_wp2
        go_ret2
        refine ⟨?_, nq, rfl⟩
        show Ending.returned (.tuple #[.int .i64 (bits .and .i64 ((peekNum s t k : Nat) : Int) (wrap64 (wrap64 (2 ^ d) - 1))), .int .i64 (d : Int)]) = _
        rw [and_mask_i64 _ d (by omega) _ (mask_i64 d (by omega)), HS.out, peek_end s t n d HD.out, HD.out]

theorem taken_any (b : Nat) (s : ByteArray) (t : Nat) (w : World) (h : RdIs w b s t) :
    Calls Try.prog 50 #[.pointer (some ⟨b, 0, none⟩)] w fun e w' => e = .returned (.int .i64 (t : Int)) ∧ w = w' := by
  obtain ⟨_, c1, _, _⟩ := cells2 h
  clear h
  go_enter Try.func50, Try.ntmps50
  go_wp2
  go_ret
  exact ⟨rfl, rfl⟩

theorem take_out (b : Nat) (n : Int) (w : World) (h : n < 0 ∨ 32 < n) :
    Calls Try.prog 88 #[.pointer (some ⟨b, 0, none⟩), .int .i64 n] w fun e w' => e = .returned (.tuple #[.int .i64 0, .int .i64 1]) ∧ w = w' := by
  rcases h with h | h
  · go_enter Try.func88, Try.ntmps88
    go_wp2
    go_ret2
    exact ⟨rfl, rfl⟩
  · have h2 : ¬ n < 0 := by omega
    go_enter Try.func88, Try.ntmps88
    go_wp2
    go_ret2
    exact ⟨rfl, rfl⟩

theorem take_end (b : Nat) (s : ByteArray) (t n : Nat) (w : World) (h : RdIs w b s t) (hs : s.size ≤ 140737488355328) (ht : t ≤ 8 * s.size) (hn : n ≤ 32) (hend : 8 * s.size < t + n) :
    Calls Try.prog 88 #[.pointer (some ⟨b, 0, none⟩), .int .i64 (n : Int)] w fun e w' => e = .returned (.tuple #[.int .i64 0, .int .i64 3]) ∧ ∃ n, w' = w.drewN n := by
  have H := Lib.hid h
  clear h
  have h1 : ¬ (n : Int) < 0 := by omega
  have h2 : ¬ 32 < (n : Int) := by omega
  have h3 : ((min n (8 * s.size - t) : Nat) : Int) < (n : Int) := by omega
  go_enter Try.func88, Try.ntmps88
  go_wp2_with (go_at_call 107; refine (peek_any b s t n _ H.out hs ht hn).mono ?_; rintro e w' ⟨rfl, nq, rfl⟩)
  go_ret2
  exact ⟨rfl, _, rfl⟩

theorem take_ok (b : Nat) (s : ByteArray) (t n : Nat) (w : World) (h : RdIs w b s t) (hs : s.size ≤ 140737488355328) (hn : n ≤ 32) (hend : t + n ≤ 8 * s.size) :
    Calls Try.prog 88 #[.pointer (some ⟨b, 0, none⟩), .int .i64 (n : Int)] w fun e w' => e = .returned (.tuple #[.int .i64 (peekNum s t n : Nat), .int .i64 0]) ∧ RdIs w' b s (t + n) ∧ Mut [b] w w' := by
  obtain ⟨_, c1, _, f1⟩ := cells2 h
  have H := Lib.hid h
  have HE : Hid (∀ nq, RdIs ((w.drewN nq).setCell ⟨b, 1, none⟩ (.int .i64 ((t : Int) + (n : Int)))) b s (t + n) ∧ Mut [b] w ((w.drewN nq).setCell ⟨b, 1, none⟩ (.int .i64 ((t : Int) + (n : Int))))) :=
    Lib.hid fun nq => ⟨by
      have := heap_set (w := w.drewN nq) h 1 (.int .i64 ((t : Int) + (n : Int)))
      unfold RdIs
      rw [this, Int.natCast_add]; simp, ((Mut.refl _ _).drewN nq).setCell (by simp) _⟩
  clear h
  have h1 : ¬ (n : Int) < 0 := by omega
  have h2 : ¬ 32 < (n : Int) := by omega
  have h3 : ¬ ((min n (8 * s.size - t) : Nat) : Int) < (n : Int) := by omega
  go_enter Try.func88, Try.ntmps88
  go_wp2_with (go_at_call 107; refine (peek_any b s t n _ H.out hs (by omega) hn).mono ?_; rintro e w' ⟨rfl, nq, rfl⟩)
  go_ret2
  exact ⟨rfl, HE.out nq⟩

theorem rbytes_neg (b : Nat) (n : Int) (w : World) (h : n < 0) :
    Calls Try.prog 89 #[.pointer (some ⟨b, 0, none⟩), .int .i64 n] w fun e w' => e = .returned (.tuple #[.string ByteArray.empty, .int .i64 1]) ∧ w = w' := by
  go_enter Try.func89, Try.ntmps89
  go_wp2
  go_ret2
  exact ⟨rfl, rfl⟩

theorem rbytes_end (b : Nat) (s : ByteArray) (t : Nat) (n : Int) (w : World) (h : RdIs w b s t) (hs : s.size ≤ 140737488355328) (ht : t ≤ 8 * s.size) (hn : 0 ≤ n) (hend : (s.size : Int) - ((t : Int) + 7) / 8 < n) :
    Calls Try.prog 89 #[.pointer (some ⟨b, 0, none⟩), .int .i64 n] w fun e w' => e = .returned (.tuple #[.string ByteArray.empty, .int .i64 3]) ∧ w = w' := by
  obtain ⟨c0, c1, _, f1⟩ := cells2 h
  clear h
  have h1 : ¬ n < 0 := by omega
  go_enter Try.func89, Try.ntmps89
  go_wp2
  go_ret2
  exact ⟨rfl, rfl⟩

theorem rbytes_ok (b : Nat) (s : ByteArray) (t n : Nat) (w : World) (h : RdIs w b s t) (hs : s.size ≤ 140737488355328) (hend : (t + 7) / 8 + n ≤ s.size) :
    Calls Try.prog 89 #[.pointer (some ⟨b, 0, none⟩), .int .i64 (n : Int)] w fun e w' => e = .returned (.tuple #[.string (s.extract ((t + 7) / 8) ((t + 7) / 8 + n)), .int .i64 0]) ∧ RdIs w' b s (8 * ((t + 7) / 8 + n)) ∧ Mut [b] w w' := by
  obtain ⟨c0, c1, _, f1⟩ := cells2 h
  have HE : Hid (RdIs (w.setCell ⟨b, 1, none⟩ (.int .i64 (8 * (((t : Int) + 7) / 8 + (n : Int))))) b s (8 * ((t + 7) / 8 + n)) ∧ Mut [b] w (w.setCell ⟨b, 1, none⟩ (.int .i64 (8 * (((t : Int) + 7) / 8 + (n : Int)))))) :=
    Lib.hid ⟨by
      have := heap_set h 1 (.int .i64 (8 * (((t : Int) + 7) / 8 + (n : Int))))
      unfold RdIs
      rw [this, show ((8 * ((t + 7) / 8 + n) : Nat) : Int) = 8 * (((t : Int) + 7) / 8 + (n : Int)) by omega]; simp, (Mut.refl _ _).setCell (by simp) _⟩
  clear h
  have h1 : ¬ (n : Int) < 0 := by omega
  have h3 : ¬ (s.size : Int) - ((t : Int) + 7) / 8 < (n : Int) := by omega
  have hsl := fun W => sub_str (P := Try.prog) Try.underlying9 W s .i64 .i64 (((t : Int) + 7) / 8) (((t : Int) + 7) / 8 + (n : Int)) ((t + 7) / 8) ((t + 7) / 8 + n) (by omega) (by omega) (by omega) hend
  go_enter Try.func89, Try.ntmps89
  go_wp2
  go_ret2
  exact ⟨rfl, HE.out⟩

theorem left_nil (w : World) : Calls Try.prog 114 #[.pointer none] w fun e w' => e = .returned (.int .i64 0) ∧ w = w' := by
  go_enter Try.func114, Try.ntmps114
  go_wp2
  go_ret
  exact ⟨rfl, rfl⟩

theorem taken_nil (w : World) : Calls Try.prog 50 #[.pointer none] w fun e w' => e = .returned (.int .i64 0) ∧ w = w' := by
  go_enter Try.func50, Try.ntmps50
  go_wp2
  go_ret
  exact ⟨rfl, rfl⟩

theorem peek_nil (n : Int) (w : World) : Calls Try.prog 107 #[.pointer none, .int .i64 n] w fun e w' => e = .returned (.tuple #[.int .i64 0, .int .i64 0]) ∧ w = w' := by
  go_enter Try.func107, Try.ntmps107
  go_wp2
  go_ret2
  exact ⟨rfl, rfl⟩

theorem take_nil (n : Int) (w : World) : Calls Try.prog 88 #[.pointer none, .int .i64 n] w fun e w' => e = .returned (.tuple #[.int .i64 0, .int .i64 1]) ∧ w = w' := by
  go_enter Try.func88, Try.ntmps88
  go_wp2
  go_ret2
  exact ⟨rfl, rfl⟩

theorem rbytes_nil (n : Int) (w : World) : Calls Try.prog 89 #[.pointer none, .int .i64 n] w fun e w' => e = .returned (.tuple #[.string ByteArray.empty, .int .i64 1]) ∧ w = w' := by
  go_enter Try.func89, Try.ntmps89
  go_wp2
  go_ret2
  exact ⟨rfl, rfl⟩

/-! the same, for numbers as callers spell them -/
theorem peek_at (b : Nat) (s : ByteArray) (t n : Nat) (m : Int) (th : Nat) (w : World) (h : RdIs w b s t) (hs : s.size ≤ 140737488355328) (ht : t ≤ 8 * s.size) (hm : m = (n : Int)) (hn : n ≤ 32) (hth : min n (8 * s.size - t) = th) :
    Calls Try.prog 107 #[.pointer (some ⟨b, 0, none⟩), .int .i64 m] w fun e w' => e = .returned (.tuple #[.int .i64 (peekNum s t n : Nat), .int .i64 (th : Int)]) ∧ ∃ n, w' = w.drewN n := by
  subst hm hth
  exact peek_any b s t n w h hs ht hn
theorem take_ok_at (b : Nat) (s : ByteArray) (t n : Nat) (m : Int) (w : World) (h : RdIs w b s t) (hs : s.size ≤ 140737488355328) (hm : m = (n : Int)) (hn : n ≤ 32) (hend : t + n ≤ 8 * s.size) :
    Calls Try.prog 88 #[.pointer (some ⟨b, 0, none⟩), .int .i64 m] w fun e w' => e = .returned (.tuple #[.int .i64 (peekNum s t n : Nat), .int .i64 0]) ∧ RdIs w' b s (t + n) ∧ Mut [b] w w' := by
  subst hm
  exact take_ok b s t n w h hs hn hend
theorem take_end_at (b : Nat) (s : ByteArray) (t n : Nat) (m : Int) (w : World) (h : RdIs w b s t) (hs : s.size ≤ 140737488355328) (ht : t ≤ 8 * s.size) (hm : m = (n : Int)) (hn : n ≤ 32) (hend : 8 * s.size < t + n) :
    Calls Try.prog 88 #[.pointer (some ⟨b, 0, none⟩), .int .i64 m] w fun e w' => e = .returned (.tuple #[.int .i64 0, .int .i64 3]) ∧ ∃ n, w' = w.drewN n := by
  subst hm
  exact take_end b s t n w h hs ht hn hend

/-- two goes are one -/
theorem peek_two (s : ByteArray) (t n m : Nat) (h : t + n ≤ 8 * s.size) (hn : n + m ≤ 61) : bits .or .i64 ((peekNum s t n : Nat) : Int) (wrap64 (((peekNum s (t + n) m : Nat) : Int) * 2 ^ n)) = ((peekNum s t (n + m) : Nat) : Int) := by
  have e := peek_add s t n m (by omega)
  have h1 := peek_lt s t n
  have h2 := peek_lt s t (n + m)
  have hp : (2 : Nat) ^ (n + m) ≤ 2 ^ 61 := Nat.pow_le_pow_right (by decide) hn
  have e2 : (((peekNum s (t + n) m : Nat) : Int) * 2 ^ n) = ((peekNum s (t + n) m * 2 ^ n : Nat) : Int) := by simp
  rw [e2]
  change _ = peekNum s t n + peekNum s (t + n) m * 2 ^ n at e
  rw [IntWalk.wrap64_in _ (by omega), or_i64_join n _ _ h1 (by omega), e]

/-- the reader told from where it was made -/
theorem RdIs.mut {w w' : World} {b : Nat} {s : ByteArray} {t : Nat} {S : List Nat} (h : RdIs w b s t) (hm : Mut S w w') (hb : b ∉ S) : RdIs w' b s t := hm.get h hb
theorem RdIs.drewN {w : World} {b : Nat} {s : ByteArray} {t : Nat} (h : RdIs w b s t) (n : Nat) : RdIs (w.drewN n) b s t := h

end Go.Proofs.Ytgjcnembeebjfaa

namespace Go.Proofs.Ytgjcnembeebjfaa
open Go.RowKit

/-- bit k of a string, 0 behind its end -/
def strBit (s : ByteArray) (k : Nat) : Bool := (strBits s).getD k false

theorem strBit_in (s : ByteArray) (k : Nat) (h : k / 8 < s.size) : (s[k / 8]'h).toNat / 2 ^ (k % 8) % 2 = (strBit s k).toNat := by
  have h1 := peek_byte s k (by omega)
  rw [← h1]
  unfold strBit
  have hk : k < (strBits s).length := by rw [strBits_length]; omega
  rw [List.drop_eq_getElem_cons hk, show 8 - k % 8 = (8 - k % 8 - 1) + 1 by omega, List.take_succ_cons, num]
  have : (strBits s).getD k false = (strBits s)[k] := by simp [List.getD, hk]
  rw [this]
  have := toNat_le1 ((strBits s)[k])
  omega

theorem strBit_past (s : ByteArray) (k : Nat) (h : s.size ≤ k / 8) : strBit s k = false := getD_past _ _ (by rw [strBits_length]; omega)

end Go.Proofs.Ytgjcnembeebjfaa
