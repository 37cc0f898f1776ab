/- The law BitsAligned; what is put is peeked at. -/
import Derived.Test.YtlcfegckjkemhaaBitsL2
namespace Go.Proofs.Ytlcfegckjkemhaa
open Go.RowKit

theorem emod_succ (v : Int) (n : Nat) : v % 2 ^ (n + 1) = v % 2 ^ n + v / 2 ^ n % 2 * 2 ^ n := by
  have hp : 0 < (2 : Int) ^ n := Int.pow_pos (by decide)
  have h1 := Int.emod_add_mul_ediv v (2 ^ n)
  have h2 := Int.emod_add_mul_ediv (v / 2 ^ n) 2
  have b0 := Int.emod_nonneg v (show (2 : Int) ^ n ≠ 0 by omega)
  have b1 := Int.emod_lt_of_pos v hp
  have e : v = (v % 2 ^ n + v / 2 ^ n % 2 * 2 ^ n) + 2 ^ (n + 1) * (v / 2 ^ n / 2) := by
    rw [Int.pow_succ]
    generalize v / 2 ^ n = q at *
    generalize v % 2 ^ n = r at *
    generalize (2 : Int) ^ n = p at *
    have h3 : p * q = p * (q % 2) + p * 2 * (q / 2) := by
      conv => lhs; rw [← h2]
      rw [Int.mul_add, Int.mul_assoc]
    rw [Int.mul_comm (q % 2) p]
    omega
  have hlt : v % 2 ^ n + v / 2 ^ n % 2 * 2 ^ n < 2 ^ (n + 1) := by
    rw [Int.pow_succ]
    rcases (show v / 2 ^ n % 2 = 0 ∨ v / 2 ^ n % 2 = 1 by omega) with h | h <;> rw [h] <;> omega
  have hge : 0 ≤ v % 2 ^ n + v / 2 ^ n % 2 * 2 ^ n := by
    rcases (show v / 2 ^ n % 2 = 0 ∨ v / 2 ^ n % 2 = 1 by omega) with h | h <;> rw [h] <;> omega
  conv => lhs; rw [e]
  rw [Int.add_mul_emod_self_left, Int.emod_eq_of_lt hge hlt]

theorem num_lowBits (v : Int) (n : Nat) : ((num (lowBits v n) : Nat) : Int) = v % 2 ^ n := by
  induction n with
  | zero => simp [lowBits, num, Int.emod_one]
  | succ n ih =>
    rw [lowBits_succ, num_append, Int.natCast_add, ih, emod_succ, lowBits_length]
    have := int_bit (v / 2 ^ n)
    simp only [num, Nat.mul_zero, Nat.add_zero]
    rw [Int.natCast_mul, ← this]; simp

theorem peek_pack (a b c : List Bool) (l : List Bool) (t n : Nat) (h : l = a ++ b ++ c) (ht : t = a.length) (hn : n = b.length) : peekNum (strOf (pack l)) t n = num b := by
  subst h ht hn
  unfold peekNum
  rw [strBits_pack, pad8]
  simp

theorem str_pack_size (l : List Bool) : (strOf (pack l)).size = (l.length + 7) / 8 := by rw [strOf_size, pack_length]

theorem aligned_sub (a : List Bool) (s : ByteArray) (c : List Bool) (k : Nat) (hk : k = (a.length + 7) / 8) :
    (strOf (pack (pad8 a ++ strBits s ++ c))).extract k (k + s.size) = s := by
  apply bytesOf_inj
  rw [bytesOf_extract, bytesOf_strOf _ (pack_lt _), List.append_assoc, pack_append _ _ (by rw [pad8_length]; omega), pack_pad8, pack_append _ _ (by rw [strBits_length]; omega)]
  have h2 := pack_bytesBits (bytesOf s) (bytesOf_lt s) []
  rw [List.append_nil, show pack [] = [] from rfl, List.append_nil] at h2
  have hl : (pack a).length = k := by rw [pack_length, hk]
  rw [strBits, h2, List.take_append, hl, List.take_of_length_le (by rw [hl]; omega), show k + s.size - k = s.size by omega, List.take_append, bytesOf_length, Nat.sub_self, List.take_of_length_le (by rw [bytesOf_length]; omega)]
  simp [← hl]

/-- what BitsAligned puts -/
def alignedBits (v : Int) (N : Nat) (s : ByteArray) : List Bool := pad8 (lowBits v N) ++ strBits s ++ lowBits 1 1

theorem aligned_take (v : Int) (N : Nat) (s : ByteArray) : ((peekNum (strOf (pack (alignedBits v N s))) 0 N : Nat) : Int) = v % 2 ^ N := by
  rw [← num_lowBits, peek_pack [] (lowBits v N) (List.replicate (8 * ((N + 7) / 8) - N) false ++ strBits s ++ lowBits 1 1) _ 0 N ?_ rfl (lowBits_length v N).symm]
  simp [alignedBits, pad8, lowBits_length]

theorem aligned_last (v : Int) (N : Nat) (s : ByteArray) : peekNum (strOf (pack (alignedBits v N s))) (8 * ((N + 7) / 8 + s.size)) 1 = 1 := by
  rw [peek_pack (pad8 (lowBits v N) ++ strBits s) (lowBits 1 1) [] _ _ 1 (by simp [alignedBits]) (by rw [List.length_append, pad8_length, strBits_length, lowBits_length]; omega) rfl]
  decide

set_option maxHeartbeats 1000000 in
theorem lawBitsAligned (v : Int) (_ : (Lit.int .i64 v).wf = true) (m : Int) (_ : (Lit.int .i64 m).wf = true) (s : ByteArray) (_ : s.size ≤ maxLen) (hs : s.size ≤ 140737488351232) (w : World) :
    Calls Try.prog 9 #[.int .i64 v, .int .i64 m, .string s] w fun e w' => e = .returned (.bool true) ∧ Below w.heap.size w w' := by
  have hand := and_mask_i64 m 5 (by decide) 31 (by decide)
  obtain ⟨N, hn⟩ : ∃ n : Nat, m % 2 ^ 5 = (n : Int) := ⟨(m % 2 ^ 5).toNat, by omega⟩
  have hN : N < 32 := by omega
  rw [hn] at hand
  clear hn
  have HT := Lib.hid (aligned_take v N s)
  have HL := Lib.hid (aligned_last v N s)
  have HS := Lib.hid (aligned_sub (lowBits v N) s (lowBits 1 1) ((N + 7) / 8) (by rw [lowBits_length]))
  have hsz := str_pack_size (alignedBits v N s)
  have hlen : (alignedBits v N s).length = 8 * ((N + 7) / 8) + 8 * s.size + 1 := by
    simp only [alignedBits, List.length_append, pad8_length, strBits_length, lowBits_length]
  obtain ⟨T, hT⟩ : ∃ T, strOf (pack (alignedBits v N s)) = T := ⟨_, rfl⟩
  have HS' : Hid (T.extract ((N + 7) / 8) ((N + 7) / 8 + s.size) = s) := by rw [← hT]; exact HS
  rw [hT] at HT HL hsz
  have hsT : T.size = (N + 7) / 8 + s.size + 1 := by omega
  have hsI : ((T.size : Int) == ((N : Int) + 7) / 8 + (s.size : Int) + 1) = true := by rw [beq_iff_eq]; omega
  have hTb : T.size ≤ 140737488355328 := by omega
  have HST := Lib.hid hsT
  have HTT : Hid (strOf (pack (pad8 (lowBits v N) ++ strBits s ++ lowBits 1 1)) = T) := hT
  clear hsz hlen hT hsT HS
  go_enter Try.func9, Try.ntmps9
  go_wp2_with fail
  refine (speaks_any _).mono ?_
  rintro e w1 ⟨rfl, hb1⟩
  have S1 := Lib.hid (Sofar.of_below hb1)
  clear hb1
  go_wp2_with fail
  have H0 := Lib.hid (WrTo.refl (writer_new w1))
  have S2 := Lib.hid (S1.out.alloc (.cells #[.slice none 0 0, .int .i64 0] 25))
  have hA := S1.out.size
  generalize (w1.alloc (.cells #[.slice none 0 0, .int .i64 0] 25)) = W0 at *
  generalize w1.heap.size = A at *
  refine (put_to H0.out v _ N rfl (by decide) (by omega)).mono ?_
  rintro e w2 ⟨rfl, h2⟩
  have H2 := Lib.hid h2
  clear h2 S1
  go_wp2_with fail
  refine (wbytes_to H2.out s (by simp [lowBits_length]; omega)).mono ?_
  rintro e w3 ⟨rfl, h3⟩
  have H3 := Lib.hid h3
  clear h3 H2
  go_wp2_with fail
  refine (put_to H3.out 1 1 1 rfl (by simp [pad8_length, strBits_length, lowBits_length]; omega) (by decide)).mono ?_
  rintro e w4 ⟨rfl, h4⟩
  have H4 : Hid (WrTo W0 A none (pad8 (lowBits v N) ++ strBits s ++ lowBits 1 1) w4) := h4
  have S4 := Lib.hid (S2.out.wr h4 hA)
  clear h4 H3 S2 H0
  go_wp2_with fail
  refine (wall_to H4.out T HTT.out).mono ?_
  rintro e w5 ⟨rfl, rfl⟩
  go_wp2_with fail
  refine (open_any T _).mono ?_
  rintro e w5 ⟨rfl, rfl⟩
  have hR := open_is T w4
  have S5 := Lib.hid (S4.out.alloc (.cells #[.string T, .int .i64 0] 57))
  have hB := S4.out.size
  have H5 : Hid (∃ r, WrIs (w4.alloc (.cells #[.string T, .int .i64 0] 57)) A r (pad8 (lowBits v N) ++ strBits s ++ lowBits 1 1) ∧ A ≠ w4.heap.size ∧ ∀ g, r = some g → g ≠ w4.heap.size) := by
    obtain ⟨r, h, _, _⟩ := H4.out
    have hl := h.lt
    exact Lib.hid ⟨r, h.mut ((Mut.refl [] _).alloc _) (by simp) (by simp), by omega, fun g hg => by have := hl.2 g hg; omega⟩
  go_wp2_with fail
  generalize (w4.alloc (.cells #[.string T, .int .i64 0] 57)) = W5 at *
  generalize w4.heap.size = B at *
  have R5 := Lib.hid hR
  clear hR H4 S4
  refine (take_ok_at B T 0 N _ _ R5.out hTb rfl (by omega) (by have := HST.out; omega)).mono ?_
  rintro e w6 ⟨rfl, h6, m6⟩
  rw [HT.out]
  have R6 : Hid (RdIs w6 B T N) := by rw [Nat.zero_add] at h6; exact h6
  have S6 := Lib.hid (S5.out.step m6 (by simpa using hB))
  have H6 : Hid (∃ r, WrIs w6 A r (pad8 (lowBits v N) ++ strBits s ++ lowBits 1 1) ∧ A ≠ B ∧ ∀ g, r = some g → g ≠ B) := by
    obtain ⟨r, h, ha, hg⟩ := H5.out
    exact Lib.hid ⟨r, h.mut m6 (by simpa using ha) (by simpa using hg), ha, hg⟩
  clear h6 m6 R5 S5 H5
  go_wp2_with fail
  refine (rbytes_ok B T N s.size _ R6.out hTb (by have := HST.out; omega)).mono ?_
  rintro e w7 ⟨rfl, h7, m7⟩
  rw [HS'.out]
  have R7 := Lib.hid h7
  have S7 := Lib.hid (S6.out.step m7 (by simpa using hB))
  have H7 : Hid (∃ r, WrIs w7 A r (pad8 (lowBits v N) ++ strBits s ++ lowBits 1 1) ∧ A ≠ B ∧ ∀ g, r = some g → g ≠ B) := by
    obtain ⟨r, h, ha, hg⟩ := H6.out
    exact Lib.hid ⟨r, h.mut m7 (by simpa using ha) (by simpa using hg), ha, hg⟩
  clear h7 m7 R6 S6 H6
  go_wp2_with fail
  refine (take_ok_at B T (8 * ((N + 7) / 8 + s.size)) 1 1 _ R7.out hTb rfl (by decide) (by have := HST.out; omega)).mono ?_
  rintro e w8 ⟨rfl, h8, m8⟩
  rw [HL.out]
  have S8 := Lib.hid (S7.out.step m8 (by simpa using hB))
  obtain ⟨r, h, ha, hg⟩ := H7.out
  have H8 := Lib.hid (WrTo.refl (h.mut m8 (by simpa using ha) (by simpa using hg)))
  clear h8 m8 R7 S7 H7 h ha hg
  have hval : (v % 2 ^ N == bits .and .i64 v (wrap64 (wrap64 (2 ^ N) - 1))) = true := by
    rw [and_mask_i64 v N (by omega) _ (mask_i64 N (by omega))]; simp
  go_wp2_with fail
  refine (wall_to H8.out T HTT.out).mono ?_
  rintro e w9 ⟨rfl, rfl⟩
  go_wp2_with fail
  go_ret
  exact ⟨rfl, S8.out.below⟩

end Go.Proofs.Ytlcfegckjkemhaa
