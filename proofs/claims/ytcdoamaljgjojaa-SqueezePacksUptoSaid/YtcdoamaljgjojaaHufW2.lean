/- Walks over package huff: turned. -/
import Derived.Test.YtcdoamaljgjojaaHufW1
import Derived.Test.YtcdoamaljgjojaaHufR
namespace Go.Proofs.Ytcdoamaljgjojaa
open Go.RowKit

abbrev swI (c m y : Int) : Int := bits .or .u32 (bits .and .u32 (y / c) m) (bits .and .u32 y m * c % 4294967296)

theorem swI_nat (k m x : Nat) (c M : Int) (hc : c = ((2 ^ k : Nat) : Int)) (hM : M = (m : Int)) (hm : m * 2 ^ k < 4294967296) (hm2 : m < 4294967296) (hx : x < 4294967296) : swI c M (x : Int) = ((swapN k m x : Nat) : Int) := by
  subst hc hM
  have h1 : x / 2 ^ k < 4294967296 := Nat.lt_of_le_of_lt (Nat.div_le_self _ _) hx
  have h2 : x / 2 ^ k &&& m < 2 ^ 32 := Nat.and_lt_two_pow _ hm2
  have h3 : (x &&& m) * 2 ^ k < 2 ^ 32 := Nat.lt_of_le_of_lt (Nat.mul_le_mul_right _ Nat.and_le_right) hm
  unfold swI swapN
  rw [show ((x : Int) / ((2 ^ k : Nat) : Int)) = ((x / 2 ^ k : Nat) : Int) by simp, u32_and_nat _ _ h1 hm2, u32_and_nat _ _ hx hm2, show (((x &&& m : Nat) : Int) * ((2 ^ k : Nat) : Int) % 4294967296) = (((x &&& m) * 2 ^ k : Nat) : Int) by rw [Int.natCast_mul] at *; omega]
  exact u32_or_nat _ _ h2 h3

theorem turn32I (x : Nat) (hx : x < 4294967296) :
    bits .or .u32 (swI 256 16711935 (swI 16 252645135 (swI 4 858993459 (swI 2 1431655765 (x : Int)))) / 65536) (swI 256 16711935 (swI 16 252645135 (swI 4 858993459 (swI 2 1431655765 (x : Int)))) * 65536 % 4294967296) = ((turn32 x : Nat) : Int) := by
  rw [swI_nat 1 1431655765 x 2 1431655765 rfl rfl (by decide) (by decide) hx,
    swI_nat 2 858993459 _ 4 858993459 rfl rfl (by decide) (by decide) (swap_lt _ _ _ (by decide) (by decide)),
    swI_nat 4 252645135 _ 16 252645135 rfl rfl (by decide) (by decide) (swap_lt _ _ _ (by decide) (by decide)),
    swI_nat 8 16711935 _ 256 16711935 rfl rfl (by decide) (by decide) (swap_lt _ _ _ (by decide) (by decide))]
  have hy : swapN 8 16711935 (swapN 4 252645135 (swapN 2 858993459 (swapN 1 1431655765 x))) < 4294967296 := swap_lt _ _ _ (by decide) (by decide)
  unfold turn32
  simp only
  generalize swapN 8 16711935 (swapN 4 252645135 (swapN 2 858993459 (swapN 1 1431655765 x))) = y at *
  rw [show ((y : Int) / 65536) = ((y / 2 ^ 16 : Nat) : Int) by omega, show ((y : Int) * 65536 % 4294967296) = ((y * 2 ^ 16 % 2 ^ 32 : Nat) : Int) by omega]
  exact u32_or_nat _ _ (by omega) (by omega)

theorem rev32_any (x : Nat) (hx : x < 4294967296) (w : World) : Calls Try.prog 80 #[.int .u32 (x : Int)] w fun e w' => e = .returned (.int .u32 (turn32 x : Nat)) ∧ w = w' := by
  go_enter Try.func80, Try.ntmps80
  go_wp2
  go_ret
  exact ⟨congrArg (fun z => Ending.returned (.int .u32 z)) (turn32I x hx), rfl⟩

theorem turned_any (c n : Nat) (hn0 : 1 ≤ n) (hn : n ≤ 15) (hc : c < 32768) (w : World) : Calls Try.prog 75 #[.int .i64 (c : Int), .int .i64 (n : Int)] w fun e w' => e = .returned (.int .i64 (flipN n c : Nat)) ∧ w = w' := by
  have hf := turn32_flip c n (by omega)
  have hl := flip_lt n c
  have hp : 2 ^ n ≤ 32768 := Nat.pow_le_pow_right (n := 2) (by decide) hn
  have h0 : (0 : Int) ≤ 32 - (n : Int) := by omega
  have h1 : (32 - (n : Int)).toNat = 32 - n := by omega
  have h2 : 32 - (n : Int) < 32 := by omega
  have ht := turn32_lt c
  have HF := Lib.hid hf
  have HL := Lib.hid hl
  clear hf hl
  go_enter Try.func75, Try.ntmps75
  go_wp2_with (first | (refine (rev32_any c (by omega) _).mono ?_; rintro e w1 ⟨rfl, rfl⟩) | fail)
  generalize turn32 c = T at *
  go_wp2_with fail
  go_ret
  refine ⟨?_, rfl⟩
  show Ending.returned (.int .i64 (wrap64 ((T : Int) / 2 ^ (32 - n)))) = _
  have e : ((T : Int) / 2 ^ (32 - n)) = ((T / 2 ^ (32 - n) : Nat) : Int) := by simp
  rw [e, HF.out]
  have := HL.out
  rw [IntWalk.wrap64_in _ (by omega)]

end Go.Proofs.Ytcdoamaljgjojaa
