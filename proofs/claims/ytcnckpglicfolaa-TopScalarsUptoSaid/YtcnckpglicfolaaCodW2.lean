/- Walks over package coding: which coding. -/
import Derived.Test.YtcnckpglicfolaaCodW1
namespace Go.Proofs.Ytcnckpglicfolaa
open Go.RowKit

theorem sc1_any (s : ByteArray) (w : World) :
    Calls Try.prog 20 #[.string s] w fun e w' => e = .returned (.tuple #[.int .i64 (wone false (bytesOf s)).1, .int .i64 ((wone false (bytesOf s)).2 : Nat)]) ∧ Mut [] w w' := by
  go_enter Try.func20, Try.ntmps20
  go_wp2_with fail
  refine (wide_any s false _).mono ?_
  rintro e w1 ⟨rfl, S1⟩
  go_wp2_with fail
  go_ret2
  exact ⟨rfl, S1⟩

theorem sc2_any (s : ByteArray) (w : World) :
    Calls Try.prog 22 #[.string s] w fun e w' => e = .returned (.tuple #[.int .i64 (wone true (bytesOf s)).1, .int .i64 ((wone true (bytesOf s)).2 : Nat)]) ∧ Mut [] w w' := by
  go_enter Try.func22, Try.ntmps22
  go_wp2_with fail
  refine (wide_any s true _).mono ?_
  rintro e w1 ⟨rfl, S1⟩
  go_wp2_with fail
  go_ret2
  exact ⟨rfl, S1⟩

/-- the function that tells a scalar -/
def tellF (c : Nat) : Nat := if c = 1 then 19 else if c = 2 then 20 else if c = 3 then 22 else 23

theorem tell_any (c : Nat) (s : ByteArray) (h0 : 0 < s.size) (hs : s.size ≤ 1152921504606846976) (w : World) :
    Calls Try.prog (tellF c) #[.string s] w fun e w' => e = .returned (.tuple #[.int .i64 (dec1 c (bytesOf s)).1, .int .i64 ((dec1 c (bytesOf s)).2 : Nat)]) ∧ Mut [] w w' := by
  unfold tellF
  by_cases h1 : c = 1
  · subst h1
    refine (utf8_any s h0 hs w).mono ?_
    rintro e w' ⟨rfl, rfl⟩
    exact ⟨rfl, Mut.refl _ _⟩
  · rw [if_neg h1]
    by_cases h2 : c = 2
    · subst h2; exact sc1_any s w
    · rw [if_neg h2]
      by_cases h3 : c = 3
      · subst h3; exact sc2_any s w
      · rw [if_neg h3]
        refine (latin_any s h0 w).mono ?_
        rintro e w' ⟨rfl, rfl⟩
        refine ⟨?_, Mut.refl _ _⟩
        simp only [dec1, if_neg h1, if_neg h2, if_neg h3]
        rfl

theorem scalarOf_any (c : Nat) (h1 : 1 ≤ c) (h4 : c ≤ 4) (w : World) :
    Calls Try.prog 12 #[.int .i64 (c : Int)] w fun e w' => e = .returned (.func (.func (tellF c)) #[] #[]) ∧ w = w' := by
  rcases (show c = 1 ∨ c = 2 ∨ c = 3 ∨ c = 4 by omega) with rfl | rfl | rfl | rfl
  all_goals
    go_enter Try.func12, Try.ntmps12
    go_wp2
    go_ret
    exact ⟨rfl, rfl⟩

theorem sniff_any (s : ByteArray) (w : World) :
    Calls Try.prog 9 #[.string s] w fun e w' => e = .returned (.tuple #[.int .i64 ((sniff (bytesOf s) : Nat) : Int), .int .i64 ((sniffLen (bytesOf s) : Nat) : Int)]) ∧ Mut [] w w' := by
  have HN : Hid (sniff (bytesOf s) = if begins (bytesOf s) (markB 1) then 1 else if begins (bytesOf s) (markB 2) then 2 else if begins (bytesOf s) (markB 3) then 3 else 1) := Lib.hid rfl
  have HL : Hid (sniffLen (bytesOf s) = if begins (bytesOf s) (markB 1) then 3 else if begins (bytesOf s) (markB 2) then 2 else if begins (bytesOf s) (markB 3) then 2 else 0) := Lib.hid rfl
  generalize sniff (bytesOf s) = N at *
  generalize sniffLen (bytesOf s) = M at *
  go_enter Try.func9, Try.ntmps9
  go_wp2_with fail
  go_loop [4] (fun c => ∃ k : Nat, c = .int .i64 (k : Int) ∧ 1 ≤ k ∧ k ≤ 4 ∧ Hid (∀ j, 1 ≤ j → j < k → begins (bytesOf s) (markB j) = false)) (fun c => 4 - (intOf c).toNat)
  case atStart => exact ⟨1, rfl, Nat.le_refl _, by omega, Lib.hid fun j h1 h2 => by omega⟩
  case round =>
    obtain ⟨k, rfl, hk1, hk4, HB⟩ := hrel
    rcases (show k = 4 ∨ k ≤ 3 by omega) with rfl | hk3
    · have h1 := HB.out 1 (by omega) (by omega)
      have h2 := HB.out 2 (by omega) (by omega)
      have h3 := HB.out 3 (by omega) (by omega)
      have e1 : Hid (N = 1) := by rw [HN.out, h1, h2, h3]; exact Lib.hid rfl
      have e2 : Hid (M = 0) := by rw [HL.out, h1, h2, h3]; exact Lib.hid rfl
      clear h1 h2 h3 HN HL
      go_wp2_with fail
      go_ret2
      exact ⟨by rw [e1.out, e2.out]; rfl, Mut.refl _ _⟩
    · have hk3I : (k : Int) ≤ 3 := by omega
      go_wp2_with fail
      refine (mark_any k (by omega) _).mono ?_
      rintro e w1 ⟨rfl, rfl⟩
      go_wp2_with fail
      cases hb : begins (bytesOf s) (markB k)
      · refine (hasp_mark s k _ hb _).mono ?_
        rintro e w1 ⟨rfl, rfl⟩
        have HC : Hid (∀ j, 1 ≤ j → j < k + 1 → begins (bytesOf s) (markB j) = false) := Lib.hid fun j h1 h2 => by
          rcases (show j = k ∨ j < k by omega) with rfl | h3
          · exact hb
          · exact HB.out j h1 h3
        clear hb
        go_wp2_with fail
        exact ⟨⟨k + 1, by congr 1, by omega, by omega, HC⟩, by simp only [intOf]; omega⟩
      · refine (hasp_mark s k _ hb _).mono ?_
        rintro e w1 ⟨rfl, rfl⟩
        rcases (show k = 1 ∨ k = 2 ∨ k = 3 by omega) with rfl | rfl | rfl
        · have e1 : Hid (N = 1) := by rw [HN.out, hb]; exact Lib.hid rfl
          have e2 : Hid (M = 3) := by rw [HL.out, hb]; exact Lib.hid rfl
          clear hb HN HL
          go_wp2_with fail
          go_ret2
          exact ⟨by rw [e1.out, e2.out]; rfl, Mut.refl _ _⟩
        · have h1 := HB.out 1 (by omega) (by omega)
          have e1 : Hid (N = 2) := by rw [HN.out, hb, h1]; exact Lib.hid rfl
          have e2 : Hid (M = 2) := by rw [HL.out, hb, h1]; exact Lib.hid rfl
          clear hb h1 HN HL
          go_wp2_with fail
          go_ret2
          exact ⟨by rw [e1.out, e2.out]; rfl, Mut.refl _ _⟩
        · have h1 := HB.out 1 (by omega) (by omega)
          have h2 := HB.out 2 (by omega) (by omega)
          have e1 : Hid (N = 3) := by rw [HN.out, hb, h1, h2]; exact Lib.hid rfl
          have e2 : Hid (M = 2) := by rw [HL.out, hb, h1, h2]; exact Lib.hid rfl
          clear hb h1 h2 HN HL
          go_wp2_with fail
          go_ret2
          exact ⟨by rw [e1.out, e2.out]; rfl, Mut.refl _ _⟩

end Go.Proofs.Ytcnckpglicfolaa
