/- Walks over package huff: Codes; over package ferretlaw02: speaks, ints. -/
import Derived.Test.YtbgejebnpmogoaaHufW4
import Derived.Test.YtbgejebnpmogoaaHufW5
import Derived.Test.YtbgejebnpmogoaaRowI
import Derived.Deep.LoopGhost
namespace Go.Proofs.Ytbgejebnpmogoaa
open Go.RowKit

def codesI (ls : List Nat) : List Int := (codesOf ls).map fun n : Nat => (n : Int)
theorem codesI_length (ls : List Nat) : (codesI ls).length = ls.length := by simp [codesI, codesOf]
theorem codesI_get (ls : List Nat) (i : Nat) (hi : i < ls.length) : (codesI ls).getD i 0 = ((codeOf ls i : Nat) : Int) := by
  simp [codesI, codesOf, List.getD, hi]

set_option maxRecDepth 100000 in
theorem codes_any (lo hi b : Nat) (ls : List Nat) (w : World) (hT : TableIs w lo hi b ls) (hls : ls.length ≤ 1024) :
    Calls Try.prog 14 #[.pointer (some ⟨b, 0, none⟩)] w fun e w' => ∃ v, e = .returned v ∧ IRow w' v (codesI ls) ∧ Mut [] w w' ∧ ∀ g, v.ownBlock = some g → w.heap.size ≤ g := by
  obtain ⟨cv, g, cap, E, h1, h2, _⟩ := hT
  obtain ⟨c0, c1, c2, _, _, _⟩ := cells3 h1.1
  have hrow : IRow w cv (codesI ls) := by
    unfold IRow
    rw [codesI_length]
    unfold codesI
    rw [List.map_map]
    exact h2
  have HROW := Lib.hid hrow
  clear h1 h2 hrow
  have hcl := codesI_length ls
  go_enter Try.func14, Try.ntmps14
  go_wp2_with (at_builtin; (refine wp_appI rfl (.const (.slice none 0 0)) (.tmp 8) rfl (IRow.nil _) rfl (HROW.out.src (Mut.refl _ _)) rfl (by rw [hcl]; simp; omega) ?_))
  intro v' w' r1 r2 r3
  have R1 := Lib.hid r1
  have R2 := Lib.hid r2
  have R3 := Lib.hid r3
  obtain ⟨p, l, c, rfl⟩ := r1.form
  clear r1 r2 r3
  go_wp2_with fail
  go_ret
  exact ⟨_, rfl, R1.out, R2.out, fun g hg => by rcases R3.out g hg with h | h; simp [Value.ownBlock] at h; exact h⟩

theorem codes_nil (w : World) : Calls Try.prog 14 #[.pointer none] w fun e w' => e = .returned (.slice none 0 0) ∧ w = w' := by
  go_enter Try.func14, Try.ntmps14
  go_wp2_with fail
  go_ret
  exact ⟨rfl, rfl⟩

/-- New, of a row of the call's own -/
theorem new_row (xs : List Int) (hlen : xs.length ≤ 1073741824) (v : Value) (w : World) (hv : IRow w v xs) :
    Calls Try.prog 11 #[v] w fun e w' => ((newErr xs ≠ 0 ∧ e = .returned (.tuple #[.pointer none, .int .i64 (newErr xs : Nat)])) ∨
      (newErr xs = 0 ∧ ∃ b, e = .returned (.tuple #[.pointer (some ⟨b, 0, none⟩), .int .i64 0]) ∧ TableIs w' w.heap.size w'.heap.size b (lensOf xs))) ∧ Mut [] w w' := by
  obtain ⟨p, cap, rfl, hr⟩ := hv.read
  exact new_any xs hlen p cap w hr

theorem newErr_len' (xs : List Int) (h : newErr xs = 0) : xs.length ≤ 1024 ∧ okLens xs = true ∧ room (lensOf xs) ≤ 32768 ∧ (room (lensOf xs) = 32768 ∨ usedOf (lensOf xs) = 0 ∨ (usedOf (lensOf xs) = 1 ∧ longOf (lensOf xs) = 1)) := by
  unfold newErr at h
  by_cases h1 : 1024 < xs.length
  · rw [if_pos h1] at h; cases h
  · rw [if_neg h1] at h
    by_cases h2 : okLens xs = false
    · rw [if_pos h2] at h; cases h
    · rw [if_neg h2] at h
      by_cases h3 : 32768 < room (lensOf xs)
      · rw [if_pos h3] at h; cases h
      · rw [if_neg h3] at h
        by_cases h4 : room (lensOf xs) < 32768 ∧ 0 < usedOf (lensOf xs) ∧ ¬ (usedOf (lensOf xs) = 1 ∧ longOf (lensOf xs) = 1)
        · rw [if_pos h4] at h; cases h
        · refine ⟨by omega, by simpa using h2, by omega, ?_⟩
          by_cases h5 : room (lensOf xs) = 32768
          · exact .inl h5
          · by_cases h6 : usedOf (lensOf xs) = 0
            · exact .inr (.inl h6)
            · refine .inr (.inr ?_)
              by_cases h7 : usedOf (lensOf xs) = 1 ∧ longOf (lensOf xs) = 1
              · exact h7
              · exact absurd ⟨by omega, by omega, h7⟩ h4

set_option maxHeartbeats 800000 in
set_option maxRecDepth 1000000 in
theorem speaks_any (w : World) : Calls Try.prog 10 #[] w fun e w' => e = .returned (.bool true) ∧ Mut [] w w' := by
  have hNE : newErr [2, 1, 3, 3] = 0 := by decide +kernel
  have hls : lensOf [2, 1, 3, 3] = [2, 1, 3, 3] := by decide +kernel
  have hcd : codesI [2, 1, 3, 3] = [2, 0, 6, 7] := by decide +kernel
  have hbits : peekNum ⟨#[3]⟩ 0 15 = 3 := by decide +kernel
  have hres : nextRes [2, 1, 3, 3] 3 8 = (2, 3, 0) := by decide +kernel
  have HNE := Lib.hid hNE
  have HLS := Lib.hid hls
  have HCD := Lib.hid hcd
  have HB := Lib.hid hbits
  have HR := Lib.hid hres
  clear hNE hls hcd hbits hres
  have HI : Hid (IRow (w.alloc (.cells #[.int .i64 2, .int .i64 1, .int .i64 3, .int .i64 3] 3)) (.slice (some ⟨w.heap.size, 0, none⟩) 4 4) [2, 1, 3, 3]) :=
    Lib.hid ⟨rfl, .inr ⟨w.heap.size, 4, _, rfl, Nat.zero_le _, heap_alloc_new w _, Nat.le_refl _, by decide, rfl, rfl⟩⟩
  go_enter Try.func10, Try.ntmps10
  go_wp2_with fail
  refine (new_row [2, 1, 3, 3] (by decide) _ _ HI.out).mono ?_
  rintro e w1 ⟨he, hm⟩
  rcases he with ⟨h0, _⟩ | ⟨_, b, rfl, hT⟩
  · exact absurd HNE.out h0
  rw [HLS.out] at hT
  have hM1 : Mut [] w w1 := ((Mut.refl [] w).alloc _).trans hm (by simp)
  have HT1 := Lib.hid hT
  have HM1 := Lib.hid hM1
  clear hT hM1 hm HI HLS HNE
  go_wp2_with fail
  refine (codes_any _ _ b _ w1 HT1.out (by decide)).mono ?_
  rintro e w2 ⟨v, rfl, hv, hm2, hf2⟩
  rw [HCD.out] at hv
  obtain ⟨gc, cc, rfl, hcc⟩ := hv.at (by decide)
  have HCC := Lib.hid hcc
  have HT2 := Lib.hid (HT1.out.mut hm2 (by simp))
  have HM2 : Hid (Mut [] w w2) := Lib.hid (HM1.out.trans hm2 (by simp))
  have HS2 := Lib.hid hm2.size
  clear hv hm2 hf2 hcc
  go_wp2_with (go_at_call 16; refine (open_any _ _).mono ?_; rintro e w3 ⟨rfl, rfl⟩)
  have hT3 := HT2.out.mut ((Mut.refl [] w2).alloc (.cells #[.string ⟨#[3]⟩, .int .i64 0] 67)) (by simp)
  have hN := next_any _ _ b _ w2.heap.size ⟨#[3]⟩ 0 _ hT3 (open_is ⟨#[3]⟩ w2) (by decide) (by decide) (by decide) (by decide)
  rw [HB.out, show min 15 (8 * (⟨#[3]⟩ : ByteArray).size - 0) = 8 from rfl, HR.out] at hN
  have HN := Lib.hid hN
  clear hT3 hN
  refine HN.out.mono ?_
  rintro e w4 ⟨rfl, _, hm4⟩
  have hM4 : Mut [] w w4 := (HM2.out.alloc _).trans hm4 (by have := HM2.out.size; simp; omega)
  have k0 := HCC.out w4 (((Mut.refl [] w2).alloc _).trans hm4 (by simp)) 0 (by decide)
  have k3 := HCC.out w4 (((Mut.refl [] w2).alloc _).trans hm4 (by simp)) 3 (by decide)
  have k0' : w4.cell? ⟨gc, 0, none⟩ = some (.int .i64 2) := k0
  have k3' : w4.cell? ⟨gc, 3, none⟩ = some (.int .i64 7) := k3
  have HM4 := Lib.hid hM4
  clear k0 k3 hm4 hM4
  go_wp2_with fail
  exact bodyPost_ret (results_tmp rfl _ _ _) rfl ⟨rfl, HM4.out⟩
set_option maxHeartbeats 800000 in
set_option maxRecDepth 1000000 in
theorem ints_any (v1 v2 : Value) (p1 p2 : Option Addr) (c1 c2 : Nat) (A B : List Int) (hA : A.length ≤ 1073741824) (w : World) (e1 : v1 = .slice p1 A.length c1) (e2 : v2 = .slice p2 B.length c2)
    (h1 : ∀ i, i < A.length → ∃ a, p1 = some a ∧ w.cell? (a.add i) = some (.int .i64 (A.getD i 0))) (h2 : ∀ i, i < B.length → ∃ a, p2 = some a ∧ w.cell? (a.add i) = some (.int .i64 (B.getD i 0))) :
    Calls Try.prog 13 #[v1, v2] w fun e w' => e = .returned (.bool (decide (A = B))) ∧ ∃ n, w' = w.drewN n := by
  subst e1 e2
  have H1 := Lib.hid h1
  have H2 := Lib.hid h2
  clear h1 h2
  by_cases hl : A.length = B.length
  · have hlI : ((A.length : Int) == (B.length : Int)) = true := by simp [hl]
    obtain ⟨n, hn⟩ : ∃ n, A.length = n := ⟨_, rfl⟩
    have HA := Lib.hid hn
    have HB : Hid (B.length = n) := Lib.hid (by omega)
    obtain ⟨res, hres⟩ : ∃ res, decide (A = B) = res := ⟨_, rfl⟩
    have HR := Lib.hid hres
    rw [hres]
    clear hres
    go_enter Try.func13, Try.ntmps13
    rw [← hl, hn]
    go_wp2_with fail
    go_loopw [5] (fun x wx => ∃ (i m : Nat), x = .int .i64 (i : Int) ∧ i ≤ n ∧ Hid (A.take i = B.take i) ∧ wx = w.drewN m) (fun x _ => n - (intOf x).toNat)
    case atStart => exact ⟨0, 0, rfl, by omega, Lib.hid rfl, rfl⟩
    case round =>
      obtain ⟨i, m, rfl, hi, HT, rfl⟩ := hrel
      clear hlI
      by_cases hend : i < n
      · have hendI : (i : Int) < (n : Int) := by omega
        have hi0 : (0 : Int) ≤ (i : Int) := by omega
        have hiA : i < A.length := by have := HA.out; omega
        have hiB : i < B.length := by have := HB.out; omega
        obtain ⟨a, rfl, ca⟩ := H1.out i hiA
        obtain ⟨b, rfl, cb⟩ := H2.out i hiB
        have T1 : Hid (A.take (i + 1) = A.take i ++ [A.getD i 0]) := Lib.hid (by rw [List.take_add_one]; simp [List.getD, hiA])
        have T2 : Hid (B.take (i + 1) = B.take i ++ [B.getD i 0]) := Lib.hid (by rw [List.take_add_one]; simp [List.getD, hiB])
        have T3 : Hid (A = B → A.getD i 0 = B.getD i 0) := Lib.hid (by intro h; rw [h])
        generalize A.getD i 0 = x at *
        generalize B.getD i 0 = y at *
        have ca' : ∀ k, (w.drewN k).cell? (a.add i) = some (.int .i64 x) := fun k => ca
        have cb' : ∀ k, (w.drewN k).cell? (b.add i) = some (.int .i64 y) := fun k => cb
        by_cases hxy : x = y
        · subst hxy
          have hnn : (x == x) = true := by simp
          go_wp2_with fail
          go_quiet (fail)
          go_wp2_with fail
          exact ⟨⟨i + 1, _, by rw [Int.natCast_add]; rfl, by omega, Lib.hid (by rw [T1.out, T2.out, HT.out]), rfl⟩, by simp only [intOf]; omega⟩
        · have hxb : (x == y) = false := by rw [beq_eq_false_iff_ne]; exact hxy
          have hne : res = false := by rw [← HR.out]; simp; intro h; exact hxy (T3.out h)
          subst hne
          go_wp2_with fail
          go_quiet (fail)
          go_wp2_with fail
          exact bodyPost_ret (results_tmp rfl _ _ _) rfl ⟨rfl, _, World.drewN_drewN _ _ _⟩
      · have e : i = n := by omega
        have hendI : ¬ (i : Int) < (n : Int) := by omega
        have heq : res = true := by
          rw [← HR.out]
          have h1 := HT.out
          rw [List.take_of_length_le (by have := HA.out; omega), List.take_of_length_le (by have := HB.out; omega)] at h1
          simpa using h1
        subst heq
        go_wp2_with fail
        exact bodyPost_ret (results_tmp rfl _ _ _) rfl ⟨rfl, _, rfl⟩
  · have hlI : ((A.length : Int) == (B.length : Int)) = false := by rw [beq_eq_false_iff_ne]; omega
    have hne : decide (A = B) = false := by simp; intro h; exact hl (by rw [h])
    rw [hne]
    go_enter Try.func13, Try.ntmps13
    go_wp2_with fail
    exact bodyPost_ret (results_tmp rfl _ _ _) rfl ⟨rfl, 0, rfl⟩
end Go.Proofs.Ytbgejebnpmogoaa
