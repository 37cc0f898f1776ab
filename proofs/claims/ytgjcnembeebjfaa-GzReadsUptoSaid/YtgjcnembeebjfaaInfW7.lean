/- Walks over package inflate: the fixed tables. -/
import Derived.Test.YtgjcnembeebjfaaInfW6
import Derived.Test.YtgjcnembeebjfaaGLaw
namespace Go.Proofs.Ytgjcnembeebjfaa
open Go.RowKit
set_option linter.unusedVariables false

theorem fixedL_at : ∀ i, i < 288 → (toI fixedL).getD i 0 = if i < 144 ∨ 280 ≤ i then 8 else if i < 256 then 9 else 7 := by decide +kernel
theorem fixedD_at : ∀ i, i < 32 → (toI fixedD).getD i 0 = 5 := by decide +kernel
theorem fixed_new : newErr (toI fixedL) = 0 ∧ newErr (toI fixedD) = 0 ∧ lensOf (toI fixedL) = fixedL ∧ lensOf (toI fixedD) = fixedD := by decide +kernel

theorem new_fixed (xs : List Int) (ls : List Nat) (n : Nat) (hn : xs.length = n) (hlen : n ≤ 1024) (h0 : newErr xs = 0) (hls : lensOf xs = ls) (g : Nat) (w0 w : World) (h : RowAt w0 w g n xs) :
    Calls Try.prog 93 #[.slice (some ⟨g, 0, none⟩) n n] w fun e w' => ∃ lb, e = .returned (.tuple #[.pointer (some ⟨lb, 0, none⟩), .int .i64 0]) ∧ TableIs w' w.heap.size w'.heap.size lb ls ∧ Mut [] w w' := by
  subst hn hls
  refine (new_any xs (by omega) _ xs.length w h.read).mono fun e w' ⟨h1, h2⟩ => ?_
  rcases h1 with ⟨q1, q2⟩ | ⟨q1, tb, q2, q3⟩
  · exact absurd h0 q1
  · exact ⟨tb, q2, q3, h2⟩

set_option maxHeartbeats 1600000 in
set_option maxRecDepth 100000 in
theorem ufixed_any (w : World) :
    Calls Try.prog 72 #[] w fun e w' => ∃ lb db, e = .returned (.tuple #[.pointer (some ⟨lb, 0, none⟩), .pointer (some ⟨db, 0, none⟩)]) ∧ Mut [] w w' ∧
      ∀ b rb, b < w.heap.size → rb < w.heap.size → TabOf w' w.heap.size w'.heap.size lb b rb fixedL ∧ TabOf w' w.heap.size w'.heap.size db b rb fixedD := by
  obtain ⟨Z1, hZ1⟩ : ∃ Z, madeCells (Value.int .i64 0).cells 288 = Z := ⟨_, rfl⟩
  have hmk1 := run_make_int 288 (by decide) Z1 hZ1 288 rfl
  have HA := Lib.hid (RowAt.start w w 288 (by decide) (Mut.refl _ _) Z1 hZ1)
  clear hZ1
  go_enter Try.func72, Try.ntmps72
  go_upto_region 2 with fail
  clear hmk1
  generalize w.alloc (.cells Z1 3) = w1 at *
  obtain ⟨g1, hg1⟩ : ∃ g, w.heap.size = g := ⟨_, rfl⟩
  rw [hg1] at HA
  rw [hg1]
  have HG1 := Lib.hid hg1
  clear hg1
  have HA0 : Hid (RowAt w w1 g1 288 (fillT (toI fixedL) 0)) := Lib.hid (by rw [fillT_zero]; exact HA.out)
  go_wp2_with fail
  go_loopw [13] (fun c wx => ∃ i : Nat, c = .int .i64 (i : Int) ∧ i ≤ 288 ∧ Hid (RowAt w wx g1 288 (fillT (toI fixedL) i))) (fun c _ => 288 - (intOf c).toNat)
  case atStart => exact ⟨0, rfl, by omega, HA0⟩
  case round =>
    obtain ⟨i, rfl, hi, HR⟩ := hrel
    by_cases hlt : i < 288
    · have hltI : (i : Int) < 288 := by omega
      have hv := fixedL_at i hlt
      have hst := HR.out.set i ((toI fixedL).getD i 0)
      rw [fillT_set (toI fixedL) i (by show i < 288; exact hlt), hv] at hst
      obtain ⟨hc, hfz⟩ := HR.out.cell i hlt
      have HS := Lib.hid hst
      clear hst hv
      have hN : Hid (∀ v : Int, (if i < 144 ∨ 280 ≤ i then (8 : Int) else if i < 256 then 9 else 7) = v → RowAt w (wr.setCell ⟨g1, i, none⟩ (.int .i64 v)) g1 288 (fillT (toI fixedL) (i + 1))) := Lib.hid (fun v h => h ▸ HS.out)
      clear HS HR HA HA0
      by_cases h1 : i < 144
      · have h1I : (i : Int) < 144 := by omega
        have HF : Hid (RowAt w (wr.setCell ⟨g1, i, none⟩ (.int .i64 8)) g1 288 (fillT (toI fixedL) (i + 1))) := Lib.hid (hN.out 8 (if_pos (.inl h1)))
        go_wp2_with fail
        exact ⟨⟨i + 1, by rw [Int.natCast_add]; rfl, by omega, HF⟩, by simp only [intOf]; omega⟩
      · have h1I : ¬ (i : Int) < 144 := by omega
        by_cases h2 : 280 ≤ i
        · have h2I : (280 : Int) ≤ (i : Int) := by omega
          have HF : Hid (RowAt w (wr.setCell ⟨g1, i, none⟩ (.int .i64 8)) g1 288 (fillT (toI fixedL) (i + 1))) := Lib.hid (hN.out 8 (if_pos (.inr h2)))
          go_wp2_with fail
          exact ⟨⟨i + 1, by rw [Int.natCast_add]; rfl, by omega, HF⟩, by simp only [intOf]; omega⟩
        · have h2I : ¬ (280 : Int) ≤ (i : Int) := by omega
          have hno : ¬ (i < 144 ∨ 280 ≤ i) := by omega
          by_cases h3 : i < 256
          · have h3I : (i : Int) < 256 := by omega
            have HF : Hid (RowAt w (wr.setCell ⟨g1, i, none⟩ (.int .i64 9)) g1 288 (fillT (toI fixedL) (i + 1))) := Lib.hid (hN.out 9 (by rw [if_neg hno, if_pos h3]))
            clear hno
            go_wp2_with fail
            exact ⟨⟨i + 1, by rw [Int.natCast_add]; rfl, by omega, HF⟩, by simp only [intOf]; omega⟩
          · have h3I : ¬ (i : Int) < 256 := by omega
            have HF : Hid (RowAt w (wr.setCell ⟨g1, i, none⟩ (.int .i64 7)) g1 288 (fillT (toI fixedL) (i + 1))) := Lib.hid (hN.out 7 (by rw [if_neg hno, if_neg h3]))
            clear hno
            go_wp2_with fail
            exact ⟨⟨i + 1, by rw [Int.natCast_add]; rfl, by omega, HF⟩, by simp only [intOf]; omega⟩
    · obtain rfl : i = 288 := by omega
      rw [show ((288 : Nat) : Int) = 288 from rfl]
      have HRL : Hid (RowAt w wr g1 288 (toI fixedL)) := Lib.hid (by have := HR.out; rw [show (288 : Nat) = (toI fixedL).length from rfl, fillT_all] at this; exact this)
      obtain ⟨Z2, hZ2⟩ : ∃ Z, madeCells (Value.int .i64 0).cells 32 = Z := ⟨_, rfl⟩
      have hmk2 := run_make_int 32 (by decide) Z2 hZ2 32 rfl
      have HB := Lib.hid (RowAt.start w wr 32 (by decide) HRL.out.kept Z2 hZ2)
      have HRL2 : Hid (RowAt w (wr.alloc (.cells Z2 3)) g1 288 (toI fixedL) ∧ g1 < wr.heap.size) := Lib.hid ⟨HRL.out.mut ((Mut.refl [] wr).alloc _), HRL.out.irow.lt rfl⟩
      clear hZ2 HR HA HA0 HRL
      go_upto_region 12 with fail
      clear hmk2
      generalize wr.alloc (.cells Z2 3) = w2 at *
      obtain ⟨g2, hg2⟩ : ∃ g, wr.heap.size = g := ⟨_, rfl⟩
      rw [hg2] at HB HRL2
      rw [hg2]
      clear hg2 hlt hi
      have HB0 : Hid (RowAt w w2 g2 32 (fillT (toI fixedD) 0) ∧ RowAt w w2 g1 288 (toI fixedL)) := Lib.hid ⟨by rw [fillT_zero]; exact HB.out, HRL2.out.1⟩
      have HNE : Hid (g1 < g2) := Lib.hid HRL2.out.2
      clear HB HRL2
      go_wp2_with fail
      go_loopw [39] (fun c wx => ∃ i : Nat, c = .int .i64 (i : Int) ∧ i ≤ 32 ∧ Hid (RowAt w wx g2 32 (fillT (toI fixedD) i) ∧ RowAt w wx g1 288 (toI fixedL))) (fun c _ => 32 - (intOf c).toNat)
      case atStart => exact ⟨0, rfl, by omega, HB0⟩
      case round =>
        obtain ⟨i, rfl, hi, HR⟩ := hrel
        clear HB0
        by_cases hlt : i < 32
        · have hltI : (i : Int) < 32 := by omega
          have hv := fixedD_at i hlt
          have hst := HR.out.1.set i ((toI fixedD).getD i 0)
          rw [fillT_set (toI fixedD) i (by show i < 32; exact hlt), hv] at hst
          obtain ⟨hc, hfz⟩ := HR.out.1.cell i hlt
          have HS : Hid (RowAt w (wr.setCell ⟨g2, i, none⟩ (.int .i64 5)) g2 32 (fillT (toI fixedD) (i + 1)) ∧ RowAt w (wr.setCell ⟨g2, i, none⟩ (.int .i64 5)) g1 288 (toI fixedL)) :=
            Lib.hid ⟨hst, row_set_ne HR.out.2.row (fun g hg e => by have := HNE.out; simp [Value.ownBlock] at hg; omega) _, hst.kept, HR.out.2.fresh⟩
          clear hst hv HR
          go_wp2_with fail
          exact ⟨⟨i + 1, by rw [Int.natCast_add]; rfl, by omega, HS⟩, by simp only [intOf]; omega⟩
        · obtain rfl : i = 32 := by omega
          rw [show ((32 : Nat) : Int) = 32 from rfl]
          have HR2 : Hid (RowAt w wr g2 32 (toI fixedD) ∧ RowAt w wr g1 288 (toI fixedL)) := Lib.hid ⟨by have := HR.out.1; rw [show (32 : Nat) = (toI fixedD).length from rfl, fillT_all] at this; exact this, HR.out.2⟩
          have HN1 := Lib.hid (new_fixed (toI fixedL) fixedL 288 rfl (by decide) fixed_new.1 fixed_new.2.2.1 g1 w wr HR2.out.2)
          have HN2 : Hid (∀ wx, Mut [] wr wx → Calls Try.prog 93 #[.slice (some ⟨g2, 0, none⟩) (32 : Nat) 32] wx fun e w' => ∃ lb, e = .returned (.tuple #[.pointer (some ⟨lb, 0, none⟩), .int .i64 0]) ∧ TableIs w' wx.heap.size w'.heap.size lb fixedD ∧ Mut [] wx w') :=
            Lib.hid fun wx m => new_fixed (toI fixedD) fixedD 32 rfl (by decide) fixed_new.2.1 fixed_new.2.2.2 g2 w wx (HR2.out.1.mut m)
          clear HR
          go_wp2_with fail
          refine HN1.out.mono ?_
          rintro e wa ⟨lb, rfl, ht, hm⟩
          have HT := Lib.hid ht
          have HM := Lib.hid hm
          clear ht hm HN1
          go_wp2_with fail
          refine (HN2.out wa HM.out).mono ?_
          rintro e wb ⟨db, rfl, ht, hm⟩
          have HT2 := Lib.hid ht
          have HM2 := Lib.hid hm
          clear ht hm HN2
          go_wp2_with fail
          refine bodyPost_ret (results_tmp2 rfl _ _ _) rfl ⟨lb, db, rfl, (HR2.out.1.kept.trans' HM.out).trans' HM2.out, fun b rb hb hr => ?_⟩
          have hle : w.heap.size ≤ wr.heap.size := HR2.out.1.kept.size
          have hle2 : wr.heap.size ≤ wa.heap.size := HM.out.size
          have hle3 : wa.heap.size ≤ wb.heap.size := HM2.out.size
          have hg1 := HG1.out
          refine ⟨⟨(HT.out.mut HM2.out (by simp)).wide (by omega) hle3, fixedL_good, by decide, .inl hb, .inl hr, Nat.le_refl _⟩, ⟨HT2.out.wide (by omega) (Nat.le_refl _), fixedD_good, by decide, .inl hb, .inl hr, Nat.le_refl _⟩⟩

end Go.Proofs.Ytgjcnembeebjfaa
