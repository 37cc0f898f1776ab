/- The laws of bits: BitsCodes; a byte of bits. -/
import Derived.Test.YtlcfegckjkemhaaBitsW2
namespace Go.Proofs.Ytlcfegckjkemhaa
open Go.RowKit

set_option maxHeartbeats 400000 in
theorem speaks_any (w : World) : Calls Try.prog 10 #[] w fun e w' => e = .returned (.bool true) ∧ Below w.heap.size w w' := by
  have hm0 := (Mut.refl [] w).alloc (.cells #[.slice none 0 0, .int .i64 0] 25)
  have H0 := Lib.hid (WrTo.refl (writer_new w))
  have HM := Lib.hid hm0
  clear hm0
  go_enter Try.func10, Try.ntmps10
  go_wp2_with fail
  refine (put_to H0.out 1 1 1 rfl (by decide) (by decide)).mono ?_
  rintro e w1 ⟨rfl, h1⟩
  have H1 := Lib.hid h1
  clear h1 H0
  go_wp2_with fail
  refine (put_to H1.out 2 2 2 rfl (by decide) (by decide)).mono ?_
  rintro e w2 ⟨rfl, h2⟩
  have H2 := Lib.hid h2
  clear h2 H1
  go_wp2_with fail
  refine (code_to H2.out 1 2 2 rfl (by decide) (by decide)).mono ?_
  rintro e w3 ⟨rfl, h3⟩
  have H3 := Lib.hid h3
  clear h3 H2
  go_wp2_with fail
  refine (wall_to H3.out ⟨#[21]⟩ (by decide +kernel)).mono ?_
  rintro e w4 ⟨rfl, rfl⟩
  go_wp2_with fail
  go_ret
  obtain ⟨r, _, hr, hm⟩ := H3.out
  exact ⟨rfl, (HM.out.trans hm (by simp)).nil (by simp)⟩

/-- the frame of a law so far -/
def Sofar (w w' : World) : Prop := Mut [] w w'
theorem Sofar.of_below {w w' : World} (h : Below w.heap.size w w') : Sofar w w' := Below.mut h []
theorem Sofar.alloc {w w' : World} (h : Sofar w w') (o : Obj) : Sofar w (w'.alloc o) := Mut.alloc h o
theorem Sofar.drewN {w w' : World} (h : Sofar w w') (n : Nat) : Sofar w (w'.drewN n) := Mut.drewN h n
theorem Sofar.step {w w1 w2 : World} (h : Sofar w w1) {S : List Nat} (k : Mut S w1 w2) (hs : ∀ x, x ∈ S → w.heap.size ≤ x) : Sofar w w2 := h.trans k fun x hx => .inr (hs x hx)
theorem Sofar.below {w w' : World} (h : Sofar w w') : Below w.heap.size w w' := h.nil (by simp)
theorem Sofar.wr {w w1 w2 : World} (h : Sofar w w1) {b : Nat} {l : List Bool} (k : WrTo w1 b none l w2) (hb : w.heap.size ≤ b) : Sofar w w2 := by
  obtain ⟨_, _, _, hm⟩ := k
  exact h.step hm (by simpa using hb)
theorem Sofar.size {w w' : World} (h : Sofar w w') : w.heap.size ≤ w'.heap.size := Mut.size h

theorem highTo_one (v : Int) (n j : Nat) (hj : j < n) : highTo v n (n - (j + 1)) ++ lowBits (v / 2 ^ j) 1 = highTo v n (n - j) := by
  rw [show n - j = (n - (j + 1)) + 1 by omega, highTo_succ, show n - 1 - (n - (j + 1)) = j by omega]
  simp [lowBits, bitOf]

set_option maxHeartbeats 800000 in
theorem lawBitsCodes (v : Int) (_ : (Lit.int .i64 v).wf = true) (m : Int) (_ : (Lit.int .i64 m).wf = true) (w : World) :
    Calls Try.prog 3 #[.int .i64 v, .int .i64 m] w fun e w' => e = .returned (.bool true) ∧ Below w.heap.size w w' := by
  have hand := and_mask_i64 m 5 (by decide) 31 (by decide)
  obtain ⟨n, hn⟩ : ∃ n : Nat, m % 2 ^ 5 = (n : Int) := ⟨(m % 2 ^ 5).toNat, by omega⟩
  have hn32 : n < 32 := by omega
  rw [hn] at hand
  clear hn
  go_enter Try.func3, Try.ntmps3
  go_wp2_with fail
  refine (speaks_any _).mono ?_
  rintro e w1 ⟨rfl, hb1⟩
  have S1 := Lib.hid (Sofar.of_below hb1)
  clear hb1
  go_wp2_with fail
  have hA0 := (writer_new w1).mut ((Mut.refl [] _).alloc (.cells #[.slice none 0 0, .int .i64 0] 25)) (by simp) (by simp)
  have hB0 := writer_new (w1.alloc (.cells #[.slice none 0 0, .int .i64 0] 25))
  rw [World.size_alloc] at hB0
  have S2 := (S1.out.alloc (.cells #[.slice none 0 0, .int .i64 0] 25)).alloc (.cells #[.slice none 0 0, .int .i64 0] 25)
  have hA := S1.out.size
  generalize (w1.alloc (.cells #[.slice none 0 0, .int .i64 0] 25)).alloc (.cells #[.slice none 0 0, .int .i64 0] 25) = W0 at *
  generalize w1.heap.size = A at *
  have HA := Lib.hid (WrTo.refl hA0)
  have HB := Lib.hid hB0
  have SS := Lib.hid S2
  clear hA0 hB0 S2 S1
  refine (code_to HA.out v _ n rfl (by decide) (by omega)).mono ?_
  rintro e w2 ⟨rfl, h2⟩
  obtain ⟨ra, ha, hra, hm2⟩ := h2
  have HB2 : Hid (WrIs w2 (A + 1) none []) := Lib.hid (HB.out.mut hm2 (by simp) (by simp))
  have HA2 := Lib.hid ha
  have SS2 := Lib.hid (SS.out.step hm2 (by simp; omega))
  clear ha hra hm2 HA HB SS
  go_wp2_with fail
  go_loopw [7] (fun i wr => ∃ j : Nat, j ≤ n ∧ i = .int .i64 ((j : Int) - 1) ∧ WrTo w2 (A + 1) none (highTo v n (n - j)) wr) (fun i _ => (intOf i + 1).toNat)
  case atStart => exact ⟨n, Nat.le_refl _, rfl, by rw [Nat.sub_self]; exact WrTo.refl HB2.out⟩
  case round =>
    obtain ⟨j, hj, rfl, hto⟩ := hrel
    have HT := Lib.hid hto
    clear hto
    rcases j with _ | j
    · have hneg : ¬ (0 : Int) ≤ ((0 : Nat) : Int) - 1 := by omega
      go_wp2_with fail
      have hsz : (strOf (pack (highBits v n))).size = (n + 7) / 8 := by rw [strOf_size, pack_length, highBits_length]
      generalize hx : strOf (pack (highBits v n)) = x at *
      have HX := Lib.hid hx
      have hsI : ((x.size : Int) == ((n : Int) + 7) / 8) = true := by rw [beq_iff_eq]; omega
      have HSI := Lib.hid hsz
      clear hx hsz
      obtain ⟨rb, hb, hrb, hm3⟩ := HT.out
      have HA3 : Hid (WrIs wr A ra (highBits v n)) := by
        obtain ⟨c, hc⟩ := HB2.out.heap
        exact Lib.hid (HA2.out.mut hm3 (by simp) (fun g hg => by simpa using HA2.out.row_ne hc (by decide) g hg))
      have HB3 : Hid (WrIs wr (A + 1) rb (highBits v n)) := Lib.hid hb
      have SS3 := Lib.hid (SS2.out.step hm3 (by simp; omega))
      clear hb hrb hm3 HT HB2 HA2 SS2
      refine (wall_to (WrTo.refl HA3.out) x HX.out).mono ?_
      rintro e w4 ⟨rfl, rfl⟩
      go_wp2_with fail
      refine (put_zero A 0 _).mono ?_
      rintro e w4 ⟨rfl, rfl⟩
      go_wp2_with fail
      refine (code_out A 1 (-1) _ (by decide)).mono ?_
      rintro e w4 ⟨rfl, rfl⟩
      go_wp2_with fail
      refine (put_out A 1 33 _ (by decide)).mono ?_
      rintro e w4 ⟨rfl, rfl⟩
      go_wp2_with fail
      refine (wall_to (WrTo.refl HB3.out) x HX.out).mono ?_
      rintro e w4 ⟨rfl, rfl⟩
      go_wp2_with fail
      refine (wall_to (WrTo.refl HA3.out) x HX.out).mono ?_
      rintro e w4 ⟨rfl, rfl⟩
      go_wp2_with fail
      go_ret
      exact ⟨rfl, SS3.out.below⟩
    · rw [show (((j + 1 : Nat) : Int) - 1) = (j : Int) by omega]
      have hpos : (0 : Int) ≤ (j : Int) := by omega
      go_wp2_with fail
      refine (put_to HT.out _ 1 1 rfl (by simp [highTo_length]; omega) (by decide)).mono ?_
      rintro e w3 ⟨rfl, h3⟩
      have H3 : Hid (WrTo w2 (A + 1) none (highTo v n (n - j)) w3) := by
        rw [← highTo_one v n j hj]
        exact Lib.hid h3
      clear h3
      go_wp2_with fail
      go_roundw
      case rel => exact ⟨j, by omega, rfl, H3.out⟩
      case measure => simp [intOf]

end Go.Proofs.Ytlcfegckjkemhaa
