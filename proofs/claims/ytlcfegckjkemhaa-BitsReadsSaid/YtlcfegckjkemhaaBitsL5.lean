/- The law BitsReads. -/
import Derived.Test.YtlcfegckjkemhaaBitsL2
import Derived.Test.YtlcfegckjkemhaaBitsF
import Derived.Test.YtlcfegckjkemhaaBitsA
import Derived.Deep.DeepCutAuto
import Derived.Deep.LoopGhost
namespace Go.Proofs.Ytlcfegckjkemhaa
open Go.RowKit

theorem reads_after {w wr w3 : World} {R t : Nat} {s atx : ByteArray} {aw an av : Int} (h : RdIs wr R s t) (hs : Sofar w wr) (hm : Mut [] (wr.alloc (.cells #[.int .i64 aw, .int .i64 an, .int .i64 av, .string atx] 33)) w3) :
    RdIs w3 R s t ∧ Sofar w w3 ∧ R ≠ wr.heap.size ∧ w3.cell? ⟨wr.heap.size, 1, none⟩ = some (.int .i64 an) := by
  have hl := lt_of_heap h
  refine ⟨(h.mut ((Mut.refl [] _).alloc _) (by simp)).mut hm (by simp), (hs.alloc _).step hm (by simp), by omega, ?_⟩
  exact hm.cell (by simp) (by simp)

theorem reads_round {w wx : World} {s : ByteArray} {R k n t' : Nat} {at' : Value} (hlt : k < n) (ht : t' ≤ 8 * s.size) (hat : at' = .int .i64 (t' : Int)) (hrd : RdIs wx R s t') (hsf : Sofar w wx) :
    ∃ k1 t1 : Nat, k1 ≤ n ∧ n - (k + 1) = n - k1 ∧ Value.int .i64 ((k : Int) + 1) = .int .i64 (k1 : Int) ∧ at' = .int .i64 (t1 : Int) ∧ t1 ≤ 8 * s.size ∧ RdIs wx R s t1 ∧ Sofar w wx :=
  ⟨k + 1, t', by omega, rfl, by simp, hat, ht, hrd, hsf⟩

theorem value_at (s : ByteArray) (k n : Nat) (a b : Int) (w : World) (hs : s.size ≤ 140737488355328) (hk : k ≤ 4503599627370496) (ha : a = (k : Int)) (hb : b = (n : Int)) (hn : n ≤ 60) :
    Calls Try.prog 24 #[.string s, .int .i64 a, .int .i64 b] w fun e w' => e = .returned (.int .i64 ((valueNum s k n : Nat) : Int)) ∧ w = w' := by
  subst ha hb
  exact value_any s k n w hs hk hn

set_option maxHeartbeats 8000000 in
set_option maxRecDepth 100000 in
theorem reads_some (s : ByteArray) (f : Nat → ActD) (b o n c : Nat) (w : World) (hs : s.size ≤ 140737488355328) (hn : n ≤ maxLen)
    (hf : ∀ i, i < n → ActAt w b (o + i * 4) (f i)) (hwf : ∀ i, i < n → ActWf (f i)) :
    Calls Try.prog 8 #[.string s, .slice (some ⟨b, o, none⟩) n c] w fun e w' => e = .returned (.bool true) ∧ Below w.heap.size w w' := by
  unfold maxLen at hn
  have HF := Lib.hid hf
  have HWF := Lib.hid hwf
  clear hf hwf
  go_enter Try.func8, Try.ntmps8
  go_wp2_with fail
  refine (speaks_any _).mono ?_
  rintro e w1 ⟨rfl, hbl⟩
  have S1 := Lib.hid (Sofar.of_below hbl)
  clear hbl
  go_wp2_with fail
  refine (open_any s _).mono ?_
  rintro e w2 ⟨rfl, rfl⟩
  have hR := open_is s w1
  have S2 := Lib.hid (S1.out.alloc (.cells #[.string s, .int .i64 0] 57))
  have hB := S1.out.size
  generalize (w1.alloc (.cells #[.string s, .int .i64 0] 57)) = W0 at *
  generalize w1.heap.size = R at *
  have R0 := Lib.hid hR
  clear hR S1
  go_wp2_with fail
  go_loopg [6, 7] n (fun g at_ i wr => ∃ k t : Nat, k ≤ n ∧ g = n - k ∧ i = .int .i64 (k : Int) ∧ at_ = .int .i64 (t : Int) ∧ t ≤ 8 * s.size ∧ RdIs wr R s t ∧ Sofar w wr)
  case atStart => exact ⟨0, 0, Nat.zero_le _, rfl, rfl, rfl, Nat.zero_le _, R0.out, S2.out⟩
  case round =>
    obtain ⟨k, t, hk, rfl, rfl, rfl, ht, hrd, hsf⟩ := hrel
    have HR := Lib.hid hrd
    have SS := Lib.hid hsf
    clear hrd hsf
    by_cases hlt : k < n
    · obtain ⟨c0, c1, c2, c3⟩ := HF.out k hlt
      have hwfk := (HWF.out k hlt).2.1
      have d0 := Mut.cell SS.out c0 (by simp)
      have d1 := Mut.cell SS.out c1 (by simp)
      have d2 := Mut.cell SS.out c2 (by simp)
      have d3 := Mut.cell SS.out c3 (by simp)
      clear c0 c1 c2 c3
      generalize f k = a at *
      obtain ⟨aw, an, av, atx⟩ := a
      simp only at d0 d1 d2 d3
      rcases (show aw % 4 = 2 ∨ aw % 4 = 3 ∨ (aw % 4 ≠ 2 ∧ aw % 4 ≠ 3) by omega) with hw | hw | ⟨hw, hw'⟩
      · have q2 : (aw % 4 == 2) = true := by rw [beq_iff_eq]; omega
        have q3 : (aw % 4 == 3) = false := by rw [beq_eq_false_iff_ne]; omega
        by_cases hneg : an < 0
        · have hout : an < 0 ∨ 32 < an := .inl hneg
          go_wp2_with fail
          refine (what_any aw _ av atx _).mono ?_
          rintro e w3 ⟨rfl, hm3⟩
          have HH := Lib.hid (reads_after HR.out SS.out hm3)
          clear hm3
          obtain ⟨hr3, hs3, hne, ha3⟩ := HH.out
          have HR3 := Lib.hid hr3
          have S3 := Lib.hid hs3
          clear hr3 hs3 d0 d1 d2 d3 HR SS HH
          go_wp2_with fail
          refine (peek_out R an _ hout).mono ?_
          rintro e w4 ⟨rfl, rfl⟩
          go_wp2_with fail
          refine (taken_any R s _ _ (by exact HR3.out)).mono ?_
          rintro e w6 ⟨rfl, rfl⟩
          go_wp2_with fail
          refine (left_any R s _ _ (by exact HR3.out) hs (by omega)).mono ?_
          rintro e w6 ⟨rfl, q6, rfl⟩
          go_wp2_with fail
          go_roundg (n - (k + 1))
          case measure => omega
          case rel =>
          refine reads_round (t' := t) hlt (by omega) ?_ ?_ ?_
          · first | rfl | (congr 1; omega)
          · exact HR3.out
          · exact Sofar.drewN S3.out _
        · by_cases hbig : 32 < an
          · have hpos : 0 ≤ an := by omega
            have hd32 : decide (an ≤ 32) = false := by simp; omega
            have hout : an < 0 ∨ 32 < an := .inr hbig
            go_wp2_with fail
            refine (what_any aw _ av atx _).mono ?_
            rintro e w3 ⟨rfl, hm3⟩
            have HH := Lib.hid (reads_after HR.out SS.out hm3)
            clear hm3
            obtain ⟨hr3, hs3, hne, ha3⟩ := HH.out
            have HR3 := Lib.hid hr3
            have S3 := Lib.hid hs3
            clear hr3 hs3 d0 d1 d2 d3 HR SS HH
            go_wp2_with fail
            refine (peek_out R an _ hout).mono ?_
            rintro e w4 ⟨rfl, rfl⟩
            go_wp2_with fail
            refine (taken_any R s _ _ (by exact HR3.out)).mono ?_
            rintro e w6 ⟨rfl, rfl⟩
            go_wp2_with fail
            refine (left_any R s _ _ (by exact HR3.out) hs (by omega)).mono ?_
            rintro e w6 ⟨rfl, q6, rfl⟩
            go_wp2_with fail
            go_roundg (n - (k + 1))
            case measure => omega
            case rel =>
            refine reads_round (t' := t) hlt (by omega) ?_ ?_ ?_
            · first | rfl | (congr 1; omega)
            · exact HR3.out
            · exact Sofar.drewN S3.out _
          · obtain ⟨N, rfl⟩ : ∃ N : Nat, an = (N : Int) := ⟨an.toNat, by omega⟩
            have hN : N ≤ 32 := by omega
            by_cases hle : N ≤ 8 * s.size - t
            · have hle' : ¬ 8 * (s.size : Int) - (t : Int) < (N : Int) := by omega
              go_wp2_with fail
              refine (what_any aw _ av atx _).mono ?_
              rintro e w3 ⟨rfl, hm3⟩
              have HH := Lib.hid (reads_after HR.out SS.out hm3)
              clear hm3
              obtain ⟨hr3, hs3, hne, ha3⟩ := HH.out
              have HR3 := Lib.hid hr3
              have S3 := Lib.hid hs3
              clear hr3 hs3 d0 d1 d2 d3 HR SS HH
              go_wp2_with fail
              refine (peek_at R s t N _ (N) _ HR3.out hs ht rfl hN (by omega)).mono ?_
              rintro e w4 ⟨rfl, q4, rfl⟩
              have e4 : peekNum s t N = valueNum s t (N) := (peek_end s t N _ (by omega)).symm.trans (valueNum_peek s t _ (by omega)).symm
              rw [e4]
              clear e4
              go_wp2_with fail
              refine (value_at s t (N) _ _ _ hs (by omega) rfl (by omega) (by omega)).mono ?_
              rintro e w5 ⟨rfl, rfl⟩
              generalize valueNum s t (N) = z at *
              go_wp2_with fail
              refine (taken_any R s _ _ (by exact HR3.out)).mono ?_
              rintro e w6 ⟨rfl, rfl⟩
              go_wp2_with fail
              refine (left_any R s _ _ (by exact HR3.out) hs (by omega)).mono ?_
              rintro e w6 ⟨rfl, q6, rfl⟩
              go_wp2_with fail
              go_roundg (n - (k + 1))
              case measure => omega
              case rel =>
              refine reads_round (t' := t) hlt (by omega) ?_ ?_ ?_
              · first | rfl | (congr 1; omega)
              · exact HR3.out
              · exact Sofar.drewN S3.out _
            · have hle' : 8 * (s.size : Int) - (t : Int) < (N : Int) := by omega
              go_wp2_with fail
              refine (what_any aw _ av atx _).mono ?_
              rintro e w3 ⟨rfl, hm3⟩
              have HH := Lib.hid (reads_after HR.out SS.out hm3)
              clear hm3
              obtain ⟨hr3, hs3, hne, ha3⟩ := HH.out
              have HR3 := Lib.hid hr3
              have S3 := Lib.hid hs3
              clear hr3 hs3 d0 d1 d2 d3 HR SS HH
              go_wp2_with fail
              refine (peek_at R s t N _ (8 * s.size - t) _ HR3.out hs ht rfl hN (by omega)).mono ?_
              rintro e w4 ⟨rfl, q4, rfl⟩
              have e4 : peekNum s t N = valueNum s t (8 * s.size - t) := (peek_end s t N _ (by omega)).symm.trans (valueNum_peek s t _ (by omega)).symm
              rw [e4]
              clear e4
              go_wp2_with fail
              refine (value_at s t (8 * s.size - t) _ _ _ hs (by omega) rfl (by omega) (by omega)).mono ?_
              rintro e w5 ⟨rfl, rfl⟩
              generalize valueNum s t (8 * s.size - t) = z at *
              go_wp2_with fail
              refine (taken_any R s _ _ (by exact HR3.out)).mono ?_
              rintro e w6 ⟨rfl, rfl⟩
              go_wp2_with fail
              refine (left_any R s _ _ (by exact HR3.out) hs (by omega)).mono ?_
              rintro e w6 ⟨rfl, q6, rfl⟩
              go_wp2_with fail
              go_roundg (n - (k + 1))
              case measure => omega
              case rel =>
              refine reads_round (t' := t) hlt (by omega) ?_ ?_ ?_
              · first | rfl | (congr 1; omega)
              · exact HR3.out
              · exact Sofar.drewN S3.out _
      · have q2 : (aw % 4 == 2) = false := by rw [beq_eq_false_iff_ne]; omega
        have q3 : (aw % 4 == 3) = true := by rw [beq_iff_eq]; omega
        by_cases hneg : an < 0
        · go_wp2_with fail
          refine (what_any aw _ av atx _).mono ?_
          rintro e w3 ⟨rfl, hm3⟩
          have HH := Lib.hid (reads_after HR.out SS.out hm3)
          clear hm3
          obtain ⟨hr3, hs3, hne, ha3⟩ := HH.out
          have HR3 := Lib.hid hr3
          have S3 := Lib.hid hs3
          clear hr3 hs3 d0 d1 d2 d3 HR SS HH
          go_wp2_with fail
          refine (rbytes_neg R an _ hneg).mono ?_
          rintro e w4 ⟨rfl, rfl⟩
          go_wp2_with fail
          refine (taken_any R s _ _ (by exact HR3.out)).mono ?_
          rintro e w6 ⟨rfl, rfl⟩
          go_wp2_with fail
          refine (left_any R s _ _ (by exact HR3.out) hs (by omega)).mono ?_
          rintro e w6 ⟨rfl, q6, rfl⟩
          go_wp2_with fail
          go_roundg (n - (k + 1))
          case measure => omega
          case rel =>
          refine reads_round (t' := t) hlt (by omega) ?_ ?_ ?_
          · first | rfl | (congr 1; omega)
          · exact HR3.out
          · exact Sofar.drewN S3.out _
        · by_cases hend : (s.size : Int) - ((t : Int) + 7) / 8 < an
          · go_wp2_with fail
            refine (what_any aw _ av atx _).mono ?_
            rintro e w3 ⟨rfl, hm3⟩
            have HH := Lib.hid (reads_after HR.out SS.out hm3)
            clear hm3
            obtain ⟨hr3, hs3, hne, ha3⟩ := HH.out
            have HR3 := Lib.hid hr3
            have S3 := Lib.hid hs3
            clear hr3 hs3 d0 d1 d2 d3 HR SS HH
            go_wp2_with fail
            refine (rbytes_end R s t an _ HR3.out hs ht (by omega) hend).mono ?_
            rintro e w4 ⟨rfl, rfl⟩
            go_wp2_with fail
            refine (taken_any R s _ _ (by exact HR3.out)).mono ?_
            rintro e w6 ⟨rfl, rfl⟩
            go_wp2_with fail
            refine (left_any R s _ _ (by exact HR3.out) hs (by omega)).mono ?_
            rintro e w6 ⟨rfl, q6, rfl⟩
            go_wp2_with fail
            go_roundg (n - (k + 1))
            case measure => omega
            case rel =>
            refine reads_round (t' := t) hlt (by omega) ?_ ?_ ?_
            · first | rfl | (congr 1; omega)
            · exact HR3.out
            · exact Sofar.drewN S3.out _
          · obtain ⟨N, rfl⟩ : ∃ N : Nat, an = (N : Int) := ⟨an.toNat, by omega⟩
            have hfit : (t + 7) / 8 + N ≤ s.size := by omega
            go_wp2_with fail
            refine (what_any aw _ av atx _).mono ?_
            rintro e w3 ⟨rfl, hm3⟩
            have HH := Lib.hid (reads_after HR.out SS.out hm3)
            clear hm3
            obtain ⟨hr3, hs3, hne, ha3⟩ := HH.out
            have HR3 := Lib.hid hr3
            have S3 := Lib.hid hs3
            clear hr3 hs3 d0 d1 d2 d3 HR SS HH
            have hsl := fun W => sub_str (P := Try.prog) Try.underlying9 W s .i64 .i64 (((t : Int) + 7) / 8) (((t : Int) + 7) / 8 + (N : Int)) ((t + 7) / 8) ((t + 7) / 8 + N) (by omega) (by omega) (by omega) hfit
            go_wp2_with fail
            refine (rbytes_ok R s t N _ HR3.out hs hfit).mono ?_
            rintro e w4 ⟨rfl, h4, m4⟩
            have HR4 := Lib.hid h4
            have S4 := Lib.hid (S3.out.step m4 (by simpa using hB))
            have ha4 := Mut.cell m4 ha3 (by simpa using hne.symm)
            clear h4 m4 ha3
            generalize s.extract ((t + 7) / 8) ((t + 7) / 8 + N) = x at *
            go_wp2_with fail
            refine (taken_any R s _ _ (by exact HR4.out)).mono ?_
            rintro e w6 ⟨rfl, rfl⟩
            go_wp2_with fail
            refine (left_any R s _ _ (by exact HR4.out) hs (by omega)).mono ?_
            rintro e w6 ⟨rfl, q6, rfl⟩
            go_wp2_with fail
            go_roundg (n - (k + 1))
            case measure => omega
            case rel =>
            refine reads_round (t' := 8 * ((t + 7) / 8 + N)) hlt (by omega) ?_ ?_ ?_
            · first | rfl | (congr 1; omega)
            · exact HR4.out
            · exact Sofar.drewN S4.out _
      · have q2 : (aw % 4 == 2) = false := by rw [beq_eq_false_iff_ne]; omega
        have q3 : (aw % 4 == 3) = false := by rw [beq_eq_false_iff_ne]; omega
        by_cases hneg : an < 0
        · have hout : an < 0 ∨ 32 < an := .inl hneg
          go_wp2_with fail
          refine (what_any aw _ av atx _).mono ?_
          rintro e w3 ⟨rfl, hm3⟩
          have HH := Lib.hid (reads_after HR.out SS.out hm3)
          clear hm3
          obtain ⟨hr3, hs3, hne, ha3⟩ := HH.out
          have HR3 := Lib.hid hr3
          have S3 := Lib.hid hs3
          clear hr3 hs3 d0 d1 d2 d3 HR SS HH
          go_wp2_with fail
          refine (take_out R an _ hout).mono ?_
          rintro e w4 ⟨rfl, rfl⟩
          go_wp2_with fail
          refine (taken_any R s _ _ (by exact HR3.out)).mono ?_
          rintro e w6 ⟨rfl, rfl⟩
          go_wp2_with fail
          refine (left_any R s _ _ (by exact HR3.out) hs (by omega)).mono ?_
          rintro e w6 ⟨rfl, q6, rfl⟩
          go_wp2_with fail
          go_roundg (n - (k + 1))
          case measure => omega
          case rel =>
          refine reads_round (t' := t) hlt (by omega) ?_ ?_ ?_
          · first | rfl | (congr 1; omega)
          · exact HR3.out
          · exact Sofar.drewN S3.out _
        · by_cases hbig : 32 < an
          · have hpos : 0 ≤ an := by omega
            have hd32 : decide (an ≤ 32) = false := by simp; omega
            have hout : an < 0 ∨ 32 < an := .inr hbig
            go_wp2_with fail
            refine (what_any aw _ av atx _).mono ?_
            rintro e w3 ⟨rfl, hm3⟩
            have HH := Lib.hid (reads_after HR.out SS.out hm3)
            clear hm3
            obtain ⟨hr3, hs3, hne, ha3⟩ := HH.out
            have HR3 := Lib.hid hr3
            have S3 := Lib.hid hs3
            clear hr3 hs3 d0 d1 d2 d3 HR SS HH
            go_wp2_with fail
            refine (take_out R an _ hout).mono ?_
            rintro e w4 ⟨rfl, rfl⟩
            go_wp2_with fail
            refine (taken_any R s _ _ (by exact HR3.out)).mono ?_
            rintro e w6 ⟨rfl, rfl⟩
            go_wp2_with fail
            refine (left_any R s _ _ (by exact HR3.out) hs (by omega)).mono ?_
            rintro e w6 ⟨rfl, q6, rfl⟩
            go_wp2_with fail
            go_roundg (n - (k + 1))
            case measure => omega
            case rel =>
            refine reads_round (t' := t) hlt (by omega) ?_ ?_ ?_
            · first | rfl | (congr 1; omega)
            · exact HR3.out
            · exact Sofar.drewN S3.out _
          · obtain ⟨N, rfl⟩ : ∃ N : Nat, an = (N : Int) := ⟨an.toNat, by omega⟩
            have hN : N ≤ 32 := by omega
            by_cases hle : 8 * (s.size : Int) - (t : Int) < (N : Int)
            · go_wp2_with fail
              refine (what_any aw _ av atx _).mono ?_
              rintro e w3 ⟨rfl, hm3⟩
              have HH := Lib.hid (reads_after HR.out SS.out hm3)
              clear hm3
              obtain ⟨hr3, hs3, hne, ha3⟩ := HH.out
              have HR3 := Lib.hid hr3
              have S3 := Lib.hid hs3
              clear hr3 hs3 d0 d1 d2 d3 HR SS HH
              go_wp2_with fail
              refine (take_end_at R s t N _ _ HR3.out hs ht rfl hN (by omega)).mono ?_
              rintro e w4 ⟨rfl, q4, rfl⟩
              go_wp2_with fail
              refine (taken_any R s _ _ (by exact HR3.out)).mono ?_
              rintro e w6 ⟨rfl, rfl⟩
              go_wp2_with fail
              refine (left_any R s _ _ (by exact HR3.out) hs (by omega)).mono ?_
              rintro e w6 ⟨rfl, q6, rfl⟩
              go_wp2_with fail
              go_roundg (n - (k + 1))
              case measure => omega
              case rel =>
              refine reads_round (t' := t) hlt (by omega) ?_ ?_ ?_
              · first | rfl | (congr 1; omega)
              · exact HR3.out
              · exact Sofar.drewN S3.out _
            · go_wp2_with fail
              refine (what_any aw _ av atx _).mono ?_
              rintro e w3 ⟨rfl, hm3⟩
              have HH := Lib.hid (reads_after HR.out SS.out hm3)
              clear hm3
              obtain ⟨hr3, hs3, hne, ha3⟩ := HH.out
              have HR3 := Lib.hid hr3
              have S3 := Lib.hid hs3
              clear hr3 hs3 d0 d1 d2 d3 HR SS HH
              go_wp2_with fail
              refine (take_ok_at R s t N _ _ HR3.out hs rfl hN (by omega)).mono ?_
              rintro e w4 ⟨rfl, h4, m4⟩
              have HR4 := Lib.hid h4
              have S4 := Lib.hid (S3.out.step m4 (by simpa using hB))
              have ha4 := Mut.cell m4 ha3 (by simpa using hne.symm)
              clear h4 m4 ha3
              rw [← valueNum_peek s t N (by omega)]
              go_wp2_with fail
              refine (value_at s t N _ _ _ hs (by omega) rfl rfl (by omega)).mono ?_
              rintro e w5 ⟨rfl, rfl⟩
              generalize valueNum s t N = z at *
              go_wp2_with fail
              refine (taken_any R s _ _ (by exact HR4.out)).mono ?_
              rintro e w6 ⟨rfl, rfl⟩
              go_wp2_with fail
              refine (left_any R s _ _ (by exact HR4.out) hs (by omega)).mono ?_
              rintro e w6 ⟨rfl, q6, rfl⟩
              go_wp2_with fail
              go_roundg (n - (k + 1))
              case measure => omega
              case rel =>
              refine reads_round (t' := t + N) hlt (by omega) ?_ ?_ ?_
              · first | rfl | (congr 1; omega)
              · exact HR4.out
              · exact Sofar.drewN S4.out _
    · go_wp2_with fail
      go_ret
      exact ⟨rfl, SS.out.below⟩

end Go.Proofs.Ytlcfegckjkemhaa
