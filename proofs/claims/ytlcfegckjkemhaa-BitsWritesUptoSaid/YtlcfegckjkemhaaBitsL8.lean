/- The law BitsWrites. -/
import Derived.Test.YtlcfegckjkemhaaBitsL7
import Derived.Test.YtlcfegckjkemhaaBitsF
import Derived.Deep.DeepCutAuto
import Derived.Deep.LoopGhost
namespace Go.Proofs.Ytlcfegckjkemhaa
open Go.RowKit

theorem info_int : (Try.prog.info? 3).map (fun i => (i.zero, i.size, i.bytes)) = some (some (.int .i64 0), 1, 8) := by kernel_rfl

/-- how many bits a step puts -/
def fitN (m : Int) : Nat := if 0 ≤ m ∧ m ≤ 32 then m.toNat else 0

theorem fitN_le (m : Int) : fitN m ≤ 32 := by unfold fitN; split <;> omega

def outB (m : Int) : Bool := decide (m < 0 ∨ 32 < m)
theorem outB_t {m : Int} (h : m < 0 ∨ 32 < m) : outB m = true := by unfold outB; simpa using h
theorem outB_f {m : Int} (h : 0 ≤ m) (h' : m ≤ 32) : outB m = false := by unfold outB; simp; omega
theorem outB_inv {m : Int} (h : outB m = false) : 0 ≤ m ∧ m ≤ 32 := by unfold outB at h; simp at h; omega
theorem outB_inv' {m : Int} (h : outB m = true) : m < 0 ∨ 32 < m := by unfold outB at h; simpa using h
theorem fitN_in {m : Int} (h : 0 ≤ m) (h' : m ≤ 32) : ((fitN m : Nat) : Int) = m := by unfold fitN; rw [if_pos ⟨h, h'⟩]; omega
theorem fitN_out {m : Int} (h : m < 0 ∨ 32 < m) : fitN m = 0 := by unfold fitN; rw [if_neg (by omega)]

theorem wb_put' {w wr : World} {A : Nat} {L : List Bool} {vb : Value} {M : List Bool} {act : Option (Nat × Array Value)} (h : WB w wr A L vb M act) (v m : Int) (hl : L.length ≤ 1125899906841000) :
    Calls Try.prog 12 #[.pointer (some ⟨A, 0, none⟩), .int .i64 v, .int .i64 m] wr fun e w' => e = .returned (.tuple #[]) ∧ WB w w' A (L ++ lowBits v (fitN m)) vb M act := by
  unfold fitN
  by_cases hm : 0 ≤ m ∧ m ≤ 32
  · rw [if_pos hm]
    have := wb_put h v m.toNat hl (by omega)
    rwa [Int.toNat_of_nonneg hm.1] at this
  · rw [if_neg hm]
    refine (put_out A v m wr (by omega)).mono fun e w' ⟨he, hw⟩ => ⟨he, ?_⟩
    subst hw
    simpa [lowBits] using h

theorem wb_code' {w wr : World} {A : Nat} {L : List Bool} {vb : Value} {M : List Bool} {act : Option (Nat × Array Value)} (h : WB w wr A L vb M act) (v m : Int) (hl : L.length ≤ 1125899906841000) :
    Calls Try.prog 11 #[.pointer (some ⟨A, 0, none⟩), .int .i64 v, .int .i64 m] wr fun e w' => e = .returned (.tuple #[]) ∧ WB w w' A (L ++ highBits v (fitN m)) vb M act := by
  unfold fitN
  by_cases hm : 0 ≤ m ∧ m ≤ 32
  · rw [if_pos hm]
    have := wb_code h v m.toNat hl (by omega)
    rwa [Int.toNat_of_nonneg hm.1] at this
  · rw [if_neg hm]
    refine (code_out A v m wr (by omega)).mono fun e w' ⟨he, hw⟩ => ⟨he, ?_⟩
    subst hw
    simpa [highBits] using h

theorem actSum_mono (f : Nat → ActD) {k n : Nat} (h : k ≤ n) : actSum f k ≤ actSum f n := by
  induction n with
  | zero => have : k = 0 := by omega
            subst this; exact Nat.le_refl _
  | succ n ih =>
    by_cases e : k = n + 1
    · subst e; exact Nat.le_refl _
    · have := ih (by omega); simp only [actSum]; omega

theorem BRow.form {w : World} {v : Value} {L : List Bool} (h : BRow w v L) : ∃ ao cap, v = .slice ao L.length cap := by
  rcases h.2 with ⟨h1, h2⟩ | ⟨g, cap, _, h1, _⟩
  · exact ⟨none, 0, by rw [h1, h2]⟩
  · exact ⟨_, cap, h1⟩

theorem strBits_range (s : ByteArray) : (List.range (8 * s.size)).map (strBit s) = strBits s := by
  apply List.ext_getElem?
  intro i
  by_cases hi : i < 8 * s.size
  · have hl : i < (strBits s).length := by rw [strBits_length]; omega
    simp [hi, strBit, List.getD, hl]
  · rw [List.getElem?_eq_none (by simp; omega), List.getElem?_eq_none (by rw [strBits_length]; omega)]

set_option maxHeartbeats 4000000 in
set_option maxRecDepth 100000 in
theorem writes_some (f : Nat → ActD) (b o n c : Nat) (w : World) (hn : n ≤ maxLen) (hbulk : actSum f n ≤ 1048576)
    (hf : ∀ i, i < n → ActAt w b (o + i * 4) (f i)) :
    Calls Try.prog 4 #[.slice (some ⟨b, o, none⟩) n c] w fun e w' => e = .returned (.bool true) ∧ Below w.heap.size w w' := by
  unfold maxLen at hn
  have HF := Lib.hid hf
  clear hf
  go_enter Try.func4, Try.ntmps4
  go_wp2_with fail
  refine (speaks_any _).mono ?_
  rintro e w1 ⟨rfl, hbl⟩
  have S1 := Lib.hid (Sofar.of_below hbl)
  clear hbl
  have H0 : Hid (WB w (w1.alloc (.cells #[.slice none 0 0, .int .i64 0] 25)) w1.heap.size [] (.slice none 0 0) [] none) :=
    Lib.hid ⟨⟨none, writer_new w1, by simp⟩, World.ownsRow_nil _ _ _ _, by simp [Value.ownBlock], S1.out.size, S1.out.alloc _, fun _ _ h => by cases h⟩
  go_wp2_with fail
  generalize (w1.alloc (.cells #[.slice none 0 0, .int .i64 0] 25)) = W0 at *
  generalize w1.heap.size = A at *
  clear S1
  go_loopg [5, 6] n (fun g vb i wr => ∃ (k : Nat) (L : List Bool), k ≤ n ∧ g = n - k ∧ i = .int .i64 (k : Int) ∧ L.length ≤ 8 * actSum f k ∧ WB w wr A L vb L none)
  case atStart => exact ⟨0, [], Nat.zero_le _, rfl, rfl, by simp, H0.out⟩
  case round =>
    obtain ⟨k, L, hk, rfl, rfl, hL, hwb⟩ := hrel
    have HW := Lib.hid hwb
    have HL := Lib.hid hL
    have HBK := Lib.hid hbulk
    have SS := Lib.hid hwb.sf
    clear hwb hL hbulk
    by_cases hlt : k < n
    · obtain ⟨c0, c1, c2, c3⟩ := HF.out k hlt
      have d0 := Mut.cell SS.out c0 (by simp)
      have d1 := Mut.cell SS.out c1 (by simp)
      have d2 := Mut.cell SS.out c2 (by simp)
      have d3 := Mut.cell SS.out c3 (by simp)
      clear c0 c1 c2 c3
      have hsum : actSum f (k + 1) = actSum f k + ((f k).text.size + 5) := rfl
      have HSUM := Lib.hid hsum
      clear hsum
      generalize f k = a at *
      obtain ⟨aw, an, av, atx⟩ := a
      simp only at d0 d1 d2 d3
      go_upto_region 11 with fail
      have HA : Hid (WB w (wr.alloc (.cells #[.int .i64 aw, .int .i64 an, .int .i64 av, .string atx] 33)) A L u5 L (some (wr.heap.size, #[.int .i64 aw, .int .i64 an, .int .i64 av, .string atx]))) := Lib.hid (HW.out.new _)
      generalize (wr.alloc (.cells #[.int .i64 aw, .int .i64 an, .int .i64 av, .string atx] 33)) = wa at *
      generalize wr.heap.size = B at *
      clear d0 d1 d2 d3 HW SS
      have hN := fitN_le an
      go_cut [31] (fun s31 wx => s31 = .bool (outB an) ∧ wx = wa)
      case first =>
        by_cases hm : an < 0
        · have HE := Lib.hid (outB_t (m := an) (.inl hm))
          go_wp2_with fail
          go_meet
          exact ⟨by rw [HE.out], rfl⟩
        · by_cases hm2 : 32 < an
          · have HE := Lib.hid (outB_t (m := an) (.inr hm2))
            go_wp2_with fail
            go_meet
            exact ⟨by rw [HE.out], rfl⟩
          · have HE := Lib.hid (outB_f (m := an) (by omega) (by omega))
            go_wp2_with fail
            go_meet
            exact ⟨by rw [HE.out], rfl⟩
      case rest =>
      obtain ⟨rfl, rfl⟩ := hcut
      go_upto_if 31 with fail
      go_cut [8] (fun s8 wx => s8 = .int .i64 ((fitN an : Nat) : Int) ∧ wx = wc)
      case first =>
        cases hq : outB an
        · have HE := Lib.hid (fitN_in (outB_inv hq).1 (outB_inv hq).2)
          clear hq
          go_wp2_with fail
          go_meet
          exact ⟨by rw [HE.out], rfl⟩
        · have HE := Lib.hid (fitN_out (outB_inv' hq))
          clear hq
          go_wp2_with fail
          go_meet
          exact ⟨by rw [HE.out]; rfl, rfl⟩
      case rest =>
        obtain ⟨rfl, rfl⟩ := hcut
        have hh := HA.out.act _ _ rfl
        have d0 : wc.cell? ⟨B, 0, none⟩ = some (.int .i64 aw) := cellOf hh 0 rfl
        have d1 : wc.cell? ⟨B, 1, none⟩ = some (.int .i64 an) := cellOf hh 1 rfl
        have d2 : wc.cell? ⟨B, 2, none⟩ = some (.int .i64 av) := cellOf hh 2 rfl
        have d3 : wc.cell? ⟨B, 3, none⟩ = some (.string atx) := cellOf hh 3 rfl
        generalize hNN : fitN an = N at *
        have HNN := Lib.hid hNN
        have HH := Lib.hid hh
        clear hNN hh
        go_wp2_with fail
        refine (what_any aw an av atx _).mono ?_
        rintro e w3 ⟨rfl, hm3⟩
        have HB := Lib.hid (HA.out.mut0 hm3)
        clear hm3 d0 d1 d2 d3 HH HA
        have hh := HB.out.act _ _ rfl
        have d0 : w3.cell? ⟨B, 0, none⟩ = some (.int .i64 aw) := cellOf hh 0 rfl
        have d1 : w3.cell? ⟨B, 1, none⟩ = some (.int .i64 an) := cellOf hh 1 rfl
        have d2 : w3.cell? ⟨B, 2, none⟩ = some (.int .i64 av) := cellOf hh 2 rfl
        have d3 : w3.cell? ⟨B, 3, none⟩ = some (.string atx) := cellOf hh 3 rfl
        clear hh
        have hbl : L.length ≤ 8388608 := by have := HL.out; have := HBK.out; have := actSum_mono f (show k ≤ n by omega); omega
        rcases (show aw % 4 = 2 ∨ aw % 4 = 3 ∨ (aw % 4 ≠ 2 ∧ aw % 4 ≠ 3) by omega) with hw | hw | ⟨hw, hw'⟩
        · have q2 : (aw % 4 == 2) = true := by rw [beq_iff_eq]; omega
          go_wp2_with fail
          refine (wb_code' HB.out av an (by omega)).mono ?_
          rintro e w4 ⟨rfl, h4⟩
          rw [HNN.out] at h4
          have H4 := Lib.hid h4
          have hh := h4.act _ _ rfl
          have e1 : w4.cell? ⟨B, 1, none⟩ = some (.int .i64 an) := cellOf hh 1 rfl
          have e2 : w4.cell? ⟨B, 2, none⟩ = some (.int .i64 av) := cellOf hh 2 rfl
          clear hh h4 d0 d1 d2 d3
          go_wp2_with fail
          refine (code_nil av an _).mono ?_
          rintro e w5 ⟨rfl, rfl⟩
          go_wp2_with fail
          go_loopw [5, 9] (fun vb kk wx => ∃ j : Nat, j ≤ N ∧ kk = .int .i64 ((j : Int) - 1) ∧ WB w wx A (L ++ highBits av N) vb (L ++ highTo av N (N - j)) (some (B, #[.int .i64 aw, .int .i64 an, .int .i64 av, .string atx]))) (fun _ kk _ => (intOf kk + 1).toNat)
          case atStart => exact ⟨N, Nat.le_refl _, rfl, by rw [Nat.sub_self]; simpa [highTo] using H4.out⟩
          case round =>
            obtain ⟨j, hj, rfl, hx⟩ := hrel
            have HX := Lib.hid hx
            have hhx := hx.act _ _ rfl
            have f2 : wr.cell? ⟨B, 2, none⟩ = some (.int .i64 av) := cellOf hhx 2 rfl
            clear hx hhx e1 e2
            rcases j with _ | j
            · have hneg : ¬ (0 : Int) ≤ ((0 : Nat) : Int) - 1 := by omega
              have H5 : Hid (WB w wr A (L ++ highBits av N) u5 (L ++ highBits av N) none) := by
                have := HX.out.forget
                rw [Nat.sub_zero] at this
                exact Lib.hid this
              go_wp2_with fail
              go_roundg (n - (k + 1))
              case measure => omega
              case rel =>
                refine ⟨k + 1, L ++ highBits av N, by omega, rfl, by simp, ?_, H5.out⟩
                have := HL.out
                have := HSUM.out
                rw [List.length_append, highBits_length]
                omega
            · rw [show (((j + 1 : Nat) : Int) - 1) = (j : Int) by omega]
              have hpos : (0 : Int) ≤ (j : Int) := by omega
              have hj64 : (j : Int) ≤ 64 := by omega
              have hlen : (L ++ highTo av N (N - (j + 1))).length ≤ 8388640 := by rw [List.length_append, highTo_length]; omega
              have hand := and1_i64 (av / 2 ^ j)
              obtain ⟨M, hM⟩ : ∃ M, L ++ highTo av N (N - (j + 1)) = M := ⟨_, rfl⟩
              have HXM : Hid (WB w wr A (L ++ highBits av N) u5 M (some (B, #[.int .i64 aw, .int .i64 an, .int .i64 av, .string atx]))) := by rw [← hM]; exact HX
              have h6' : M ++ [decide (av / 2 ^ j % 2 = 1)] = L ++ highTo av N (N - j) := by
                rw [← hM, List.append_assoc, ← highTo_one av N j (by omega)]; simp [lowBits, bitOf]
              rw [hM] at hlen
              have H7 := Lib.hid h6'
              clear h6' HX hM
              have hrow : wr.ownsRow 0 3 1 u5 _ _ := HXM.out.row
              obtain ⟨i0, hi, hz0, hz1, hz2⟩ := info_parts info_int
              go_wp2_with (at_builtin; refine wp_app rfl (.tmp 77) (.tmp 83) 31 31 rfl 3 i0 (.int .i64 0) 1 8 Try.underlying31 hi hz0 hz1 hz2 rfl (hrow.alloc _) rfl (src1 Try.underlying31 (heap_alloc_new _ _) rfl (one1 rfl)) rfl (by unfold maxLen; omega) (by omega) ?_)
              intro v' w6 hr6 hg6 hf6
              have H6 := Lib.hid (HXM.out.app _ (decide (av / 2 ^ j % 2 = 1)) _ (by rw [← int_bit]) hr6 hg6 hf6)
              clear hr6 hg6 hf6 hrow hi hz0 hz1 hz2
              go_wp2_with fail
              go_roundw
              case rel => exact ⟨j, by omega, rfl, by rw [← H7.out]; exact H6.out⟩
              case measure => simp [intOf]
        · have q2 : (aw % 4 == 2) = false := by rw [beq_eq_false_iff_ne]; omega
          have q3 : (aw % 4 == 3) = true := by rw [beq_iff_eq]; omega
          have hsz : atx.size ≤ 1048576 := by have := HSUM.out; have := HBK.out; have := actSum_mono f (show k + 1 ≤ n by omega); omega
          go_wp2_with fail
          refine (wb_bytes HB.out atx (by omega)).mono ?_
          rintro e w4 ⟨rfl, h4⟩
          have H4 := Lib.hid h4
          have hh := h4.act _ _ rfl
          have e3 : w4.cell? ⟨B, 3, none⟩ = some (.string atx) := cellOf hh 3 rfl
          clear hh h4 d0 d1 d2 d3
          go_wp2_with fail
          refine (wbytes_nil atx _).mono ?_
          rintro e w5 ⟨rfl, rfl⟩
          go_wp2_with fail
          go_loopg [5] (8 * ((L.length + 7) / 8) - L.length) (fun g vb wx => ∃ j : Nat, L.length + j ≤ 8 * ((L.length + 7) / 8) ∧ g = 8 * ((L.length + 7) / 8) - L.length - j ∧ WB w wx A (pad8 L ++ strBits atx) vb (L ++ List.replicate j false) (some (B, #[.int .i64 aw, .int .i64 an, .int .i64 av, .string atx])))
          case atStart => exact ⟨0, by omega, rfl, by simpa using H4.out⟩
          case round =>
            obtain ⟨j, hj, rfl, hx⟩ := hrel
            have HX := Lib.hid hx
            have hhx := hx.act _ _ rfl
            have f3 : wr.cell? ⟨B, 3, none⟩ = some (.string atx) := cellOf hhx 3 rfl
            clear hx hhx e3
            have hlen : (L ++ List.replicate j false).length = L.length + j := by simp
            obtain ⟨M, hM⟩ : ∃ M, L ++ List.replicate j false = M := ⟨_, rfl⟩
            have HXM : Hid (WB w wr A (pad8 L ++ strBits atx) u5 M (some (B, #[.int .i64 aw, .int .i64 an, .int .i64 av, .string atx]))) := by rw [← hM]; exact HX
            rw [hM] at hlen
            have HLEN := Lib.hid hlen
            have HMM := Lib.hid hM
            have hMb : M.length ≤ 8388640 := by omega
            obtain ⟨ao, cap, rfl⟩ := HXM.out.row.form
            clear HX hM hlen
            by_cases hj8 : (L.length + j) % 8 = 0
            · have q8 : (((M.length : Int) % 8) != 0) = false := by rw [bne_eq_false_iff_eq]; have := HLEN.out; omega
              have HP : Hid (M = pad8 L) := by
                rw [← HMM.out]
                unfold pad8
                rw [show 8 * ((L.length + 7) / 8) - L.length = j by omega]
                exact Lib.hid rfl
              have HX2 : Hid (WB w wr A (pad8 L ++ strBits atx) (.slice ao M.length cap) (pad8 L ++ (List.range 0).map (strBit atx)) (some (B, #[.int .i64 aw, .int .i64 an, .int .i64 av, .string atx]))) := by
                have := HXM.out
                rw [HP.out] at this ⊢
                simpa using Lib.hid this
              clear HXM hj8
              go_wp2_with fail
              generalize Value.slice ao M.length cap = vs at *
              go_loopw [5, 10] (fun vb kk wx => ∃ j : Nat, j ≤ 8 * atx.size ∧ kk = .int .i64 (j : Int) ∧ WB w wx A (pad8 L ++ strBits atx) vb (pad8 L ++ (List.range j).map (strBit atx)) (some (B, #[.int .i64 aw, .int .i64 an, .int .i64 av, .string atx]))) (fun _ kk _ => 8 * atx.size - (intOf kk).toNat)
              case atStart => exact ⟨0, Nat.zero_le _, rfl, HX2.out⟩
              case round =>
                clear HMM HLEN q8 HP HX2 f3 hMb
                obtain ⟨j, hj, rfl, hx⟩ := hrel
                have HX := Lib.hid hx
                have hhx := hx.act _ _ rfl
                have f3 : wr.cell? ⟨B, 3, none⟩ = some (.string atx) := cellOf hhx 3 rfl
                clear hx hhx
                by_cases hj2 : j < 8 * atx.size
                · have hlt2 : (j : Int) < 8 * (atx.size : Int) := by omega
                  have hlen : (pad8 L ++ (List.range j).map (strBit atx)).length ≤ 16777300 := by rw [List.length_append, pad8_length]; simp; omega
                  obtain ⟨M, hM⟩ : ∃ M, pad8 L ++ (List.range j).map (strBit atx) = M := ⟨_, rfl⟩
                  have HXM : Hid (WB w wr A (pad8 L ++ strBits atx) u5 M (some (B, #[.int .i64 aw, .int .i64 an, .int .i64 av, .string atx]))) := by rw [← hM]; exact HX
                  have h6' : M ++ [strBit atx j] = pad8 L ++ (List.range (j + 1)).map (strBit atx) := by
                    rw [← hM, List.append_assoc, List.range_succ, List.map_append]; rfl
                  rw [hM] at hlen
                  have H7 := Lib.hid h6'
                  clear h6' HX hM
                  have hrow : wr.ownsRow 0 3 1 u5 _ _ := HXM.out.row
                  obtain ⟨i0, hi, hz0, hz1, hz2⟩ := info_parts info_int
                  go_wp2_with fail
                  refine (bitf_any atx j _ (by omega) (by omega)).mono ?_
                  rintro e w7 ⟨rfl, rfl⟩
                  go_wp2_with (at_builtin; refine wp_app rfl (.tmp 109) (.tmp 114) 31 31 rfl 3 i0 (.int .i64 0) 1 8 Try.underlying31 hi hz0 hz1 hz2 rfl (hrow.alloc _) rfl (src1 Try.underlying31 (heap_alloc_new _ _) rfl (one1 rfl)) rfl (by unfold maxLen; omega) (by omega) ?_)
                  intro v' w6 hr6 hg6 hf6
                  have H6 := Lib.hid (HXM.out.app _ (strBit atx j) _ rfl hr6 hg6 hf6)
                  clear hr6 hg6 hf6 hrow hi hz0 hz1 hz2
                  go_wp2_with fail
                  go_roundw
                  case rel => exact ⟨j + 1, by omega, by go_num, by rw [← H7.out]; exact H6.out⟩
                  case measure => simp [intOf]; omega
                · have e : j = 8 * atx.size := by omega
                  have hge2 : 8 * (atx.size : Int) ≤ (j : Int) := by omega
                  have H5 : Hid (WB w wr A (pad8 L ++ strBits atx) u5 (pad8 L ++ strBits atx) none) := by
                    have := HX.out.forget
                    rw [e, strBits_range] at this
                    exact Lib.hid this
                  clear e
                  go_wp2_with fail
                  go_roundg (n - (k + 1))
                  case measure => omega
                  case rel =>
                    refine ⟨k + 1, pad8 L ++ strBits atx, by omega, rfl, by simp, ?_, H5.out⟩
                    have := HL.out
                    have := HSUM.out
                    rw [List.length_append, pad8_length, strBits_length]
                    omega
            · have q8 : (((M.length : Int) % 8) != 0) = true := by rw [bne_iff_ne]; have := HLEN.out; omega
              have hrow : wr.ownsRow 0 3 1 (.slice ao M.length cap) _ _ := HXM.out.row
              obtain ⟨i0, hi, hz0, hz1, hz2⟩ := info_parts info_int
              go_wp2_with (at_builtin; refine wp_app rfl (.tmp 98) (.tmp 99) 31 31 rfl 3 i0 (.int .i64 0) 1 8 Try.underlying31 hi hz0 hz1 hz2 rfl (hrow.alloc _) rfl (src1 Try.underlying31 (heap_alloc_new _ _) rfl (one1 rfl)) rfl (by unfold maxLen; omega) (by omega) ?_)
              intro v' w6 hr6 hg6 hf6
              have H6 : Hid (WB w w6 A (pad8 L ++ strBits atx) v' (L ++ List.replicate (j + 1) false) (some (B, #[.int .i64 aw, .int .i64 an, .int .i64 av, .string atx]))) := by
                have := HXM.out.app _ false _ rfl hr6 hg6 hf6
                rw [← HMM.out, List.append_assoc] at this
                rw [List.replicate_succ']
                exact Lib.hid this
              clear hr6 hg6 hf6 hrow hi hz0 hz1 hz2
              go_wp2_with fail
              go_roundg (8 * ((L.length + 7) / 8) - L.length - (j + 1))
              case measure => omega
              case rel => exact ⟨j + 1, by omega, rfl, H6.out⟩
        · have q2 : (aw % 4 == 2) = false := by rw [beq_eq_false_iff_ne]; omega
          have q3 : (aw % 4 == 3) = false := by rw [beq_eq_false_iff_ne]; omega
          go_wp2_with fail
          refine (wb_put' HB.out av an (by omega)).mono ?_
          rintro e w4 ⟨rfl, h4⟩
          rw [HNN.out] at h4
          have H4 := Lib.hid h4
          have hh := h4.act _ _ rfl
          have e1 : w4.cell? ⟨B, 1, none⟩ = some (.int .i64 an) := cellOf hh 1 rfl
          have e2 : w4.cell? ⟨B, 2, none⟩ = some (.int .i64 av) := cellOf hh 2 rfl
          clear hh h4 d0 d1 d2 d3
          go_wp2_with fail
          refine (put_nil av an _).mono ?_
          rintro e w5 ⟨rfl, rfl⟩
          go_wp2_with fail
          go_loopw [5, 11] (fun vb kk wx => ∃ j : Nat, j ≤ N ∧ kk = .int .i64 (j : Int) ∧ WB w wx A (L ++ lowBits av N) vb (L ++ lowBits av j) (some (B, #[.int .i64 aw, .int .i64 an, .int .i64 av, .string atx]))) (fun _ kk _ => N - (intOf kk).toNat)
          case atStart => exact ⟨0, Nat.zero_le _, rfl, by simpa [lowBits] using H4.out⟩
          case round =>
            obtain ⟨j, hj, rfl, hx⟩ := hrel
            have HX := Lib.hid hx
            have hhx := hx.act _ _ rfl
            have f2 : wr.cell? ⟨B, 2, none⟩ = some (.int .i64 av) := cellOf hhx 2 rfl
            clear hx hhx e1 e2
            by_cases hjN : j < N
            · have hj64 : (j : Int) ≤ 64 := by omega
              have hlen : (L ++ lowBits av j).length ≤ 8388640 := by rw [List.length_append, lowBits_length]; omega
              have hand := and1_i64 (av / 2 ^ j)
              obtain ⟨M, hM⟩ : ∃ M, L ++ lowBits av j = M := ⟨_, rfl⟩
              have HXM : Hid (WB w wr A (L ++ lowBits av N) u5 M (some (B, #[.int .i64 aw, .int .i64 an, .int .i64 av, .string atx]))) := by rw [← hM]; exact HX
              have h6' : M ++ [decide (av / 2 ^ j % 2 = 1)] = L ++ lowBits av (j + 1) := by
                rw [← hM, List.append_assoc, lowBits_succ]
              rw [hM] at hlen
              have H7 := Lib.hid h6'
              clear h6' HX hM
              have hrow : wr.ownsRow 0 3 1 u5 _ _ := HXM.out.row
              obtain ⟨i0, hi, hz0, hz1, hz2⟩ := info_parts info_int
              go_wp2_with (at_builtin; refine wp_app rfl (.tmp 50) (.tmp 56) 31 31 rfl 3 i0 (.int .i64 0) 1 8 Try.underlying31 hi hz0 hz1 hz2 rfl (hrow.alloc _) rfl (src1 Try.underlying31 (heap_alloc_new _ _) rfl (one1 rfl)) rfl (by unfold maxLen; omega) (by omega) ?_)
              intro v' w6 hr6 hg6 hf6
              have H6 := Lib.hid (HXM.out.app _ (decide (av / 2 ^ j % 2 = 1)) _ (by rw [← int_bit]) hr6 hg6 hf6)
              clear hr6 hg6 hf6 hrow hi hz0 hz1 hz2
              go_wp2_with fail
              go_roundw
              case rel => exact ⟨j + 1, by omega, by go_num, by rw [← H7.out]; exact H6.out⟩
              case measure => simp [intOf]; omega
            · have e : j = N := by omega
              have hge : (N : Int) ≤ (j : Int) := by omega
              have H5 : Hid (WB w wr A (L ++ lowBits av N) u5 (L ++ lowBits av N) none) := by
                have := HX.out.forget
                rw [e] at this
                exact Lib.hid this
              clear e
              go_wp2_with fail
              go_roundg (n - (k + 1))
              case measure => omega
              case rel =>
                refine ⟨k + 1, L ++ lowBits av N, by omega, rfl, by simp, ?_, H5.out⟩
                have := HL.out
                have := HSUM.out
                rw [List.length_append, lowBits_length]
                omega
    · have e : k = n := by omega
      have hge : (n : Int) ≤ (k : Int) := by omega
      have hLb : L.length ≤ 8388608 := by have h1 := HL.out; rw [e] at h1; have h2 := HBK.out; omega
      clear e
      go_wp2_with fail
      obtain ⟨r, hr, hrg⟩ := HW.out.wri
      have HR := Lib.hid hr
      clear hr hrg
      refine (wall_any A r L _ HR.out).mono ?_
      rintro e w7 ⟨rfl, rfl⟩
      go_wp2_with fail
      refine (pack_any u5 L _ HW.out.row (by omega)).mono ?_
      rintro e w7 ⟨rfl, hm7⟩
      have S7 := Lib.hid (SS.out.step hm7 (by simp))
      clear hm7
      generalize strOf (pack L) = x at *
      go_wp2_with fail
      refine (wall_nil _).mono ?_
      rintro e w8 ⟨rfl, rfl⟩
      go_wp2_with fail
      go_ret
      exact ⟨rfl, S7.out.below⟩

theorem brow_nil (w : World) : BRow w (.slice none 0 0) [] := World.ownsRow_nil w 0 _ 1

set_option maxRecDepth 100000 in
theorem writes_none (ao : Option Addr) (c : Nat) (w : World) :
    Calls Try.prog 4 #[.slice ao 0 c] w fun e w' => e = .returned (.bool true) ∧ Below w.heap.size w w' := by
  go_enter Try.func4, Try.ntmps4
  go_wp2_with fail
  refine (speaks_any _).mono ?_
  rintro e w1 ⟨rfl, hbl⟩
  have S1 := Lib.hid (Sofar.of_below hbl)
  clear hbl
  have HR := Lib.hid (writer_new w1)
  have S2 := Lib.hid (S1.out.alloc (.cells #[.slice none 0 0, .int .i64 0] 25))
  go_wp2_with fail
  go_loop [5, 6] (fun vb i => vb = .slice none 0 0 ∧ i = .int .i64 0) (fun _ _ => 0)
  case atStart => exact ⟨rfl, rfl⟩
  case round =>
    obtain ⟨rfl, rfl⟩ := hrel
    go_wp2_with fail
    refine (wall_any _ none [] _ HR.out).mono ?_
    rintro e w7 ⟨rfl, rfl⟩
    go_wp2_with fail
    refine (pack_any (.slice none 0 0) [] _ (brow_nil _) (by decide)).mono ?_
    rintro e w7 ⟨rfl, hm7⟩
    have S7 := Lib.hid (S2.out.step hm7 (by simp))
    clear hm7
    generalize strOf (pack []) = x at *
    go_wp2_with fail
    refine (wall_nil _).mono ?_
    rintro e w8 ⟨rfl, rfl⟩
    go_wp2_with fail
    go_ret
    exact ⟨rfl, S7.out.below⟩

theorem lawBitsWrites (w : World) (v : Value) (n : Nat) (f : Nat → ActD) (h : Acts w v n f) (d : Nat) (hd : actSum f n ≤ d) (hb : d ≤ 1048576) :
    Calls Try.prog 4 #[v] w fun e w' => e = .returned (.bool true) ∧ Below w.heap.size w w' := by
  obtain ⟨ao, cap, rfl, h1, h2, h3, h4⟩ := h
  rcases n with _ | n
  · exact writes_none ao cap w
  · obtain ⟨b, off, rfl, _, h6⟩ := h3 (by omega)
    exact writes_some f b off (n + 1) cap w (by omega) (by omega) h6

end Go.Proofs.Ytlcfegckjkemhaa
