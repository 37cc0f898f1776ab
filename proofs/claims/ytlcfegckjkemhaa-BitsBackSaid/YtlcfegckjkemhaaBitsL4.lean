/- The law BitsBack. -/
import Derived.Test.YtlcfegckjkemhaaBitsL3
import Derived.Test.YtlcfegckjkemhaaLaw
import Derived.WalkLawsBesides
import Derived.Deep.DeepCutAuto
import Derived.Deep.LoopGhost
namespace Go.Proofs.Ytlcfegckjkemhaa
open Go.RowKit

/-- the width at place k -/
def wd (ws : List Int) (k : Nat) : Nat := (ws.getD k 0 % 32).toNat
/-- the bits of the first k numbers -/
def bb (vs ws : List Int) : Nat → List Bool
  | 0 => []
  | k + 1 => bb vs ws k ++ lowBits (vs.getD k 0) (wd ws k)

theorem wd_lt (ws : List Int) (k : Nat) : wd ws k < 32 := by unfold wd; omega
theorem bb_len (vs ws : List Int) (k : Nat) : (bb vs ws k).length ≤ 31 * k := by
  induction k with
  | zero => simp [bb]
  | succ k ih => have := wd_lt ws k; simp only [bb, List.length_append, lowBits_length]; omega
theorem bb_split (vs ws : List Int) (k n : Nat) (h : k < n) : ∃ c, bb vs ws n = bb vs ws k ++ lowBits (vs.getD k 0) (wd ws k) ++ c := by
  induction n with
  | zero => omega
  | succ n ih =>
    by_cases e : k = n
    · subst e; exact ⟨[], by simp [bb]⟩
    · obtain ⟨c, hc⟩ := ih (by omega)
      exact ⟨c ++ lowBits (vs.getD n 0) (wd ws n), by rw [bb, hc, List.append_assoc]⟩
theorem bb_peek (vs ws : List Int) (k n : Nat) (h : k < n) : ((peekNum (strOf (pack (bb vs ws n))) (bb vs ws k).length (wd ws k) : Nat) : Int) = vs.getD k 0 % 2 ^ wd ws k := by
  obtain ⟨c, hc⟩ := bb_split vs ws k n h
  rw [← num_lowBits, peek_pack _ _ c _ _ _ hc rfl (lowBits_length _ _).symm]
theorem bb_succ_len (vs ws : List Int) (k : Nat) : (bb vs ws (k + 1)).length = (bb vs ws k).length + wd ws k := by simp [bb, lowBits_length]
theorem bb_mono (vs ws : List Int) (k n : Nat) (h : k ≤ n) : (bb vs ws k).length ≤ (bb vs ws n).length := by
  induction n with
  | zero => have : k = 0 := by omega
            subst this; exact Nat.le_refl _
  | succ n ih =>
    by_cases e : k = n + 1
    · subst e; exact Nat.le_refl _
    · rw [bb_succ_len]; have := ih (by omega); omega

theorem and31 (x : Int) (n : Nat) (h : (x % 32).toNat = n) : bits .and .i64 x 31 = (n : Int) := by
  have := and_mask_i64 x 5 (by decide) 31 (by decide)
  rw [this]; omega

set_option maxHeartbeats 1000000 in
theorem back_some (vs ws : List Int) (b1 o1 l1 c1 b2 o2 l2 c2 n : Nat) (w : World) (hn0 : 0 < n) (hn : n ≤ 2000) (h1 : n ≤ l1) (h2 : n ≤ l2) (hm : min (min l1 l2) 2000 = n) (hl1 : l1 ≤ maxLen) (hl2 : l2 ≤ maxLen)
    (hv : ∀ i, i < n → w.cell? ⟨b1, o1 + i, none⟩ = some (.int .i64 (vs.getD i 0))) (hw : ∀ i, i < n → w.cell? ⟨b2, o2 + i, none⟩ = some (.int .i64 (ws.getD i 0))) :
    Calls Try.prog 5 #[.slice (some ⟨b1, o1, none⟩) l1 c1, .slice (some ⟨b2, o2, none⟩) l2 c2] w fun e w' => e = .returned (.bool true) ∧ Below w.heap.size w w' := by
  have HV := Lib.hid hv
  have HW := Lib.hid hw
  have HM := Lib.hid hm
  unfold maxLen at hl1 hl2
  clear hv hw hm
  go_enter Try.func5, Try.ntmps5
  go_wp2_with fail
  refine (speaks_any _).mono ?_
  rintro e w1 ⟨rfl, hbl⟩
  have S1 := Lib.hid (Sofar.of_below hbl)
  clear hbl
  go_upto_region 4 with fail
  go_cut [6] (fun s6 wx => s6 = .int .i64 (n : Int) ∧ wx = w1.alloc (.cells #[.slice none 0 0, .int .i64 0] 25))
  case first =>
    go_wp2_with fail
    all_goals (go_meet; refine ⟨?_, rfl⟩; have := HM.out; congr 1; omega)
  case rest =>
    obtain ⟨rfl, rfl⟩ := hcut
    have HT0 := Lib.hid (WrTo.refl (writer_new w1))
    have S2 := Lib.hid (S1.out.alloc (.cells #[.slice none 0 0, .int .i64 0] 25))
    have hA := S1.out.size
    generalize (w1.alloc (.cells #[.slice none 0 0, .int .i64 0] 25)) = W0 at *
    generalize w1.heap.size = A at *
    clear S1
    go_wp2_with fail
    go_loopw [7, 8] (fun sum i wr => ∃ k : Nat, k ≤ n ∧ i = .int .i64 (k : Int) ∧ sum = .int .i64 (((bb vs ws k).length : Nat) : Int) ∧ WrTo W0 A none (bb vs ws k) wr) (fun _ i _ => n - (intOf i).toNat)
    case atStart => exact ⟨0, Nat.zero_le _, rfl, rfl, HT0.out⟩
    case round =>
      obtain ⟨k, hk, rfl, rfl, hto⟩ := hrel
      have HT := Lib.hid hto
      have S3 := Lib.hid (S2.out.wr hto hA)
      clear hto
      have hbl := bb_len vs ws k
      by_cases hlt : k < n
      · have c1 := Mut.cell S3.out (HV.out k hlt) (by simp)
        have c2 := Mut.cell S3.out (HW.out k hlt) (by simp)
        have ha := and31 (ws.getD k 0) (wd ws k) rfl
        have hwl := wd_lt ws k
        have hbs : bb vs ws (k + 1) = bb vs ws k ++ lowBits (vs.getD k 0) (wd ws k) := rfl
        generalize vs.getD k 0 = x at *
        generalize ws.getD k 0 = y at *
        generalize wd ws k = d at *
        have HBS := Lib.hid hbs
        clear hbs
        have hil1 : (k : Int) < (l1 : Int) := by omega
        have hil2 : (k : Int) < (l2 : Int) := by omega
        go_wp2_with fail
        refine (put_to HT.out x _ d rfl (by omega) (by omega)).mono ?_
        rintro e w3 ⟨rfl, h3⟩
        have H3 : Hid (WrTo W0 A none (bb vs ws (k + 1)) w3) := by rw [HBS.out]; exact Lib.hid h3
        clear h3
        go_wp2_with fail
        go_roundw
        case rel => exact ⟨k + 1, by omega, by go_num, by rw [HBS.out, List.length_append, lowBits_length]; go_num, H3.out⟩
        case measure => simp [intOf]; omega
      · have e : k = n := by omega
        have HTn : Hid (WrTo W0 A none (bb vs ws n) wr) := by rw [← e]; exact HT
        have hsum : (((bb vs ws k).length : Nat) : Int) = (((bb vs ws n).length : Nat) : Int) := by rw [e]
        have hbn := bb_len vs ws n
        have hge : (n : Int) ≤ (k : Int) := by omega
        rw [hsum]
        have HE := Lib.hid e
        clear e HT hsum
        have hsz := str_pack_size (bb vs ws n)
        obtain ⟨T, hT⟩ : ∃ T, strOf (pack (bb vs ws n)) = T := ⟨_, rfl⟩
        rw [hT] at hsz
        have HTT := Lib.hid hT
        have hTb : T.size ≤ 140737488355328 := by omega
        have hsI : ((T.size : Int) == (((bb vs ws n).length : Int) + 7) / 8) = true := by rw [beq_iff_eq]; omega
        have HSZ := Lib.hid hsz
        clear hT hsz
        go_wp2_with fail
        refine (wall_to HTn.out T HTT.out).mono ?_
        rintro e w5 ⟨rfl, rfl⟩
        go_wp2_with fail
        refine (open_any T _).mono ?_
        rintro e w5 ⟨rfl, rfl⟩
        have hR := open_is T wr
        have S5 := Lib.hid (S3.out.alloc (.cells #[.string T, .int .i64 0] 57))
        have hB := S3.out.size
        generalize (wr.alloc (.cells #[.string T, .int .i64 0] 57)) = W5 at *
        generalize wr.heap.size = B at *
        have R5 := Lib.hid hR
        clear hR S3 HTn
        go_wp2_with fail
        go_loopw [12] (fun i wx => ∃ k : Nat, k ≤ n ∧ i = .int .i64 (k : Int) ∧ RdIs wx B T (bb vs ws k).length ∧ Sofar w wx) (fun i _ => n - (intOf i).toNat)
        case atStart => exact ⟨0, Nat.zero_le _, rfl, R5.out, S5.out⟩
        case round =>
          clear hge hlt hbl hk
          rename_i k0 _ _ wr0
          obtain ⟨k, hk, rfl, hrd, hsf⟩ := hrel
          have HR := Lib.hid hrd
          have S6 := Lib.hid hsf
          clear hrd hsf
          by_cases hlt : k < n
          · have hpk := bb_peek vs ws k n hlt
            rw [HTT.out] at hpk
            have hmono := bb_mono vs ws (k + 1) n (by omega)
            have hsl := bb_succ_len vs ws k
            have hwl := wd_lt ws k
            have hfit : (bb vs ws k).length + wd ws k ≤ 8 * T.size := by have := HSZ.out; omega
            have ha := and31 (ws.getD k 0) (wd ws k) rfl
            have hv := HV.out k hlt
            have hw := HW.out k hlt
            generalize vs.getD k 0 = x at *
            generalize ws.getD k 0 = y at *
            generalize wd ws k = d at *
            generalize hL : (bb vs ws k).length = L at *
            have HSL : Hid ((bb vs ws (k + 1)).length = L + d) := hsl
            have HPK := Lib.hid hpk
            have c2 := Mut.cell S6.out hw (by simp)
            have hil1 : (k : Int) < (l1 : Int) := by omega
            have hil2 : (k : Int) < (l2 : Int) := by omega
            have hmask := and_mask_i64 x d (by omega) _ (mask_i64 d (by omega))
            clear hmono hsl hpk hL
            go_wp2_with fail
            refine (take_ok_at B T L d _ _ HR.out hTb rfl (by omega) hfit).mono ?_
            rintro e w6 ⟨rfl, h6, m6⟩
            rw [HPK.out]
            have HR6 := Lib.hid h6
            have hs7 := S6.out.step m6 (by simpa using hB)
            have c1 := Mut.cell hs7 hv (by simp)
            have S7 := Lib.hid hs7
            clear h6 m6 c2 hs7 hv hw
            go_wp2_with fail
            go_quiet (fail)
            go_wp2_with fail
            exact ⟨⟨k + 1, by omega, by go_num, by rw [HSL.out]; exact HR6.out, S7.out.drewN _⟩, by simp [intOf]; omega⟩
          · have e : k = n := by omega
            subst e
            have hsz := HSZ.out
            have hlt8 : 8 * (T.size : Int) - ((bb vs ws k).length : Int) < 8 := by omega
            have hle : (bb vs ws k).length ≤ 8 * T.size := by omega
            clear hsz
            go_wp2_with fail
            refine (left_any B T _ _ HR.out hTb hle).mono ?_
            rintro e w7 ⟨rfl, q, rfl⟩
            go_wp2_with fail
            go_ret
            exact ⟨rfl, (S6.out.drewN q).below⟩

set_option maxHeartbeats 1000000 in
theorem back_none (a1 a2 : Option Addr) (l1 c1 l2 c2 : Nat) (w : World) (hm : min l1 l2 = 0) (hl1 : l1 ≤ maxLen) (hl2 : l2 ≤ maxLen) :
    Calls Try.prog 5 #[.slice a1 l1 c1, .slice a2 l2 c2] w fun e w' => e = .returned (.bool true) ∧ Below w.heap.size w w' := by
  have HM := Lib.hid hm
  unfold maxLen at hl1 hl2
  clear hm
  go_enter Try.func5, Try.ntmps5
  go_wp2_with fail
  refine (speaks_any _).mono ?_
  rintro e w1 ⟨rfl, hbl⟩
  have S1 := Lib.hid (Sofar.of_below hbl)
  clear hbl
  go_upto_region 4 with fail
  go_cut [6] (fun s6 wx => s6 = .int .i64 0 ∧ wx = w1.alloc (.cells #[.slice none 0 0, .int .i64 0] 25))
  case first =>
    go_wp2_with fail
    all_goals (go_meet; refine ⟨?_, rfl⟩; have := HM.out; congr 1; omega)
  case rest =>
    obtain ⟨rfl, rfl⟩ := hcut
    have HT0 := Lib.hid (WrTo.refl (writer_new w1))
    have S2 := Lib.hid (S1.out.alloc (.cells #[.slice none 0 0, .int .i64 0] 25))
    have hA := S1.out.size
    generalize (w1.alloc (.cells #[.slice none 0 0, .int .i64 0] 25)) = W0 at *
    generalize w1.heap.size = A at *
    clear S1
    go_wp2_with fail
    go_loop [7, 8] (fun sum i => i = .int .i64 0 ∧ sum = .int .i64 0) (fun _ _ => 0)
    case atStart => exact ⟨rfl, rfl⟩
    case round =>
      obtain ⟨rfl, rfl⟩ := hrel
      go_wp2_with fail
      refine (wall_to HT0.out ByteArray.empty (by decide +kernel)).mono ?_
      rintro e w5 ⟨rfl, rfl⟩
      go_wp2_with fail
      refine (open_any ByteArray.empty _).mono ?_
      rintro e w5 ⟨rfl, rfl⟩
      have hR := open_is ByteArray.empty W0
      have S5 := Lib.hid (S2.out.alloc (.cells #[.string ByteArray.empty, .int .i64 0] 57))
      generalize (W0.alloc (.cells #[.string ByteArray.empty, .int .i64 0] 57)) = W5 at *
      generalize W0.heap.size = B at *
      have R5 := Lib.hid hR
      clear hR HT0 S2
      go_wp2_with fail
      go_loop [12] (fun i => i = .int .i64 0) (fun _ => 0)
      case atStart => rfl
      case round =>
        subst hrel
        have hz0 : (ByteArray.empty.size == 0) = true := rfl
        go_wp2_with fail
        refine (left_any B ByteArray.empty 0 _ R5.out (by decide) (by decide)).mono ?_
        rintro e w7 ⟨rfl, q, rfl⟩
        go_wp2_with fail
        go_ret
        exact ⟨rfl, (S5.out.drewN q).below⟩

theorem lawBitsBack (w : World) (v : Value) (vs : List Int) (hv : Ints .i64 w v vs) (u : Value) (ws : List Int) (hu : Ints .i64 w u ws) :
    Calls Try.prog 5 #[v, u] w fun e w' => e = .returned (.bool true) ∧ Below w.heap.size w w' := by
  obtain ⟨a1, c1, rfl, h1, h2, h3, _⟩ := hv
  obtain ⟨a2, c2, rfl, k1, k2, k3, _⟩ := hu
  by_cases hn : 0 < vs.length ∧ 0 < ws.length
  · obtain ⟨b1, o1, rfl, _, g2⟩ := h3 hn.1
    obtain ⟨b2, o2, rfl, _, m2⟩ := k3 hn.2
    exact back_some vs ws b1 o1 _ _ b2 o2 _ _ (min (min vs.length ws.length) 2000) w (by omega) (by omega) (by omega) (by omega) rfl (by omega) (by omega) (fun i hi => g2 i (by omega)) (fun i hi => m2 i (by omega))
  · exact back_none a1 a2 _ _ _ _ w (by omega) (by omega) (by omega)

end Go.Proofs.Ytlcfegckjkemhaa
