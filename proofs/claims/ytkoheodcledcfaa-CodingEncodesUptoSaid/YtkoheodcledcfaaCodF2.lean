/- Walks over package ferretref07: Encode. -/
import Derived.Test.YtkoheodcledcfaaCodF1
import Derived.Deep.DeepCutAuto
import Derived.Deep.LoopGhost
namespace Go.Proofs.Ytkoheodcledcfaa
open Go.RowKit

theorem rencode_arg (v : Value) (c : Int) (mark : Bool) (hc : c < 1 ∨ 4 < c) (w : World) :
    Calls Try.prog 17 #[v, .int .i64 c, .bool mark] w fun e w' => e = .returned (.tuple #[.string ByteArray.empty, .int .i64 1]) ∧ w = w' := by
  rcases hc with h | h
  · go_enter Try.func17, Try.ntmps17
    go_wp2_with fail
    exact bodyPost_ret (results_tmp2 rfl _ _ _) rfl ⟨rfl, rfl⟩
  · have h' : ¬ c < 1 := by omega
    go_enter Try.func17, Try.ntmps17
    go_wp2_with fail
    exact bodyPost_ret (results_tmp2 rfl _ _ _) rfl ⟨rfl, rfl⟩

set_option maxHeartbeats 1600000 in
set_option maxRecDepth 1000000 in
theorem rencode_go (rs : List Int) (c : Nat) (mark : Bool) (hc : 1 ≤ c ∧ c ≤ 4) (hl : rs.length ≤ 67108864) (rp0 : Option Addr) (rc0 : Nat) (w : World) (hcells : ∀ (w' : World), Mut [] w w' → ∀ i : Nat, i < rs.length → ∃ a : Addr, rp0 = some a ∧ w'.cell? (a.add i) = some (.int .i64 (rs.getD i 0))) :
    Calls Try.prog 17 #[.slice rp0 rs.length rc0, .int .i64 (c : Int), .bool mark] w fun e w' => e = .returned (encRes rs c mark) ∧ Mut [] w w' := by
  have hc0 : ¬ (c : Int) < 1 := by omega
  have hc4 : ¬ (4 : Int) < (c : Int) := by omega
  obtain ⟨i0, hi, hz0, hz1, hz2⟩ := info_parts info_byte
  have HC := Lib.hid hcells
  clear hcells
  go_enter Try.func17, Try.ntmps17
  go_upto_if 16 with fail
  go_cut [8] (fun x wx => ∃ p l cap, x = .slice p l cap ∧ Hid (BRow wx (.slice p l cap) ((if mark then markB c else []) ++ encAll (rs.take 0) c)) ∧ Hid (Mut [] w wx) ∧ Hid (∀ g, (Value.slice p l cap).ownBlock = some g → w.heap.size ≤ g))
  case first =>
    cases mark
    · go_wp2_with fail
      go_meet
      exact ⟨_, _, _, rfl, Lib.hid (BRow.nil _), Lib.hid (Mut.refl _ _), Lib.hid (by intro g hg; simp [Value.ownBlock] at hg)⟩
    · go_wp2_with fail
      refine (rmark_any c hc.2 _).mono ?_
      rintro e w0 ⟨rfl, m0⟩
      have M0 := Lib.hid m0
      clear m0
      go_wp2_with (at_builtin; (refine wp_app rfl (.tmp 17) (.tmp 19) 61 9 rfl 5 i0 (.int .u8 0) 1 1 Try.underlying61 hi hz0 hz1 hz2 rfl (BRow.nil w0) rfl (Src.ofString w0 Try.underlying9 (strOf (markB c))) rfl ?b1 ?b2 ?_))
      case b1 => have := markB_len c; rw [strOf_size]; simp only [List.length_nil]; unfold maxLen; omega
      case b2 => have := markB_len c; rw [strOf_size]; simp only [List.length_nil]; omega
      intro v1 w1 g1 g2 g3
      go_wp2_with fail
      go_meet
      have hbr : BRow w1 v1 (markB c) := by
        unfold BRow
        rw [byteCells_eq, bytesOf_strOf _ (markB_lt c), strOf_size] at g1
        exact g1
      obtain ⟨pv, lv, cv, rfl⟩ := hbr.form
      refine ⟨pv, lv, cv, rfl, Lib.hid (by simpa [encAll] using hbr), Lib.hid (M0.out.grown g2 (fun k hk => by simp [Value.ownBlock] at hk)), Lib.hid fun g hg => ?_⟩
      rcases g3 g hg with h | h
      · simp [Value.ownBlock] at h
      · have := M0.out.size
        omega
  case rest =>
    obtain ⟨p, l, cap, rfl, HB, HM, HF⟩ := hcut
    have HI := Lib.hid (⟨hi, hz0, hz1, hz2⟩ : _ ∧ _ ∧ _ ∧ _)
    clear hi hz0 hz1 hz2
    generalize hH : (if mark then markB c else []) = H at *
    have HH := Lib.hid hH
    have HHL : Hid (H.length ≤ 3) := Lib.hid (by rw [← hH]; have := markB_len c; split <;> simp <;> omega)
    clear hH
    go_wp2_with fail
    go_loopw [8, 9] (fun out at_ wx => ∃ (i : Nat) (p : Option Addr) (l cap : Nat), out = .slice p l cap ∧ at_ = .int .i64 (i : Int) ∧ i ≤ rs.length ∧ Hid (∀ r ∈ rs.take i, okRune r c) ∧ Hid (BRow wx (.slice p l cap) (H ++ encAll (rs.take i) c)) ∧ Hid (Mut [] w wx) ∧ Hid (∀ g, (Value.slice p l cap).ownBlock = some g → w.heap.size ≤ g)) (fun _ at_ _ => rs.length - (intOf at_).toNat)
    case atStart => exact ⟨0, _, _, _, rfl, rfl, by omega, Lib.hid (by intro r hr; simp at hr), HB, HM, HF⟩
    case round =>
      obtain ⟨i, p', l', cap', rfl, rfl, hil, HOK, HB', HM', HF'⟩ := hrel
      clear HB HM HF
      by_cases hend : i < rs.length
      · have hendI : (i : Int) < (rs.length : Int) := by omega
        obtain ⟨a, rfl, hcell⟩ := HC.out wr HM'.out i hend
        have HT : Hid (rs.take (i + 1) = rs.take i ++ [rs.getD i 0]) := Lib.hid (by rw [List.take_add_one]; simp [List.getD, hend])
        have HMEM : Hid (rs.getD i 0 ∈ rs) := Lib.hid (by simp [List.getD, hend])
        have hcc : ∀ (w' : World), Mut [] w w' → w'.cell? (a.add i) = some (.int .i64 (rs.getD i 0)) := fun w' m => by
          obtain ⟨a2, h, h2⟩ := HC.out w' m i hend
          cases h
          exact h2
        generalize rs.getD i 0 = r at *
        have HCELL := Lib.hid hcc
        clear hcc
        go_upto_region 9 with fail
        have hcells : ∀ (w' : World), Mut [] w w' → w'.cell? (a.add i) = some (.int .i64 r) := HCELL.out
        go_cut [43] (fun x wx => x = .bool (badR r c) ∧ wx = wr)
        case first =>
          go_wp2_with fail
          refine (rscalar_any r _).mono ?_
          rintro e w1 ⟨rfl, rfl⟩
          cases hsc : isScalar r
          · have HB1 : Hid (badR r c = true) := Lib.hid (badR_t (fun h => by rw [isScalar_t ⟨h.1, h.2.1, h.2.2.1⟩] at hsc; simp at hsc))
            go_wp2_with fail
            go_meet
            exact ⟨by rw [HB1.out], rfl⟩
          · have hs3 : 0 ≤ r ∧ r ≤ 1114111 ∧ ¬ (55296 ≤ r ∧ r ≤ 57343) := by
              unfold isScalar at hsc
              exact of_decide_eq_true hsc
            by_cases h5 : c = 4
            · subst h5
              have hz : (((4 : Nat) : Int) == 4) = true := rfl
              by_cases h6 : 255 < r
              · have HB1 : Hid (badR r 4 = true) := Lib.hid (badR_t (fun h => by have := h.2.2.2 rfl; omega))
                go_wp2_with fail
                go_meet
                exact ⟨by rw [HB1.out], rfl⟩
              · have HB1 : Hid (badR r 4 = false) := Lib.hid (badR_f ⟨hs3.1, hs3.2.1, hs3.2.2, fun _ => by omega⟩)
                have H6 : Hid (decide (255 < r) = false) := Lib.hid (decide_eq_false h6)
                go_wp2_with fail
                go_meet
                exact ⟨by rw [HB1.out, H6.out], rfl⟩
            · have hz : ((c : Int) == 4) = false := by rw [beq_eq_false_iff_ne]; omega
              have HB1 : Hid (badR r c = false) := Lib.hid (badR_f ⟨hs3.1, hs3.2.1, hs3.2.2, fun h => absurd h h5⟩)
              go_wp2_with fail
              go_meet
              exact ⟨by rw [HB1.out], rfl⟩
        case rest =>
          obtain ⟨rfl, rfl⟩ := hcut
          cases hb : badR r c
          · have hok : okRune r c := by unfold badR at hb; simpa using hb
            have HOKR := Lib.hid hok
            obtain ⟨x, rfl⟩ : ∃ x : Nat, r = x := ⟨r.toNat, by have := hok.1; omega⟩
            have hlen : (H ++ encAll (rs.take i) c).length ≤ 268435459 := by
              rw [List.length_append]
              have := encAll_len (rs.take i) c
              rw [List.length_take] at this
              have := HHL.out
              omega
            go_wp2_with fail
            refine (rbytes_any c x hc HOKR.out _).mono ?_
            rintro e w0 ⟨rfl, m0⟩
            obtain ⟨M, hM⟩ : ∃ M, H ++ encAll (rs.take i) c = M := ⟨_, rfl⟩
            have hb' := HB'.out
            rw [hM] at hb' hlen
            have HMM := Lib.hid hM
            clear hM
            have HB0 := Lib.hid (hb'.mut m0 (by simp))
            clear hb'
            have HM0 := Lib.hid (HM'.out.trans m0 (by simp))
            have hel : (strOf (enc1 x c)).size ≤ 4 := by rw [strOf_size]; exact enc1_len x c
            obtain ⟨hi, hz0, hz1, hz2⟩ := HI.out
            go_wp2_with (at_builtin; (refine wp_app rfl (.tmp 44) (.tmp 50) 61 9 rfl 5 i0 (.int .u8 0) 1 1 Try.underlying61 hi hz0 hz1 hz2 rfl HB0.out rfl (Src.ofString w0 Try.underlying9 (strOf (enc1 x c))) rfl (by unfold maxLen; omega) (by omega) ?_))
            intro v1 w1 g1 g2 g3
            rw [byteCells_eq, bytesOf_strOf _ (enc1_lt x c HOKR.out), strOf_size] at g1
            have q1 : BRow w1 v1 (M ++ enc1 x c) := BRow.of_int g1 ⟨rfl, rfl⟩
            have q2 : Mut [] w w1 := HM0.out.grown g2 (fun y hy => .inr (HF'.out y hy))
            obtain ⟨p2, l2, cap2, rfl⟩ := q1.form
            have Q1 := Lib.hid q1
            have Q2 := Lib.hid q2
            have Q3 := Lib.hid g3
            clear g1 g2 g3 q1 q2 hi hz0 hz1 hz2
            go_wp2_with fail
            refine ⟨⟨i + 1, p2, l2, cap2, rfl, by rw [Int.natCast_add]; rfl, by omega, Lib.hid ?_, Lib.hid ?_, Lib.hid Q2.out, Lib.hid ?_⟩, ?_⟩
            · rw [HT.out]
              intro y hy
              rw [List.mem_append, List.mem_singleton] at hy
              rcases hy with hy | rfl
              · exact HOK.out y hy
              · exact HOKR.out
            · rw [HT.out, encAll_append, ← List.append_assoc, HMM.out]
              have e : encAll [(x : Int)] c = enc1 x c := by simp [encAll]
              rw [e]
              exact Q1.out
            · intro g hg
              rcases Q3.out g hg with h | h
              · exact HF'.out g h
              · have := HM0.out.size
                omega
            · simp only [intOf]
              omega
          · have hbad : ¬ okRune r c := by unfold badR at hb; simpa using hb
            have HR := Lib.hid (encRes_bad (mark := mark) HMEM.out hbad)
            go_wp2_with fail
            exact bodyPost_ret (results_tmp2 rfl _ _ _) rfl ⟨by rw [HR.out]; rfl, HM'.out⟩
      · have e : i = rs.length := by omega
        have hendI : ¬ (i : Int) < (rs.length : Int) := by omega
        have hcv := HB'.out.conv
        have HE : Hid (encRes rs c mark = .tuple #[.string (strOf (H ++ encAll rs c)), .int .i64 0]) := Lib.hid (by
          have h1 := HOK.out
          rw [e, List.take_length] at h1
          rw [encRes_ok h1, HH.out])
        go_wp2_with fail
        exact bodyPost_ret (results_tmp2 rfl _ _ _) rfl ⟨by rw [HE.out]; rfl, HM'.out⟩

end Go.Proofs.Ytkoheodcledcfaa
