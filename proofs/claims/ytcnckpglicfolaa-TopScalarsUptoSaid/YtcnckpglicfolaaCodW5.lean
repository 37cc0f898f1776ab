/- Walks over package coding: Encode. -/
import Derived.Test.YtcnckpglicfolaaCodW4
import Derived.Deep.DeepCutAuto
import Derived.Deep.LoopGhost
namespace Go.Proofs.Ytcnckpglicfolaa
open Go.RowKit

instance (r : Int) (c : Nat) : Decidable (okRune r c) := by unfold okRune; infer_instance

def badR (r : Int) (c : Nat) : Bool := !decide (okRune r c)
theorem badR_t {r : Int} {c : Nat} (h : ¬ okRune r c) : badR r c = true := by unfold badR; simpa using h
theorem badR_f {r : Int} {c : Nat} (h : okRune r c) : badR r c = false := by unfold badR; simpa using h

/-- what Encode answers -/
def encRes (rs : List Int) (c : Nat) (mark : Bool) : Value :=
  if ∀ r ∈ rs, okRune r c then .tuple #[.string (strOf ((if mark then markB c else []) ++ encAll rs c)), .int .i64 0] else .tuple #[.string ByteArray.empty, .int .i64 17]

theorem encRes_ok {rs : List Int} {c : Nat} {mark : Bool} (h : ∀ r ∈ rs, okRune r c) : encRes rs c mark = .tuple #[.string (strOf ((if mark then markB c else []) ++ encAll rs c)), .int .i64 0] := by unfold encRes; rw [if_pos h]
theorem encRes_bad {rs : List Int} {c : Nat} {mark : Bool} {r : Int} (hr : r ∈ rs) (h : ¬ okRune r c) : encRes rs c mark = .tuple #[.string ByteArray.empty, .int .i64 17] := by
  unfold encRes
  rw [if_neg (fun hh => h (hh r hr))]

theorem BRow.conv {w : World} {v : Value} {L : List Nat} (h : BRow w v L) : (convert 49 9 v).run Try.prog w = .ok (.string (strOf L)) w := by
  have h : w.ownsRow 0 5 1 v L.length ((L.map fun n : Nat => (n : Int)).map (Value.int .u8)) := by rw [List.map_map]; exact h
  rw [conv_row Try.underlying49 Try.underlying5 Try.underlying9 h]
  simp only [List.map_map]
  rfl

theorem byteCells_eq (s : ByteArray) : byteCells s = (bytesOf s).map fun n : Nat => Value.int .u8 (n : Int) := by simp [byteCells, bytesOf]

theorem markB_len (c : Nat) : (markB c).length ≤ 3 := by
  unfold markB
  split
  · decide
  · split
    · decide
    · split <;> decide

theorem encode_arg (v : Value) (c : Int) (mark : Bool) (hc : c < 1 ∨ 4 < c) (w : World) :
    Calls Try.prog 8 #[v, .int .i64 c, .bool mark] w fun e w' => e = .returned (.tuple #[.string ByteArray.empty, .int .i64 1]) ∧ w = w' := by
  rcases hc with h | h
  · go_enter Try.func8, Try.ntmps8
    go_wp2_with fail
    exact bodyPost_ret (results_tmp2 rfl _ _ _) rfl ⟨rfl, rfl⟩
  · have h' : ¬ c < 1 := by omega
    go_enter Try.func8, Try.ntmps8
    go_wp2_with fail
    exact bodyPost_ret (results_tmp2 rfl _ _ _) rfl ⟨rfl, rfl⟩

set_option maxHeartbeats 1600000 in
set_option maxRecDepth 1000000 in
theorem encode_go (rs : List Int) (c : Nat) (mark : Bool) (hc : 1 ≤ c ∧ c ≤ 4) (hl : rs.length ≤ 67108864) (v : Value) (w : World) (hv : IRow w v rs) :
    Calls Try.prog 8 #[v, .int .i64 (c : Int), .bool mark] w fun e w' => e = .returned (encRes rs c mark) ∧ Mut [] w w' := by
  have hc0 : ¬ (c : Int) < 1 := by omega
  have hc4 : ¬ (4 : Int) < (c : Int) := by omega
  obtain ⟨i0, hi, hz0, hz1, hz2⟩ := info_parts info_byte
  have hn : rs.length = rs.length := rfl
  obtain ⟨rp0, rc0, rfl, HC⟩ : ∃ p cap, v = .slice p rs.length cap ∧ Hid (∀ (i : Nat) (w' : World), Mut [] w w' → i < rs.length → ∃ a : Addr, p = some a ∧ w'.cell? (a.add i) = some (.int .i64 (rs.getD i 0))) := by
    rcases hv.2 with ⟨rfl, h⟩ | ⟨g, cap, cur, rfl, _, hh, _⟩
    · exact ⟨none, 0, by rw [h], Lib.hid fun i w' _ hi => by omega⟩
    · refine ⟨_, cap, rfl, Lib.hid fun i w' hm hi => ⟨_, rfl, ?_⟩⟩
      have hv' := hv.mut hm (fun g _ => by simp)
      have := hv'.cellAt i (by omega)
      rw [Addr.add_lit]
      simpa [List.getD, hi] using this
  go_enter Try.func8, Try.ntmps8
  go_upto_if 17 with fail
  go_cut [8] (fun x wx => ∃ p l cap, x = .slice p l cap ∧ Hid (BRow wx (.slice p l cap) ((if mark then markB c else []) ++ encAll (rs.take 0) c)) ∧ Hid (Mut [] w wx) ∧ Hid (∀ g, (Value.slice p l cap).ownBlock = some g → w.heap.size ≤ g))
  case first =>
    cases mark
    · go_wp2_with fail
      go_meet
      exact ⟨_, _, _, rfl, Lib.hid (BRow.nil _), Lib.hid (Mut.refl _ _), Lib.hid (by intro g hg; simp [Value.ownBlock] at hg)⟩
    · go_wp2_with fail
      refine (mark_any c hc.2 _).mono ?_
      rintro e w1 ⟨rfl, rfl⟩
      go_wp2_with (at_builtin; (refine wp_app rfl (.tmp 18) (.tmp 20) 49 9 rfl 5 i0 (.int .u8 0) 1 1 Try.underlying49 hi hz0 hz1 hz2 rfl (BRow.nil w) rfl (Src.ofString w Try.underlying9 (strOf (markB c))) rfl ?b1 ?b2 ?_))
      case b1 => have := markB_len c; rw [strOf_size]; simp only [List.length_nil]; unfold maxLen; omega
      case b2 => have := markB_len c; rw [strOf_size]; simp only [List.length_nil]; omega
      intro v1 w1 g1 g2 g3
      go_wp2_with fail
      go_meet
      have hbr : BRow w1 v1 (markB c) := by
        unfold BRow
        rw [byteCells_eq, bytesOf_strOf _ (markB_lt c), strOf_size] at g1
        exact g1
      obtain ⟨pv, lv, cv, rfl⟩ := hbr.form
      refine ⟨pv, lv, cv, rfl, Lib.hid (by simpa [encAll] using hbr), Lib.hid ((Mut.refl [] w).grown g2 (fun k hk => by simp [Value.ownBlock] at hk)), Lib.hid fun g hg => ?_⟩
      rcases g3 g hg with h | h
      · simp [Value.ownBlock] at h
      · exact h
  case rest =>
    obtain ⟨p, l, cap, rfl, HB, HM, HF⟩ := hcut
    clear hi hz0 hz1 hz2 hv hn
    generalize hH : (if mark then markB c else []) = H at *
    have HH := Lib.hid hH
    have HHL : Hid (H.length ≤ 3) := Lib.hid (by rw [← hH]; have := markB_len c; split <;> simp <;> omega)
    clear hH
    go_wp2_with fail
    go_loopw [8, 24] (fun out at_ wx => ∃ (i : Nat) (p : Option Addr) (l cap : Nat), out = .slice p l cap ∧ at_ = .int .i64 (i : Int) ∧ i ≤ rs.length ∧ Hid (∀ r ∈ rs.take i, okRune r c) ∧ Hid (BRow wx (.slice p l cap) (H ++ encAll (rs.take i) c)) ∧ Hid (Mut [] w wx) ∧ Hid (∀ g, (Value.slice p l cap).ownBlock = some g → w.heap.size ≤ g)) (fun _ at_ _ => rs.length - (intOf at_).toNat)
    case atStart => exact ⟨0, _, _, _, rfl, rfl, by omega, Lib.hid (by intro r hr; simp at hr), HB, HM, HF⟩
    case round =>
      obtain ⟨i, p', l', cap', rfl, rfl, hil, HOK, HB', HM', HF'⟩ := hrel
      clear HB HM HF
      by_cases hend : i < rs.length
      · have hendI : (i : Int) < (rs.length : Int) := by omega
        obtain ⟨a, rfl, hcell⟩ := HC.out i wr HM'.out hend
        have HT : Hid (rs.take (i + 1) = rs.take i ++ [rs.getD i 0]) := Lib.hid (by rw [List.take_add_one]; simp [List.getD, hend])
        have HMEM : Hid (rs.getD i 0 ∈ rs) := Lib.hid (by simp [List.getD, hend])
        generalize rs.getD i 0 = r at *
        go_upto_region 9 with fail
        go_cut [49] (fun x wx => x = .bool (badR r c) ∧ wx = wr)
        case first =>
          by_cases h1 : r < 0
          · go_wp2_with fail
            go_meet
            exact ⟨by rw [badR_t (by unfold okRune; omega)], rfl⟩
          · by_cases h2 : 1114111 < r
            · go_wp2_with fail
              go_meet
              exact ⟨by rw [badR_t (by unfold okRune; omega)], rfl⟩
            · by_cases h3 : 55296 ≤ r
              · by_cases h4 : r ≤ 57343
                · go_wp2_with fail
                  go_meet
                  exact ⟨by rw [badR_t (by unfold okRune; omega)], rfl⟩
                · skip
                  by_cases h5 : c = 4
                  · subst h5
                    have hz : (((4 : Nat) : Int) == 4) = true := rfl
                    by_cases h6 : 255 < r
                    · go_wp2_with fail
                      go_meet
                      exact ⟨by rw [badR_t (by unfold okRune; omega)], rfl⟩
                    · go_wp2_with fail
                      go_meet
                      exact ⟨by rw [badR_f ⟨by omega, by omega, by omega, by omega⟩], rfl⟩
                  · have hz : ((c : Int) == 4) = false := by rw [beq_eq_false_iff_ne]; omega
                    go_wp2_with fail
                    go_meet
                    exact ⟨by rw [badR_f ⟨by omega, by omega, by omega, by omega⟩], rfl⟩
              · skip
                by_cases h5 : c = 4
                · subst h5
                  have hz : (((4 : Nat) : Int) == 4) = true := rfl
                  by_cases h6 : 255 < r
                  · go_wp2_with fail
                    go_meet
                    exact ⟨by rw [badR_t (by unfold okRune; omega)], rfl⟩
                  · go_wp2_with fail
                    go_meet
                    exact ⟨by rw [badR_f ⟨by omega, by omega, by omega, by omega⟩], rfl⟩
                · have hz : ((c : Int) == 4) = false := by rw [beq_eq_false_iff_ne]; omega
                  go_wp2_with fail
                  go_meet
                  exact ⟨by rw [badR_f ⟨by omega, by omega, by omega, by omega⟩], rfl⟩
        case rest =>
          obtain ⟨rfl, rfl⟩ := hcut
          cases hb : badR r c
          · have hok : okRune r c := by unfold badR at hb; simpa using hb
            have HOKR := Lib.hid hok
            obtain ⟨x, rfl⟩ : ∃ x : Nat, r = x := ⟨r.toNat, by have := hok.1; omega⟩
            go_wp2_with fail
            refine (put_any c x hc HOKR.out _ _ ?_ _ HB'.out).mono ?_
            · rw [List.length_append]
              have := encAll_len (rs.take i) c
              rw [List.length_take] at this
              have := HHL.out
              omega
            · rintro e w1 ⟨r', rfl, q1, q2, q3⟩
              obtain ⟨p2, l2, cap2, rfl⟩ := q1.form
              go_wp2_with fail
              refine ⟨⟨i + 1, p2, l2, cap2, rfl, by go_num, by omega, Lib.hid ?_, Lib.hid ?_, Lib.hid ?_, Lib.hid ?_⟩, ?_⟩
              · rw [HT.out]
                intro y hy
                rw [List.mem_append, List.mem_singleton] at hy
                rcases hy with hy | rfl
                · exact HOK.out y hy
                · exact HOKR.out
              · rw [HT.out, encAll_append, ← List.append_assoc]
                have e : encAll [(x : Int)] c = enc1 x c := by simp [encAll]
                rw [e]
                exact q1
              · exact HM'.out.trans q2 (fun y hy => .inr (HF'.out y (by simpa using hy)))
              · intro g hg
                rcases q3 g hg with h | h
                · exact HF'.out g h
                · have := HM'.out.size
                  omega
              · simp only [intOf]
                omega
          · have hbad : ¬ okRune r c := by unfold badR at hb; simpa using hb
            have HR := Lib.hid (encRes_bad (mark := mark) HMEM.out hbad)
            go_wp2_with fail
            exact bodyPost_ret (results_tmp2 rfl _ _ _) rfl ⟨by rw [HR.out]; rfl, HM'.out⟩
      · have e : i = rs.length := by omega
        have hendI : ¬ (i : Int) < (rs.length : Int) := by omega
        have hcv := HB'.out.conv
        have HE : Hid (encRes rs c mark = .tuple #[.string (strOf (H ++ encAll rs c)), .int .i64 0]) := Lib.hid (by
          have h1 := HOK.out
          rw [e, List.take_length] at h1
          rw [encRes_ok h1, HH.out])
        go_wp2_with fail
        exact bodyPost_ret (results_tmp2 rfl _ _ _) rfl ⟨by rw [HE.out]; rfl, HM'.out⟩

end Go.Proofs.Ytcnckpglicfolaa
