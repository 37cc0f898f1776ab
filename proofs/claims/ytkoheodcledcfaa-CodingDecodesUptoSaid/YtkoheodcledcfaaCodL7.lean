/- The law CodingDecodes. -/
import Derived.Test.YtkoheodcledcfaaCodF5
import Derived.Test.YtkoheodcledcfaaCodW6
import Derived.Deep.DeepCutAuto
namespace Go.Proofs.Ytkoheodcledcfaa
open Go.RowKit

theorem first_bad (T : List (Int × Nat)) (h : badOf T ≠ 0) : ∃ D p E, T = D ++ p :: E ∧ badOf D = 0 ∧ p.1 < 0 := by
  induction T with
  | nil => exact absurd rfl h
  | cons q T ih =>
    by_cases hq : q.1 < 0
    · exact ⟨[], q, T, rfl, rfl, hq⟩
    · have e : badOf (q :: T) = badOf T := by unfold badOf; rw [List.filter_cons_of_neg (by simpa using hq)]
      rw [e] at h
      obtain ⟨D, p, E, h1, h2, h3⟩ := ih h
      refine ⟨q :: D, p, E, by rw [h1]; rfl, ?_, h3⟩
      unfold badOf
      rw [List.filter_cons_of_neg (by simpa using hq)]
      exact h2

theorem badOf_head {p : Int × Nat} {D : List (Int × Nat)} (h : badOf (p :: D) = 0) : ¬ p.1 < 0 ∧ badOf D = 0 := by
  unfold badOf at h ⊢
  by_cases hp : p.1 < 0
  · rw [List.filter_cons_of_pos (by simpa using hp)] at h
    simp at h
  · rw [List.filter_cons_of_neg (by simpa using hp)] at h
    exact ⟨hp, h⟩

theorem first_bad_one : ∀ (D D' : List (Int × Nat)) (p p' : Int × Nat) (E E' : List (Int × Nat)), D ++ p :: E = D' ++ p' :: E' → badOf D = 0 → badOf D' = 0 → p.1 < 0 → p'.1 < 0 → p = p'
  | [], [], p, p', E, E', h, _, _, _, _ => by simp at h; exact h.1
  | [], q :: D', p, p', E, E', h, _, h2, h3, _ => by
    simp at h
    rw [h.1] at h3
    exact absurd h3 (badOf_head h2).1
  | q :: D, [], p, p', E, E', h, h1, _, _, h4 => by
    simp at h
    rw [← h.1] at h4
    exact absurd h4 (badOf_head h1).1
  | q :: D, q' :: D', p, p', E, E', h, h1, h2, h3, h4 => by
    simp at h
    exact first_bad_one D D' p p' E E' h.2 (badOf_head h1).2 (badOf_head h2).2 h3 h4

/-- both answers to one question are one -/
theorem both (s : ByteArray) (c : Int) (strict : Bool) (hs : s.size ≤ 16777216) : ∃ (C bad fe fa : Int) (LR LP : List Int), LR.length ≤ 16777217 ∧ LP.length ≤ 16777217 ∧
    (∀ w, Calls Try.prog 11 #[.string s, .int .i64 c, .bool strict] w fun e w' => ∃ vr vp, e = .returned (.tuple #[.agg #[.int .i64 C, vr, vp, .int .i64 bad], .agg #[.int .i64 fe, .int .i64 fa]]) ∧ IRow w' vr LR ∧ IRow w' vp LP ∧ Mut [] w w') ∧
    (∀ w, Calls Try.prog 12 #[.string s, .int .i64 c, .bool strict] w fun e w' => ∃ vr vp, e = .returned (.tuple #[.agg #[.int .i64 C, .int .i64 bad, vr, vp], .int .i64 fe, .int .i64 fa]) ∧ IRow w' vr LR ∧ IRow w' vp LP ∧ Mut [] w w') := by
  by_cases hc : c < 0 ∨ 4 < c
  · refine ⟨0, 0, 1, 0, [], [], by simp, by simp, fun w => (decode_none s c strict hc w).mono ?_, fun w => (rdecode_none s c strict hc w).mono ?_⟩
    · rintro e w' ⟨rfl, m⟩
      exact ⟨_, _, rfl, IRow.nil _, IRow.nil _, m⟩
    · rintro e w' ⟨rfl, m⟩
      exact ⟨_, _, rfl, IRow.nil _, IRow.nil _, m⟩
  · obtain ⟨q, rfl⟩ : ∃ q : Nat, c = q := ⟨c.toNat, by omega⟩
    have hq4 : q ≤ 4 := by omega
    have h1 := fun w => decode_go s q strict hq4 hs w
    have h2 := fun w => rdecode_go s q strict hq4 hs w
    have hl := told_len (codingOf q (bytesOf s)) s
    generalize codingOf q (bytesOf s) = k at *
    generalize told k (bytesOf s) = T at *
    by_cases hb : strict = true ∧ badOf T ≠ 0
    · obtain ⟨hst, hb⟩ := hb
      obtain ⟨D, p, E, e1, e2, e3⟩ := first_bad T hb
      refine ⟨0, 0, 17, (p.2 : Int), [], [], by simp, by simp, fun w => (h1 w).mono ?_, fun w => (h2 w).mono ?_⟩
      · rintro e w' ⟨x, rfl, hp, m⟩
        rcases hp with ⟨D', p', E', d1, d2, d3, d4, d5⟩ | ⟨d0, _⟩
        · obtain rfl : p = p' := first_bad_one D D' p p' E E' (by rw [← e1, ← d1]) e2 d2 e3 d3
          exact ⟨_, _, by rw [d5], IRow.nil _, IRow.nil _, m⟩
        · exact absurd (d0 hst) hb
      · rintro e w' ⟨x, rfl, hp, m⟩
        rcases hp with ⟨D', p', E', d1, d2, d3, d4, d5⟩ | ⟨d0, _⟩
        · obtain rfl : p = p' := first_bad_one D D' p p' E E' (by rw [← e1, ← d1]) e2 d2 e3 d3
          exact ⟨_, _, by rw [d5], IRow.nil _, IRow.nil _, m⟩
        · exact absurd (d0 hst) hb
    · have hno : ∀ D p E, T = D ++ p :: E → p.1 < 0 → strict = true → False := fun D p E d1 d3 hst => by
        refine hb ⟨hst, ?_⟩
        rw [d1]
        unfold badOf
        rw [List.filter_append, List.filter_cons_of_pos (by simpa using d3)]
        simp
      refine ⟨(k : Int), (badOf T : Int), 0, 0, runesOf T, ((placesOf T).map fun n : Nat => (n : Int)) ++ [(s.size : Int)], by unfold runesOf; rw [List.length_map]; omega, by unfold placesOf; simp; omega, fun w => (h1 w).mono ?_, fun w => (h2 w).mono ?_⟩
      · rintro e w' ⟨x, rfl, hp, m⟩
        rcases hp with ⟨D', p', E', d1, d2, d3, d4, d5⟩ | ⟨_, vr, vp, d1, d2, d3, _⟩
        · exact (hno _ _ _ d1 d3 d4).elim
        · exact ⟨vr, vp, by rw [d1], d2, d3, m⟩
      · rintro e w' ⟨x, rfl, hp, m⟩
        rcases hp with ⟨D', p', E', d1, d2, d3, d4, d5⟩ | ⟨_, vr, vp, d1, d2, d3⟩
        · exact (hno _ _ _ d1 d3 d4).elim
        · exact ⟨vr, vp, by rw [d1], d2, d3, m⟩

theorem sniff_len (l : List Nat) : sniffLen l = if begins l (markB (sniff l)) then (markB (sniff l)).length else 0 := by
  unfold sniffLen sniff
  by_cases h1 : begins l (markB 1)
  · rw [if_pos h1, if_pos h1, if_pos h1]; rfl
  · by_cases h2 : begins l (markB 2)
    · rw [if_neg h1, if_neg h1, if_pos h2, if_pos h2, if_pos h2]; rfl
    · by_cases h3 : begins l (markB 3)
      · rw [if_neg h1, if_neg h1, if_neg h2, if_neg h2, if_pos h3, if_pos h3, if_pos h3]; rfl
      · rw [if_neg h1, if_neg h1, if_neg h2, if_neg h2, if_neg h3, if_neg h3, if_neg h1]

theorem told_start (c : Nat) (b : List Nat) : (placesOf (told c b) ++ [b.length]).getD 0 0 = startOf c b := by
  have hst := startOf_le c b
  have he : endsOf c (b.drop (startOf c b)) (startOf c b) = placesOf (told c b) ++ [b.length] := by
    unfold endsOf told
    rw [List.length_drop, show startOf c b + (b.length - startOf c b) = b.length by omega]
  rw [← he, endsOf_head]

set_option maxHeartbeats 3200000 in
set_option maxRecDepth 1000000 in
theorem lawCodingDecodes {w : World} (s : ByteArray) (_ : s.size ≤ maxLen) (hs : s.size ≤ 1048576) (c : Int) (_ : (Lit.int .i64 c).wf = true) (strict : Bool) :
    Calls Try.prog 3 #[.string s, .int .i64 c, .bool strict] w fun e w' => e = .returned (.bool true) ∧ Below w.heap.size w w' := by
  obtain ⟨C, bad, fe, fa, LR, LP, hl1, hl2, hd1, hd2⟩ := both s c strict (by omega)
  have HD1 := Lib.hid hd1
  have HD2 := Lib.hid hd2
  have HD3 := Lib.hid (fun w => rdecode_go s 0 false (by decide) (by omega) w)
  have hcz : codingOf 0 (bytesOf s) = sniff (bytesOf s) := by unfold codingOf; rw [if_pos rfl]
  rw [hcz] at HD3
  have hk1 : 1 ≤ sniff (bytesOf s) ∧ sniff (bytesOf s) ≤ 3 := by
    unfold sniff
    split
    · omega
    · split
      · omega
      · split <;> omega
  have hst0 := told_start (sniff (bytesOf s)) (bytesOf s)
  rw [bytesOf_length] at hst0
  have hsl := sniff_len (bytesOf s)
  have hste : startOf (sniff (bytesOf s)) (bytesOf s) = sniffLen (bytesOf s) := by rw [hsl]; rfl
  have hstl := startOf_le (sniff (bytesOf s)) (bytesOf s)
  rw [bytesOf_length, hste] at hstl
  have hml : 2 ≤ (markB (sniff (bytesOf s))).length ∧ (markB (sniff (bytesOf s))).length ≤ 3 := by
    rcases (show sniff (bytesOf s) = 1 ∨ sniff (bytesOf s) = 2 ∨ sniff (bytesOf s) = 3 by omega) with h | h | h <;> rw [h] <;> decide
  have hor : sniffLen (bytesOf s) = (markB (sniff (bytesOf s))).length ∨ sniffLen (bytesOf s) = 0 := by
    rw [hsl]
    split
    · exact .inl rfl
    · exact .inr rfl
  rw [hste] at hst0
  have HSN := Lib.hid (fun w => sniff_any s w)
  have HMK := Lib.hid (fun w => rmark_any (sniff (bytesOf s)) (by omega) w)
  have hsz : (strOf (markB (sniff (bytesOf s)))).size = (markB (sniff (bytesOf s))).length := strOf_size _
  generalize markB (sniff (bytesOf s)) = MB at *
  generalize told (sniff (bytesOf s)) (bytesOf s) = T at *
  generalize sniff (bytesOf s) = k at *
  generalize sniffLen (bytesOf s) = n at *
  generalize strOf MB = sm at *
  have HST := Lib.hid hst0
  have HML := Lib.hid hml
  have HOR := Lib.hid hor
  have HSZ := Lib.hid hsz
  have HSTL := Lib.hid hstl
  clear hd1 hd2 hcz hsl hste hst0 hml hor hsz hstl
  go_enter Try.func3, Try.ntmps3
  go_wp2_with fail
  refine (speaks_any w).mono ?_
  rintro e w1 ⟨rfl, m1⟩
  have M1 := Lib.hid m1
  clear m1
  go_wp2_with fail
  refine (HD1.out w1).mono ?_
  rintro e w2 ⟨vr, vp, rfl, hr, hq, m2⟩
  obtain ⟨p1, c1, rfl, r1⟩ := hr.read
  obtain ⟨p2, c2, rfl, r2⟩ := hq.read
  have R1 := Lib.hid r1
  have R2 := Lib.hid r2
  have M2 := Lib.hid (M1.out.trans m2 (by simp))
  obtain ⟨h3, m3⟩ := hold_new w2 (.int .i64 C) (.slice p1 LR.length c1) (.slice p2 LP.length c2) (.int .i64 bad) (.int .i64 fe) (.int .i64 fa)
  have H3 := Lib.hid h3
  have M3 := Lib.hid m3
  clear hr hq m2 r1 r2 h3 m3
  go_wp2_with fail
  generalize ((w2.alloc (.cells #[.int .i64 C, .slice p1 LR.length c1, .slice p2 LP.length c2, .int .i64 bad] 25)).alloc (.cells #[.int .i64 fe, .int .i64 fa] 28)) = W2 at *
  refine (HD2.out W2).mono ?_
  rintro e w3 ⟨ur, up, rfl, hr, hq, m4⟩
  obtain ⟨p3, c3, rfl, r1⟩ := hr.read
  obtain ⟨p4, c4, rfl, r2⟩ := hq.read
  have R3 := Lib.hid r1
  have R4 := Lib.hid r2
  have M4 := Lib.hid m4
  have H4 := Lib.hid (heap_alloc_new w3 (.cells #[.int .i64 C, .int .i64 bad, .slice p3 LR.length c3, .slice p4 LP.length c4] 32))
  have M5 := Lib.hid ((Mut.refl [] w3).alloc (.cells #[.int .i64 C, .int .i64 bad, .slice p3 LR.length c3, .slice p4 LP.length c4] 32))
  clear hr hq m4 r1 r2
  go_wp2_with fail
  generalize (w3.alloc (.cells #[.int .i64 C, .int .i64 bad, .slice p3 LR.length c3, .slice p4 LP.length c4] 32)) = W3 at *
  refine (HSN.out W3).mono ?_
  rintro e w4 ⟨rfl, m6⟩
  have M6 := Lib.hid m6
  clear m6
  go_wp2_with fail
  refine (HD3.out w4).mono ?_
  rintro e w5 ⟨x, rfl, hp, m7⟩
  rcases hp with ⟨_, _, _, _, _, _, hh, _⟩ | ⟨_, xr, xp, rfl, hr, hq⟩
  · simp at hh
  · obtain ⟨p5, l5, c5, rfl⟩ := hr.form
    obtain ⟨g6, c6, rfl, r6⟩ := hq.at (by simp)
    have q0 : ∀ w', Mut [] w5 w' → w'.cell? ⟨g6, 0, none⟩ = some (.int .i64 (n : Int)) := fun w' m => by
      rw [r6 w' m 0 (by simp), ← HST.out]
      have e3 : ((placesOf T).map fun n : Nat => (n : Int)) ++ [(s.size : Int)] = (placesOf T ++ [s.size]).map fun n : Nat => (n : Int) := by simp
      rw [e3]
      cases placesOf T ++ [s.size] <;> rfl
    have hpos : 0 < (((placesOf T).map fun n : Nat => (n : Int)) ++ [(s.size : Int)]).length := by simp
    generalize (((placesOf T).map fun n : Nat => (n : Int)) ++ [(s.size : Int)]).length = n6 at *
    have hposI : (0 : Int) < (n6 : Int) := by omega
    have Q0 := Lib.hid q0
    have M7 := Lib.hid m7
    have H7 := Lib.hid (heap_alloc_new w5 (.cells #[.int .i64 (k : Int), .int .i64 (badOf T : Nat), .slice p5 l5 c5, .slice (some ⟨g6, 0, none⟩) n6 c6] 32))
    have M8 := Lib.hid ((Mut.refl [] w5).alloc (.cells #[.int .i64 (k : Int), .int .i64 (badOf T : Nat), .slice p5 l5 c5, .slice (some ⟨g6, 0, none⟩) n6 c6] 32))
    clear hr hq r6 q0 m7
    go_wp2_with fail
    refine (HMK.out _).mono ?_
    rintro e w6 ⟨rfl, m9⟩
    have X5 : Mut [] w5 w6 := M8.out.trans m9 (by simp)
    have X3 : Mut [] W3 w6 := (M6.out.trans M7.out (by simp)).trans X5 (by simp)
    have Xw3 : Mut [] w3 w6 := M5.out.trans X3 (by simp)
    have X2 : Mut [] W2 w6 := M4.out.trans Xw3 (by simp)
    have Xw2 : Mut [] w2 w6 := M3.out.trans X2 (by simp)
    have MF := Lib.hid (M2.out.trans Xw2 (by simp))
    obtain ⟨a0, a1, a2, a3, a4, a5⟩ := (H3.out.step X2).cells
    have hb := X3.get H4.out (by simp)
    have b0 := cellOf hb 0 rfl
    have b1 := cellOf hb 1 rfl
    have b2 := cellOf hb 2 rfl
    have b3 := cellOf hb 3 rfl
    have hcx := m9.get H7.out (by simp)
    have e0 := cellOf hcx 0 rfl
    have e3 := cellOf hcx 3 rfl
    have q0 := Q0.out w6 X5
    have K1 := Lib.hid (fun i (hi : i < LR.length) => R1.out w6 Xw2 i hi)
    have K2 := Lib.hid (fun i (hi : i < LP.length) => R2.out w6 Xw2 i hi)
    have K3 := Lib.hid (fun i (hi : i < LR.length) => R3.out w6 Xw3 i hi)
    have K4 := Lib.hid (fun i (hi : i < LP.length) => R4.out w6 Xw3 i hi)
    clear hb hcx m9 X5 X3 Xw3 X2 Xw2 Q0 R1 R2 R3 R4 H3 H4 H7 M1 M2 M3 M4 M5 M6 M7 M8 HD1 HD2 HD3 HSN HMK
    rcases HOR.out with hn | hn
    · have hsm : (sm.size : Int) = (n : Int) := by rw [HSZ.out, hn]
      have hnn : ¬ (s.size : Int) < (n : Int) := by have := HSTL.out; omega
      clear hn
      go_wp2_with fail
      refine (ints_any _ _ p1 p3 c1 c3 LR LR (by omega) _ rfl rfl (fun i hi => K1.out i hi) (fun i hi => K3.out i hi)).mono ?_
      rintro e w7 ⟨rfl, j, rfl⟩
      rw [decide_eq_true (rfl : LR = LR)]
      go_wp2_with fail
      refine (ints_any _ _ p2 p4 c2 c4 LP LP (by omega) (w6.drewN j) rfl rfl (fun i hi => K2.out i hi) (fun i hi => K4.out i hi)).mono ?_
      rintro e w8 ⟨rfl, j2, rfl⟩
      rw [decide_eq_true (rfl : LP = LP)]
      go_wp2_with fail
      exact bodyPost_ret (results_tmp (t := 6) rfl _ _ _) rfl ⟨rfl, (MF.out.drewN _).nil (by simp)⟩
    · subst hn
      have hsm : (((0 : Nat) : Int) == (sm.size : Int)) = false := by rw [beq_eq_false_iff_ne]; have := HSZ.out; have := HML.out.1; omega
      have hsm2 : ((0 : Int) != (sm.size : Int)) = true := by rw [bne_iff_ne]; have := HSZ.out; have := HML.out.1; omega
      go_wp2_with fail
      refine (ints_any _ _ p1 p3 c1 c3 LR LR (by omega) _ rfl rfl (fun i hi => K1.out i hi) (fun i hi => K3.out i hi)).mono ?_
      rintro e w7 ⟨rfl, j, rfl⟩
      rw [decide_eq_true (rfl : LR = LR)]
      go_wp2_with fail
      refine (ints_any _ _ p2 p4 c2 c4 LP LP (by omega) (w6.drewN j) rfl rfl (fun i hi => K2.out i hi) (fun i hi => K4.out i hi)).mono ?_
      rintro e w8 ⟨rfl, j2, rfl⟩
      rw [decide_eq_true (rfl : LP = LP)]
      go_wp2_with fail
      exact bodyPost_ret (results_tmp (t := 6) rfl _ _ _) rfl ⟨rfl, (MF.out.drewN _).nil (by simp)⟩

end Go.Proofs.Ytkoheodcledcfaa
