/- The law CodingEncodes. -/
import Derived.Test.YtkoheodcledcfaaCodL3
import Derived.Test.YtkoheodcledcfaaCodF2
namespace Go.Proofs.Ytkoheodcledcfaa
open Go.RowKit

def wantB (c : Nat) (mark : Bool) (xs : List Int) : Bool := decide (c ≠ 4 ∧ mark = false ∧ 0 < xs.length ∧ xs.getD 0 0 = 65279)

theorem told_unmarked (c : Nat) (hc : 1 ≤ c ∧ c ≤ 4) (rs : List Int) (h : ∀ r ∈ rs, okRune r c) (hb : begins (encAll rs c) (markB c) = false) : runesOf (told c (encAll rs c)) = rs ∧ badOf (told c (encAll rs c)) = 0 := by
  have hst : startOf c (encAll rs c) = 0 := by unfold startOf; rw [hb]; rfl
  obtain ⟨P, h1, h2⟩ := dec_encAll c hc rs h 0 []
  rw [List.append_nil, decAll_nil, List.append_nil] at h2
  have e : told c (encAll rs c) = P := by
    unfold told
    rw [hst, List.drop_zero, h2]
  rw [e]
  exact runes_of_ok P rs h1 (fun r hr => (h r hr).1)

theorem told_enc (c : Nat) (hc : 1 ≤ c ∧ c ≤ 4) (mark : Bool) (xs : List Int) (h : ∀ r ∈ xs, okRune r c) :
    runesOf (told c ((if mark then markB c else []) ++ encAll xs c)) = (if wantB c mark xs then xs.tail else xs) ∧ badOf (told c ((if mark then markB c else []) ++ encAll xs c)) = 0 := by
  cases mark with
  | true =>
    have : wantB c true xs = false := by unfold wantB; simp
    rw [this, if_pos rfl, if_neg (by decide)]
    exact told_marked c hc xs h
  | false =>
    rw [if_neg (by decide), List.nil_append]
    by_cases h4 : c = 4
    · have : wantB c false xs = false := by unfold wantB; simp [h4]
      rw [this, if_neg (by decide)]
      have := told_marked c hc xs h
      rw [show markB c = [] by rw [h4]; rfl, List.nil_append] at this
      exact this
    · cases xs with
      | nil =>
        have : wantB c false [] = false := by unfold wantB; simp
        rw [this, if_neg (by decide)]
        refine told_unmarked c hc [] h ?_
        rcases (show c = 1 ∨ c = 2 ∨ c = 3 by omega) with rfl | rfl | rfl <;> rfl
      | cons r t =>
        have ho := h r (by simp)
        by_cases hr : r = 65279
        · have : wantB c false (r :: t) = true := by unfold wantB; simp [h4, hr]
          rw [this, if_pos rfl, encAll_cons, hr]
          have hb := bom_mark c (by omega)
          rw [show ((65279 : Int).toNat) = 65279 from rfl, hb]
          exact told_marked c hc t (fun y hy => h y (by simp [hy]))
        · have : wantB c false (r :: t) = false := by unfold wantB; simp [hr]
          rw [this, if_neg (by decide)]
          exact told_unmarked c hc _ h (by rw [encAll_cons]; exact no_mark c (by omega) r ho hr _)

theorem bytes_enc (c : Nat) (mark : Bool) (rs : List Int) (h : ∀ r ∈ rs, okRune r c) : bytesOf (strOf ((if mark then markB c else []) ++ encAll rs c)) = (if mark then markB c else []) ++ encAll rs c :=
  bytesOf_strOf _ (fun x hx => by
    rcases List.mem_append.1 hx with hx | hx
    · cases mark with
      | true => exact markB_lt c x hx
      | false => simp at hx
    · exact encAll_lt rs c h x hx)

set_option maxHeartbeats 1600000 in
set_option maxRecDepth 1000000 in
theorem encodes_out {w : World} (v : Value) (xs : List Int) (hx : Ints .i64 w v xs) (hs : xs.length ≤ 1048576) (c : Int) (hc : c < 1 ∨ 4 < c) (mark : Bool) :
    Calls Try.prog 4 #[v, .int .i64 c, .bool mark] w fun e w' => e = .returned (.bool true) ∧ Below w.heap.size w w' := by
  obtain ⟨p0, c0, rfl, k0⟩ := hx.read
  have HX := Lib.hid hx
  have K0 := Lib.hid k0
  clear hx k0
  obtain ⟨i0, hi, hz0, hz1, hz2⟩ := info_parts info_int
  have HC := Lib.hid hc
  clear hc
  go_enter Try.func4, Try.ntmps4
  go_wp2_with fail
  refine (speaks_any w).mono ?_
  rintro e w1 ⟨rfl, m1⟩
  have M1 := Lib.hid m1
  clear m1
  go_wp2_with (at_builtin; (refine wp_app rfl (.tmp 17) (.tmp 18) 23 23 rfl 3 i0 (.int .i64 0) 1 8 Try.underlying23 hi hz0 hz1 hz2 rfl (IRow.empty _) rfl (HX.out.src (M1.out.alloc _)) rfl (by rw [List.length_nil]; unfold maxLen; omega) (by rw [List.length_nil]; omega) ?_))
  intro v1 w2 g1 g2 g3
  have hv1 : IRow w2 v1 xs := g1
  have M2 := Lib.hid ((M1.out.alloc (.cells #[] 3)).grown g2 (fun k hk => .inr (by simp [Value.ownBlock] at hk; have := M1.out.size; omega)))
  obtain ⟨p1, c1, rfl, k1⟩ := hv1.read
  have K1 := Lib.hid k1
  clear g1 g2 g3 hi hz0 hz1 hz2 hv1 k1
  go_wp2_with fail
  refine (encode_arg _ c mark HC.out w2).mono ?_
  rintro e w3 ⟨rfl, rfl⟩
  go_wp2_with fail
  refine (rencode_arg _ c mark HC.out w2).mono ?_
  rintro e w3 ⟨rfl, rfl⟩
  go_wp2_with fail
  refine (ints_any _ _ p1 p0 c1 c0 xs xs (by omega) _ rfl rfl (fun i hi => K1.out _ (Mut.refl [] w2) i hi) (fun i hi => K0.out _ M2.out i hi)).mono ?_
  rintro e w5 ⟨rfl, n, rfl⟩
  rw [decide_eq_true (rfl : xs = xs)]
  go_wp2_with fail
  exact bodyPost_ret (results_tmp rfl _ _ _) rfl ⟨rfl, (M2.out.drewN n).nil (by simp)⟩

set_option maxHeartbeats 3200000 in
set_option maxRecDepth 1000000 in
theorem encodes_in {w : World} (v : Value) (xs : List Int) (hx : Ints .i64 w v xs) (hs : xs.length ≤ 1048576) (c : Nat) (hc : 1 ≤ c ∧ c ≤ 4) (mark : Bool) :
    Calls Try.prog 4 #[v, .int .i64 (c : Int), .bool mark] w fun e w' => e = .returned (.bool true) ∧ Below w.heap.size w w' := by
  have hcap := hx
  obtain ⟨p0, c0, rfl, k0⟩ := hx.read
  have hc0 : xs.length ≤ c0 := by
    obtain ⟨ao, cap, hv, hl, _⟩ := hcap
    cases hv
    exact hl
  have HX := Lib.hid hx
  have K0 := Lib.hid k0
  clear hx k0 hcap
  obtain ⟨i0, hi, hz0, hz1, hz2⟩ := info_parts info_int
  go_enter Try.func4, Try.ntmps4
  go_wp2_with fail
  refine (speaks_any w).mono ?_
  rintro e w1 ⟨rfl, m1⟩
  have M1 := Lib.hid m1
  clear m1
  go_wp2_with (at_builtin; (refine wp_app rfl (.tmp 17) (.tmp 18) 23 23 rfl 3 i0 (.int .i64 0) 1 8 Try.underlying23 hi hz0 hz1 hz2 rfl (IRow.empty _) rfl (HX.out.src (M1.out.alloc _)) rfl (by rw [List.length_nil]; unfold maxLen; omega) (by rw [List.length_nil]; omega) ?_))
  intro v1 w2 g1 g2 g3
  have hv1 : IRow w2 v1 xs := g1
  have M2 := Lib.hid ((M1.out.alloc (.cells #[] 3)).grown g2 (fun k hk => .inr (by simp [Value.ownBlock] at hk; have := M1.out.size; omega)))
  obtain ⟨p1, c1, rfl, k1⟩ := hv1.read
  have HV1 := Lib.hid hv1
  have K1 := Lib.hid k1
  clear g1 g2 g3 hi hz0 hz1 hz2 hv1 k1
  go_wp2_with fail
  refine (encode_go xs c mark hc (by omega) _ w2 HV1.out).mono ?_
  rintro e w3 ⟨rfl, m3⟩
  have M3 := Lib.hid m3
  clear m3
  obtain ⟨sA, nA, hA⟩ : ∃ sA nA, encRes xs c mark = .tuple #[.string sA, .int .i64 nA] ∧ ((nA = 0 ∧ sA = strOf ((if mark then markB c else []) ++ encAll xs c) ∧ ∀ r ∈ xs, okRune r c) ∨ nA = 17) := by
    by_cases h : ∀ r ∈ xs, okRune r c
    · exact ⟨_, _, encRes_ok h, .inl ⟨rfl, rfl, h⟩⟩
    · exact ⟨_, _, by unfold encRes; rw [if_neg h], .inr rfl⟩
  rw [hA.1]
  have HE := Lib.hid hA.1
  have HA := Lib.hid hA.2
  clear hA
  go_wp2_with fail
  refine (rencode_go xs c mark hc (by omega) p0 c0 w3 (fun w' m i hi => K0.out w' ((M2.out.trans M3.out (by simp)).trans m (by simp)) i hi)).mono ?_
  rintro e w4 ⟨rfl, m4⟩
  rw [HE.out]
  have M4 := Lib.hid (M3.out.trans m4 (by simp))
  clear m4
  go_wp2_with fail
  refine (ints_any _ _ p1 p0 c1 c0 xs xs (by omega) _ rfl rfl (fun i hi => K1.out _ M4.out i hi) (fun i hi => K0.out _ (M2.out.trans M4.out (by simp)) i hi)).mono ?_
  rintro e w5 ⟨rfl, n, rfl⟩
  rw [decide_eq_true (rfl : xs = xs)]
  have M5 := Lib.hid ((M2.out.trans M4.out (by simp)).drewN n)
  generalize w4.drewN n = w5 at *
  rcases HA.out with ⟨rfl, hsA, okA⟩ | rfl
  · obtain ⟨t1, t2⟩ := told_enc c hc mark xs okA
    have hb := bytes_enc c mark xs okA
    rw [← hsA] at hb
    rw [← hb] at t1 t2
    have hlen : sA.size ≤ 16777216 := by
      rw [← bytesOf_length, hb, List.length_append]
      have := markB_len c
      have := encAll_len xs c
      have : (if mark then markB c else []).length ≤ 3 := by cases mark <;> simp <;> omega
      omega
    have hdec := decode_go sA c true hc.2 hlen w5
    rw [show codingOf c (bytesOf sA) = c from by unfold codingOf; rw [if_neg (by omega)]] at hdec
    obtain ⟨b, hbb⟩ : ∃ b, wantB c mark xs = b := ⟨_, rfl⟩
    rw [hbb] at t1
    have HB := Lib.hid hbb
    obtain ⟨zs, hzs⟩ : ∃ zs, (if b then xs.tail else xs) = zs := ⟨_, rfl⟩
    rw [hzs] at t1
    have HZ := Lib.hid hzs
    have hzl : zs.length ≤ 1048576 := by
      rw [← hzs]
      split
      · rw [List.length_tail]; omega
      · omega
    have T1 := Lib.hid t1
    have T2 := Lib.hid t2
    have HDEC := Lib.hid hdec
    clear hdec okA hsA hb hlen t1 t2 HA HE hbb hzs
    go_wp2_with fail
    refine HDEC.out.mono ?_
    rintro e w6 ⟨x, rfl, hp, m6⟩
    obtain ⟨vr, vp, rfl, hr, hq⟩ := hp.whole T2.out
    rw [T1.out] at hr
    obtain ⟨p2, c2, rfl, k2⟩ := hr.read
    obtain ⟨p3, c3, rfl, -⟩ := hq.read
    generalize (((placesOf (told c (bytesOf sA))).map fun n : Nat => (n : Int)) ++ [(sA.size : Int)]).length = n3 at *
    have K2 := Lib.hid k2
    have M6 := Lib.hid (M5.out.trans m6 (by simp))
    obtain ⟨h7, m7⟩ := hold_new w6 (.int .i64 (c : Int)) (.slice p2 zs.length c2) (.slice p3 n3 c3) (.int .i64 0) (.int .i64 0) (.int .i64 0)
    have H7 := Lib.hid h7
    have M7 := Lib.hid m7
    clear hr hp hq k2 m6 HDEC h7 m7
    go_upto_region 12 with fail
    generalize ((w6.alloc (.cells #[.int .i64 (c : Int), .slice p2 zs.length c2, .slice p3 n3 c3, .int .i64 0] 25)).alloc (.cells #[.int .i64 0, .int .i64 0] 28)) = W at *
    have MW := Lib.hid (M6.out.trans M7.out (by simp))
    obtain ⟨d0, d1, d2, d3, d4, d5⟩ := H7.out.cells
    go_cut [73] (fun x wx => x = .bool b ∧ wx = W)
    case first =>
      by_cases h4 : c = 4
      · have hb : b = false := by rw [← HB.out]; unfold wantB; simp [h4]
        have hz : ((c : Int) == 4) = true := by rw [h4]; rfl
        subst hb
        go_wp2_with fail
        go_meet
        exact ⟨rfl, rfl⟩
      · have hz : ((c : Int) == 4) = false := by rw [beq_eq_false_iff_ne]; omega
        have hzn : ((c : Int) != 4) = true := by rw [bne_iff_ne]; omega
        cases mark
        · by_cases hl : 0 < xs.length
          · have hlI : 0 < (xs.length : Int) := by omega
            obtain ⟨a, rfl, ca⟩ := K0.out W MW.out 0 hl
            have ca' : W.cell? a = some (.int .i64 (xs.getD 0 0)) := ca
            by_cases hf : xs.getD 0 0 = 65279
            · have hb : b = true := by rw [← HB.out]; unfold wantB; exact decide_eq_true ⟨h4, rfl, hl, hf⟩
              rw [hf] at ca'
              subst hb
              clear ca
              go_wp2_with fail
              go_meet
              exact ⟨rfl, rfl⟩
            · have hb : b = false := by rw [← HB.out]; unfold wantB; exact decide_eq_false (fun h => hf h.2.2.2)
              have hfb : (xs.getD 0 0 == 65279) = false := by rw [beq_eq_false_iff_ne]; exact hf
              generalize xs.getD 0 0 = y at *
              subst hb
              clear ca
              go_wp2_with fail
              go_meet
              exact ⟨rfl, rfl⟩
          · have hlI : ¬ 0 < (xs.length : Int) := by omega
            have hb : b = false := by rw [← HB.out]; unfold wantB; exact decide_eq_false (fun h => hl h.2.2.1)
            subst hb
            go_wp2_with fail
            go_meet
            exact ⟨rfl, rfl⟩
        · have hb : b = false := by rw [← HB.out]; unfold wantB; simp
          subst hb
          go_wp2_with fail
          go_meet
          exact ⟨rfl, rfl⟩
    case rest =>
      obtain ⟨rfl, rfl⟩ := hcut
      cases b
      · obtain rfl : xs = zs := HZ.out
        go_wp2_with fail
        refine (ints_any _ _ p2 p0 c2 c0 xs xs (by omega) _ rfl rfl (fun i hi => K2.out _ M7.out i hi) (fun i hi => K0.out _ MW.out i hi)).mono ?_
        rintro e w9 ⟨rfl, n, rfl⟩
        rw [decide_eq_true (rfl : xs = xs)]
        go_wp2_with fail
        exact bodyPost_ret (results_tmp rfl _ _ _) rfl ⟨rfl, (MW.out.drewN n).nil (by simp)⟩
      · have hw : 0 < xs.length := by have h := HB.out; unfold wantB at h; exact (of_decide_eq_true h).2.2.1
        obtain ⟨ao, cap, hv, _, _, h3, _⟩ := HX.out
        obtain ⟨bb, off, hbo, _, hcells⟩ := h3 hw
        cases hv
        subst hbo
        clear h3
        have h1I : (1 : Int) ≤ (xs.length : Int) := by omega
        have hzt : Hid (zs = xs.tail) := Lib.hid HZ.out.symm
        have hzl2 : zs.length = xs.length - 1 := by rw [hzt.out, List.length_tail]
        have KT : Hid (∀ i, i < zs.length → ∃ a' : Addr, some (⟨bb, off + 1, none⟩ : Addr) = some a' ∧ wc.cell? (a'.add i) = some (.int .i64 (zs.getD i 0))) := Lib.hid fun i hi => by
          refine ⟨_, rfl, ?_⟩
          rw [Addr.add_lit]
          have h2 := MW.out.cell (hcells (1 + i) (by omega)) (by simp)
          rw [show off + 1 + i = off + (1 + i) by omega, h2, hzt.out]
          cases xs with
          | nil => simp at hw
          | cons x r => rw [Nat.add_comm]; rfl
        clear hcells HZ
        go_wp2_with fail
        · rw [← hzl2]
          refine (ints_any _ _ p2 (some ⟨bb, off, none⟩) c2 0 zs zs (by omega) _ rfl rfl (fun i hi => K2.out _ M7.out i hi) (fun i hi => by omega)).mono ?_
          rintro e w9 ⟨rfl, n, rfl⟩
          rw [decide_eq_true (rfl : zs = zs)]
          go_wp2_with fail
          exact bodyPost_ret (results_tmp (t := 6) rfl _ _ _) rfl ⟨rfl, (MW.out.drewN n).nil (by simp)⟩
        · rw [← hzl2]
          refine (ints_any _ _ p2 (some ⟨bb, off + 1, none⟩) c2 (c0 - 1) zs zs (by omega) _ rfl rfl (fun i hi => K2.out _ M7.out i hi) KT.out).mono ?_
          rintro e w9 ⟨rfl, n, rfl⟩
          rw [decide_eq_true (rfl : zs = zs)]
          go_wp2_with fail
          exact bodyPost_ret (results_tmp (t := 6) rfl _ _ _) rfl ⟨rfl, (MW.out.drewN n).nil (by simp)⟩
  · clear HA HE
    go_wp2_with fail
    exact bodyPost_ret (results_tmp rfl _ _ _) rfl ⟨rfl, M5.out.nil (by simp)⟩

theorem lawCodingEncodes {w : World} (v : Value) (xs : List Int) (hx : Ints .i64 w v xs) (hs : xs.length ≤ 1048576) (c : Int) (_ : (Lit.int .i64 c).wf = true) (mark : Bool) :
    Calls Try.prog 4 #[v, .int .i64 c, .bool mark] w fun e w' => e = .returned (.bool true) ∧ Below w.heap.size w w' := by
  by_cases hc : c < 1 ∨ 4 < c
  · exact encodes_out v xs hx hs c hc mark
  · obtain ⟨k, rfl⟩ : ∃ k : Nat, c = k := ⟨c.toNat, by omega⟩
    exact encodes_in v xs hx hs k (by omega) mark

end Go.Proofs.Ytkoheodcledcfaa
