/- The law HuffDecodes. -/
import Derived.Test.YtbgejebnpmogoaaHufF2
import Derived.Test.YtbgejebnpmogoaaHufF1
import Derived.Deep.DeepCutAuto
namespace Go.Proofs.Ytbgejebnpmogoaa
open Go.RowKit

theorem nextRes_cases (ls : List Nat) (v th : Nat) : (∃ a n, nextRes ls v th = (a, n, 0) ∧ 0 < n ∧ n ≤ th) ∨ nextRes ls v th = (0, 0, 3) ∨ nextRes ls v th = (0, 0, 5) := by
  unfold nextRes
  simp only
  by_cases h : 0 < (found ls ls.length v).2 ∧ (found ls ls.length v).2 ≤ th
  · rw [if_pos h]; exact .inl ⟨_, _, rfl, h.1, h.2⟩
  · rw [if_neg h]
    by_cases h2 : begOf (longOf ls) th = true
    · rw [if_pos h2]; exact .inr (.inl rfl)
    · rw [if_neg h2]; exact .inr (.inr rfl)

theorem good_of (xs : List Int) (h : newErr xs = 0) : Good (lensOf xs) := by
  obtain ⟨h1, h2, h3, h4⟩ := newErr_len' xs h
  exact ⟨(lens_ok xs h2).1, h3, h4⟩

/-- the state of a decoder's loop -/
structure DSt (w wx : World) (lo hi b rb : Nat) (ls : List Nat) (vc : Value) (s : ByteArray) (k : Nat) : Prop where
  tab : TableIs wx lo hi b ls
  rd : RdIs wx rb s k
  row : IRow wx vc (codesI ls)
  kept : Mut [] w wx
  lo_le : w.heap.size ≤ lo
  hi_le : hi ≤ rb
  fresh : w.heap.size ≤ rb
  vcne : ∀ g, vc.ownBlock = some g → g ≠ rb
  le : k ≤ 8 * s.size

theorem DSt.step {w wx wy : World} {lo hi b rb : Nat} {ls : List Nat} {vc : Value} {s : ByteArray} {k k' : Nat} (h : DSt w wx lo hi b rb ls vc s k) (hr : RdIs wy rb s k') (m : Mut [rb] wx wy) (hk : k' ≤ 8 * s.size) : DSt w wy lo hi b rb ls vc s k' :=
  ⟨h.tab.mut m (fun x hx => by have := h.hi_le; simp at hx; omega), hr, h.row.mut m (fun g hg => by have := h.vcne g hg; simpa using this), h.kept.trans m (fun x hx => by have := h.fresh; simp at hx; omega), h.lo_le, h.hi_le, h.fresh, h.vcne, hk⟩

theorem DSt.drewN {w wx : World} {lo hi b rb : Nat} {ls : List Nat} {vc : Value} {s : ByteArray} {k : Nat} (h : DSt w wx lo hi b rb ls vc s k) (n : Nat) : DSt w (wx.drewN n) lo hi b rb ls vc s k :=
  h.step (wy := wx.drewN n) h.rd ((Mut.refl _ _).drewN n) h.le

set_option maxHeartbeats 3200000 in
set_option maxRecDepth 1000000 in
theorem lawHuffDecodes {w : World} (v0 : Value) (xs : List Int) (h : Ints .i64 w v0 xs) (hl : xs.length ≤ 1048576) (s : ByteArray) (_ : s.size ≤ maxLen) (hs : s.size ≤ 1048576) (sk : Int) (_ : (Lit.int .i64 sk).wf = true) :
    Calls Try.prog 5 #[v0, .string s, .int .i64 sk] w fun e w' => e = .returned (.bool true) ∧ Below w.heap.size w w' := by
  have HX := Lib.hid h
  obtain ⟨p0, c0, rfl, hr0⟩ := h.read
  have HR0 := Lib.hid hr0
  have hand := and_mask_i64 sk 5 (by decide) 31 (by decide)
  obtain ⟨at0, hat⟩ : ∃ n : Nat, sk % 2 ^ 5 = (n : Int) := ⟨(sk % 2 ^ 5).toNat, by omega⟩
  have hat32 : at0 < 32 := by omega
  rw [hat] at hand
  clear h hr0 hat
  go_enter Try.func5, Try.ntmps5
  go_wp2_with fail
  refine (speaks_any w).mono ?_
  rintro e w1 ⟨rfl, m1⟩
  have M1 := Lib.hid m1
  clear m1
  go_wp2_with (at_builtin; (refine wp_appI rfl (.tmp 27) (.tmp 28) rfl (IRow.empty _) rfl (HX.out.src (M1.out.alloc _)) rfl (by rw [List.length_nil]; omega) ?_))
  intro v2 w2 r2 m2 f2
  have hM2 : Mut [] w w2 := (M1.out.alloc _).trans m2 (by have := M1.out.size; simp [Value.ownBlock]; omega)
  have r2' : IRow w2 v2 xs := r2
  have HN := Lib.hid (new_row xs (by omega) v2 w2 r2')
  obtain ⟨p2, c2, rfl, k2⟩ := r2'.read
  have HM2 := Lib.hid hM2
  clear r2 r2' m2 f2 hM2 k2
  go_wp2_with fail
  refine HN.out.mono ?_
  rintro e w3 ⟨he, m3⟩
  have HM3 : Hid (Mut [] w w3) := Lib.hid (HM2.out.trans m3 (by simp))
  have HS23 := Lib.hid m3.size
  clear m3 HN HX
  have HF := Lib.hid (refnew_any xs (by omega) p0 c0 w3 (fun w' m i hi => HR0.out w' (HM3.out.trans m (by simp)) i hi))
  rcases he with ⟨h0, rfl⟩ | ⟨h0, b, rfl, hT⟩
  · have hne : ((newErr xs : Int) == 0) = false := by simpa using h0
    have H0 := Lib.hid h0
    clear h0
    go_wp2_with fail
    refine HF.out.mono ?_
    rintro e w4 ⟨he, m4⟩
    obtain ⟨_, rfl⟩ := he.resolve_right (fun h => H0.out h.1)
    have HM4 : Hid (Mut [] w w4) := Lib.hid (HM3.out.trans m4 (by simp))
    clear m4 HF he H0
    generalize newErr xs = er at *
    go_wp2_with (first | (go_at_call 16; refine (open_any _ _).mono ?_; rintro e w5 ⟨rfl, rfl⟩) | (go_at_call 15; refine (next_nilt _ _).mono ?_; rintro e w6 ⟨rfl, rfl⟩))
    exact bodyPost_ret (results_tmp rfl _ _ _) rfl ⟨rfl, (HM4.out.alloc _).nil (by simp)⟩
  · have H0 := Lib.hid h0
    have hl1024 := (newErr_len' xs h0).1
    have hlen := lensOf_length xs
    have HGD := Lib.hid (good_of xs h0)
    have hget := lens_get xs (newErr_len' xs h0).2.1
    have HT := Lib.hid hT
    clear h0 hT
    go_wp2_with fail
    refine HF.out.mono ?_
    rintro e w4 ⟨he, m4⟩
    obtain ⟨_, vc, rfl, hrc, hfc⟩ := he.resolve_left (fun h => h.1 H0.out)
    obtain ⟨ls, hls⟩ : ∃ ls, lensOf xs = ls := ⟨_, rfl⟩
    rw [hls] at hrc hlen HGD hget HT
    obtain ⟨pc, cc, rfl, kc⟩ := hrc.read
    rw [codesI_length] at hrc hfc ⊢
    have HM4 : Hid (Mut [] w w4) := Lib.hid (HM3.out.trans m4 (by simp))
    have HT4 := Lib.hid (HT.out.mut m4 (by simp))
    have HS4 := Lib.hid m4.size
    have HRC := Lib.hid hrc
    have HRL : Hid (∀ (W : World), Mut [] w W → ∀ i, i < ls.length → ∃ a, p0 = some a ∧ ∀ n, (W.drewN n).cell? (a.add i) = some (.int .i64 ((lenAt ls i : Nat) : Int))) := Lib.hid (fun W m i hi => by
      obtain ⟨a, h1, h2⟩ := HR0.out W m i (by omega)
      refine ⟨a, h1, fun n => ?_⟩
      rw [← hget i]
      exact h2)
    have hl2 : ls.length ≤ 1024 := by omega
    have HL15 := Lib.hid (long_le ls HGD.out.h15)
    clear m4 HF HT kc hrc he hget HR0 hls hfc
    rw [← hlen] at *
    clear hlen
    go_upto_region 10 with (go_at_call 16; refine (open_any _ _).mono ?_; rintro e w5 ⟨rfl, rfl⟩)
    have hD : DSt w (w4.alloc (.cells #[.string s, .int .i64 0] 67)) w2.heap.size w3.heap.size b w4.heap.size ls (.slice pc ls.length cc) s 0 := by
      refine ⟨HT4.out.mut ((Mut.refl [] _).alloc _) (by simp), open_is s w4, HRC.out.mut ((Mut.refl [] _).alloc _) (by simp), HM4.out.alloc _, HM2.out.size, HS4.out, HM4.out.size, fun g hg => ?_, Nat.zero_le _⟩
      have := HRC.out.lt hg
      omega
    have HD := Lib.hid hD
    generalize w4.alloc (.cells #[.string s, .int .i64 0] 67) = W0 at *
    generalize w4.heap.size = rb at *
    generalize w2.heap.size = lo at *
    generalize w3.heap.size = hi at *
    clear hD HT4 HRC HM4 HM3 HM2 HS4 HS23
    go_cut [16] (fun s16 wx => ∃ f : Nat, s16 = .int .i64 (f : Int) ∧ Hid ((f = 0 ∧ DSt w wx lo hi b rb ls (.slice pc ls.length cc) s at0) ∨ (f = 3 ∧ DSt w wx lo hi b rb ls (.slice pc ls.length cc) s 0)))
    case first =>
      by_cases hk : at0 ≤ 8 * s.size
      · have HTK : Hid (Calls Try.prog 17 #[.pointer (some ⟨rb, 0, none⟩), .int .i64 (at0 : Int)] W0 fun e w' => e = .returned (.tuple #[.int .i64 (peekNum s 0 at0 : Nat), .int .i64 0]) ∧ Hid (DSt w w' lo hi b rb ls (.slice pc ls.length cc) s at0)) := Lib.hid
          ((take_ok_at rb s 0 at0 (at0 : Int) W0 HD.out.rd (by omega) rfl (by omega) (by omega)).mono fun e w' ⟨he, hr, hm⟩ => ⟨he, Lib.hid (HD.out.step (by simpa using hr) hm hk)⟩)
        go_wp2_with (go_at_call 17; refine HTK.out.mono ?_; rintro e w5 ⟨rfl, HD5⟩)
        go_meet
        exact ⟨0, rfl, Lib.hid (.inl ⟨rfl, HD5.out⟩)⟩
      · have HTK : Hid (Calls Try.prog 17 #[.pointer (some ⟨rb, 0, none⟩), .int .i64 (at0 : Int)] W0 fun e w' => e = .returned (.tuple #[.int .i64 0, .int .i64 3]) ∧ Hid (DSt w w' lo hi b rb ls (.slice pc ls.length cc) s 0)) := Lib.hid
          ((take_end_at rb s 0 at0 (at0 : Int) W0 HD.out.rd (by omega) (by omega) rfl (by omega) (by omega)).mono fun e w' ⟨he, n, hw⟩ => ⟨he, Lib.hid (by rw [hw]; exact HD.out.drewN n)⟩)
        go_wp2_with (go_at_call 17; refine HTK.out.mono ?_; rintro e w5 ⟨rfl, HD5⟩)
        go_meet
        exact ⟨3, rfl, Lib.hid (.inr ⟨rfl, HD5.out⟩)⟩
    case rest =>
      obtain ⟨f, rfl, HD1⟩ := hcut
      go_upto_if 60 with fail
      go_cut [14] (fun s14 wx => wx = wc ∧ ∃ k : Nat, s14 = .int .i64 (k : Int) ∧ Hid (DSt w wx lo hi b rb ls (.slice pc ls.length cc) s k))
      case first =>
        rcases HD1.out with ⟨rfl, hd⟩ | ⟨rfl, hd⟩
        · have HD2 := Lib.hid hd
          clear hd HD1
          go_wp2_with fail
          go_meet
          exact ⟨rfl, at0, rfl, HD2⟩
        · have HD2 := Lib.hid hd
          clear hd HD1
          go_wp2_with fail
          go_meet
          exact ⟨rfl, 0, rfl, HD2⟩
      case rest =>
        obtain ⟨rfl, k, rfl, HK⟩ := hcut
        clear HD HD1 hand
        go_wp2_with fail
        go_loopw [14] (fun x wx => ∃ k : Nat, x = .int .i64 (k : Int) ∧ Hid (DSt w wx lo hi b rb ls (.slice pc ls.length cc) s k)) (fun x _ => 8 * s.size + 1 - (intOf x).toNat)
        case atStart => exact ⟨k, rfl, HK⟩
        case round =>
          clear HK
          obtain ⟨k, rfl, HK⟩ := hrel
          have hkl := HK.out.le
          have hcs := nextRes_cases ls (peekNum s k 15) (min 15 (8 * s.size - k))
          have HNX0 := Lib.hid (next_any lo hi b ls rb s k wr HK.out.tab HK.out.rd (by omega) HK.out.le HL15.out hl2)
          have HRF0 : Hid (∀ W : World, DSt w W lo hi b rb ls (.slice pc ls.length cc) s k ∨ (∃ k', DSt w W lo hi b rb ls (.slice pc ls.length cc) s k') → Calls Try.prog 18 #[.slice p0 ls.length c0, .slice pc ls.length cc, .string s, .int .i64 (k : Nat)] W fun e w' =>
              e = .returned (.tuple #[.int .i64 ((nextRes ls (peekNum s k 15) (min 15 (8 * s.size - k))).1 : Nat), .int .i64 ((nextRes ls (peekNum s k 15) (min 15 (8 * s.size - k))).2.1 : Nat), .int .i64 ((nextRes ls (peekNum s k 15) (min 15 (8 * s.size - k))).2.2 : Nat)]) ∧ ∃ n, w' = W.drewN n) := Lib.hid (fun W hW => by
            have hW2 : ∃ k', DSt w W lo hi b rb ls (.slice pc ls.length cc) s k' := by rcases hW with h | h; exact ⟨k, h⟩; exact h
            obtain ⟨k', h⟩ := hW2
            refine refnext_any ls HGD.out hl2 p0 pc c0 cc s k (by omega) hkl W (HRL.out W h.kept) (fun i hi => ?_)
            obtain ⟨p, c', e1, e2⟩ := h.row.read
            simp at e1
            obtain ⟨e1a, _, _⟩ := e1
            subst e1a
            obtain ⟨a, h1, h2⟩ := e2 W (Mut.refl _ _) i (by rw [codesI_length]; exact hi)
            refine ⟨a, h1, fun n => ?_⟩
            rw [codesI_get ls i hi] at h2
            exact h2)
          obtain ⟨A, N, ER, hRS, hkN, hER⟩ : ∃ A N ER, nextRes ls (peekNum s k 15) (min 15 (8 * s.size - k)) = (A, N, ER) ∧ k + N ≤ 8 * s.size ∧ ((ER = 0 ∧ 0 < N) ∨ (ER ≠ 0 ∧ N = 0)) := by
            rcases hcs with ⟨a, n, h1, h2, h3⟩ | h1 | h1
            · exact ⟨a, n, 0, h1, by omega, .inl ⟨rfl, h2⟩⟩
            · exact ⟨0, 0, 3, h1, by omega, .inr ⟨by decide, rfl⟩⟩
            · exact ⟨0, 0, 5, h1, by omega, .inr ⟨by decide, rfl⟩⟩
          rw [hRS] at HNX0 HRF0
          have HNX : Hid (Calls Try.prog 15 #[.pointer (some ⟨b, 0, none⟩), .pointer (some ⟨rb, 0, none⟩)] wr fun e w' => e = .returned (.tuple #[.int .i64 (A : Int), .int .i64 (ER : Int)]) ∧ Hid (DSt w w' lo hi b rb ls (.slice pc ls.length cc) s (k + N))) := Lib.hid
            (HNX0.out.mono fun e w' ⟨he, hr, hm⟩ => ⟨he, Lib.hid (HK.out.step hr hm hkN)⟩)
          have HRF : Hid (∀ W : World, DSt w W lo hi b rb ls (.slice pc ls.length cc) s (k + N) → Calls Try.prog 18 #[.slice p0 ls.length c0, .slice pc ls.length cc, .string s, .int .i64 (k : Nat)] W fun e w' =>
              e = .returned (.tuple #[.int .i64 (A : Int), .int .i64 (N : Int), .int .i64 (ER : Int)]) ∧ Hid (DSt w w' lo hi b rb ls (.slice pc ls.length cc) s (k + N))) := Lib.hid (fun W hW =>
            (HRF0.out W (.inr ⟨_, hW⟩)).mono fun e w' ⟨he, n, hw⟩ => ⟨he, Lib.hid (by rw [hw]; exact hW.drewN n)⟩)
          clear hcs hRS HNX0 HRF0 HRL HGD HK
          have hkb : (k : Int) + (N : Int) ≤ 8 * 1048576 := by omega
          rcases hER with ⟨rfl, hN⟩ | ⟨hER, rfl⟩
          · skip
            go_upto_region 14 with (go_at_call 15; refine HNX.out.mono ?_; rintro e w5 ⟨rfl, HD5⟩)
            go_upto_region 15 with (go_at_call 18; refine (HRF.out _ HD5.out).mono ?_; rintro e w6 ⟨rfl, HD6⟩)
            go_upto_region 16 with fail
            clear HD5 HNX HRF
            have HD7 := Lib.hid HD6.out
            obtain ⟨K2, hK2⟩ : ∃ K2, k + N = K2 := ⟨_, rfl⟩
            have hK2I : (k : Int) + (N : Int) = (K2 : Int) := by omega
            rw [hK2] at HD7
            have HTA := Lib.hid (taken_any rb s K2 _ HD7.out.rd)
            rw [hK2I]
            have hms : 8 * s.size + 1 - K2 < 8 * s.size + 1 - k := by omega
            clear hK2 hK2I HD6 hkb hkN hkl hN
            go_wp2_with (go_at_call 19; refine HTA.out.mono ?_; rintro e w7 ⟨rfl, rfl⟩)
            exact ⟨⟨K2, rfl, HD7⟩, by simp only [intOf]; omega⟩
          · have hERI : ((ER : Int) == 0) = false := by simpa using hER
            go_upto_region 14 with (go_at_call 15; refine HNX.out.mono ?_; rintro e w5 ⟨rfl, HD5⟩)
            go_upto_region 15 with (go_at_call 18; refine (HRF.out _ HD5.out).mono ?_; rintro e w6 ⟨rfl, HD6⟩)
            go_upto_region 16 with fail
            clear HD5 HNX HRF
            have HD7 : Hid (DSt w w6 lo hi b rb ls (.slice pc ls.length cc) s k) := Lib.hid HD6.out
            have HTA := Lib.hid (taken_any rb s k _ HD7.out.rd)
            have hERI2 : ((ER : Int) != 0) = true := by simpa using hER
            clear HD6 hkb hkN hkl
            go_wp2_with (first | (go_at_call 19; refine HTA.out.mono ?_; rintro e w7 ⟨rfl, rfl⟩) | (go_at_call 15; refine (next_nilr _ _).mono ?_; rintro e w8 ⟨rfl, rfl⟩))
            exact bodyPost_ret (results_tmp rfl _ _ _) rfl ⟨rfl, HD7.out.kept.nil (by simp)⟩

end Go.Proofs.Ytbgejebnpmogoaa
