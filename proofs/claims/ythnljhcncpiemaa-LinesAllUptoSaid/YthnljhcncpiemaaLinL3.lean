/- The laws of lines: LinesAll. -/
import Derived.Test.YthnljhcncpiemaaLinL1
import Derived.Test.YthnljhcncpiemaaPrsI
import Derived.Test.YthnljhcncpiemaaBitsP
namespace Go.Proofs.Ythnljhcncpiemaa
open Go.RowKit
set_option linter.unusedVariables false

/-- a row of spans that grows, new in this call -/
structure SpN (w0 : World) (v : Value) (O : List (Nat × Nat)) (w : World) : Prop where
  row : PRow 31 w v O
  fresh : ∀ g, v.ownBlock = some g → w0.heap.size ≤ g
  kept : Mut [] w0 w

theorem SpN.app {w0 wr w1 : World} {v v' : Value} {O : List (Nat × Nat)} {x : Nat × Nat} {o : Obj} (h : SpN w0 v O wr)
    (hr1 : w1.ownsRow 0 31 2 v' (O.length + 1) (spCells O ++ spCell x)) (hg1 : (wr.alloc o).grownBy w1 v.ownBlock) (hf1 : ∀ g, v'.ownBlock = some g → v.ownBlock = some g ∨ wr.heap.size + 1 ≤ g) : SpN w0 v' (O ++ [x]) w1 := by
  refine ⟨?_, fun k hk => (hf1 k hk).elim (fun h' => h.fresh k h') (fun h' => by have := h.kept.size; omega), (h.kept.alloc o).grown hg1 (fun k hk => .inr (h.fresh k hk))⟩
  unfold PRow
  rw [List.length_append, spCells_snoc]
  exact hr1

theorem foundN_le (S : SelS) (k j : Nat) : foundN S k ≤ foundN S (k + j) := by
  induction j with
  | zero => exact Nat.le_refl _
  | succ j ih =>
    rw [show k + (j + 1) = k + j + 1 from rfl, foundN]
    omega

theorem strip_at {R : List LineV} {M : List (Nat × (Nat × Nat) × Nat)} (h : R.map lnStrip = M) {i : Nat} {x : Nat × (Nat × Nat) × Nat} (hx : M[i]? = some x) : ∃ hi : i < R.length, (R[i]'hi).1 = x.1 ∧ (R[i]'hi).2.2.2.1 = x.2.2 := by
  rw [← h, List.getElem?_map] at hx
  cases hr : R[i]? with
  | none => rw [hr] at hx; simp at hx
  | some y =>
    rw [hr] at hx
    obtain ⟨hi, hy⟩ := List.getElem?_eq_some_iff.1 hr
    simp only [Option.map_some, Option.some.injEq] at hx
    subst hx
    exact ⟨hi, by rw [hy]; rfl, by rw [hy]; rfl⟩

theorem selN_false (L : List (Nat × Nat)) (S : SelS) (inv : Bool) : (selN inv L S 0).length = 0 := rfl

set_option maxHeartbeats 3200000 in
set_option maxRecDepth 100000 in
theorem lawLinesAll {w : World} (s : ByteArray) (wd : s.size ≤ maxLen) (zd : s.size ≤ 1048576) (v : Value) (C : List (Int × Int)) (hC : Prs w v C) (zc : C.length ≤ 1048576) :
    Calls Try.prog 4 #[.string s, v] w fun e w' => e = .returned (.bool true) ∧ Below w.heap.size w w' := by
  clear wd
  obtain ⟨ao, cap, rfl, -, -, hcell⟩ := hC
  have HCELL := Lib.hid hcell
  clear hcell
  go_enter Try.func4, Try.ntmps4
  go_wp2_with fail
  refine (speaks_any _).mono ?_
  rintro e w1 ⟨rfl, hm1⟩
  have HG0 : Hid (SpN w (.slice none 0 0) [] w1) := Lib.hid ⟨PRow.nil _ _, by simp [Value.ownBlock], hm1⟩
  have HX0 : Hid (∀ x ∈ ([] : List (Nat × Nat)), x.1 ≤ x.2 ∧ x.2 ≤ s.size) := Lib.hid (by simp)
  clear hm1
  dsimp only
  go_wp2_with fail
  go_loopw [5, 6, 7] (fun a b c wx => ∃ (k f : Nat) (X : List (Nat × Nat)) (p : Option Addr) (cc : Nat), a = .slice p X.length cc ∧ b = .int .i64 (f : Int) ∧ c = .int .i64 (k : Int) ∧ f ≤ s.size ∧ k ≤ C.length ∧ X.length ≤ k ∧ Hid (SpN w (.slice p X.length cc) X wx) ∧ Hid (∀ x ∈ X, x.1 ≤ x.2 ∧ x.2 ≤ s.size)) (fun a b c _ => C.length - (intOf c).toNat)
  case atStart => exact ⟨0, 0, [], none, 0, rfl, rfl, rfl, Nat.zero_le _, Nat.zero_le _, Nat.le_refl _, HG0, HX0⟩
  case round =>
    obtain ⟨k, f, X, p, cc, rfl, rfl, rfl, hf, hk, hXk, HG, HX⟩ := hrel
    clear HG0 HX0
    obtain ⟨lb, hlb⟩ : ∃ lb : Bool, decide (k < C.length ∧ k < 1000) = lb := ⟨_, rfl⟩
    go_upto_region 6 with fail
    go_cut [24] (fun q wx => wx = wr ∧ q = .bool lb)
    case first =>
      by_cases h1 : k < C.length
      · have h1I : (k : Int) < (C.length : Int) := by omega
        by_cases h2 : k < 1000
        · have h2I : (k : Int) < 1000 := by omega
          have hl : lb = true := by rw [← hlb]; exact decide_eq_true ⟨h1, h2⟩
          subst hl
          clear hlb
          go_wp2_with fail
          go_meet
          exact ⟨rfl, rfl⟩
        · have h2I : ¬ (k : Int) < 1000 := by omega
          have hl : lb = false := by rw [← hlb]; exact decide_eq_false (fun h => h2 h.2)
          subst hl
          clear hlb
          go_wp2_with fail
          go_meet
          exact ⟨rfl, rfl⟩
      · have h1I : ¬ (k : Int) < (C.length : Int) := by omega
        have hl : lb = false := by rw [← hlb]; exact decide_eq_false (fun h => h1 h.1)
        subst hl
        clear hlb
        go_wp2_with fail
        go_meet
        exact ⟨rfl, rfl⟩
    case rest =>
      obtain ⟨hwc, rfl⟩ := hcut
      obtain rfl := hwc.symm
      cases lb with
      | true =>
        have hlt : k < C.length := (of_decide_eq_true hlb).1
        have hkI : (k : Int) < (C.length : Int) := by omega
        obtain ⟨b, off, rfl, hbl, hcc⟩ := HCELL.out (by omega)
        obtain ⟨x0, x1⟩ := hcc k hlt
        have c0 := HG.out.kept.cell x0 (by simp)
        have c1 := HG.out.kept.cell x1 (by simp)
        obtain ⟨xa, hxa⟩ : ∃ z, (C[k]'hlt).1 = z := ⟨_, rfl⟩
        obtain ⟨xb, hxb⟩ : ∃ z, (C[k]'hlt).2 = z := ⟨_, rfl⟩
        rw [hxa] at c0
        rw [hxb] at c1
        have ha := and_mask_i64 xa 8 (by decide) 255 (by decide)
        have hb := and_mask_i64 xb 8 (by decide) 255 (by decide)
        obtain ⟨ma, hma⟩ : ∃ m : Nat, xa % 2 ^ 8 = (m : Int) := ⟨(xa % 2 ^ 8).toNat, by omega⟩
        obtain ⟨mb, hmb⟩ : ∃ m : Nat, xb % 2 ^ 8 = (m : Int) := ⟨(xb % 2 ^ 8).toNat, by omega⟩
        have hma8 : ma < 256 := by omega
        have hmb8 : mb < 256 := by omega
        rw [hma] at ha
        rw [hmb] at hb
        obtain ⟨f', hf'⟩ : ∃ f', min (f + ma) s.size = f' := ⟨_, rfl⟩
        obtain ⟨t', ht'⟩ : ∃ t', min (f' + mb) s.size = t' := ⟨_, rfl⟩
        have hX2 : f' ≤ s.size ∧ f' ≤ t' ∧ t' ≤ s.size := by omega
        have m1 : min ((f : Int) + (ma : Int)) (s.size : Int) = (f' : Int) := by omega
        have m2 : min ((f' : Int) + (mb : Int)) (s.size : Int) = (t' : Int) := by omega
        clear hxa hxb x0 x1 hcc hma hmb hf' ht' hlb hwc
        go_upto_region 9 with fail
        obtain ⟨i0, hi, hz0, hz1, hz2⟩ := info_parts info_span
        have hXN : ∀ x ∈ X ++ [(f', t')], x.1 ≤ x.2 ∧ x.2 ≤ s.size := by
          intro x hx
          rcases List.mem_append.1 hx with h | h
          · exact HX.out x h
          · simp at h
            subst h
            exact hX2.2
        have HXN := Lib.hid hXN
        clear hXN
        go_wp2_with (at_builtin; refine wp_app rfl (.tmp 38) (.tmp 52) 23 23 rfl 31 i0 (.agg #[.int .i64 0, .int .i64 0]) 2 16 Try.underlying23 hi hz0 hz1 hz2 rfl (HG.out.row.mut ((Mut.refl [] wr).alloc _) (by simp)) rfl (src1 Try.underlying23 (heap_alloc_new wr _) rfl (sp_one (f', t'))) rfl ?b1 ?b2 ?_)
        case b1 => unfold maxLen; omega
        case b2 => omega
        intro v' w2 hr1 hg1 hf1
        have hS := SpN.app (x := (f', t')) HG.out hr1 hg1 (by simpa using hf1)
        obtain ⟨p2, c2, e⟩ := hS.row.form
        subst e
        have HS2 := Lib.hid hS
        clear hr1 hg1 hf1 hS HG hi hz0 hz1 hz2 c0 c1 ha hb m1 m2
        rw [List.length_append] at HS2 ⊢
        go_wp2_with fail
        exact ⟨⟨k + 1, f', X ++ [(f', t')], p2, c2, by rw [List.length_append], rfl, by rw [Int.natCast_add]; rfl, hX2.1, hlt, by rw [List.length_append]; simp; omega, by rw [List.length_append]; exact HS2, HXN⟩, by simp only [intOf]; omega⟩
      | false =>
        have hXl : X.length ≤ 1048576 := by omega
        obtain ⟨D, hD⟩ : ∃ D, bytesOf s = D := ⟨_, rfl⟩
        have hDl : D.length = s.size := by rw [← hD, bytesOf_length]
        obtain ⟨L, hL⟩ : ∃ L, lns D = L := ⟨_, rfl⟩
        have hLs : L.length ≤ s.size := by rw [← hL, ← hDl]; exact lns_len D
        have HSP := Lib.hid fun w => split_any s (by omega) w
        have HSA := Lib.hid (select_any s (by omega) X HX.out (by omega) false _ wr HG.out.row)
        have HSB := Lib.hid fun w hv => select_any s (by omega) X HX.out (by omega) true (.slice p X.length cc) w hv
        rw [hD, hL] at HSP HSA HSB
        obtain ⟨S, hS⟩ : ∃ S, selAll L X = S := ⟨_, rfl⟩
        have HOK : Hid (0 < L.length → SelOk L.length X.length S) := Lib.hid fun h => by rw [← hS]; exact selAll_ok L X h
        clear hD hL hlb hwc HX HCELL
        go_wp2_with fail
        refine HSA.out.mono ?_
        rintro e w2 ⟨u1, R1, rfl, hg1, hR1, hm2⟩
        obtain ⟨p1, c1, rfl⟩ := hg1.row.form
        rw [hS] at hR1
        have HR1 := Lib.hid hR1
        have HQ1 := Lib.hid hg1.row
        have HM2 := Lib.hid (HG.out.kept.trans' hm2)
        have HV2 := Lib.hid (HG.out.row.mut hm2 (by simp))
        clear hg1 hR1 hm2 HSA HG
        go_wp2_with fail
        refine (HSB.out _ HV2.out).mono ?_
        rintro e w3 ⟨u2, R2, rfl, hg2, hR2, hm3⟩
        obtain ⟨p2, c2, rfl⟩ := hg2.row.form
        rw [hS] at hR2
        have HR2 := Lib.hid hR2
        have HQ2 := Lib.hid hg2.row
        have HQ1' := Lib.hid (HQ1.out.mut hm3 (by simp))
        have HM3 := Lib.hid (HM2.out.trans' hm3)
        clear hg2 hR2 hm3 HSB HQ1 HM2 HV2 hS
        go_wp2_with fail
        refine (HSP.out _).mono ?_
        rintro e w4 ⟨u3, rfl, hr4, -, hm4⟩
        obtain ⟨p3, c3, rfl⟩ := hr4.form
        have HQ2' := Lib.hid (HQ2.out.mut hm4 (by simp))
        have HQ1 := Lib.hid (HQ1'.out.mut hm4 (by simp))
        have HM4 := Lib.hid (HM3.out.trans' hm4)
        clear hr4 hm4 HQ1' HQ2 HM3 HSP
        go_wp2_with fail
        have HBEL : Hid (Below w.heap.size w w4) := Lib.hid (HM4.out.nil (by simp))
        clear HM4
        go_loop [11, 12, 13, 14] (fun a b c d => ∃ k n i j fd : Nat, a = .int .i64 (fd : Int) ∧ b = .int .i64 (i : Int) ∧ c = .int .i64 (j : Int) ∧ d = .int .i64 (n : Int) ∧ k ≤ L.length ∧ i ≤ k ∧ j ≤ k ∧ Hid (n = k + 1 ∧ fd = foundN S k ∧ i = (selN false L S k).length ∧ j = (selN true L S k).length)) (fun a b c d => L.length + 2 - (intOf d).toNat)
        case atStart => exact ⟨0, 1, 0, 0, 0, rfl, rfl, rfl, rfl, Nat.zero_le _, Nat.zero_le _, Nat.zero_le _, Lib.hid ⟨rfl, rfl, rfl, rfl⟩⟩
        case round =>
          obtain ⟨k, n, i, j, fd, rfl, rfl, rfl, rfl, hkL, hik, hjk, HS⟩ := hrel
          by_cases hlt : k < L.length
          case pos =>
            obtain ⟨hn, hfd, hi, hj⟩ := HS.out
            have hnI : (n : Int) ≤ (L.length : Int) := by omega
            have ok := HOK.out (by omega)
            have hfs : foundN S (k + 1) ≤ X.length := by
              have h1 := foundN_le S (k + 1) (L.length - (k + 1))
              rw [show k + 1 + (L.length - (k + 1)) = L.length by omega, foundN_sum ok] at h1
              exact h1
            have hff : foundN S (k + 1) = fd + if S.1.getD k false = true then S.2.1.getD k 0 else 0 := by rw [foundN, ← hfd]
            have a1 := selN_at false L S k L.length hlt
            have a2 := selN_at true L S k L.length hlt
            rw [← hi] at a1
            rw [← hj] at a2
            have HS0 := ok.none k
            clear ok
            cases htv : S.1.getD k false with
            | true =>
              rw [htv] at a1 a2 hff
              obtain ⟨b1, b2⟩ := a1.1 rfl
              obtain ⟨-, b3⟩ := a2.2 rfl
              obtain ⟨hi1, e1, e2⟩ := strip_at HR1.out b1
              rw [if_pos rfl] at hff
              obtain ⟨g1, c1', hv1, -, -⟩ := row_some HQ1.out (by omega)
              simp only [Value.slice.injEq] at hv1
              obtain ⟨rfl, -, rfl⟩ := hv1
              obtain ⟨x0, -, x3⟩ := LRow.cells HQ1.out i hi1
              obtain ⟨⟨y1, y2, ⟨yp, yl, yc⟩⟩, hy⟩ : ∃ y, R1[i]'hi1 = y := ⟨_, rfl⟩
              rw [hy] at x0 x3 e1 e2
              simp only [slV] at x0 x3 e1 e2
              obtain rfl : y1 = n := by omega
              have hi1I : (i : Int) < (R1.length : Int) := by omega
              have hfl : fd + yl ≤ X.length := by omega
              have HN : Hid (y1 + 1 = k + 1 + 1 ∧ fd + yl = foundN S (k + 1) ∧ i + 1 = (selN false L S (k + 1)).length ∧ j = (selN true L S (k + 1)).length) := Lib.hid ⟨by omega, by omega, by omega, by omega⟩
              clear hn hfd hi hj hff hfs htv b1 b2 b3 a1 a2 HS0 e1 e2 hy HS
              go_wp2_with fail
              have hn := HN.out.1
              exact ⟨⟨k + 1, y1 + 1, i + 1, j, fd + yl, by rw [Int.natCast_add], by rw [Int.natCast_add]; rfl, rfl, by rw [Int.natCast_add]; rfl, hlt, by omega, by omega, HN⟩, by simp only [intOf]; omega⟩
            | false =>
              rw [htv] at a1 a2 hff
              obtain ⟨b1, b3⟩ := a1.2 rfl
              obtain ⟨b2, b4⟩ := a2.1 rfl
              obtain ⟨hj1, e1, e2⟩ := strip_at HR2.out b2
              rw [if_neg (by simp)] at hff
              have hz : S.2.1.getD k 0 = 0 := HS0 htv
              obtain ⟨g2, c2', hv2, -, -⟩ := row_some HQ2'.out (by omega)
              simp only [Value.slice.injEq] at hv2
              obtain ⟨rfl, -, rfl⟩ := hv2
              obtain ⟨x0, -, x3⟩ := LRow.cells HQ2'.out j hj1
              obtain ⟨⟨y1, y2, ⟨yp, yl, yc⟩⟩, hy⟩ : ∃ y, R2[j]'hj1 = y := ⟨_, rfl⟩
              rw [hy] at x0 x3 e1 e2
              simp only [slV] at x0 x3 e1 e2
              obtain rfl : y1 = n := by omega
              obtain rfl : yl = 0 := by omega
              have hj1I : (j : Int) < (R2.length : Int) := by omega
              have HN : Hid (y1 + 1 = k + 1 + 1 ∧ fd = foundN S (k + 1) ∧ i = (selN false L S (k + 1)).length ∧ j + 1 = (selN true L S (k + 1)).length) := Lib.hid ⟨by omega, by omega, by omega, by omega⟩
              have HB1 : Hid (∀ (hi : i < R1.length), y1 < (R1[i]'hi).1) := Lib.hid fun hi1 => by
                have h1 := b1 (lnStrip (R1[i]'hi1)) (by rw [← HR1.out, List.getElem?_map, List.getElem?_eq_getElem hi1]; rfl)
                simp only [lnStrip] at h1
                omega
              clear hn hfd hi hj hff hfs htv b1 b2 b3 b4 a1 a2 HS0 e1 e2 hy HS hz
              go_upto_region 18 with fail
              go_cut [68] (fun q wx => wx = w4 ∧ q = .bool false)
              case first =>
                by_cases hi1 : i < R1.length
                · have hi1I : (i : Int) < (R1.length : Int) := by omega
                  obtain ⟨g1, c1', hv1, -, -⟩ := row_some HQ1.out (by omega)
                  simp only [Value.slice.injEq] at hv1
                  obtain ⟨rfl, -, rfl⟩ := hv1
                  obtain ⟨z0, -, -⟩ := LRow.cells HQ1.out i hi1
                  have hgt := HB1.out hi1
                  obtain ⟨q, hq⟩ : ∃ q, (R1[i]'hi1).1 = q := ⟨_, rfl⟩
                  rw [hq] at z0 hgt
                  have hne : ((q : Int) == (y1 : Int)) = false := by rw [beq_eq_false_iff_ne]; omega
                  clear hq hgt x0 x3
                  go_wp2_with fail
                  go_meet
                  exact ⟨rfl, rfl⟩
                · have hi1I : ¬ (i : Int) < (R1.length : Int) := by omega
                  clear x0 x3
                  go_wp2_with fail
                  go_meet
                  exact ⟨rfl, rfl⟩
              case rest =>
                obtain ⟨hwc, rfl⟩ := hcut
                obtain rfl := hwc.symm
                clear hwc HB1
                go_wp2_with fail
                have hn := HN.out.1
                exact ⟨⟨k + 1, y1 + 1, i, j + 1, fd, rfl, rfl, by rw [Int.natCast_add]; rfl, by rw [Int.natCast_add]; rfl, hlt, by omega, by omega, HN⟩, by simp only [intOf]; omega⟩
          case neg =>
            obtain ⟨hn, hfd, hi, hj⟩ := HS.out
            obtain rfl : k = L.length := by omega
            have hnI : ¬ (n : Int) ≤ (L.length : Int) := by omega
            have hiI : ((i : Int) == (R1.length : Int)) = true := by
              rw [beq_iff_eq, hi, ← HR1.out, List.length_map]
            have hjI : ((j : Int) == (R2.length : Int)) = true := by
              rw [beq_iff_eq, hj, ← HR2.out, List.length_map]
            by_cases h0 : L.length = 0
            case pos =>
              have h0I : ((L.length : Int) == 0) = true := by rw [beq_iff_eq]; omega
              clear hn hfd hi hj HS
              go_wp2_with fail
              exact bodyPost_ret (results_tmp rfl _ _ _) rfl ⟨rfl, HBEL.out⟩
            case neg =>
              have h0I : ((L.length : Int) == 0) = false := by rw [beq_eq_false_iff_ne]; omega
              have hfX : ((fd : Int) == (X.length : Int)) = true := by
                rw [beq_iff_eq, hfd, foundN_sum (HOK.out (by omega))]
              clear hn hfd hi hj HS
              go_wp2_with fail
              exact bodyPost_ret (results_tmp rfl _ _ _) rfl ⟨rfl, HBEL.out⟩

end Go.Proofs.Ythnljhcncpiemaa
