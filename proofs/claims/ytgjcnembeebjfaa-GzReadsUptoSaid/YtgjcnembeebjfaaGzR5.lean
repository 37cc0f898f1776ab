/- Walk over package ferretref03: told. -/
import Derived.Test.YtgjcnembeebjfaaGzRP
import Derived.Deep.RegionWith
import Derived.BigQuiet
import Derived.Deep.DeepCutAuto
namespace Go.Proofs.Ytgjcnembeebjfaa
open Go.RowKit
set_option linter.unusedVariables false

/-- the order of the short lengths, as the reference lays it -/
def orderC : Array Value := (orderU.map fun n : Nat => Value.int .i64 (n : Int)).toArray
theorem orderC_at (i : Nat) (h : i < 19) : orderC[i]? = some (.int .i64 (orderU.getD i 0 : Nat)) ∧ orderU.getD i 0 < 19 := order_at i h

/-- where the loop over the short lengths is -/
def RShC (w w0 : World) (b : Nat) (s : ByteArray) (m : Nat) (v : Value) (st : US) (go g : Nat) (l : List Nat) (wx : World) : Prop :=
  SB w0 b s m v st wx ∧ IRow wx (.slice (some ⟨g, 0, none⟩) 19 19) (toI l) ∧ l.length = 19 ∧ wx.heap[go]? = some (.cells orderC 3 (0, 0)) ∧ w.heap.size ≤ go ∧ go < g ∧ Mut [b] w wx

/-- where the loop over the lengths is -/
def RLen (w w0 : World) (b : Nat) (s : ByteArray) (m : Nat) (v : Value) (tb : List Nat) (n : Nat) (R : List Nat) (s7 : US) (c : Value) (L : List Nat) (wx : World) : Prop :=
  ∃ (st : US) (k : Nat), SB w0 b s m v st wx ∧ IRow wx c (toI L) ∧ (∀ g, c.ownBlock = some g → w.heap.size ≤ g) ∧ Mut [b] w wx ∧ lengthsU tb n k L s m st = (R, s7) ∧ n - L.length < k ∧ st.er = 0 ∧ st.t ≤ 8 * s.size

set_option maxHeartbeats 3200000 in
set_option maxRecDepth 100000 in
theorem rtold_any (w0 : World) (b : Nat) (s : ByteArray) (m : Nat) (v : Value) (st st' : US) (l : List Nat) (n : Nat) (hs : s.size ≤ 1099511627776) (ht : st.t ≤ 8 * s.size) (w : World) (h : SB w0 b s m v st w) (hu : rtoldU s m st = ((l, n), st')) :
    Calls Try.prog 54 #[.pointer (some ⟨b, 0, none⟩)] w fun e w' => (∃ x k, e = .returned (.tuple #[x, .int .i64 k]) ∧ (st'.er = 0 → k = (n : Int) ∧ IRow w' x (toI l) ∧ ∀ g, x.ownBlock = some g → w.heap.size ≤ g)) ∧ SB w0 b s m v st' w' ∧ Mut [b] w w' := by
  obtain ⟨⟨nl, s1⟩, h1⟩ : ∃ p, takeU 5 s m st = p := ⟨_, rfl⟩
  obtain ⟨⟨nd, s2⟩, h2⟩ : ∃ p, takeU 5 s m s1 = p := ⟨_, rfl⟩
  obtain ⟨⟨nc, s3⟩, h3⟩ : ∃ p, takeU 4 s m s2 = p := ⟨_, rfl⟩
  obtain ⟨⟨bd, s4⟩, h4⟩ : ∃ p, failU (decide (29 < nl) || decide (29 < nd)) 5 s m s3 = p := ⟨_, rfl⟩
  obtain ⟨⟨sh, s5⟩, h5⟩ : ∃ p, shortU (nc + 4) s m s4 = p := ⟨_, rfl⟩
  obtain ⟨⟨tb, s6⟩, h6⟩ : ∃ p, tableU (toI sh) s m s5 = p := ⟨_, rfl⟩
  obtain ⟨⟨R, s7⟩, h7⟩ : ∃ p, lengthsU tb (nl + 257 + nd + 1) 400 [] s m s6 = p := ⟨_, rfl⟩
  obtain ⟨⟨b2, s8⟩, h8⟩ : ∃ p, failU (decide (R.getD 256 0 = 0)) 5 s m s7 = p := ⟨_, rfl⟩
  have HST := rtold_steps h1 h2 h3 h4 h5 h6 h7 h8
  rw [hu] at HST
  replace HST := Lib.hid HST
  have t1 := tk_inside h1 ht
  have t2 := tk_inside h2 t1
  have t3 := tk_inside h3 t2
  have l1 := (take_lt h1).1
  have l2 := (take_lt h2).1
  have l3 := (take_lt h3).1
  have H1 := Lib.hid (rtake_any w0 b s m v st 5 (by omega) hs ht w h)
  rw [h1] at H1
  have H2 : Hid (∀ w, SB w0 b s m v s1 w → Calls Try.prog 51 #[.pointer (some ⟨b, 0, none⟩), .int .i64 5] w fun e w' => e = .returned (.int .i64 (nd : Int)) ∧ SB w0 b s m v s2 w' ∧ Mut [b] w w') := Lib.hid fun w h => by
    have := rtake_any w0 b s m v s1 5 (by omega) hs t1 w h
    rw [h2] at this
    exact this
  have H3 : Hid (∀ w, SB w0 b s m v s2 w → Calls Try.prog 51 #[.pointer (some ⟨b, 0, none⟩), .int .i64 4] w fun e w' => e = .returned (.int .i64 (nc : Int)) ∧ SB w0 b s m v s3 w' ∧ Mut [b] w w') := Lib.hid fun w h => by
    have := rtake_any w0 b s m v s2 4 (by omega) hs t2 w h
    rw [h3] at this
    exact this
  have HBW : Hid (b < w.heap.size ∧ (∀ g, v.ownBlock = some g → g < w.heap.size) ∧ w0.heap.size ≤ w.heap.size) := Lib.hid ⟨lt_of_heap h.bx, row_own h.ob.row, h.ob.kept.size⟩
  have Q4 := Lib.hid h4
  have Q5 := Lib.hid h5
  have Q6 := Lib.hid h6
  have Q7 := Lib.hid h7
  have Q8 := Lib.hid h8
  have hl1 : nl < 32 := l1
  have hl2 : nd < 32 := l2
  have hl3 : nc < 16 := l3
  clear h hu h1 h2 h3 h4 h5 h6 h7 h8 l1 l2 l3 t1 t2 ht
  go_enter Try.func54, Try.ntmps54
  go_wp2_with fail
  refine H1.out.mono ?_
  rintro e w1 ⟨rfl, hu, hm⟩
  have HU1 := Lib.hid hu
  have HM1 := Lib.hid hm
  clear hu hm
  go_wp2_with fail
  refine (H2.out w1 HU1.out).mono ?_
  rintro e w2 ⟨rfl, hu, hm⟩
  have HU2 := Lib.hid hu
  have HM2 := Lib.hid (HM1.out.trans' hm)
  clear hu hm
  go_wp2_with fail
  refine (H3.out w2 HU2.out).mono ?_
  rintro e w3 ⟨rfl, hu, hm⟩
  have HU3 := Lib.hid hu
  have HM3 := Lib.hid (HM2.out.trans' hm)
  clear hu hm H1 H2 H3 HU1 HU2 HM1 HM2
  obtain ⟨c0, c1, c2, c3, c4, f1, f2, f4⟩ := HU3.out.cells
  by_cases he3 : s3.er = 0
  case neg =>
    have hI : ((s3.er : Int) == 0) = false := by rw [beq_eq_false_iff_ne]; omega
    have hI' : ((s3.er : Int) != 0) = true := by simp [bne, hI]
    have h4 := Q4.out
    unfold failU at h4
    rw [if_pos he3] at h4
    obtain ⟨hb4, hs4⟩ := Prod.mk.inj h4
    have hst := HST.out
    rw [← hb4, if_pos rfl] at hst
    obtain ⟨-, e4⟩ := Prod.mk.inj hst
    have HE : Hid (st' = s3) := Lib.hid (by rw [e4, hs4])
    clear h4 hb4 hs4 hst e4 HST Q4 Q5 Q6 Q7 Q8
    go_wp2_with fail
    refine bodyPost_ret (results_tmp2 rfl _ _ _) rfl ⟨⟨.slice none 0 0, 0, rfl, fun h0 => ?_⟩, ?_, HM3.out⟩
    · exact absurd (by rw [← HE.out]; exact h0) he3
    · rw [HE.out]; exact HU3.out
  case pos =>
    have hI : ((s3.er : Int) == 0) = true := by rw [he3]; rfl
    have hI' : ((s3.er : Int) != 0) = false := by simp [bne, hI]
    cases bd with
    | true =>
      have hb4 : (decide (29 < nl) || decide (29 < nd)) = true ∧ s4 = ⟨s3.t, s3.out, 5⟩ := by
        have h4 := Q4.out
        unfold failU at h4
        rw [if_neg (by simpa using he3)] at h4
        split at h4
        · rename_i h5
          obtain ⟨-, h6⟩ := Prod.mk.inj h4
          exact ⟨h5, h6.symm⟩
        · simp at h4
      have hst := HST.out
      rw [if_pos rfl] at hst
      obtain ⟨-, e4⟩ := Prod.mk.inj hst
      have HE : Hid (st' = ⟨s3.t, s3.out, 5⟩) := Lib.hid (by rw [e4, hb4.2])
      have HQ := Lib.hid (SB.setEr (t := s3.t) (er := s3.er) (out := s3.out) HU3.out 5 (er' := 5) rfl)
      have HMQ : Hid (Mut [b] w (w3.setCell ⟨b, 4, none⟩ (.int .i64 5))) := Lib.hid (HM3.out.setCell (.inl (by simp)) _)
      have hor : (286 : Int) < (nl : Int) + 257 ∨ (nl : Int) + 257 ≤ 286 ∧ (30 : Int) < (nd : Int) + 1 := by
        have := hb4.1
        simp only [Bool.or_eq_true, decide_eq_true_eq] at this
        omega
      clear hb4 hst e4 HST Q4 Q5 Q6 Q7 Q8
      rcases hor with hor | ⟨hor1, hor2⟩
      · go_wp2_with fail
        refine bodyPost_ret (results_tmp2 rfl _ _ _) rfl ⟨⟨.slice none 0 0, 0, rfl, fun h0 => ?_⟩, ?_, HMQ.out⟩
        · rw [HE.out] at h0; simp at h0
        · rw [HE.out]; exact HQ.out
      · have hor1 : ¬ (286 : Int) < (nl : Int) + 257 := by omega
        go_wp2_with fail
        refine bodyPost_ret (results_tmp2 rfl _ _ _) rfl ⟨⟨.slice none 0 0, 0, rfl, fun h0 => ?_⟩, ?_, HMQ.out⟩
        · rw [HE.out] at h0; simp at h0
        · rw [HE.out]; exact HQ.out
    | false =>
      obtain ⟨e4, -, hle⟩ := (fail_out Q4.out).2 rfl
      subst e4
      have hn1 : nl ≤ 29 ∧ nd ≤ 29 := by
        simp only [Bool.or_eq_false_iff, decide_eq_false_iff_not] at hle
        omega
      have HST2 : Hid (((l, n), st') = if b2 = true then (([], 0), s8) else ((R, nl + 257), s8)) := Lib.hid (by have := HST.out; rwa [if_neg (by decide)] at this)
      have hor1 : ¬ (286 : Int) < (nl : Int) + 257 := by omega
      have hor2 : ¬ (30 : Int) < (nd : Int) + 1 := by omega
      clear HST hle Q4 hl1 hl2
      go_upto_region 10 with fail
      have hO : (w3.alloc (.cells orderC 3)).heap[w3.heap.size]? = some (.cells orderC 3 (0, 0)) := heap_alloc_new w3 _
      have hO2 : Mut [] w3 (w3.alloc (.cells orderC 3)) := (Mut.refl [] w3).alloc _
      have hOC : (#[.int .i64 16, .int .i64 17, .int .i64 18, .int .i64 0, .int .i64 8, .int .i64 7, .int .i64 9, .int .i64 6, .int .i64 10, .int .i64 5, .int .i64 11, .int .i64 4, .int .i64 12, .int .i64 3, .int .i64 13, .int .i64 2, .int .i64 14, .int .i64 1, .int .i64 15] : Array Value) = orderC := rfl
      rw [hOC]
      clear hOC
      have HUA : Hid (SB w0 b s m v s4 (w3.alloc (.cells orderC 3)) ∧ Mut [b] w (w3.alloc (.cells orderC 3))) := Lib.hid ⟨HU3.out.mut hO2, HM3.out.trans' (hO2.mono (by simp))⟩
      have HGO : Hid (w.heap.size ≤ w3.heap.size ∧ w3.heap.size < (w3.alloc (.cells orderC 3)).heap.size) := Lib.hid ⟨HM3.out.size, lt_of_heap hO⟩
      clear hO2 HU3 HM3 c0 c1 c2 c3 c4 f1 f2 f4
      generalize w3.alloc (.cells orderC 3) = wb at *
      generalize w3.heap.size = go at *
      obtain ⟨Z1, hZ1⟩ : ∃ Z, madeCells (Value.int .i64 0).cells 19 = Z := ⟨_, rfl⟩
      have hmk1 := run_make_int 19 (by decide) Z1 hZ1 19 rfl
      have hA := (RowAt.start wb wb 19 (by decide) (Mut.refl _ _) Z1 hZ1).irow
      have hma : Mut [] wb (wb.alloc (.cells Z1 3)) := (Mut.refl [] wb).alloc _
      have HSH : Hid (RShC w w0 b s m v s4 go wb.heap.size (List.replicate 19 0) (wb.alloc (.cells Z1 3))) := Lib.hid
        ⟨HUA.out.1.mut hma, by simpa [toI] using hA, by simp, hma.get hO (by simp), HGO.out.1, HGO.out.2, HUA.out.2.trans' (hma.mono (by simp))⟩
      clear hO hZ1 hA hma HUA HGO
      go_upto_region 11 with fail
      generalize wb.alloc (.cells Z1 3) = wx at *
      generalize wb.heap.size = g at *
      clear hmk1
      have HS0 : Hid (∃ l' st', shortU 0 s m s4 = (l', st') ∧ RShC w w0 b s m v st' go g l' wx) := Lib.hid ⟨_, _, rfl, HSH.out⟩
      clear HSH
      go_wp2_with fail
      go_loopw [9] (fun c wx => ∃ i : Nat, c = .int .i64 (i : Int) ∧ i ≤ nc + 4 ∧ Hid (∃ l' st', shortU i s m s4 = (l', st') ∧ RShC w w0 b s m v st' go g l' wx)) (fun c _ => nc + 4 - (intOf c).toNat)
      case atStart => exact ⟨0, rfl, by omega, HS0⟩
      case round =>
        obtain ⟨i, rfl, hi, HR⟩ := hrel
        clear HS0
        obtain ⟨l', st5, hsu, hU, hrow, hlen, hord, hgo, hgg, hM⟩ := HR.out
        clear HR
        have hin5 : st5.t ≤ 8 * s.size := by have := (short_nice i).inside s m s4 t3; rwa [hsu] at this
        by_cases hlt : i < nc + 4
        case pos =>
          have hltI : (i : Int) < (nc : Int) + 4 := by omega
          obtain ⟨ho1, ho2⟩ := orderC_at i (by omega)
          obtain ⟨⟨xv, st6⟩, hx⟩ : ∃ p, takeU 3 s m st5 = p := ⟨_, rfl⟩
          have hss := short_step hsu hx
          generalize orderU.getD i 0 = z at *
          have hcell := cellOf hord i ho1
          have HT : Hid (∀ w, SB w0 b s m v st5 w → Calls Try.prog 51 #[.pointer (some ⟨b, 0, none⟩), .int .i64 3] w fun e w' => e = .returned (.int .i64 (xv : Int)) ∧ SB w0 b s m v st6 w' ∧ Mut [b] w w') := Lib.hid fun w h => by
            have := rtake_any w0 b s m v st5 3 (by omega) hs hin5 w h
            rw [hx] at this
            exact this
          have hi19 : (i : Int) < 19 := by omega
          have hz19 : (z : Int) < 19 := by omega
          have HSS := Lib.hid hss
          have HU := Lib.hid hU
          have HROW := Lib.hid (And.intro hrow hlen)
          have HORD := Lib.hid (And.intro hord (And.intro hgo hgg))
          have HM := Lib.hid hM
          have HZ := Lib.hid ho2
          have hd1 : ∀ v : WIn (CO go i z), v.w.cell? ⟨go, i, none⟩ = some (.int .i64 (z : Int)) := fun v => v.ok
          clear hsu hU hrow hlen hord hgo hgg hM hss hx ho1 ho2 hin5
          go_wp2_with fail
          haveI : Nonempty (WIn (CO go i z)) := ⟨⟨wr, hcell⟩⟩
          refine wp_region_mix (fun w' => ∃ v : WIn (CO go i z), w' = v.w) 7 1 [5] [0, 1, 2, 3, 4] [6, 7, 8]
            (fun l => (l.drop 5).take 1) (fun l => l.take 5) (fun l => l.drop 6) rfl rfl rfl (by kernel_rfl) (by kernel_rfl) (by kernel_rfl) (by kernel_rfl) (fun _ _ _ _ _ h => h) ⟨⟨wr.drew, hcell⟩, rfl⟩ ?_
          simp only [List.take_succ_cons, List.take_zero, List.drop_succ_cons, List.drop_zero]
          go_big_quiet_step (fail)
          refine wpQuiet_nil ?_
          repeat (go_big_quiet_step (fail))
          refine wpQuiet_nil ?_
          intro K hK
          go_simp
          go_at_call 51
          refine (HT.out wr.drew (HU.out.mut ((Mut.refl [] wr).drew))).mono ?_
          rintro e w4 ⟨rfl, hu, hm4⟩
          have hm : Mut [b] wr w4 := ((Mut.refl [b] wr).drew).trans' hm4
          have hgn : g ≠ b ∧ go ≠ b := by
            have h1 := HBW.out
            have h2 := HORD.out
            omega
          have hrow4 : IRow w4 (.slice (some ⟨g, 0, none⟩) 19 19) (toI l') := HROW.out.1.mut hm (fun g' hg => by
            obtain rfl : g = g' := by simpa [Value.ownBlock] using hg
            simpa using hgn.1)
          have hord4 := hm.get HORD.out.1 (by simpa using hgn.2)
          have hcell4 : w4.cell? ⟨go, i, none⟩ = some (.int .i64 (z : Int)) := hm.cell hcell (by simpa using hgn.2)
          obtain ⟨cz, fz⟩ := IRow.cell19 hrow4 z (by rw [toI_length, HROW.out.2]; exact HZ.out)
          obtain ⟨zv, hzv⟩ : ∃ zv, (toI l').getD z 0 = zv := ⟨_, rfl⟩
          rw [hzv] at cz
          have HSET : Hid (RShC w w0 b s m v st6 go g (l'.set z xv) (w4.setCell ⟨g, z, none⟩ (.int .i64 (xv : Int)))) := Lib.hid (by
            have h2 := HORD.out
            have h1 := HBW.out
            have hms : Mut [g] w4 (w4.setCell ⟨g, z, none⟩ (.int .i64 (xv : Int))) := (Mut.refl _ _).setCell (by simp) _
            refine ⟨hu.mutS hms (by simp; omega) (fun g' hg => by have := h1.2.1 g' hg; simp; omega) (fun x hx => by simp at hx; omega), ?_, by simpa using HROW.out.2, hms.get hord4 (by simp; omega), h2.2.1, h2.2.2, (HM.out.trans' hm).trans hms (fun y hy => .inr (by simp at hy; omega))⟩
            have := hrow4.set z (xv : Int)
            rwa [show toI (l'.set z xv) = (toI l').set z (xv : Int) by simp [toI]])
          clear hu hm4 hm hrow4 hord4 hzv HU HROW HORD HM
          go_simp
          refine hK _ _ (fun _ => ⟨⟨w4, hcell4⟩, rfl⟩) ?_
          clear hK K
          intro K hK
          go_simp
          refine hK _ _ (fun h => absurd h (by decide)) ?_
          clear hK K
          intro K hK
          go_simp
          refine hK _ _ (fun h => absurd h (by decide)) ?_
          clear hK K
          unfold wpMov
          go_wp2_with fail
          exact ⟨⟨i + 1, by rw [Int.natCast_add]; rfl, by omega, Lib.hid ⟨_, _, HSS.out, HSET.out⟩⟩, by simp only [intOf]; omega⟩
        case neg =>
          obtain rfl : i = nc + 4 := by omega
          rw [Q5.out] at hsu
          obtain ⟨rfl, rfl⟩ := Prod.mk.inj hsu
          have hltI : ¬ ((nc + 4 : Nat) : Int) < (nc : Int) + 4 := by omega
          have HU := Lib.hid hU
          have HROW := Lib.hid (And.intro hrow hlen)
          have HGG : Hid (w.heap.size ≤ g) := Lib.hid (by omega)
          have HM := Lib.hid hM
          obtain ⟨c0, c1, c2, c3, c4, f1, f2, f4⟩ := hU.cells
          clear hsu hU hrow hlen hord hgo hgg hM Q5 hi hlt he3 hI hI' t3
          by_cases he5 : s5.er = 0
          case neg =>
            have hI : ((s5.er : Int) == 0) = false := by rw [beq_eq_false_iff_ne]; omega
            have hI' : ((s5.er : Int) != 0) = true := by simp [bne, hI]
            have HE : Hid (st' = s5) := Lib.hid (by
              have h6 := Q6.out
              unfold tableU at h6
              rw [if_pos he5] at h6
              obtain ⟨-, rfl⟩ := Prod.mk.inj h6
              have h7 := Q7.out
              rw [lengths_end _ _ _ _ _ _ _ (.inl he5)] at h7
              obtain ⟨-, rfl⟩ := Prod.mk.inj h7
              have h8 := Q8.out
              unfold failU at h8
              rw [if_pos he5] at h8
              obtain ⟨h9, rfl⟩ := Prod.mk.inj h8
              have := HST2.out
              rw [← h9, if_pos rfl] at this
              exact (Prod.mk.inj this).2)
            clear Q6 Q7 Q8 HST2
            go_wp2_with fail
            refine bodyPost_ret (results_tmp2 rfl _ _ _) rfl ⟨⟨.slice none 0 0, 0, rfl, fun h0 => ?_⟩, ?_, HM.out⟩
            · exact absurd (by rw [← HE.out]; exact h0) he5
            · rw [HE.out]; exact HU.out
          case pos =>
            have hI : ((s5.er : Int) == 0) = true := by rw [he5]; rfl
            have hI' : ((s5.er : Int) != 0) = false := by simp [bne, hI]
            have HNEW := refnew_any (toI sh) (by rw [toI_len, HROW.out.2]; omega) (some ⟨g, 0, none⟩) 19 wr (fun w' hm i hi => ⟨_, rfl, by
              rw [Addr.add_lit, Nat.zero_add]
              exact (HROW.out.1.mut hm (by simp)).cellI i hi⟩)
            rw [toI_len, HROW.out.2, lens_toI] at HNEW
            replace HNEW := Lib.hid HNEW
            go_wp2_with fail
            refine HNEW.out.mono ?_
            rintro e w5 ⟨hc, hm5⟩
            have HU5 := Lib.hid (HU.out.mut hm5)
            have HM5 := Lib.hid (HM.out.trans' (hm5.mono (by simp)))
            have HROW5 := Lib.hid (HROW.out.1.mut hm5 (by simp))
            have HLS := Lib.hid HROW.out.2
            have HSZ := Lib.hid HM.out.size
            clear HNEW HU HM HROW c0 c1 c2 c3 c4 f1 f2 f4 hm5
            rcases hc with ⟨hE, rfl⟩ | ⟨hE, vc, rfl, hvc, hfc⟩
            · obtain ⟨E, hEE⟩ : ∃ E, newErr (toI sh) = E := ⟨_, rfl⟩
              have HE : Hid (st' = ⟨s5.t, s5.out, E⟩) := Lib.hid (by
                have h6 := Q6.out
                unfold tableU at h6
                rw [if_neg (by simpa using he5), if_neg hE, hEE] at h6
                obtain ⟨-, rfl⟩ := Prod.mk.inj h6
                rw [hEE] at hE
                have h7 := Q7.out
                rw [lengths_end _ _ _ _ _ _ _ (.inl hE)] at h7
                obtain ⟨-, rfl⟩ := Prod.mk.inj h7
                have h8 := Q8.out
                unfold failU at h8
                rw [if_pos hE] at h8
                obtain ⟨h9, rfl⟩ := Prod.mk.inj h8
                have := HST2.out
                rw [← h9, if_pos rfl] at this
                exact (Prod.mk.inj this).2)
              rw [hEE] at hE ⊢
              have hI : ((E : Int) == 0) = false := by rw [beq_eq_false_iff_ne]; omega
              have hI' : ((E : Int) != 0) = true := by simp [bne, hI]
              obtain ⟨c0, c1, c2, c3, c4, f1, f2, f4⟩ := HU5.out.cells
              have HQ := Lib.hid (SB.setEr (t := s5.t) (er := s5.er) (out := s5.out) HU5.out (E : Int) (er' := E) rfl)
              have HMQ : Hid (Mut [b] w (w5.setCell ⟨b, 4, none⟩ (.int .i64 (E : Int)))) := Lib.hid (HM5.out.setCell (.inl (by simp)) _)
              clear Q6 Q7 Q8 HST2 hEE
              go_wp2_with fail
              refine bodyPost_ret (results_tmp2 rfl _ _ _) rfl ⟨⟨.slice none 0 0, 0, rfl, fun h0 => ?_⟩, ?_, HMQ.out⟩
              · rw [HE.out] at h0; exact absurd h0 hE
              · rw [HE.out]; exact HQ.out
            · have h6 : tb = sh ∧ s6 = s5 := by
                have h6 := Q6.out
                unfold tableU at h6
                rw [if_neg (by simpa using he5), if_pos hE, lens_toI] at h6
                obtain ⟨h7, h8⟩ := Prod.mk.inj h6
                exact ⟨h7.symm, h8.symm⟩
              obtain ⟨rfl, rfl⟩ := h6
              have HGD := Lib.hid (good_new _ hE)
              rw [lens_toI] at HGD
              have HTI := Lib.hid hin5
              obtain ⟨q1, j1, e1, hk1⟩ := codes_stay (S := [b]) hvc (fun g' hg' => by have := hfc g' hg'; have := HBW.out; have := HSZ.out; simp; omega)
              rw [HLS.out] at e1
              subst e1
              have HK1 := Lib.hid hk1
              have HRL : Hid (KRow [b] w5 (some ⟨g, 0, none⟩) tb) := Lib.hid fun w' hm i hi => ⟨_, rfl, by
                rw [Addr.add_lit, Nat.zero_add]
                have hgn : g ≠ b := by have h1 := HBW.out; have h2 := HGG.out; omega
                rw [(HROW5.out.mut hm (fun g' hg => by
                  obtain rfl : g = g' := by simpa [Value.ownBlock] using hg
                  simpa using hgn)).cellI i (by rw [toI_len]; exact hi), toI_at]⟩
              obtain ⟨N, hN⟩ : ∃ N, nl + 257 + nd + 1 = N := ⟨_, rfl⟩
              have hNI : (nl : Int) + 257 + ((nd : Int) + 1) = (N : Int) := by omega
              have hN1 : 258 ≤ N ∧ N ≤ 320 := by omega
              have hC := Q7.out
              rw [hN] at hC
              have HC : Hid (RLen w5 w0 b s m v tb N R s7 (.slice none 0 0) [] w5) := Lib.hid ⟨s6, 400, HU5.out, IRow.nil _, by simp [Value.ownBlock], Mut.refl _ _, hC, by simp; omega, he5, HTI.out⟩
              clear hC hN Q6 Q7 HU5 HROW5 HSZ HGG hvc hfc hk1 hE he5 hI hI' HTI hltI hin5
              go_wp2_with fail
              go_loopw [12] (fun c wx => ∃ L : List Nat, lenOf c = L.length ∧ L.length ≤ N ∧ Hid (RLen w5 w0 b s m v tb N R s7 c L wx)) (fun c _ => N - lenOf c)
              case atStart => exact ⟨[], rfl, Nat.zero_le _, HC⟩
              case round =>
                clear HC
                obtain ⟨L, hlen, hle, HR⟩ := hrel
                obtain ⟨st1, k1, hU, hrow, hfr, hM, hf, hk1, he1, ht1⟩ := HR.out
                obtain ⟨p, cap, rfl, -⟩ := hrow.read
                rw [toI_length] at hrow hfr HR ⊢
                clear hlen HR
                have HU := Lib.hid hU
                have HRW := Lib.hid hrow
                have HFR := Lib.hid hfr
                have HM := Lib.hid hM
                clear hU hrow hfr hM
                by_cases hlt : L.length < N
                case neg =>
                  have e := lengths_end tb N k1 L s m st1 (.inr (by omega))
                  rw [hf] at e
                  obtain ⟨rfl, rfl⟩ := Prod.mk.inj e
                  have hltI : ¬ (R.length : Int) < (N : Int) := by omega
                  have hRN : R.length = N := by omega
                  obtain ⟨c0, c1, c2, c3, c4, f1, f2, f4⟩ := HU.out.cells
                  obtain ⟨g', cap', hsl, -, -⟩ := row_some HRW.out (by rw [toI_length]; omega)
                  rw [toI_length] at hsl
                  obtain ⟨rfl, -, rfl⟩ : p = some ⟨g', 0, none⟩ ∧ R.length = R.length ∧ cap = cap' := by simpa using hsl
                  obtain ⟨X, hX⟩ : ∃ X, R.getD 256 0 = X := ⟨_, rfl⟩
                  have hcell : wr.cell? ⟨g', 256, none⟩ = some (.int .i64 (X : Int)) := by
                    rw [HRW.out.cellI 256 (by rw [toI_length]; omega), toI_getD, hX]
                  have h256 : (256 : Int) < (R.length : Int) := by omega
                  have hq8 := Q8.out
                  rw [hX] at hq8
                  unfold failU at hq8
                  rw [if_neg (by simpa using he1)] at hq8
                  clear e hf hsl HK1 HRL HGD Q8 hRN
                  by_cases hX0 : X = 0
                  case pos =>
                    subst hX0
                    rw [decide_eq_true rfl, if_pos rfl] at hq8
                    obtain ⟨h9, h10⟩ := Prod.mk.inj hq8
                    have HE : Hid (st' = ⟨s7.t, s7.out, 5⟩) := Lib.hid (by
                      have := HST2.out
                      rw [← h9, if_pos rfl] at this
                      rw [(Prod.mk.inj this).2, h10])
                    have HQ := Lib.hid (SB.setEr (t := s7.t) (er := s7.er) (out := s7.out) HU.out 5 (er' := 5) rfl)
                    have HMQ : Hid (Mut [b] w (wr.setCell ⟨b, 4, none⟩ (.int .i64 5))) := Lib.hid ((HM5.out.trans' HM.out).setCell (.inl (by simp)) _)
                    clear hq8 h9 h10 HST2
                    go_wp2_with fail
                    refine bodyPost_ret (results_tmp2 rfl _ _ _) rfl ⟨⟨_, _, rfl, fun h0 => ?_⟩, ?_, HMQ.out⟩
                    · rw [HE.out] at h0; simp at h0
                    · rw [HE.out]; exact HQ.out
                  case neg =>
                    have hXI : ((X : Int) == 0) = false := by rw [beq_eq_false_iff_ne]; omega
                    rw [decide_eq_false hX0, if_neg (by simp)] at hq8
                    obtain ⟨h9, h10⟩ := Prod.mk.inj hq8
                    have HE : Hid (l = R ∧ n = nl + 257 ∧ st' = s7) := Lib.hid (by
                      have := HST2.out
                      rw [← h9, if_neg (by simp)] at this
                      obtain ⟨h1, h2⟩ := Prod.mk.inj this
                      obtain ⟨h3, h4⟩ := Prod.mk.inj h1
                      exact ⟨h3, h4, by rw [h2, h10]⟩)
                    clear hq8 h9 h10 HST2
                    go_wp2_with fail
                    refine bodyPost_ret (results_tmp2 rfl _ _ _) rfl ⟨⟨_, _, rfl, fun h0 => ⟨?_, ?_, ?_⟩⟩, ?_, HM5.out.trans' HM.out⟩
                    · rw [HE.out.2.1]; omega
                    · rw [HE.out.1]; exact HRW.out
                    · intro g hg
                      have := HFR.out g hg
                      have := HM5.out.size
                      omega
                    · rw [HE.out.2.2]; exact HU.out
                case pos =>
                  have hltI : (L.length : Int) < (N : Int) := by omega
                  obtain ⟨k2, rfl⟩ : ∃ k', k1 = k' + 1 := ⟨k1 - 1, by omega⟩
                  obtain ⟨⟨sym, st2⟩, hn2⟩ : ∃ p, nextU tb s m st1 = p := ⟨_, rfl⟩
                  have HN := Lib.hid (rnext3_any w0 b s m v st1 tb HGD.out (by rw [HLS.out]; omega) (some ⟨g, 0, none⟩) q1 19 j1 hs ht1 wr HU.out (fun w' hm => HRL.out w' (HM.out.trans' (hm.mono (by simp)))) (fun w' hm => HK1.out w' (HM.out.trans' (hm.mono (by simp)))))
                  rw [hn2, HLS.out] at HN
                  have hin := nx_inside HGD.out hn2 ht1
                  obtain ⟨⟨⟨A, V⟩, st3⟩, hag⟩ : ∃ p, againU sym L s m st2 = p := ⟨_, rfl⟩
                  obtain ⟨⟨bad, st4⟩, hfl⟩ : ∃ p, failU (decide (N - L.length < A)) 5 s m st3 = p := ⟨_, rfl⟩
                  have HST := lengths_step tb N k2 L s m st1 st2 st3 st4 sym A V bad he1 hlt hn2 hag hfl
                  rw [hf] at HST
                  replace HST := Lib.hid HST
                  have HAG := Lib.hid hag
                  have HFL := Lib.hid hfl
                  have HN2 := Lib.hid (next_err hn2)
                  have HK := Lib.hid hk1
                  clear hf hn2 hag hfl hk1 ht1 he1
                  go_wp2_with fail
                  refine HN.out.mono ?_
                  rintro e w6 ⟨rfl, hu, hm2⟩
                  have HU2 := Lib.hid hu
                  have HM2 := Lib.hid (HM.out.trans' hm2)
                  have HRW2 : Hid (IRow w6 (.slice p L.length cap) (toI L)) := Lib.hid (HRW.out.mut hm2 (fun g' hg' => by
                    have := HFR.out g' hg'
                    have := HBW.out
                    have := HM5.out.size
                    simp
                    omega))
                  clear hu hm2 HN HU HRW HM
                  obtain ⟨c0, c1, c2, c3, c4, f1, f2, f4⟩ := HU2.out.cells
                  by_cases he2 : st2.er = 0
                  case neg =>
                    have hI : ((st2.er : Int) == 0) = false := by rw [beq_eq_false_iff_ne]; omega
                    have hI' : ((st2.er : Int) != 0) = true := by simp [bne, hI]
                    have HE : Hid (st' = st2) := Lib.hid (by
                      have h3 : st3 = st2 := by
                        have := (again_nice sym L).sticky s m st2 he2
                        rw [HAG.out] at this
                        exact this
                      have h5 := HFL.out
                      unfold failU at h5
                      rw [h3, if_pos he2] at h5
                      obtain ⟨h6, h7⟩ := Prod.mk.inj h5
                      have h8 := HST.out
                      rw [← h6, if_pos rfl] at h8
                      obtain ⟨-, h9⟩ := Prod.mk.inj h8
                      have h10 := Q8.out
                      unfold failU at h10
                      rw [h9, ← h7, if_pos he2] at h10
                      obtain ⟨h11, h12⟩ := Prod.mk.inj h10
                      have := HST2.out
                      rw [← h11, if_pos rfl] at this
                      rw [(Prod.mk.inj this).2, h12])
                    clear HST HAG HFL HST2 Q8
                    go_wp2_with fail
                    refine bodyPost_ret (results_tmp2 rfl _ _ _) rfl ⟨⟨.slice none 0 0, 0, rfl, fun h0 => ?_⟩, ?_, HM5.out.trans' HM2.out⟩
                    · rw [HE.out] at h0; exact absurd h0 he2
                    · rw [HE.out]; exact HU2.out
                  case pos =>
                    have hI : ((st2.er : Int) == 0) = true := by rw [he2]; rfl
                    have hI' : ((st2.er : Int) != 0) = false := by simp [bne, hI]
                    go_upto_if 88 with fail
                    go_cut [14, 15] (fun a x wx => ∃ A1 V1 : Nat, a = .int .i64 (A1 : Int) ∧ x = .int .i64 (V1 : Int) ∧ Hid (∃ stA, SB w0 b s m v stA wx ∧ Mut [b] w5 wx ∧ IRow wx (.slice p L.length cap) (toI L) ∧ (sym = 16 → A1 = A ∧ V1 = V ∧ stA = st3) ∧ (sym ≠ 16 → A1 = 1 ∧ V1 = sym ∧ stA = st2)))
                    case first =>
                      by_cases h16 : sym = 16
                      case pos =>
                        have h16I : ((sym : Int) == 16) = true := by subst h16; rfl
                        by_cases hl0 : L.length = 0
                        case pos =>
                          have hlD : ((L.length : Int) == 0) = true := by rw [hl0]; rfl
                          have HE : Hid (st' = ⟨st2.t, st2.out, 5⟩) := Lib.hid (by
                            have h1 := HAG.out
                            rw [h16, again16e L s m st2 he2 hl0] at h1
                            obtain ⟨_, h2⟩ := Prod.mk.inj h1
                            have h3 := HFL.out
                            rw [← h2] at h3
                            have h4 := HST.out
                            unfold failU at h3
                            rw [if_pos (by simp)] at h3
                            obtain ⟨h5, h6⟩ := Prod.mk.inj h3
                            rw [← h5, if_pos rfl] at h4
                            obtain ⟨h7, h8⟩ := Prod.mk.inj h4
                            have h10 := Q8.out
                            unfold failU at h10
                            rw [h8, ← h6, if_pos (by simp)] at h10
                            obtain ⟨h11, h12⟩ := Prod.mk.inj h10
                            have := HST2.out
                            rw [← h11, if_pos rfl] at this
                            rw [(Prod.mk.inj this).2, h12])
                          have HQ := Lib.hid (SB.setEr (t := st2.t) (er := st2.er) (out := st2.out) HU2.out 5 (er' := 5) rfl)
                          have HMQ : Hid (Mut [b] w (w6.setCell ⟨b, 4, none⟩ (.int .i64 5))) := Lib.hid ((HM5.out.trans' HM2.out).setCell (.inl (by simp)) _)
                          clear HST HAG HFL HST2 Q8 hl0 h16
                          go_wp2_with fail
                          refine bodyPost_ret (results_tmp2 rfl _ _ _) rfl ⟨⟨.slice none 0 0, 0, rfl, fun h0 => ?_⟩, ?_, HMQ.out⟩
                          · rw [HE.out] at h0; simp at h0
                          · rw [HE.out]; exact HQ.out
                        case neg =>
                          have hlD : ((L.length : Int) == 0) = false := by rw [beq_eq_false_iff_ne]; omega
                          obtain ⟨⟨x, st5⟩, hx⟩ : ∃ p, takeU 2 s m st2 = p := ⟨_, rfl⟩
                          have h1 := HAG.out
                          rw [h16, again16 L s m st2 st5 x he2 hl0 hx] at h1
                          obtain ⟨h2, rfl⟩ := Prod.mk.inj h1
                          obtain ⟨hA, hV⟩ := Prod.mk.inj h2
                          have hx4 : x < 4 := (take_lt hx).1
                          obtain ⟨i, hi⟩ : ∃ i, L.length - 1 = i := ⟨_, rfl⟩
                          have hiI : (L.length : Int) - 1 = (i : Int) := by omega
                          have hiL : i < L.length := by omega
                          obtain ⟨gl, cap', hsl, -, -⟩ := row_some HRW2.out (by rw [toI_length]; omega)
                          rw [toI_length] at hsl
                          obtain ⟨rfl, -, rfl⟩ : p = some ⟨gl, 0, none⟩ ∧ L.length = L.length ∧ cap = cap' := by simpa using hsl
                          have hcell : w6.cell? ⟨gl, i, none⟩ = some (.int .i64 (V : Int)) := by
                            rw [HRW2.out.cellI i (by rw [toI_length]; exact hiL), ← hV, hi, toI_getD]
                          have hAI : (3 : Int) + (x : Int) = (A : Int) := by omega
                          have HT : Hid (∀ W, SB w0 b s m v st2 W → Calls Try.prog 51 #[.pointer (some ⟨b, 0, none⟩), .int .i64 2] W fun e w' => e = .returned (.int .i64 (x : Int)) ∧ SB w0 b s m v st5 w' ∧ Mut [b] W w') := Lib.hid fun W h => by
                            have := rtake_any w0 b s m v st2 2 (by omega) hs hin W h
                            rw [hx] at this
                            exact this
                          have HGL : Hid (gl ≠ b) := Lib.hid (by
                            have := HFR.out gl rfl
                            have := HBW.out
                            have := HM5.out.size
                            omega)
                          clear h1 h2 hA hV hx hl0 hsl hi HAG HFL HST HST2 Q8
                          have hl0I : (0 : Int) ≤ (L.length : Int) := by omega
                          have hH16 := Lib.hid h16
                          clear h16
                          go_wp2_with fail
                          refine (HT.out w6 HU2.out).mono ?_
                          rintro e w7 ⟨rfl, hu, hm4⟩
                          have HRL2 := Lib.hid (show ∃ stA, SB w0 b s m v stA w7 ∧ Mut [b] w5 w7 ∧ IRow w7 (.slice (some ⟨gl, 0, none⟩) L.length cap) (toI L) ∧ (sym = 16 → A = A ∧ V = V ∧ stA = st5) ∧ (sym ≠ 16 → A = 1 ∧ V = sym ∧ stA = st2) from
                            ⟨st5, hu, HM2.out.trans' hm4, HRW2.out.mut hm4 (fun g' hg => by
                              obtain rfl : gl = g' := by simpa [Value.ownBlock] using hg
                              simpa using HGL.out), fun _ => ⟨rfl, rfl, rfl⟩, fun h => absurd hH16.out h⟩)
                          clear hu hm4
                          go_wp2_with fail
                          go_meet
                          exact ⟨A, V, rfl, rfl, Lib.hid (by obtain ⟨q, h1, h2, h3, h4, h5⟩ := HRL2.out; exact ⟨q, h1, h2, h3, fun h => by simpa using h4 h, fun h => by simpa using h5 h⟩)⟩
                      case neg =>
                        have h16I : ((sym : Int) == 16) = false := by rw [beq_eq_false_iff_ne]; omega
                        have HRL2 := Lib.hid (show ∃ stA, SB w0 b s m v stA w6 ∧ Mut [b] w5 w6 ∧ IRow w6 (.slice p L.length cap) (toI L) ∧ (sym = 16 → (1 : Nat) = A ∧ sym = V ∧ stA = st3) ∧ (sym ≠ 16 → (1 : Nat) = 1 ∧ sym = sym ∧ stA = st2) from ⟨st2, HU2.out, HM2.out, HRW2.out, fun h => absurd h h16, fun _ => ⟨rfl, rfl, rfl⟩⟩)
                        go_wp2_with fail
                        go_meet
                        exact ⟨1, sym, rfl, rfl, Lib.hid (by obtain ⟨q, h1, h2, h3, h4, h5⟩ := HRL2.out; exact ⟨q, h1, h2, h3, fun h => by simpa using h4 h, fun h => by simpa using h5 h⟩)⟩
                    case rest =>
                      obtain ⟨A1, V1, rfl, rfl, HA1⟩ := hcut
                      clear c0 c1 c2 c3 c4 f1 f2 f4 HU2 HRW2 HM2
                      go_upto_if 105 with fail
                      go_cut [14, 15] (fun a x wx => ∃ A1 V1 : Nat, a = .int .i64 (A1 : Int) ∧ x = .int .i64 (V1 : Int) ∧ Hid (∃ stA, SB w0 b s m v stA wx ∧ Mut [b] w5 wx ∧ IRow wx (.slice p L.length cap) (toI L) ∧ (sym = 16 ∨ sym = 17 → A1 = A ∧ V1 = V ∧ stA = st3) ∧ (sym ≠ 16 → sym ≠ 17 → A1 = 1 ∧ V1 = sym ∧ stA = st2)))
                      case first =>
                        by_cases h17 : sym = 17
                        case pos =>
                          have h17I : ((sym : Int) == 17) = true := by subst h17; rfl
                          obtain ⟨stA, hU, hM, hR, -, hA2⟩ := HA1.out
                          obtain ⟨-, -, rfl⟩ := hA2 (by omega)
                          have HU2 := Lib.hid hU
                          have HM2 := Lib.hid hM
                          have HRW2 := Lib.hid hR
                          obtain ⟨⟨x, st5⟩, hx⟩ : ∃ p, takeU 3 s m stA = p := ⟨_, rfl⟩
                          have h1 := HAG.out
                          rw [h17, again17 L s m stA st5 x hx] at h1
                          obtain ⟨h2, rfl⟩ := Prod.mk.inj h1
                          obtain ⟨hA, hV⟩ := Prod.mk.inj h2
                          have hx8 : x < 8 := (take_lt hx).1
                          have hAI : (3 : Int) + (x : Int) = (A : Int) := by omega
                          have HT := Lib.hid (rtake_any w0 b s m v stA 3 (by omega) hs hin wc HU2.out)
                          rw [hx] at HT
                          have HH17 := Lib.hid h17
                          have HV := Lib.hid hV
                          clear h1 h2 hA hV hx hU hM hR hA2 HA1 h17 HAG HFL HST HST2 Q8
                          go_wp2_with fail
                          refine HT.out.mono ?_
                          rintro e w7 ⟨rfl, hu, hm4⟩
                          have HRL2 := Lib.hid (show ∃ stA', SB w0 b s m v stA' w7 ∧ Mut [b] w5 w7 ∧ IRow w7 (.slice p L.length cap) (toI L) ∧ (sym = 16 ∨ sym = 17 → A = A ∧ 0 = V ∧ stA' = st5) ∧ (sym ≠ 16 → sym ≠ 17 → A = 1 ∧ 0 = sym ∧ stA' = stA) from
                            ⟨st5, hu, HM2.out.trans' hm4, HRW2.out.mut hm4 (fun g' hg => by
                              have := HFR.out g' hg
                              have := HBW.out
                              have := HM5.out.size
                              simp
                              omega), fun _ => ⟨rfl, HV.out, rfl⟩, fun _ h => absurd HH17.out h⟩)
                          clear hu hm4
                          go_wp2_with fail
                          go_meet
                          exact ⟨A, 0, rfl, rfl, Lib.hid (by obtain ⟨q, h1, h2, h3, h4, h5⟩ := HRL2.out; exact ⟨q, h1, h2, h3, fun h => by simpa using h4 h, fun h h' => by simpa using h5 h h'⟩)⟩
                        case neg =>
                          have h17I : ((sym : Int) == 17) = false := by rw [beq_eq_false_iff_ne]; omega
                          have HRL2 : Hid (∃ stA, SB w0 b s m v stA wc ∧ Mut [b] w5 wc ∧ IRow wc (.slice p L.length cap) (toI L) ∧ (sym = 16 ∨ sym = 17 → A1 = A ∧ V1 = V ∧ stA = st3) ∧ (sym ≠ 16 → sym ≠ 17 → A1 = 1 ∧ V1 = sym ∧ stA = st2)) := Lib.hid (by
                            obtain ⟨stA, hU, hM, hR, hA1, hA2⟩ := HA1.out
                            exact ⟨stA, hU, hM, hR, fun h => hA1 (by omega), fun h _ => hA2 h⟩)
                          clear HA1
                          go_wp2_with fail
                          go_meet
                          exact ⟨A1, V1, rfl, rfl, HRL2⟩
                      case rest =>
                        clear HA1
                        obtain ⟨A1, V1, rfl, rfl, HA1⟩ := hcut
                        go_upto_if 110 with fail
                        go_cut [14, 15] (fun a x wx => a = .int .i64 (A : Int) ∧ x = .int .i64 (V : Int) ∧ Hid (SB w0 b s m v st3 wx ∧ Mut [b] w5 wx ∧ IRow wx (.slice p L.length cap) (toI L)))
                        case first =>
                          by_cases h18 : sym = 18
                          case pos =>
                            have h18I : ((sym : Int) == 18) = true := by subst h18; rfl
                            obtain ⟨stA, hU, hM, hR, -, hA2⟩ := HA1.out
                            obtain ⟨-, -, rfl⟩ := hA2 (by omega) (by omega)
                            have HU2 := Lib.hid hU
                            have HM2 := Lib.hid hM
                            have HRW2 := Lib.hid hR
                            obtain ⟨⟨x, st5⟩, hx⟩ : ∃ p, takeU 7 s m stA = p := ⟨_, rfl⟩
                            have h1 := HAG.out
                            rw [h18, again18 L s m stA st5 x hx] at h1
                            obtain ⟨h2, rfl⟩ := Prod.mk.inj h1
                            obtain ⟨hA, hV⟩ := Prod.mk.inj h2
                            have hx8 : x < 128 := (take_lt hx).1
                            have hAI : (11 : Int) + (x : Int) = (A : Int) := by omega
                            have HT := Lib.hid (rtake_any w0 b s m v stA 7 (by omega) hs hin wc HU2.out)
                            rw [hx] at HT
                            have HV := Lib.hid hV
                            clear h1 h2 hA hV hx hU hM hR hA2 HA1 h18 HAG HFL HST HST2 Q8
                            go_wp2_with fail
                            refine HT.out.mono ?_
                            rintro e w7 ⟨rfl, hu, hm4⟩
                            have HRL2 := Lib.hid (show SB w0 b s m v st5 w7 ∧ Mut [b] w5 w7 ∧ IRow w7 (.slice p L.length cap) (toI L) from
                              ⟨hu, HM2.out.trans' hm4, HRW2.out.mut hm4 (fun g' hg => by
                                have := HFR.out g' hg
                                have := HBW.out
                                have := HM5.out.size
                                simp
                                omega)⟩)
                            clear hu hm4
                            go_wp2_with fail
                            go_meet
                            exact ⟨rfl, by rw [← HV.out]; rfl, HRL2⟩
                          case neg =>
                            have h18I : ((sym : Int) == 18) = false := by rw [beq_eq_false_iff_ne]; omega
                            have HRL2 : Hid (A1 = A ∧ V1 = V ∧ SB w0 b s m v st3 wc ∧ Mut [b] w5 wc ∧ IRow wc (.slice p L.length cap) (toI L)) := Lib.hid (by
                              obtain ⟨stA, hU, hM, hR, hA1, hA2⟩ := HA1.out
                              by_cases h : sym = 16 ∨ sym = 17
                              · obtain ⟨h1, h2, rfl⟩ := hA1 h
                                exact ⟨h1, h2, hU, hM, hR⟩
                              · obtain ⟨h1, h2, rfl⟩ := hA2 (by omega) (by omega)
                                have h3 := HAG.out
                                rw [again1 L s m stA sym (by omega) (by omega) (by omega)] at h3
                                obtain ⟨h4, rfl⟩ := Prod.mk.inj h3
                                obtain ⟨h5, h6⟩ := Prod.mk.inj h4
                                exact ⟨by omega, by omega, hU, hM, hR⟩)
                            clear HA1
                            obtain ⟨rfl, rfl, hrl⟩ := HRL2.out
                            have HRL3 := Lib.hid hrl
                            clear hrl HRL2
                            go_wp2_with fail
                            go_meet
                            exact ⟨rfl, rfl, HRL3⟩
                        case rest =>
                          obtain ⟨rfl, rfl, HA3⟩ := hcut
                          clear HA1
                          have HU3 := Lib.hid HA3.out.1
                          have HM3 := Lib.hid HA3.out.2.1
                          have HRW3 := Lib.hid HA3.out.2.2
                          have hin3 := again_inside HAG.out hin
                          simp only at hin3
                          obtain ⟨c0, c1, c2, c3, c4, f1, f2, f4⟩ := HU3.out.cells
                          clear HA3
                          by_cases he3 : st3.er = 0
                          case neg =>
                            have hI : ((st3.er : Int) == 0) = false := by rw [beq_eq_false_iff_ne]; omega
                            have hI' : ((st3.er : Int) != 0) = true := by simp [bne, hI]
                            have HE : Hid (st' = st3) := Lib.hid (by
                              have h5 := HFL.out
                              unfold failU at h5
                              rw [if_pos he3] at h5
                              obtain ⟨h6, h7⟩ := Prod.mk.inj h5
                              have h8 := HST.out
                              rw [← h6, if_pos rfl] at h8
                              obtain ⟨-, h9⟩ := Prod.mk.inj h8
                              have h10 := Q8.out
                              unfold failU at h10
                              rw [h9, ← h7, if_pos he3] at h10
                              obtain ⟨h11, h12⟩ := Prod.mk.inj h10
                              have := HST2.out
                              rw [← h11, if_pos rfl] at this
                              rw [(Prod.mk.inj this).2, h12])
                            clear HST HAG HFL HST2 Q8 he2
                            go_wp2_with fail
                            refine bodyPost_ret (results_tmp2 rfl _ _ _) rfl ⟨⟨.slice none 0 0, 0, rfl, fun h0 => ?_⟩, ?_, HM5.out.trans' HM3.out⟩
                            · rw [HE.out] at h0; exact absurd h0 he3
                            · rw [HE.out]; exact HU3.out
                          case pos =>
                            have hI : ((st3.er : Int) == 0) = true := by rw [he3]; rfl
                            have hI' : ((st3.er : Int) != 0) = false := by simp [bne, hI]
                            have hsub : (N : Int) - (L.length : Int) = ((N - L.length : Nat) : Int) := by omega
                            by_cases hbad : N - L.length < A
                            case pos =>
                              have hbI : (N : Int) - (L.length : Int) < (A : Int) := by omega
                              have HE : Hid (st' = ⟨st3.t, st3.out, 5⟩) := Lib.hid (by
                                have h5 := HFL.out
                                unfold failU at h5
                                rw [if_neg (by simpa using he3), decide_eq_true hbad, if_pos rfl] at h5
                                obtain ⟨h6, h7⟩ := Prod.mk.inj h5
                                have h8 := HST.out
                                rw [← h6, if_pos rfl] at h8
                                obtain ⟨-, h9⟩ := Prod.mk.inj h8
                                have h10 := Q8.out
                                unfold failU at h10
                                rw [h9, ← h7, if_pos (by simp)] at h10
                                obtain ⟨h11, h12⟩ := Prod.mk.inj h10
                                have := HST2.out
                                rw [← h11, if_pos rfl] at this
                                rw [(Prod.mk.inj this).2, h12])
                              have HQ := Lib.hid (SB.setEr (t := st3.t) (er := st3.er) (out := st3.out) HU3.out 5 (er' := 5) rfl)
                              have HMQ : Hid (Mut [b] w (wc.setCell ⟨b, 4, none⟩ (.int .i64 5))) := Lib.hid ((HM5.out.trans' HM3.out).setCell (.inl (by simp)) _)
                              clear HST HAG HFL HST2 Q8 hsub
                              go_wp2_with fail
                              refine bodyPost_ret (results_tmp2 rfl _ _ _) rfl ⟨⟨.slice none 0 0, 0, rfl, fun h0 => ?_⟩, ?_, HMQ.out⟩
                              · rw [HE.out] at h0; simp at h0
                              · rw [HE.out]; exact HQ.out
                            case neg =>
                              have hbI : ¬ (N : Int) - (L.length : Int) < (A : Int) := by omega
                              have HE : Hid (lengthsU tb N k2 (L ++ List.replicate A V) s m st3 = (R, s7)) := Lib.hid (by
                                have h5 := HFL.out
                                unfold failU at h5
                                rw [if_neg (by simpa using he3), decide_eq_false hbad, if_neg (by simp)] at h5
                                obtain ⟨h6, h7⟩ := Prod.mk.inj h5
                                have h8 := HST.out
                                rw [← h6, if_neg (by simp), ← h7] at h8
                                exact h8.symm)
                              have hA1 := again_pos HAG.out he3
                              have HR0 : Hid (SB w0 b s m v st3 wc ∧ Mut [b] w5 wc ∧ IRow wc (.slice p (L.length + 0) cap) (toI (L ++ List.replicate 0 V)) ∧ ∀ g', (Value.slice p (L.length + 0) cap).ownBlock = some g' → w5.heap.size ≤ g') := Lib.hid (by
                                rw [List.replicate_zero, List.append_nil, Nat.add_zero]
                                exact ⟨HU3.out, HM3.out, HRW3.out, HFR.out⟩)
                              clear HST HAG HFL hsub HU3 HM3 HRW3 HFR
                              go_wp2_with fail
                              go_loopw [12, 16] (fun c d wx => ∃ (i : Nat) (p' : Option Addr) (c' : Nat), c = .slice p' (L.length + i) c' ∧ d = .int .i64 (i : Int) ∧ i ≤ A ∧ Hid (SB w0 b s m v st3 wx ∧ Mut [b] w5 wx ∧ IRow wx (.slice p' (L.length + i) c') (toI (L ++ List.replicate i V)) ∧ ∀ g', (Value.slice p' (L.length + i) c').ownBlock = some g' → w5.heap.size ≤ g')) (fun _ d _ => A - (intOf d).toNat)
                              case atStart => exact ⟨0, p, cap, rfl, rfl, by omega, HR0⟩
                              case round =>
                                clear HR0
                                obtain ⟨i, p', c', rfl, rfl, hi, HRR⟩ := hrel
                                by_cases hlt2 : i < A
                                case pos =>
                                  have hlt2I : (i : Int) < (A : Int) := by omega
                                  go_upto_region 46 with fail
                                  obtain ⟨hU, hM, hR, hF⟩ := HRR.out
                                  have hrow : IRow (wr.alloc (.cells #[.int .i64 (V : Int)] 3)) (.slice p' (L.length + i) c') (toI (L ++ List.replicate i V)) := hR.mut ((Mut.refl [] wr).alloc _) (by simp)
                                  have hll : (toI (L ++ List.replicate i V)).length = L.length + i := by rw [toI_length, List.length_append, List.length_replicate]
                                  go_wp2_with (at_builtin; (refine wp_appI rfl (.tmp 142) (.tmp 144) rfl hrow rfl (src_one (heap_alloc_new wr _)) rfl ?b1 ?_))
                                  case b1 => rw [hll]; simp only [List.length_singleton]; omega
                                  intro v' w' r1 m1 f1
                                  have hsz : (wr.alloc (.cells #[.int .i64 (V : Int)] 3)).heap.size = wr.heap.size + 1 := by simp
                                  have hmA := (hM.alloc (.cells #[.int .i64 (V : Int)] 3)).trans m1 (fun x hx => .inr (hF x (by simpa using hx)))
                                  have hUA := (hU.mut ((Mut.refl [] wr).alloc (.cells #[.int .i64 (V : Int)] 3))).mutS m1
                                    (fun hx => by have h1 := hF b (by simpa using hx); have h2 := HBW.out; have h3 := HM5.out.size; omega)
                                    (fun g' hg' hx => by have h1 := hF g' (by simpa using hx); have h2 := HBW.out.2.1 g' hg'; have h3 := HM5.out.size; omega)
                                    (fun x hx => by have h1 := hF x (by simpa using hx); have h2 := HBW.out; have h3 := HM5.out.size; omega)
                                  have hfA : ∀ g', v'.ownBlock = some g' → w5.heap.size ≤ g' := fun g' hg' => by
                                    rcases f1 g' hg' with h | h
                                    · exact hF g' h
                                    · have := hM.size
                                      have : wr.heap.size + 1 ≤ g' := h
                                      omega
                                  have eL : toI (L ++ List.replicate i V) ++ [(V : Int)] = toI (L ++ List.replicate (i + 1) V) := by
                                    rw [List.replicate_succ', ← List.append_assoc, toI_append (L ++ List.replicate i V)]
                                    rfl
                                  rw [eL] at r1
                                  obtain ⟨p2, c2, rfl, -⟩ := r1.read
                                  rw [show (toI (L ++ List.replicate (i + 1) V)).length = L.length + (i + 1) by rw [toI_length, List.length_append, List.length_replicate]] at r1 hfA ⊢
                                  have HN1 : Hid (SB w0 b s m v st3 w' ∧ Mut [b] w5 w' ∧ IRow w' (.slice p2 (L.length + (i + 1)) c2) (toI (L ++ List.replicate (i + 1) V)) ∧ ∀ g', (Value.slice p2 (L.length + (i + 1)) c2).ownBlock = some g' → w5.heap.size ≤ g') := Lib.hid ⟨hUA, hmA, r1, hfA⟩
                                  clear hU hM hR hF hrow hll r1 m1 f1 hsz hmA hUA hfA eL HRR
                                  go_wp2_with fail
                                  exact ⟨⟨i + 1, p2, c2, rfl, by rw [Int.natCast_add]; rfl, by omega, HN1⟩, by simp only [intOf]; omega⟩
                                case neg =>
                                  obtain rfl : i = A := by omega
                                  have hlt2I : ¬ (i : Int) < (i : Int) := by omega
                                  obtain ⟨hU, hM, hR, hF⟩ := HRR.out
                                  have hll : (L ++ List.replicate i V).length = L.length + i := by rw [List.length_append, List.length_replicate]
                                  have HN1 : Hid (RLen w5 w0 b s m v tb N R s7 (.slice p' (L.length + i) c') (L ++ List.replicate i V) wr) := Lib.hid ⟨st3, k2, hU, hR, hF, hM, HE.out, by have := HK.out; omega, he3, hin3⟩
                                  clear hU hM hR hF HRR
                                  go_wp2_with fail
                                  exact ⟨⟨L ++ List.replicate i V, by rw [hll]; rfl, by omega, HN1⟩, by simp only [lenOf]; omega⟩

end Go.Proofs.Ytgjcnembeebjfaa
