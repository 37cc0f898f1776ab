/- Walk over package ferretref03: Unpack. -/
import Derived.Test.YtgjcnembeebjfaaGzRU
import Derived.Test.YtgjcnembeebjfaaGzR5
import Derived.Test.YtgjcnembeebjfaaGzS
import Derived.Deep.RegionWith
import Derived.BigQuiet
import Derived.Deep.DeepCutAuto
namespace Go.Proofs.Ytgjcnembeebjfaa
open Go.RowKit
set_option linter.unusedVariables false

/-- what the reference's Unpack answers -/
def runpRes (k : Nat) (st : US) : Value := if st.er = 0 then .tuple #[.string (strOf st.out), .int .i64 ((k + (st.t + 7) / 8 : Nat) : Int), .int .i64 0, .int .i64 0]
  else .tuple #[.string ByteArray.empty, .int .i64 0, .int .i64 (st.er : Int), .int .i64 ((k + st.t / 8 : Nat) : Int)]

/-- what holds at the loop's head -/
def RUnp (w0 : World) (b : Nat) (s : ByteArray) (m F : Nat) (stF : US) (w : World) : Prop :=
  ∃ (v : Value) (st : US) (k : Nat), SB w0 b s m v st w ∧ (unpackU F k s m st).2 = stF ∧ 8 * s.size - st.t < k ∧ st.er = 0 ∧ st.t ≤ 8 * s.size ∧ st.out.length ≤ m

theorem take_more {n : Nat} {s : ByteArray} {m : Nat} {st st' : US} {x : Nat} (h : takeU n s m st = (x, st')) (he : st'.er = 0) : st'.t = st.t + n := by
  unfold takeU at h
  split at h
  · rename_i h1
    obtain ⟨rfl, rfl⟩ := Prod.mk.inj h
    exact absurd he h1
  · split at h
    · obtain ⟨rfl, rfl⟩ := Prod.mk.inj h; rfl
    · obtain ⟨rfl, rfl⟩ := Prod.mk.inj h
      simp at he

theorem out_le {α : Type} {f : UM α} (hf : Nice f) (s : ByteArray) (m : Nat) (st : US) : st.out.length ≤ (f s m st).2.out.length := by
  obtain ⟨l, e⟩ := hf.grow s m st
  rw [e, List.length_append]
  omega

set_option maxHeartbeats 3200000 in
set_option maxRecDepth 100000 in
theorem runpack_any (D s : ByteArray) (from_ m F : Nat) (w0 : World) (hD : D.size ≤ 1099511627776) (hf : from_ ≤ D.size) (hx : D.extract from_ D.size = s) (hm : m ≤ 9223372036854775807) (hF : 8 * s.size < F) (hB : (runU F s m).out.length ≤ 1099511627776) :
    Calls Try.prog 34 #[.string D, .int .i64 (from_ : Int), .int .i64 (m : Int)] w0 fun e w' => e = .returned (runpRes from_ (runU F s m)) ∧ Mut [] w0 w' := by
  have hss : s.size = D.size - from_ := by rw [← hx]; simp
  have hs : s.size ≤ 1099511627776 := by omega
  obtain ⟨stF, hst⟩ : ∃ st, runU F s m = st := ⟨_, rfl⟩
  rw [hst] at hB ⊢
  have hf0 : ¬ (from_ : Int) < 0 := by omega
  have hf1 : ¬ (D.size : Int) < (from_ : Int) := by omega
  have hm0 : ¬ (m : Int) < 0 := by omega
  have H0 : Hid (RUnp w0 w0.heap.size s m F stF (w0.alloc (.cells #[.string s, .int .i64 0, .slice none 0 0, .int .i64 (m : Int), .int .i64 0] 105))) := Lib.hid
    ⟨.slice none 0 0, st0, F, ⟨heap_alloc_new w0 _, OB.start ((Mut.refl [] w0).alloc _), Nat.le_refl _⟩, hst, by simp only [st0]; omega, rfl, Nat.zero_le _, Nat.zero_le _⟩
  clear hst
  go_enter Try.func34, Try.ntmps34
  go_upto_region 4 with fail
  generalize w0.alloc (.cells #[.string s, .int .i64 0, .slice none 0 0, .int .i64 (m : Int), .int .i64 0] 105) = W at *
  generalize w0.heap.size = b at *
  clear hf0 hf1 hm0 hx
  go_loopw [] (fun wx => Hid (RUnp w0 b s m F stF wx)) (fun wx => 8 * s.size - (intOf ((wx.cell? ⟨b, 1, none⟩).getD undef)).toNat)
  case atStart => exact H0
  case round =>
    clear H0
    obtain ⟨v, st, k, hS, hfin, hk, he, ht, hout⟩ := hrel.out
    clear hrel
    obtain ⟨⟨last, s1⟩, h1⟩ : ∃ p, takeU 1 s m st = p := ⟨_, rfl⟩
    obtain ⟨⟨kind, s2⟩, h2⟩ : ∃ p, takeU 2 s m s1 = p := ⟨_, rfl⟩
    obtain ⟨k', rfl⟩ : ∃ k', k = k' + 1 := ⟨k - 1, by omega⟩
    obtain ⟨y1, y2⟩ := runpack_step F k' s m st s1 s2 last kind h1 h2
    rw [hfin] at y1 y2
    have t1 := tk_inside h1 ht
    have t2 := tk_inside h2 t1
    have hT1 := Lib.hid (rtake_any w0 b s m v st 1 (by omega) hs ht wr hS)
    rw [h1] at hT1
    have HT2 : Hid (∀ W, SB w0 b s m v s1 W → Calls Try.prog 51 #[.pointer (some ⟨b, 0, none⟩), .int .i64 2] W fun e w' => e = .returned (.int .i64 (kind : Int)) ∧ SB w0 b s m v s2 w' ∧ Mut [b] W w') := Lib.hid fun W h => by
      have := rtake_any w0 b s m v s1 2 (by omega) hs t1 W h
      rw [h2] at this
      exact this
    have hkd : kind < 4 := (take_lt h2).1
    have hout2 : s2.out.length ≤ m := by rw [(take_lt h2).2.1, (take_lt h1).2.1]; exact hout
    have hB2 : s2.out.length ≤ 1099511627776 := by
      rw [(take_lt h2).2.1, (take_lt h1).2.1]
      have := out_le (unpack_nice F (k' + 1)) s m st
      rw [hfin] at this
      omega
    obtain ⟨st3, h3⟩ : ∃ q, (if s2.er ≠ 0 then s2 else (bodyU F kind s m s2).2) = q := ⟨_, rfl⟩
    have hR : stF = if last = 1 ∨ st3.er ≠ 0 then st3 else (unpackU F k' s m st3).2 := by
      by_cases h : s2.er ≠ 0
      · rw [if_pos h] at h3
        rw [y1 h, h3, if_pos (.inr (by rw [← h3]; exact h))]
      · rw [if_neg h] at h3
        exact y2 (by simpa using h) st3 h3
    have hin3 : st3.t ≤ 8 * s.size := by
      rw [← h3]
      split
      · exact t2
      · exact (body_nice F kind).inside s m s2 t2
    have hout3 : st3.out.length ≤ m := by
      rw [← h3]
      split
      · exact hout2
      · exact (body_nice F kind).most s m s2 hout2
    have hB3 : st3.out.length ≤ 1099511627776 := by
      rw [hR] at hB
      split at hB
      · exact hB
      · have := out_le (unpack_nice F k') s m st3
        omega
    have hmore : st3.er = 0 → st.t < st3.t := fun h => by
      have q2 : s2.er = 0 := by
        apply Classical.byContradiction
        intro hx
        rw [if_pos hx] at h3
        rw [h3] at hx
        exact hx h
      have q1 := (take_lt h2).2.2 q2
      have e1 := take_more h1 q1
      have e2 := take_more h2 q2
      rw [if_neg (by simpa using q2)] at h3
      have := (body_nice F kind).fwd s m s2
      rw [h3] at this
      omega
    have HWT : Hid (intOf ((wr.cell? ⟨b, 1, none⟩).getD undef) = (st.t : Int)) := Lib.hid (by
      have h1 : wr.cell? ⟨b, 1, none⟩ = some (.int .i64 (st.t : Int)) := hS.cells.2.1
      rw [h1]; rfl)
    have HR := Lib.hid hR
    have HMO := Lib.hid hmore
    have HK := Lib.hid hk
    have H3 := Lib.hid h3
    clear hS hfin hk he ht hout h1 h2 y1 y2 t1 hR hmore h3 hB
    go_wp2_with fail
    refine hT1.out.mono ?_
    rintro e w1 ⟨rfl, hu, -⟩
    have HU1 := Lib.hid hu
    clear hu hT1
    go_wp2_with fail
    refine (HT2.out w1 HU1.out).mono ?_
    rintro e w2 ⟨rfl, hu, -⟩
    have HU2 := Lib.hid hu
    clear hu HU1 HT2
    obtain ⟨c0, c1, c2, c3, c4, f1, f2, f4⟩ := HU2.out.cells
    go_upto_if 43 with fail
    go_cut [] (fun wx => Hid (∃ v', SB w0 b s m v' st3 wx))
    case first =>
      by_cases he2 : s2.er = 0
      case neg =>
        have hI : ((s2.er : Int) == 0) = false := by rw [beq_eq_false_iff_ne]; omega
        have HE := Lib.hid (show s2 = st3 by have := H3.out; rwa [if_pos he2] at this)
        have HQ : Hid (∃ v', SB w0 b s m v' st3 w2) := Lib.hid ⟨v, by rw [← HE.out]; exact HU2.out⟩
        go_wp2_with fail
        go_meet
        exact HQ
      case pos =>
        have hI : ((s2.er : Int) == 0) = true := by rw [he2]; rfl
        have HE := Lib.hid (show (bodyU F kind s m s2).2 = st3 by have := H3.out; rwa [if_neg (by simpa using he2)] at this)
        clear H3
        have h4 : kind = 0 ∨ kind = 1 ∨ kind = 2 ∨ kind = 3 := by omega
        obtain ⟨ts, outs, ers⟩ := s2
        simp only at he2 hout2 hB2 t2
        subst he2
        rcases h4 with rfl | rfl | rfl | rfl
        · have HST := Lib.hid (rstored_any w0 b s m v ts outs hs t2 hm hout2 hB2 w2 HU2.out)
          go_wp2_with fail
          refine HST.out.mono ?_
          rintro e w3 ⟨rfl, v', hu, -⟩
          have HQ : Hid (∃ v', SB w0 b s m v' st3 w3) := Lib.hid ⟨v', by rw [← HE.out]; exact hu⟩
          clear hu
          go_wp2_with fail
          go_meet
          exact HQ
        · have HFX := Lib.hid (rfixed_any w2)
          go_wp2_with fail
          refine HFX.out.mono ?_
          rintro e w3 ⟨x, y, rfl, hx, hy, hm3, hfx, hfy⟩
          have hnb : ∀ g, w2.heap.size ≤ g → g ∉ b :: v.ownBlock.toList := by
            intro g hg hx
            have h1 := lt_of_heap HU2.out.bx
            have h2 := row_own HU2.out.ob.row
            simp only [List.mem_cons, Option.mem_toList] at hx
            rcases hx with rfl | hx
            · omega
            · have := h2 g hx; omega
          obtain ⟨p1, j1, rfl, hk1⟩ := krow_of (S := b :: v.ownBlock.toList) hx (fun g hg => hnb g (hfx g hg))
          obtain ⟨p2, j2, rfl, hk2⟩ := krow_of (S := b :: v.ownBlock.toList) hy (fun g hg => hnb g (hfy g hg))
          have hB4 : (symR fixedL fixedD F s m ⟨ts, outs, 0⟩).out.length ≤ 1099511627776 := by
            rw [← body_fixed F s m ⟨ts, outs, 0⟩, HE.out]; exact hB3
          have HSY := Lib.hid (rsymbols_any w0 b s m v ts outs fixedL fixedD F p1 p2 j1 j2 hs t2 hm hout2 hB4 (by decide +kernel) (by decide +kernel) hF w3 (HU2.out.mut hm3) hk1 hk2)
          clear hnb hx hy hm3 hfx hfy hk1 hk2 hB4 HFX
          go_wp2_with fail
          refine HSY.out.mono ?_
          rintro e w4 ⟨rfl, v', hu⟩
          have HQ : Hid (∃ v', SB w0 b s m v' st3 w4) := Lib.hid ⟨v', by rw [← HE.out, body_fixed F s m ⟨ts, outs, 0⟩]; exact hu⟩
          clear hu
          go_wp2_with fail
          go_meet
          exact HQ
        · obtain ⟨⟨⟨l, n⟩, st5⟩, ht5⟩ : ∃ q, rtoldU s m ⟨ts, outs, 0⟩ = q := ⟨_, rfl⟩
          have HTD := Lib.hid (rtold_any w0 b s m v ⟨ts, outs, 0⟩ st5 l n hs t2 w2 HU2.out ht5)
          have hro := rtold_out (s := s) (m := m) (st := ⟨ts, outs, 0⟩)
          rw [ht5] at hro
          simp only at hro
          have HLN : Hid (st5.er = 0 → 257 ≤ n ∧ n < l.length ∧ l.length ≤ 320) := Lib.hid (rtold_len ht5)
          have HE2 : Hid ((if st5.er ≠ 0 then st5 else symR (l.take n) (l.drop n) F s m st5) = st3) := Lib.hid (by
            have := HE.out
            rw [body_told F s m ⟨ts, outs, 0⟩, ht5] at this
            exact this)
          have HBW : Hid (b < w2.heap.size ∧ ∀ g, v.ownBlock = some g → g < w2.heap.size) := Lib.hid ⟨lt_of_heap HU2.out.bx, row_own HU2.out.ob.row⟩
          clear ht5 HE c0 c1 c2 c3 c4 f1 f2 f4 HU2
          go_wp2_with fail
          refine HTD.out.mono ?_
          rintro e w3 ⟨⟨x, k, rfl, hok⟩, hu, -⟩
          have HU3 := Lib.hid hu
          have HOK := Lib.hid hok
          clear hu hok HTD
          obtain ⟨c0, c1, c2, c3, c4, f1, f2, f4⟩ := HU3.out.cells
          by_cases he5 : st5.er = 0
          case neg =>
            have hI : ((st5.er : Int) == 0) = false := by rw [beq_eq_false_iff_ne]; omega
            have HQ : Hid (∃ v', SB w0 b s m v' st3 w3) := Lib.hid ⟨v, by have h := HE2.out; rw [if_pos he5] at h; rw [← h]; exact HU3.out⟩
            go_wp2_with fail
            go_meet
            exact HQ
          case pos =>
            obtain ⟨t5, o5, er5⟩ := st5
            simp only at he5 hro
            subst he5
            obtain rfl : o5 = outs := hro.1
            have ht5 := hro.2 t2
            have hI : (((0 : Nat) : Int) == 0) = true := rfl
            obtain ⟨rfl, hx, hfx⟩ := HOK.out rfl
            obtain ⟨hln0, hln1, hln2⟩ := HLN.out rfl
            obtain ⟨p1, j1, rfl, hk1⟩ := krow_of (S := b :: v.ownBlock.toList) hx (fun g hg hm => by
              have h1 := hfx g hg
              have h2 := HBW.out
              simp only [List.mem_cons, Option.mem_toList] at hm
              rcases hm with rfl | hm
              · omega
              · have := h2.2 g hm; omega)
            have hE3 := HE2.out
            rw [if_neg (by simp)] at hE3
            have HE3 := Lib.hid hE3
            obtain ⟨a1, rfl⟩ : ∃ a, p1 = some a := by
              obtain ⟨a, e, -⟩ := hk1 w3 (Mut.refl _ _) 0 (by omega)
              exact ⟨a, e⟩
            have hlnI : (n : Int) ≤ (l.length : Int) := by omega
            obtain ⟨hcj⟩ : Nonempty (l.length ≤ j1) := ⟨by
              rcases hx.2 with ⟨h1, _⟩ | ⟨g', cap', cur, h1, _, _, h2, _⟩
              · cases h1
              · simp only [Value.slice.injEq] at h1
                rw [toI_length] at h2
                omega⟩
            have hcjI : (n : Int) ≤ (j1 : Int) := by omega
            have hcjL : (l.length : Int) ≤ (j1 : Int) := by omega
            have hB4 : (symR (l.take n) (l.drop n) F s m ⟨t5, o5, 0⟩).out.length ≤ 1099511627776 := by rw [HE3.out]; exact hB3
            have HSY : Hid (∀ nq, Calls Try.prog 53 #[.pointer (some ⟨b, 0, none⟩), .slice (some a1) n j1, .slice (some (a1.add n)) (l.length - n) (j1 - n)] (w3.drewN nq) fun e w' => e = .returned (.tuple #[]) ∧ ∃ v', SB w0 b s m v' st3 w') := Lib.hid fun nq => by
              have q := rsymbols_any w0 b s m v t5 o5 (l.take n) (l.drop n) F (some a1) (some (a1.add n)) j1 (j1 - n) hs ht5 hm hout2 hB4 (by rw [List.length_take]; omega) (by rw [List.length_drop]; omega) hF (w3.drewN nq) (HU3.out.mut ((Mut.refl [] w3).drewN nq)) ((hk1.mut ((Mut.refl _ w3).drewN nq)).take n) ((hk1.mut ((Mut.refl _ w3).drewN nq)).drop n)
              rw [HE3.out, List.length_take, List.length_drop, Nat.min_eq_left (by omega)] at q
              exact q
            clear hx hfx hk1 hE3 HE2 HOK HLN hro hB4
            go_wp2_with fail
            refine wp_region_bar 7 _ rfl (by kernel_rfl) (by kernel_rfl) ?_
            simp only [List.take_succ_cons, List.take_zero, List.drop_succ_cons, List.drop_zero]
            repeat (go_big_quiet_step (fail))
            refine wpQuiet_nil ?_
            rintro _ ⟨nq, rfl⟩ K hK
            go_simp
            go_at_call 53
            refine (HSY.out nq).mono ?_
            rintro e w4 ⟨rfl, v', hu⟩
            have HQ : Hid (∃ v', SB w0 b s m v' st3 w4) := Lib.hid ⟨v', hu⟩
            clear hu
            go_simp
            refine hK _ _ ?_
            clear hK K
            refine wpQuiet_nil ?_
            rintro _ ⟨nq2, rfl⟩
            have HQ2 : Hid (∃ v', SB w0 b s m v' st3 (w4.drewN nq2)) := Lib.hid (by obtain ⟨v', h⟩ := HQ.out; exact ⟨v', h.mut ((Mut.refl [] w4).drewN nq2)⟩)
            go_wp2_with fail
            go_meet
            exact HQ2
        · have HQ0 := Lib.hid (HU2.out.setEr 8 (er' := 8) rfl)
          have HQ : Hid (∃ v', SB w0 b s m v' st3 (w2.setCell ⟨b, 4, none⟩ (.int .i64 8))) := Lib.hid ⟨v, by rw [← HE.out, body_none F s m _ rfl]; exact HQ0.out⟩
          go_wp2_with fail
          go_meet
          exact HQ
    case rest =>
      obtain ⟨v', hu⟩ := hcut.out
      have HU3 := Lib.hid hu
      obtain ⟨c0, c1, c2, c3, c4, f1, f2, f4⟩ := hu.cells
      clear hu hcut H3 HU2
      by_cases he3 : st3.er = 0
      case neg =>
        have hI : ((st3.er : Int) == 0) = false := by rw [beq_eq_false_iff_ne]; omega
        have hI' : ((st3.er : Int) != 0) = true := by simp [bne, hI]
        have HE := Lib.hid (show stF = st3 by have := HR.out; rwa [if_pos (.inr he3)] at this)
        have HRS : Hid (runpRes from_ st3 = .tuple #[.string ByteArray.empty, .int .i64 0, .int .i64 (st3.er : Int), .int .i64 ((from_ + st3.t / 8 : Nat) : Int)]) := Lib.hid (by unfold runpRes; rw [if_neg he3])
        obtain ⟨T8, hT8⟩ : ∃ T8, st3.t / 8 = T8 := ⟨_, rfl⟩
        rw [hT8] at HRS
        have hq : ((st3.t : Int)).tdiv 8 = (T8 : Int) := by rw [Int.tdiv_eq_ediv_of_nonneg (by omega)]; omega
        have hT8l : T8 ≤ 140737488351232 := by omega
        have hw8 : IntKind.i64.wrap (T8 : Int) = (T8 : Int) := IntWalk.i64_in _ (by omega)
        have hw9 : IntKind.i64.wrap ((st3.t : Int) / 8) = (T8 : Int) := by rw [show (st3.t : Int) / 8 = (T8 : Int) by omega, hw8]
        clear HR HMO
        go_wp2_with fail
        go_quiet (fail)
        go_wp2_with fail
        refine bodyPost_ret (results_tmp4 rfl _ _ _) rfl ⟨?_, HU3.out.ob.kept.drewN nq⟩
        rw [HE.out, HRS.out, Int.natCast_add]
        rfl
      case pos =>
        have hI : ((st3.er : Int) == 0) = true := by rw [he3]; rfl
        have hI' : ((st3.er : Int) != 0) = false := by simp [bne, hI]
        by_cases hl1 : last = 1
        case pos =>
          have hlI : ((last : Int) == 1) = true := by subst hl1; rfl
          have HE := Lib.hid (show stF = st3 by have := HR.out; rwa [if_pos (.inl hl1)] at this)
          have HRS : Hid (runpRes from_ st3 = .tuple #[.string (strOf st3.out), .int .i64 ((from_ + (st3.t + 7) / 8 : Nat) : Int), .int .i64 0, .int .i64 0]) := Lib.hid (by unfold runpRes; rw [if_pos he3])
          obtain ⟨T8, hT8⟩ : ∃ T8, (st3.t + 7) / 8 = T8 := ⟨_, rfl⟩
          rw [hT8] at HRS
          have hq : ((st3.t : Int) + 7).tdiv 8 = (T8 : Int) := by rw [Int.tdiv_eq_ediv_of_nonneg (by omega)]; omega
          have hT8l : T8 ≤ 140737488351233 := by omega
          have hw8 : IntKind.i64.wrap (T8 : Int) = (T8 : Int) := IntWalk.i64_in _ (by omega)
          have hw9 : IntKind.i64.wrap (((st3.t : Int) + 7) / 8) = (T8 : Int) := by rw [show ((st3.t : Int) + 7) / 8 = (T8 : Int) by omega, hw8]
          obtain ⟨ao, cap, hvv⟩ := HU3.out.ob.form
          subst hvv
          have hc : ∀ q, (convert 54 9 (.slice ao st3.out.length cap)).run Try.prog (wc.drewN q) = .ok (.string (strOf st3.out)) (wc.drewN q) := by
            intro q
            have h : (wc.drewN q).ownsRow 0 5 1 (.slice ao st3.out.length cap) st3.out.length ((st3.out.map fun n : Nat => (n : Int)).map (Value.int .u8)) := by rw [List.map_map]; exact (HU3.out.mut ((Mut.refl [] wc).drewN q)).ob.row
            rw [conv_row Try.underlying54 Try.underlying5 Try.underlying9 h]
            simp only [List.map_map]
            rfl
          clear HR HMO
          go_wp2_with fail
          go_quiet (fail)
          go_wp2_with fail
          refine bodyPost_ret (results_tmp4 rfl _ _ _) rfl ⟨?_, HU3.out.ob.kept.drewN nq⟩
          rw [HE.out, HRS.out, Int.natCast_add]
          rfl
        case neg =>
          have hlI : ((last : Int) == 1) = false := by rw [beq_eq_false_iff_ne]; omega
          have HN : Hid (RUnp w0 b s m F stF wc) := Lib.hid ⟨v', st3, k', HU3.out, by have := HR.out; rw [if_neg (by simp [hl1, he3])] at this; exact this.symm, by have := HMO.out he3; have := HK.out; omega, he3, hin3, hout3⟩
          have HM : Hid (8 * s.size - (intOf ((wc.cell? ⟨b, 1, none⟩).getD undef)).toNat < 8 * s.size - (intOf ((wr.cell? ⟨b, 1, none⟩).getD undef)).toNat) := Lib.hid (by
            rw [c1, HWT.out]
            have := HMO.out he3
            simp only [Option.getD_some, intOf]
            omega)
          clear HR HMO
          go_wp2_with fail
          exact ⟨HN, HM.out⟩

end Go.Proofs.Ytgjcnembeebjfaa
