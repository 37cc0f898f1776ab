/- Walks over package inflate: a block. -/
import Derived.Test.YtcdoamaljgjojaaInfWa
import Derived.Test.YtcdoamaljgjojaaInfW6
namespace Go.Proofs.Ytcdoamaljgjojaa
open Go.RowKit
set_option linter.unusedVariables false

def kindU (F kind : Nat) : UM Unit := if kind = 0 then storedU else if kind = 1 then symbolsU fixedL fixedD F
     else if kind = 2 then toldU.bind fun p => errU.bind fun e => if e = true then UM.ret () else symbolsU p.1 p.2 F
     else (failU true 8).bind fun _ => UM.ret ()

theorem block_steps {F : Nat} {s : ByteArray} {m : Nat} {st s1 s2 s3 : US} {L K : Nat} (h1 : takeU 1 s m st = (L, s1)) (h2 : takeU 2 s m s1 = (K, s2)) (h3 : (kindU F K s m s2).2 = s3) :
    (s2.er ≠ 0 → blockU F s m st = (true, s2)) ∧ (s2.er = 0 → blockU F s m st = (decide (L = 1) || decide (s3.er ≠ 0), s3)) := by
  unfold blockU
  simp only [UM.bind, h1, h2, errU]
  refine ⟨fun h => ?_, fun h => ?_⟩
  · rw [if_pos (decide_eq_true h)]; rfl
  · rw [if_neg (by simpa using h)]
    show (UM.bind (kindU F K) _) s m s2 = _
    simp only [UM.bind, h3, UM.ret, errU]

theorem UAt.ownlt {w : World} {b rb : Nat} {s : ByteArray} {ov : Value} {m : Nat} {st : US} (h : UAt w b rb s ov m st) : ∀ g, ov.ownBlock = some g → g < w.heap.size := fun g hg => by
  rcases h.row.2 with ⟨h1, _⟩ | ⟨g', cap, cur, h1, _, hh, _⟩
  · rw [h1] at hg; simp [Value.ownBlock] at hg
  · rw [h1] at hg
    simp [Value.ownBlock] at hg
    subst hg
    exact lt_of_heap hh

theorem kind_nice (F K : Nat) : Nice (kindU F K) := Nice.ite stored_nice (Nice.ite (symbols_nice _ _ fixedL_good fixedD_good F) (Nice.ite (kind2_nice F) ((fail_nice _ _).bind fun _ => Nice.ret _)))

theorem block_more {F : Nat} {s : ByteArray} {m : Nat} {st st' : US} (h : blockU F s m st = (false, st')) (he : st.er = 0) : st.t < st'.t ∧ st'.er = 0 := by
  obtain ⟨⟨L, s1⟩, h1⟩ : ∃ p, takeU 1 s m st = p := ⟨_, rfl⟩
  obtain ⟨⟨K, s2⟩, h2⟩ : ∃ p, takeU 2 s m s1 = p := ⟨_, rfl⟩
  obtain ⟨q1, q2⟩ := block_steps (F := F) h1 h2 rfl
  by_cases e2 : s2.er = 0
  · rw [q2 e2] at h
    obtain ⟨h3, rfl⟩ := Prod.mk.inj h
    simp only [Bool.or_eq_false_iff, decide_eq_false_iff_not, ne_eq, Classical.not_not] at h3
    have e1 := (take_lt h2).2.2 e2
    have k1 : s1.t = st.t + 1 := by
      unfold takeU at h1
      rw [if_neg (by simpa using he)] at h1
      split at h1
      · obtain ⟨-, rfl⟩ := Prod.mk.inj h1; rfl
      · obtain ⟨-, rfl⟩ := Prod.mk.inj h1; simp at e1
    have k2 := (take_nice 2).fwd s m s1
    rw [h2] at k2
    have k3 := (kind_nice F K).fwd s m s2
    simp only at k2
    exact ⟨by omega, h3.2⟩
  · rw [q1 e2] at h
    simp at h

set_option maxHeartbeats 3200000 in
set_option maxRecDepth 100000 in
theorem ublock_any (b rb F : Nat) (s : ByteArray) (st st' : US) (q : Bool) (ov : Value) (m : Nat) (w : World) (h : UAt w b rb s ov m st) (hs : s.size ≤ 140737488351232) (ht : st.t ≤ 8 * s.size) (hm : m ≤ 1073741824) (hout : st.out.length ≤ m) (hF : 8 * s.size < F) (hu : blockU F s m st = (q, st')) :
    Calls Try.prog 27 #[.pointer (some ⟨b, 0, none⟩)] w fun e w' => e = .returned (.bool q) ∧ ∃ ov', UAt w' b rb s ov' m st' ∧ UG w w' b rb ov ov' := by
  obtain ⟨⟨L, s1⟩, h1⟩ : ∃ p, takeU 1 s m st = p := ⟨_, rfl⟩
  obtain ⟨⟨K, s2⟩, h2⟩ : ∃ p, takeU 2 s m s1 = p := ⟨_, rfl⟩
  obtain ⟨s3, h3⟩ : ∃ s3, (kindU F K s m s2).2 = s3 := ⟨_, rfl⟩
  obtain ⟨q1, q2⟩ := block_steps h1 h2 h3
  rw [hu] at q1 q2
  have t1 := tk_inside h1 ht
  have t2 := tk_inside h2 t1
  have o2 : s2.out.length ≤ m := by rw [(take_lt h2).2.1, (take_lt h1).2.1]; exact hout
  have hK := (take_lt h2).1
  have hL := (take_lt h1).1
  have H1 := Lib.hid (utake_any b rb s st s1 L 1 1 ov m w h hs ht rfl (by omega) h1)
  have H2 : Hid (∀ w, UAt w b rb s ov m s1 → Calls Try.prog 41 #[.pointer (some ⟨b, 0, none⟩), .int .i64 2] w fun e w' => e = .returned (.int .i64 (K : Int)) ∧ UAt w' b rb s ov m s2 ∧ Mut [b, rb] w w') := Lib.hid fun w h => utake_any b rb s s1 s2 K 2 2 ov m w h hs t1 rfl (by omega) h2
  have Q1 := Lib.hid q1
  have Q2 := Lib.hid q2
  have H3 := Lib.hid h3
  clear h hu h1 h2 h3 q1 q2 ht hout t1
  go_enter Try.func27, Try.ntmps27
  go_wp2_with fail
  refine H1.out.mono ?_
  rintro e w1 ⟨rfl, hu, hm1⟩
  have HU1 := Lib.hid hu
  have HM1 := Lib.hid hm1
  clear hu hm1
  go_upto_region 2 with fail
  obtain ⟨lq, hlq⟩ : ∃ lq : Bool, ((L : Int) == 1) = lq := ⟨_, rfl⟩
  have HLQ : Hid (decide (L = 1) = lq) := Lib.hid (by rw [← hlq]; by_cases h : L = 1 <;> simp [h] <;> omega)
  rw [hlq]
  clear hlq
  go_wp2_with fail
  refine (H2.out w1 HU1.out).mono ?_
  rintro e w2 ⟨rfl, hu, hm2⟩
  have HU2 := Lib.hid hu
  have HG2 := Lib.hid (UG.of (b := b) (rb := rb) (ov := ov) (HM1.out.trans' hm2))
  clear hu hm2 H1 H2 HU1 HM1
  by_cases he2 : s2.er = 0
  case neg =>
    obtain ⟨c0, c1, c2, c3, f1, f3⟩ := cells4 HU2.out.box
    have hI : ((s2.er : Int) == 0) = false := by rw [beq_eq_false_iff_ne]; omega
    have hI' : ((s2.er : Int) != 0) = true := by simp [bne, hI]
    obtain ⟨rfl, rfl⟩ := Prod.mk.inj (Q1.out he2)
    clear Q1 Q2 H3
    go_wp2_with fail
    exact bodyPost_ret (results_tmp rfl _ _ _) rfl ⟨rfl, ov, HU2.out, HG2.out⟩
  case pos =>
    have HQ := Lib.hid (Q2.out he2)
    clear Q1 Q2
    obtain ⟨t2', o2', er2⟩ := s2
    simp only at he2
    subst he2
    obtain ⟨c0, c1, c2, c3, f1, f3⟩ := cellsU HU2.out.box
    go_upto_block 0 with fail
    clear c0 c1 c2 c3 f1 f3
    go_cut [] (fun wx => Hid (∃ ov', UAt wx b rb s ov' m s3 ∧ UG w wx b rb ov ov'))
    case first =>
      have hlt := HU2.out.ownlt
      by_cases k0 : K = 0
      case pos =>
        have k0I : ((K : Int) == 0) = true := by rw [k0]; rfl
        have HW := Lib.hid (ustored_any b rb s ⟨t2', o2', 0⟩ s3 ov m w2 HU2.out hs t2 rfl hm o2 (by have := H3.out; unfold kindU at this; rwa [if_pos k0] at this))
        clear k0 hlt
        go_wp2_with fail
        refine HW.out.mono ?_
        rintro e w3 ⟨rfl, ov', hu, hg⟩
        have HR : Hid (∃ ov', UAt w3 b rb s ov' m s3 ∧ UG w w3 b rb ov ov') := Lib.hid ⟨ov', hu, HG2.out.trans hg⟩
        clear hu hg
        go_wp2_with fail
        go_meet
        exact HR
      case neg =>
        have k0I : ((K : Int) == 0) = false := by rw [beq_eq_false_iff_ne]; omega
        by_cases k1 : K = 1
        case pos =>
          have k1I : ((K : Int) == 1) = true := by rw [k1]; rfl
          have h3 : (symbolsU fixedL fixedD F s m ⟨t2', o2', 0⟩).2 = s3 := by have := H3.out; unfold kindU at this; rwa [if_neg k0, if_pos k1] at this
          have HFX := Lib.hid (ufixed_any w2)
          have HB := Lib.hid (And.intro hlt (And.intro (lt_of_heap HU2.out.box) (lt_of_heap (show w2.heap[rb]? = _ from HU2.out.rd))))
          have H3' := Lib.hid h3
          clear k0 k1 hlt h3
          go_wp2_with fail
          refine HFX.out.mono ?_
          rintro e wf ⟨lb, db, rfl, hmf, htf⟩
          obtain ⟨tl, td⟩ := htf b rb HB.out.2.1 HB.out.2.2
          have HS := Lib.hid (usymbols_any b rb w2.heap.size wf.heap.size lb db fixedL fixedD s ⟨t2', o2', 0⟩ s3 ov m F wf (HU2.out.mut hmf (by simp) (by simp) (by simp)) tl td (fun g hg => .inl (HB.out.1 g hg)) hs t2 rfl hm o2 (by show 8 * s.size - t2' < F; omega) H3'.out)
          have HGF : Hid (UG w wf b rb ov ov) := Lib.hid (HG2.out.trans (UG.of (hmf.mono (by simp))))
          clear hmf htf tl td HFX
          go_wp2_with fail
          refine HS.out.mono ?_
          rintro e w3 ⟨rfl, ov', hu, hg⟩
          have HR : Hid (∃ ov', UAt w3 b rb s ov' m s3 ∧ UG w w3 b rb ov ov') := Lib.hid ⟨ov', hu, HGF.out.trans hg⟩
          clear hu hg
          go_wp2_with fail
          go_meet
          exact HR
        case neg =>
          have k1I : ((K : Int) == 1) = false := by rw [beq_eq_false_iff_ne]; omega
          by_cases k2 : K = 2
          case pos =>
            have k2I : ((K : Int) == 2) = true := by rw [k2]; rfl
            obtain ⟨⟨⟨X, Y⟩, s4⟩, htd⟩ : ∃ p, toldU s m ⟨t2', o2', 0⟩ = p := ⟨_, rfl⟩
            have h3 : ((if decide (s4.er ≠ 0) = true then UM.ret () else symbolsU X Y F) s m s4).2 = s3 := by
              have := H3.out
              unfold kindU at this
              rw [if_neg k0, if_neg k1, if_pos k2] at this
              simp only [UM.bind, htd, errU] at this
              exact this
            have HTD := Lib.hid (utold_any b rb s ⟨t2', o2', 0⟩ s4 X Y ov m w2 HU2.out hs t2 htd)
            have t4 : s4.t ≤ 8 * s.size := by have := told_nice.inside s m ⟨t2', o2', 0⟩ t2; rwa [htd] at this
            have o4 : s4.out.length ≤ m := by have := told_nice.most s m ⟨t2', o2', 0⟩ o2; rwa [htd] at this
            have HB := Lib.hid hlt
            have H3' := Lib.hid h3
            have HH := Lib.hid (And.intro k0 (And.intro k1 k2))
            clear k0 k1 k2 hlt h3 htd
            go_wp2_with fail
            refine HTD.out.mono ?_
            rintro e w3 ⟨⟨p1, p2, rfl, hp⟩, hu, hm3⟩
            have HU3 := Lib.hid hu
            have HG3 : Hid (UG w w3 b rb ov ov) := Lib.hid (HG2.out.trans (UG.of hm3))
            have HP := Lib.hid hp
            clear hu hm3 hp HTD
            by_cases he4 : s4.er = 0
            case neg =>
              obtain ⟨c0, c1, c2, c3, f1, f3⟩ := cells4 HU3.out.box
              have hI : ((s4.er : Int) == 0) = false := by rw [beq_eq_false_iff_ne]; omega
              have e3 : s4 = s3 := by have := H3'.out; rw [if_pos (by simpa using he4)] at this; exact this
              have HR : Hid (∃ ov', UAt w3 b rb s ov' m s3 ∧ UG w w3 b rb ov ov') := Lib.hid ⟨ov, e3 ▸ HU3.out, HG3.out⟩
              clear e3
              go_wp2_with fail
              go_meet
              exact HR
            case pos =>
              obtain ⟨c0, c1, c2, c3, f1, f3⟩ := cells4 HU3.out.box
              have hI : ((s4.er : Int) == 0) = true := by rw [he4]; rfl
              obtain ⟨lb, db, rfl, rfl, tl, td⟩ := HP.out he4
              have HS := Lib.hid (usymbols_any b rb w2.heap.size w3.heap.size lb db X Y s s4 s3 ov m F w3 HU3.out tl td (fun g hg => .inl (HB.out g hg)) hs t4 he4 hm o4 (by omega) (by have := H3'.out; rwa [if_neg (by simpa using he4)] at this))
              clear tl td HP he4
              go_wp2_with fail
              refine HS.out.mono ?_
              rintro e w4 ⟨rfl, ov', hu, hg⟩
              have HR : Hid (∃ ov', UAt w4 b rb s ov' m s3 ∧ UG w w4 b rb ov ov') := Lib.hid ⟨ov', hu, HG3.out.trans hg⟩
              clear hu hg
              go_wp2_with fail
              go_meet
              exact HR
          case neg =>
            have k2I : ((K : Int) == 2) = false := by rw [beq_eq_false_iff_ne]; omega
            obtain ⟨c0, c1, c2, c3, f1, f3⟩ := cellsU HU2.out.box
            have e3 : s3 = ⟨t2', o2', 8⟩ := by
              have := H3.out
              unfold kindU at this
              rw [if_neg k0, if_neg k1, if_neg k2] at this
              rw [← this]
              simp [UM.bind, failU, UM.ret]
            have HR : Hid (∃ ov', UAt (w2.setCell ⟨b, 3, none⟩ (.int .i64 8)) b rb s ov' m s3 ∧ UG w (w2.setCell ⟨b, 3, none⟩ (.int .i64 8)) b rb ov ov') := Lib.hid ⟨ov, by rw [e3]; exact UIs.err HU2.out 8, HG2.out.trans (UG.of ((Mut.refl _ _).setCell (by simp) _))⟩
            have HH := Lib.hid (And.intro k0 (And.intro k1 k2))
            clear e3 k0 k1 k2 hlt
            go_wp2_with fail
            go_meet
            exact HR
    case rest =>
      obtain ⟨ov', hu, hg⟩ := hcut.out
      have HU3 := Lib.hid hu
      have HG3 := Lib.hid hg
      obtain ⟨c0, c1, c2, c3, f1, f3⟩ := cells4 hu.box
      obtain ⟨e1, e2⟩ := Prod.mk.inj HQ.out
      subst e2
      rw [HLQ.out] at e1
      have HE := Lib.hid e1
      clear hu hg hcut HQ e1 HLQ HU2 HG2 H3
      by_cases he3 : st'.er = 0
      · have hI : ((st'.er : Int) == 0) = true := by rw [he3]; rfl
        have hI' : ((st'.er : Int) != 0) = false := by simp [bne, hI]
        have hq : q = lq := by rw [HE.out, decide_eq_false (by simpa using he3), Bool.or_false]
        subst hq
        cases q with
        | true =>
          go_wp2_with fail
          go_ret
          exact ⟨rfl, ov', HU3.out, HG3.out⟩
        | false =>
          go_wp2_with fail
          go_ret
          exact ⟨rfl, ov', HU3.out, HG3.out⟩
      · have hI : ((st'.er : Int) == 0) = false := by rw [beq_eq_false_iff_ne]; omega
        have hI' : ((st'.er : Int) != 0) = true := by simp [bne, hI]
        have hq : q = true := by rw [HE.out, decide_eq_true he3, Bool.or_true]
        subst hq
        cases lq with
        | true =>
          go_wp2_with fail
          go_ret
          exact ⟨rfl, ov', HU3.out, HG3.out⟩
        | false =>
          go_wp2_with fail
          go_ret
          exact ⟨rfl, ov', HU3.out, HG3.out⟩

end Go.Proofs.Ytcdoamaljgjojaa
