/- Walks over package inflate: a block. Walks over package inflate: Unpack. -/
import Derived.Test.YtgjcnembeebjfaaInfWa
import Derived.Test.YtgjcnembeebjfaaInfW6
import Derived.Test.YtgjcnembeebjfaaGInM

namespace Go.Proofs.Ytgjcnembeebjfaa
open Go.RowKit
set_option linter.unusedVariables false

def kindU (F kind : Nat) : UM Unit := if kind = 0 then storedU else if kind = 1 then symbolsU fixedL fixedD F
     else if kind = 2 then toldU.bind fun p => errU.bind fun e => if e = true then UM.ret () else symbolsU p.1 p.2 F
     else (failU true 8).bind fun _ => UM.ret ()

theorem block_steps {F : Nat} {s : ByteArray} {m : Nat} {st s1 s2 s3 : US} {L K : Nat} (h1 : takeU 1 s m st = (L, s1)) (h2 : takeU 2 s m s1 = (K, s2)) (h3 : (kindU F K s m s2).2 = s3) :
    (s2.er ≠ 0 → blockU F s m st = (true, s2)) ∧ (s2.er = 0 → blockU F s m st = (decide (L = 1) || decide (s3.er ≠ 0), s3)) := by
  unfold blockU
  simp only [UM.bind, h1, h2, errU]
  refine ⟨fun h => ?_, fun h => ?_⟩
  · rw [if_pos (decide_eq_true h)]; rfl
  · rw [if_neg (by simpa using h)]
    show (UM.bind (kindU F K) _) s m s2 = _
    simp only [UM.bind, h3, UM.ret, errU]

theorem UAt.ownlt {w : World} {b rb : Nat} {s : ByteArray} {ov : Value} {m : Nat} {st : US} (h : UAt w b rb s ov m st) : ∀ g, ov.ownBlock = some g → g < w.heap.size := fun g hg => by
  rcases h.row.2 with ⟨h1, _⟩ | ⟨g', cap, cur, h1, _, hh, _⟩
  · rw [h1] at hg; simp [Value.ownBlock] at hg
  · rw [h1] at hg
    simp [Value.ownBlock] at hg
    subst hg
    exact lt_of_heap hh

theorem kind_nice (F K : Nat) : Nice (kindU F K) := Nice.ite stored_nice (Nice.ite (symbols_nice _ _ fixedL_good fixedD_good F) (Nice.ite (kind2_nice F) ((fail_nice _ _).bind fun _ => Nice.ret _)))

theorem block_more {F : Nat} {s : ByteArray} {m : Nat} {st st' : US} (h : blockU F s m st = (false, st')) (he : st.er = 0) : st.t < st'.t ∧ st'.er = 0 := by
  obtain ⟨⟨L, s1⟩, h1⟩ : ∃ p, takeU 1 s m st = p := ⟨_, rfl⟩
  obtain ⟨⟨K, s2⟩, h2⟩ : ∃ p, takeU 2 s m s1 = p := ⟨_, rfl⟩
  obtain ⟨q1, q2⟩ := block_steps (F := F) h1 h2 rfl
  by_cases e2 : s2.er = 0
  · rw [q2 e2] at h
    obtain ⟨h3, rfl⟩ := Prod.mk.inj h
    simp only [Bool.or_eq_false_iff, decide_eq_false_iff_not, ne_eq, Classical.not_not] at h3
    have e1 := (take_lt h2).2.2 e2
    have k1 : s1.t = st.t + 1 := by
      unfold takeU at h1
      rw [if_neg (by simpa using he)] at h1
      split at h1
      · obtain ⟨-, rfl⟩ := Prod.mk.inj h1; rfl
      · obtain ⟨-, rfl⟩ := Prod.mk.inj h1; simp at e1
    have k2 := (take_nice 2).fwd s m s1
    rw [h2] at k2
    have k3 := (kind_nice F K).fwd s m s2
    simp only at k2
    exact ⟨by omega, h3.2⟩
  · rw [q1 e2] at h
    simp at h

set_option maxHeartbeats 3200000 in
set_option maxRecDepth 100000 in
theorem ublock_any (b rb F : Nat) (s : ByteArray) (st st' : US) (q : Bool) (ov : Value) (m : Nat) (w : World) (h : UAt w b rb s ov m st) (hs : s.size ≤ 140737488351232) (ht : st.t ≤ 8 * s.size) (hm : m ≤ 9223372036854775807) (hB : st'.out.length ≤ 1099511627776) (hout : st.out.length ≤ m) (hF : 8 * s.size < F) (hu : blockU F s m st = (q, st')) :
    Calls Try.prog 49 #[.pointer (some ⟨b, 0, none⟩)] w fun e w' => e = .returned (.bool q) ∧ ∃ ov', UAt w' b rb s ov' m st' ∧ UG w w' b rb ov ov' := by
  obtain ⟨⟨L, s1⟩, h1⟩ : ∃ p, takeU 1 s m st = p := ⟨_, rfl⟩
  obtain ⟨⟨K, s2⟩, h2⟩ : ∃ p, takeU 2 s m s1 = p := ⟨_, rfl⟩
  obtain ⟨s3, h3⟩ : ∃ s3, (kindU F K s m s2).2 = s3 := ⟨_, rfl⟩
  obtain ⟨q1, q2⟩ := block_steps h1 h2 h3
  rw [hu] at q1 q2
  have t1 := tk_inside h1 ht
  have t2 := tk_inside h2 t1
  have o2 : s2.out.length ≤ m := by rw [(take_lt h2).2.1, (take_lt h1).2.1]; exact hout
  have hB2 : s2.out.length ≤ 1099511627776 := by
    rw [(take_lt h2).2.1, (take_lt h1).2.1]
    obtain ⟨lg, hlg⟩ := (block_nice F).grow s m st
    rw [hu] at hlg
    have hx1 := congrArg List.length hlg
    rw [List.length_append] at hx1
    simp only at hx1
    omega
  have hK := (take_lt h2).1
  have hL := (take_lt h1).1
  have H1 := Lib.hid (utake_any b rb s st s1 L 1 1 ov m w h hs ht rfl (by omega) h1)
  have H2 : Hid (∀ w, UAt w b rb s ov m s1 → Calls Try.prog 69 #[.pointer (some ⟨b, 0, none⟩), .int .i64 2] w fun e w' => e = .returned (.int .i64 (K : Int)) ∧ UAt w' b rb s ov m s2 ∧ Mut [b, rb] w w') := Lib.hid fun w h => utake_any b rb s s1 s2 K 2 2 ov m w h hs t1 rfl (by omega) h2
  have Q1 := Lib.hid q1
  have Q2 := Lib.hid q2
  have H3 := Lib.hid h3
  clear h hu h1 h2 h3 q1 q2 ht hout t1
  go_enter Try.func49, Try.ntmps49
  go_wp2_with fail
  refine H1.out.mono ?_
  rintro e w1 ⟨rfl, hu, hm1⟩
  have HU1 := Lib.hid hu
  have HM1 := Lib.hid hm1
  clear hu hm1
  go_upto_region 2 with fail
  obtain ⟨lq, hlq⟩ : ∃ lq : Bool, ((L : Int) == 1) = lq := ⟨_, rfl⟩
  have HLQ : Hid (decide (L = 1) = lq) := Lib.hid (by rw [← hlq]; by_cases h : L = 1 <;> simp [h] <;> omega)
  rw [hlq]
  clear hlq
  go_wp2_with fail
  refine (H2.out w1 HU1.out).mono ?_
  rintro e w2 ⟨rfl, hu, hm2⟩
  have HU2 := Lib.hid hu
  have HG2 := Lib.hid (UG.of (b := b) (rb := rb) (ov := ov) (HM1.out.trans' hm2))
  clear hu hm2 H1 H2 HU1 HM1
  by_cases he2 : s2.er = 0
  case neg =>
    obtain ⟨c0, c1, c2, c3, f1, f3⟩ := cells4 HU2.out.box
    have hI : ((s2.er : Int) == 0) = false := by rw [beq_eq_false_iff_ne]; omega
    have hI' : ((s2.er : Int) != 0) = true := by simp [bne, hI]
    obtain ⟨rfl, rfl⟩ := Prod.mk.inj (Q1.out he2)
    clear Q1 Q2 H3
    go_wp2_with fail
    exact bodyPost_ret (results_tmp rfl _ _ _) rfl ⟨rfl, ov, HU2.out, HG2.out⟩
  case pos =>
    have HQ := Lib.hid (Q2.out he2)
    have hB3 : s3.out.length ≤ 1099511627776 := by rw [← (Prod.mk.inj HQ.out).2]; exact hB
    clear Q1 Q2
    obtain ⟨t2', o2', er2⟩ := s2
    simp only at he2 hB2
    subst he2
    obtain ⟨c0, c1, c2, c3, f1, f3⟩ := cellsU HU2.out.box
    go_upto_block 0 with fail
    clear c0 c1 c2 c3 f1 f3
    go_cut [] (fun wx => Hid (∃ ov', UAt wx b rb s ov' m s3 ∧ UG w wx b rb ov ov'))
    case first =>
      have hlt := HU2.out.ownlt
      by_cases k0 : K = 0
      case pos =>
        have k0I : ((K : Int) == 0) = true := by rw [k0]; rfl
        have HW := Lib.hid (ustored_any b rb s ⟨t2', o2', 0⟩ s3 ov m w2 HU2.out hs t2 rfl hm hB2 o2 (by have := H3.out; unfold kindU at this; rwa [if_pos k0] at this))
        clear k0 hlt
        go_wp2_with fail
        refine HW.out.mono ?_
        rintro e w3 ⟨rfl, ov', hu, hg⟩
        have HR : Hid (∃ ov', UAt w3 b rb s ov' m s3 ∧ UG w w3 b rb ov ov') := Lib.hid ⟨ov', hu, HG2.out.trans hg⟩
        clear hu hg
        go_wp2_with fail
        go_meet
        exact HR
      case neg =>
        have k0I : ((K : Int) == 0) = false := by rw [beq_eq_false_iff_ne]; omega
        by_cases k1 : K = 1
        case pos =>
          have k1I : ((K : Int) == 1) = true := by rw [k1]; rfl
          have h3 : (symbolsU fixedL fixedD F s m ⟨t2', o2', 0⟩).2 = s3 := by have := H3.out; unfold kindU at this; rwa [if_neg k0, if_pos k1] at this
          have HFX := Lib.hid (ufixed_any w2)
          have HB := Lib.hid (And.intro hlt (And.intro (lt_of_heap HU2.out.box) (lt_of_heap (show w2.heap[rb]? = _ from HU2.out.rd))))
          have H3' := Lib.hid h3
          clear k0 k1 hlt h3
          go_wp2_with fail
          refine HFX.out.mono ?_
          rintro e wf ⟨lb, db, rfl, hmf, htf⟩
          obtain ⟨tl, td⟩ := htf b rb HB.out.2.1 HB.out.2.2
          have HS := Lib.hid (usymbols_any b rb w2.heap.size wf.heap.size lb db fixedL fixedD s ⟨t2', o2', 0⟩ s3 ov m F wf (HU2.out.mut hmf (by simp) (by simp) (by simp)) tl td (fun g hg => .inl (HB.out.1 g hg)) hs t2 rfl hm hB3 o2 (by show 8 * s.size - t2' < F; omega) H3'.out)
          have HGF : Hid (UG w wf b rb ov ov) := Lib.hid (HG2.out.trans (UG.of (hmf.mono (by simp))))
          clear hmf htf tl td HFX
          go_wp2_with fail
          refine HS.out.mono ?_
          rintro e w3 ⟨rfl, ov', hu, hg⟩
          have HR : Hid (∃ ov', UAt w3 b rb s ov' m s3 ∧ UG w w3 b rb ov ov') := Lib.hid ⟨ov', hu, HGF.out.trans hg⟩
          clear hu hg
          go_wp2_with fail
          go_meet
          exact HR
        case neg =>
          have k1I : ((K : Int) == 1) = false := by rw [beq_eq_false_iff_ne]; omega
          by_cases k2 : K = 2
          case pos =>
            have k2I : ((K : Int) == 2) = true := by rw [k2]; rfl
            obtain ⟨⟨⟨X, Y⟩, s4⟩, htd⟩ : ∃ p, toldU s m ⟨t2', o2', 0⟩ = p := ⟨_, rfl⟩
            have h3 : ((if decide (s4.er ≠ 0) = true then UM.ret () else symbolsU X Y F) s m s4).2 = s3 := by
              have := H3.out
              unfold kindU at this
              rw [if_neg k0, if_neg k1, if_pos k2] at this
              simp only [UM.bind, htd, errU] at this
              exact this
            have HTD := Lib.hid (utold_any b rb s ⟨t2', o2', 0⟩ s4 X Y ov m w2 HU2.out hs t2 htd)
            have t4 : s4.t ≤ 8 * s.size := by have := told_nice.inside s m ⟨t2', o2', 0⟩ t2; rwa [htd] at this
            have o4 : s4.out.length ≤ m := by have := told_nice.most s m ⟨t2', o2', 0⟩ o2; rwa [htd] at this
            have HB := Lib.hid hlt
            have H3' := Lib.hid h3
            have HH := Lib.hid (And.intro k0 (And.intro k1 k2))
            clear k0 k1 k2 hlt h3 htd
            go_wp2_with fail
            refine HTD.out.mono ?_
            rintro e w3 ⟨⟨p1, p2, rfl, hp⟩, hu, hm3⟩
            have HU3 := Lib.hid hu
            have HG3 : Hid (UG w w3 b rb ov ov) := Lib.hid (HG2.out.trans (UG.of hm3))
            have HP := Lib.hid hp
            clear hu hm3 hp HTD
            by_cases he4 : s4.er = 0
            case neg =>
              obtain ⟨c0, c1, c2, c3, f1, f3⟩ := cells4 HU3.out.box
              have hI : ((s4.er : Int) == 0) = false := by rw [beq_eq_false_iff_ne]; omega
              have e3 : s4 = s3 := by have := H3'.out; rw [if_pos (by simpa using he4)] at this; exact this
              have HR : Hid (∃ ov', UAt w3 b rb s ov' m s3 ∧ UG w w3 b rb ov ov') := Lib.hid ⟨ov, e3 ▸ HU3.out, HG3.out⟩
              clear e3
              go_wp2_with fail
              go_meet
              exact HR
            case pos =>
              obtain ⟨c0, c1, c2, c3, f1, f3⟩ := cells4 HU3.out.box
              have hI : ((s4.er : Int) == 0) = true := by rw [he4]; rfl
              obtain ⟨lb, db, rfl, rfl, tl, td⟩ := HP.out he4
              have HS := Lib.hid (usymbols_any b rb w2.heap.size w3.heap.size lb db X Y s s4 s3 ov m F w3 HU3.out tl td (fun g hg => .inl (HB.out g hg)) hs t4 he4 hm hB3 o4 (by omega) (by have := H3'.out; rwa [if_neg (by simpa using he4)] at this))
              clear tl td HP he4
              go_wp2_with fail
              refine HS.out.mono ?_
              rintro e w4 ⟨rfl, ov', hu, hg⟩
              have HR : Hid (∃ ov', UAt w4 b rb s ov' m s3 ∧ UG w w4 b rb ov ov') := Lib.hid ⟨ov', hu, HG3.out.trans hg⟩
              clear hu hg
              go_wp2_with fail
              go_meet
              exact HR
          case neg =>
            have k2I : ((K : Int) == 2) = false := by rw [beq_eq_false_iff_ne]; omega
            obtain ⟨c0, c1, c2, c3, f1, f3⟩ := cellsU HU2.out.box
            have e3 : s3 = ⟨t2', o2', 8⟩ := by
              have := H3.out
              unfold kindU at this
              rw [if_neg k0, if_neg k1, if_neg k2] at this
              rw [← this]
              simp [UM.bind, failU, UM.ret]
            have HR : Hid (∃ ov', UAt (w2.setCell ⟨b, 3, none⟩ (.int .i64 8)) b rb s ov' m s3 ∧ UG w (w2.setCell ⟨b, 3, none⟩ (.int .i64 8)) b rb ov ov') := Lib.hid ⟨ov, by rw [e3]; exact UIs.err HU2.out 8, HG2.out.trans (UG.of ((Mut.refl _ _).setCell (by simp) _))⟩
            have HH := Lib.hid (And.intro k0 (And.intro k1 k2))
            clear e3 k0 k1 k2 hlt
            go_wp2_with fail
            go_meet
            exact HR
    case rest =>
      obtain ⟨ov', hu, hg⟩ := hcut.out
      have HU3 := Lib.hid hu
      have HG3 := Lib.hid hg
      obtain ⟨c0, c1, c2, c3, f1, f3⟩ := cells4 hu.box
      obtain ⟨e1, e2⟩ := Prod.mk.inj HQ.out
      subst e2
      rw [HLQ.out] at e1
      have HE := Lib.hid e1
      clear hu hg hcut HQ e1 HLQ HU2 HG2 H3
      by_cases he3 : st'.er = 0
      · have hI : ((st'.er : Int) == 0) = true := by rw [he3]; rfl
        have hI' : ((st'.er : Int) != 0) = false := by simp [bne, hI]
        have hq : q = lq := by rw [HE.out, decide_eq_false (by simpa using he3), Bool.or_false]
        subst hq
        cases q with
        | true =>
          go_wp2_with fail
          go_ret
          exact ⟨rfl, ov', HU3.out, HG3.out⟩
        | false =>
          go_wp2_with fail
          go_ret
          exact ⟨rfl, ov', HU3.out, HG3.out⟩
      · have hI : ((st'.er : Int) == 0) = false := by rw [beq_eq_false_iff_ne]; omega
        have hI' : ((st'.er : Int) != 0) = true := by simp [bne, hI]
        have hq : q = true := by rw [HE.out, decide_eq_true he3, Bool.or_true]
        subst hq
        cases lq with
        | true =>
          go_wp2_with fail
          go_ret
          exact ⟨rfl, ov', HU3.out, HG3.out⟩
        | false =>
          go_wp2_with fail
          go_ret
          exact ⟨rfl, ov', HU3.out, HG3.out⟩

end Go.Proofs.Ytgjcnembeebjfaa

namespace Go.Proofs.Ytgjcnembeebjfaa
open Go.RowKit
set_option linter.unusedVariables false

/-- what Unpack answers -/
def unpRes (from_ : Nat) (st : US) : Value := if st.er = 0 then .tuple #[.string (strOf st.out), .int .i64 ((from_ + (st.t + 7) / 8 : Nat) : Int), .agg #[.int .i64 0, .int .i64 0]]
  else .tuple #[.string ByteArray.empty, .int .i64 0, .agg #[.int .i64 (st.er : Int), .int .i64 ((from_ + st.t / 8 : Nat) : Int)]]

theorem results_fault {tmps : Array Value} {w : World} {g : Nat} {c0 c1 v6 v7 : Value} (h1 : w.heap[g]? = some (.cells #[c0, c1] 26 (0, 0)))
    (p1 : tmps.getD 8 undef = .pointer (some ⟨g, 0, none⟩)) (p6 : tmps.getD 6 undef = v6) (p7 : tmps.getD 7 undef = v7) :
    (results Try.f30 tmps).run Try.prog w = .ok (.tuple #[v6, v7, .agg #[c0, c1]]) w := by
  have q1 : tmps[8]?.getD undef = .pointer (some ⟨g, 0, none⟩) := by simpa using p1
  have q6 : tmps[6]?.getD undef = v6 := by simpa using p6
  have q7 : tmps[7]?.getD undef = v7 := by simpa using p7
  have e1 := run_loadVar_row (P := Try.prog) w g 26 26 #[c0, c1] (0, 0) _ h1 Try.underlying26 rfl (by kernel_rfl)
  simp [results, q1, q6, q7, asAddr, e1]

/-- where Unpack's loop is -/
def UnC (w0 : World) (b rb F : Nat) (s : ByteArray) (m : Nat) (stF : US) (w : World) : Prop :=
  ∃ (ov : Value) (st : US) (k : Nat), UAt w b rb s ov m st ∧ UG w0 w b rb (.slice none 0 0) ov ∧ (unpackU F k s m st).2 = stF ∧ 8 * s.size - st.t < k ∧ st.er = 0 ∧ st.t ≤ 8 * s.size ∧ st.out.length ≤ m

theorem unpack_step {F : Nat} (k : Nat) {s : ByteArray} {m : Nat} {st st2 : US} {q : Bool} (h : blockU F s m st = (q, st2)) : unpackU F (k + 1) s m st = if q = true then ((), st2) else unpackU F k s m st2 := by
  rw [unpackU]
  simp only [UM.bind, h]
  cases q <;> rfl

set_option maxHeartbeats 3200000 in
set_option maxRecDepth 100000 in
theorem unpack_wide (data s : ByteArray) (from_ m F : Nat) (w : World) (hs : data.size ≤ 140737488351232) (hf : from_ ≤ data.size) (hx : data.extract from_ data.size = s) (hm : m ≤ 9223372036854775807) (hB : (runU F s m).out.length ≤ 1099511627776) (hF : 8 * s.size < F) (fI mI : Int) (hfI : fI = (from_ : Int)) (hmI : mI = (m : Int)) :
    Calls Try.prog 30 #[.string data, .int .i64 fI, .int .i64 mI] w fun e w' => e = .returned (unpRes from_ (runU F s m)) ∧ Mut [] w w' := by
  subst hfI hmI
  have hss : s.size = data.size - from_ := by rw [← hx]; simp
  have hs' : s.size ≤ 140737488351232 := by omega
  obtain ⟨stF, hst⟩ : ∃ st, runU F s m = st := ⟨_, rfl⟩
  have HST : Hid ((unpackU F F s m st0).2 = stF) := Lib.hid hst
  rw [hst] at hB ⊢
  have HO := Lib.hid (open_any s)
  have hfI0 : ¬ (from_ : Int) < 0 := by omega
  have hfI1 : ¬ (data.size : Int) < (from_ : Int) := by omega
  have hmI0 : ¬ (m : Int) < 0 := by omega
  have hxx : data.extract from_ data.size = s := hx
  clear hst hx
  go_enter Try.func30, Try.ntmps30
  go_wp2_with fail
  have hfb := heap_alloc_new w (.cells #[.int .i64 0, .int .i64 0] 26)
  have hm1 : Mut [] w (w.alloc (.cells #[.int .i64 0, .int .i64 0] 26)) := (Mut.refl [] w).alloc _
  generalize w.alloc (.cells #[.int .i64 0, .int .i64 0] 26) = w1 at *
  obtain ⟨fb, hfbe⟩ : ∃ fb, w.heap.size = fb := ⟨_, rfl⟩
  rw [hfbe] at hfb
  rw [hfbe]
  have HFB := Lib.hid (And.intro hfb (And.intro hfbe hm1))
  clear hfb hfbe hm1
  refine (HO.out w1).mono ?_
  rintro e w2 ⟨rfl, rfl⟩
  clear HO
  go_upto_region 4 with fail
  have hU : UAt ((w1.alloc (.cells #[.string s, .int .i64 0] 134)).alloc (.cells #[.pointer (some ⟨w1.heap.size, 0, none⟩), .slice none 0 0, .int .i64 (m : Int), .int .i64 0] 101)) (w1.alloc (.cells #[.string s, .int .i64 0] 134)).heap.size w1.heap.size s (.slice none 0 0) m st0 := by
    refine ⟨heap_alloc_new _ _, ((Mut.refl [] _).alloc _).get (open_is s w1) (by simp), World.ownsRow_nil _ _ _ _⟩
  have hmw : Mut [] w1 ((w1.alloc (.cells #[.string s, .int .i64 0] 134)).alloc (.cells #[.pointer (some ⟨w1.heap.size, 0, none⟩), .slice none 0 0, .int .i64 (m : Int), .int .i64 0] 101)) := ((Mut.refl [] w1).alloc _).alloc _
  rw [World.size_alloc] at hU
  generalize (w1.alloc (.cells #[.string s, .int .i64 0] 134)).alloc (.cells #[.pointer (some ⟨w1.heap.size, 0, none⟩), .slice none 0 0, .int .i64 (m : Int), .int .i64 0] 101) = W at *
  have HW : Hid (W.heap[fb]? = some (.cells #[.int .i64 0, .int .i64 0] 26 (0, 0)) ∧ w.heap.size = fb ∧ fb < w1.heap.size ∧ Mut [] w W) :=
    Lib.hid ⟨hmw.get HFB.out.1 (by simp), HFB.out.2.1, lt_of_heap HFB.out.1, HFB.out.2.2.trans' hmw⟩
  generalize w1.heap.size = rb at *
  have HC : Hid (UnC W (rb + 1) rb F s m stF W) := Lib.hid ⟨_, st0, F, hU, UG.of (Mut.refl _ _), HST.out, by show 8 * s.size - 0 < F; omega, rfl, Nat.zero_le _, Nat.zero_le _⟩
  clear hU hmw HFB HST hxx hfI0 hfI1 hmI0
  generalize hb : rb + 1 = b at *
  have HBR := Lib.hid hb
  clear hb
  go_loopw [30] (fun _ wx => Hid (UnC W b rb F s m stF wx)) (fun _ wx => 8 * s.size - (intOf ((wx.cell? ⟨rb, 1, none⟩).getD undef)).toNat)
  case atStart => exact HC
  case round =>
    have HR := hrel
    clear hrel
    obtain ⟨ov, st, k, hU, hG, hun, hk, he, ht, hout⟩ := HR.out
    obtain ⟨⟨q, st2⟩, hbl⟩ : ∃ p, blockU F s m st = p := ⟨_, rfl⟩
    obtain ⟨k', rfl⟩ : ∃ k', k = k' + 1 := ⟨k - 1, by omega⟩
    rw [unpack_step k' hbl] at hun
    have hB2 : st2.out.length ≤ 1099511627776 := by
      have hx0 := hun
      cases q with
      | true =>
        have hx1 : st2 = stF := by simpa using hx0
        rw [hx1]
        exact hB
      | false =>
        have hx2 : (unpackU F k' s m st2).2 = stF := by simpa using hx0
        obtain ⟨lg, hlg⟩ := (unpack_nice F k').grow s m st2
        rw [hx2] at hlg
        have hx1 := congrArg List.length hlg
        rw [List.length_append] at hx1
        omega
    have HB := Lib.hid (ublock_any b rb F s st st2 q ov m wr hU hs' ht hm hB2 hout hF hbl)
    have HWT : Hid (intOf ((wr.cell? ⟨rb, 1, none⟩).getD undef) = (st.t : Int)) := Lib.hid (by
      have h1 : wr.cell? ⟨rb, 1, none⟩ = some (.int .i64 (st.t : Int)) := (cells2 hU.rd).2.1
      rw [h1]; rfl)
    have t2 := (block_nice F).inside s m st ht
    have o2 := (block_nice F).most s m st hout
    rw [hbl] at t2 o2
    have HG := Lib.hid hG
    have HUN := Lib.hid hun
    have HMO : Hid (q = false → st.t < st2.t ∧ st2.er = 0) := Lib.hid fun h => block_more (by rw [hbl, h]) he
    have HK := Lib.hid hk
    clear hU hG hun hk he ht hout hbl HR HC
    go_wp2_with fail
    refine HB.out.mono ?_
    rintro e w3 ⟨rfl, ov3, hu, hg⟩
    have HU3 := Lib.hid hu
    have HG3 := Lib.hid (HG.out.trans hg)
    clear hu hg HB HG
    cases q with
    | false =>
      obtain ⟨m1, m2⟩ := HMO.out rfl
      have HCN : Hid (UnC W b rb F s m stF w3) := Lib.hid ⟨ov3, st2, k', HU3.out, HG3.out, HUN.out, by have := HK.out; omega, m2, t2, o2⟩
      have HMS : Hid (8 * s.size - (intOf ((w3.cell? ⟨rb, 1, none⟩).getD undef)).toNat < 8 * s.size - (intOf ((wr.cell? ⟨rb, 1, none⟩).getD undef)).toNat) := Lib.hid (by
        have h1 : w3.cell? ⟨rb, 1, none⟩ = some (.int .i64 (st2.t : Int)) := (cells2 HU3.out.rd).2.1
        rw [h1, HWT.out]
        show 8 * s.size - ((st2.t : Int)).toNat < _
        have h2 : st2.t ≤ 8 * s.size := t2
        omega)
      clear HMO HUN HK m1 m2
      go_wp2_with fail
      exact ⟨HCN, HMS.out⟩
    | true =>
      have hF2 : st2 = stF := HUN.out
      subst hF2
      obtain ⟨c0, c1, c2, c3, f1, f3⟩ := cells4 HU3.out.box
      have HFB : Hid (w3.heap[fb]? = some (.cells #[.int .i64 0, .int .i64 0] 26 (0, 0)) ∧ Mut [] w w3) := Lib.hid (by
        have h1 := HW.out
        have h2 := HBR.out
        have hm3 : Mut [b, rb] W w3 := HG3.out.1.mono (fun x hx => .inl (by simpa [Value.ownBlock] using hx))
        refine ⟨hm3.get h1.1 (by simp; omega), h1.2.2.2.trans hm3 (fun x hx => .inr (by simp at hx; omega))⟩)
      have HTK : Hid (∀ q, Calls Try.prog 50 #[.pointer (some ⟨rb, 0, none⟩)] (w3.drewN q) fun e w' => e = .returned (.int .i64 (st2.t : Int)) ∧ w' = w3.drewN q) := Lib.hid fun q => (taken_any rb s st2.t _ (show RdIs (w3.drewN q) rb s st2.t from HU3.out.rd)).mono fun e w' ⟨h1, h2⟩ => ⟨h1, h2.symm⟩
      have HBE : Hid (w.heap.size ≤ fb) := Lib.hid (by have := HW.out.2.1; omega)
      clear HMO HUN HK HWT HG3 HW
      by_cases he2 : st2.er = 0
      case neg =>
        have hI : ((st2.er : Int) == 0) = false := by rw [beq_eq_false_iff_ne]; omega
        have hI' : ((st2.er : Int) != 0) = true := by simp [bne, hI]
        have hres : unpRes from_ st2 = .tuple #[.string ByteArray.empty, .int .i64 0, .agg #[.int .i64 (st2.er : Int), .int .i64 ((from_ + st2.t / 8 : Nat) : Int)]] := by unfold unpRes; rw [if_neg he2]
        obtain ⟨T8, hT8⟩ : ∃ T8, st2.t / 8 = T8 := ⟨_, rfl⟩
        have hq : ((st2.t : Int)).tdiv 8 = (T8 : Int) := by rw [Int.tdiv_eq_ediv_of_nonneg (by omega)]; omega
        have hT8l : T8 ≤ 140737488351232 := by have : st2.t ≤ 8 * s.size := t2; omega
        have hw8 : IntKind.i64.wrap (T8 : Int) = (T8 : Int) := IntWalk.i64_in _ (by omega)
        have hw9 : IntKind.i64.wrap ((st2.t : Int) / 8) = (T8 : Int) := by rw [show (st2.t : Int) / 8 = (T8 : Int) by omega, hw8]
        rw [hT8] at hres
        go_upto_region 6 with fail
        refine wp_region_bar 15 _ rfl (by kernel_rfl) (by kernel_rfl) ?_
        simp only [List.take_succ_cons, List.take_zero, List.drop_succ_cons, List.drop_zero]
        repeat (go_big_quiet_step ((go_at_call 50; exact (HTK.out _).mono fun e w'' ⟨he, hw⟩ => ⟨he, _, hw⟩)))
        refine wpQuiet_nil ?_
        rintro _ ⟨nq, rfl⟩ K hK
        obtain ⟨e0, e1, g0, g1⟩ := cells2 HFB.out.1
        have hh := heap_set (heap_set (show (w3.drewN nq).heap[fb]? = _ from HFB.out.1) 0 (.int .i64 (st2.er : Int))) 1 (.int .i64 ((from_ : Int) + (T8 : Int)))
        have hmm : Mut [] w (((w3.drewN nq).setCell ⟨fb, 0, none⟩ (.int .i64 (st2.er : Int))).setCell ⟨fb, 1, none⟩ (.int .i64 ((from_ : Int) + (T8 : Int)))) := (((HFB.out.2).drewN nq).setCell (.inr HBE.out) _).setCell (.inr HBE.out) _
        have HE := Lib.hid (And.intro hh hmm)
        have HRS := Lib.hid hres
        clear hh hmm hres
        go_simp
        refine hK _ _ ?_; clear hK K
        refine wpQuiet_nil ?_
        rintro _ ⟨nq2, rfl⟩
        go_wp2_with fail
        refine bodyPost_ret (results_fault (g := fb) (c0 := .int .i64 (st2.er : Int)) (c1 := .int .i64 ((from_ : Int) + (T8 : Int))) (by simpa using HE.out.1) rfl rfl rfl) rfl ⟨?_, HE.out.2.drewN nq2⟩
        rw [HRS.out, Int.natCast_add]
        rfl
      case pos =>
        have hI : ((st2.er : Int) == 0) = true := by rw [he2]; rfl
        have hI' : ((st2.er : Int) != 0) = false := by simp [bne, hI]
        have hres : unpRes from_ st2 = .tuple #[.string (strOf st2.out), .int .i64 ((from_ + (st2.t + 7) / 8 : Nat) : Int), .agg #[.int .i64 0, .int .i64 0]] := by unfold unpRes; rw [if_pos he2]
        obtain ⟨T8, hT8⟩ : ∃ T8, (st2.t + 7) / 8 = T8 := ⟨_, rfl⟩
        have htl : st2.t ≤ 1125899906809856 := by have : st2.t ≤ 8 * s.size := t2; omega
        have hq : ((st2.t : Int) + 7).tdiv 8 = (T8 : Int) := by rw [Int.tdiv_eq_ediv_of_nonneg (by omega)]; omega
        have hT8l : T8 ≤ 140737488351233 := by have : st2.t ≤ 8 * s.size := t2; omega
        have hw8 : IntKind.i64.wrap (T8 : Int) = (T8 : Int) := IntWalk.i64_in _ (by omega)
        have hw9 : IntKind.i64.wrap (((st2.t : Int) + 7) / 8) = (T8 : Int) := by rw [show ((st2.t : Int) + 7) / 8 = (T8 : Int) by omega, hw8]
        rw [hT8] at hres
        obtain ⟨ao, cap, rfl⟩ := row_form HU3.out.row
        have hc : ∀ q, (convert 54 9 (.slice ao st2.out.length cap)).run Try.prog (w3.drewN q) = .ok (.string (strOf st2.out)) (w3.drewN q) := by
          intro q
          have h : (w3.drewN q).ownsRow 0 5 1 (.slice ao st2.out.length cap) st2.out.length ((st2.out.map fun n : Nat => (n : Int)).map (Value.int .u8)) := by rw [List.map_map]; exact (HU3.out.mut ((Mut.refl [] w3).drewN q) (by simp) (by simp) (by simp)).row
          rw [conv_row Try.underlying54 Try.underlying5 Try.underlying9 h]
          simp only [List.map_map]
          rfl
        go_upto_region 7 with fail
        refine wp_region_bar 17 _ rfl (by kernel_rfl) (by kernel_rfl) ?_
        simp only [List.take_succ_cons, List.take_zero, List.drop_succ_cons, List.drop_zero]
        repeat (go_big_quiet_step ((go_at_call 50; exact (HTK.out _).mono fun e w'' ⟨he, hw⟩ => ⟨he, _, hw⟩)))
        refine wpQuiet_nil ?_
        rintro _ ⟨nq, rfl⟩ K hK
        obtain ⟨e0, e1, g0, g1⟩ := cells2 HFB.out.1
        have hh := heap_set (heap_set (show (w3.drewN nq).heap[fb]? = _ from HFB.out.1) 0 (.int .i64 0)) 1 (.int .i64 0)
        have hmm : Mut [] w (((w3.drewN nq).setCell ⟨fb, 0, none⟩ (.int .i64 0)).setCell ⟨fb, 1, none⟩ (.int .i64 0)) := (((HFB.out.2).drewN nq).setCell (.inr HBE.out) _).setCell (.inr HBE.out) _
        have HE := Lib.hid (And.intro hh hmm)
        have HRS := Lib.hid hres
        clear hh hmm hres
        go_simp
        refine hK _ _ ?_; clear hK K
        refine wpQuiet_nil ?_
        rintro _ ⟨nq2, rfl⟩
        go_wp2_with fail
        refine bodyPost_ret (results_fault (g := fb) (c0 := .int .i64 0) (c1 := .int .i64 0) (by simpa using HE.out.1) rfl rfl rfl) rfl ⟨?_, HE.out.2.drewN nq2⟩
        rw [HRS.out, Int.natCast_add]
        rfl

theorem unpack_any (data s : ByteArray) (from_ m F : Nat) (w : World) (hs : data.size ≤ 140737488351232) (hf : from_ ≤ data.size) (hx : data.extract from_ data.size = s) (hm : m ≤ 1073741824) (hF : 8 * s.size < F) (fI mI : Int) (hfI : fI = (from_ : Int)) (hmI : mI = (m : Int)) :
    Calls Try.prog 30 #[.string data, .int .i64 fI, .int .i64 mI] w fun e w' => e = .returned (unpRes from_ (runU F s m)) ∧ Mut [] w w' :=
  unpack_wide data s from_ m F w hs hf hx (by omega) (by have := run_most F s m; omega) hF fI mI hfI hmI

end Go.Proofs.Ytgjcnembeebjfaa
