/- Walks over package inflate: the symbols of a block. -/
import Derived.Test.YtgjcnembeebjfaaInfW5
namespace Go.Proofs.Ytgjcnembeebjfaa
open Go.RowKit
set_option linter.unusedVariables false

theorem ucopied_any (b rb lo hi tb : Nat) (d : List Nat) (s : ByteArray) (st st' : US) (sym : Nat) (ov : Value) (m : Nat) (w : World) (h : UAt w b rb s ov m st) (hT : TabOf w lo hi tb b rb d) (hs : s.size ≤ 140737488351232) (ht : st.t ≤ 8 * s.size) (he : st.er = 0)
    (hm : m ≤ 9223372036854775807) (hB : st.out.length ≤ 1099511627776) (hout : st.out.length ≤ m) (hu : (copiedU sym d s m st).2 = st') :
    Calls Try.prog 92 #[.pointer (some ⟨b, 0, none⟩), .int .i64 (sym : Int), .pointer (some ⟨tb, 0, none⟩)] w fun e w' => e = .returned (.tuple #[]) ∧ ∃ ov', UAt w' b rb s ov' m st' ∧ UG w w' b rb ov ov' := by
  by_cases h1 : 257 ≤ sym ∧ sym ≤ 285
  · exact ucopied_good b rb lo hi tb d s st sym ov m w h hT hs ht he hm hB hout h1.1 h1.2 st' hu
  · unfold copiedU at hu
    rw [if_neg h1] at hu
    have hf : failU true 5 s m st = (true, st') := by
      rw [← hu]
      simp [UM.bind, UM.ret, failU, he]
    exact (ucopied_bad b rb s st st' sym _ ov m w h (by omega) true hf).mono fun e w' ⟨q1, q2, q3⟩ => ⟨q1, ov, q2, UG.of q3⟩

theorem nextRes_pos (ls : List Nat) (v th : Nat) (h : (nextRes ls v th).2.2 = 0) : 1 ≤ (nextRes ls v th).2.1 := by
  unfold nextRes at h ⊢
  simp only at h ⊢
  by_cases h1 : 0 < (found ls ls.length v).2 ∧ (found ls ls.length v).2 ≤ th
  · rw [if_pos h1]; exact h1.1
  · rw [if_neg h1] at h
    split at h <;> cases h

theorem next_more {ls : List Nat} {s : ByteArray} {m : Nat} {st st' : US} {x : Nat} (h : nextU ls s m st = (x, st')) (he : st'.er = 0) : st.t < st'.t := by
  unfold nextU at h
  split at h
  · rename_i h1
    obtain ⟨rfl, rfl⟩ := Prod.mk.inj h
    exact absurd he h1
  · obtain ⟨rfl, rfl⟩ := Prod.mk.inj h
    have := nextRes_pos _ _ _ he
    show st.t < st.t + _
    omega

/-- what a round comes to -/
theorem symbols_step (l d : List Nat) (k : Nat) (s : ByteArray) (m : Nat) (st st1 : US) (sym : Nat) (hn : nextU l s m st = (sym, st1)) :
    (st1.er ≠ 0 → (symbolsU l d (k + 1) s m st).2 = st1) ∧ (sym = 256 → (symbolsU l d (k + 1) s m st).2 = st1) ∧
    (st1.er = 0 → sym ≠ 256 → ((symbolU sym d s m st1).2.er ≠ 0 → (symbolsU l d (k + 1) s m st).2 = (symbolU sym d s m st1).2) ∧ ((symbolU sym d s m st1).2.er = 0 → (symbolsU l d (k + 1) s m st).2 = (symbolsU l d k s m (symbolU sym d s m st1).2).2)) := by
  have e : symbolsU l d (k + 1) s m st = (if (decide (st1.er ≠ 0) || decide (sym = 256)) = true then UM.ret () else
      (symbolU sym d).bind fun _ => errU.bind fun e => if e = true then UM.ret () else symbolsU l d k) s m st1 := by
    rw [symbolsU]
    simp only [UM.bind, hn, errU]
  rw [e]
  refine ⟨fun h => ?_, fun h => ?_, fun h1 h2 => ⟨fun h => ?_, fun h => ?_⟩⟩
  · rw [decide_eq_true h, Bool.true_or, if_pos rfl]; rfl
  · rw [decide_eq_true h, Bool.or_true, if_pos rfl]; rfl
  · rw [decide_eq_false (by simpa using h1), decide_eq_false h2, if_neg (by decide)]
    simp only [UM.bind, errU]
    show ((if decide ((symbolU sym d s m st1).2.er ≠ 0) = true then UM.ret () else symbolsU l d k) s m (symbolU sym d s m st1).2).2 = _
    have hd : decide ((symbolU sym d s m st1).2.er ≠ 0) = true := decide_eq_true h
    split
    · rfl
    · rename_i hn; exact absurd hd hn
  · rw [decide_eq_false (by simpa using h1), decide_eq_false h2, if_neg (by decide)]
    simp only [UM.bind, errU]
    show ((if decide ((symbolU sym d s m st1).2.er ≠ 0) = true then UM.ret () else symbolsU l d k) s m (symbolU sym d s m st1).2).2 = _
    have hd : decide ((symbolU sym d s m st1).2.er ≠ 0) = false := decide_eq_false (by simpa using h)
    split
    · rename_i hn; rw [hd] at hn; cases hn
    · rfl

theorem jump_norm (l : Nat) (J : Act → World → Prop) (Q : Exit → Act → World → Prop) (a : Act) (w : World) : Exit.jump l J Q .normal a w = Q .normal a w := rfl

/-- what holds at the jump back -/
def SymJ (b lb db : Nat) (C : World → Prop) (a' : Act) (w' : World) : Prop :=
  ∃ (u3 u4 u5 u6 u7 u8 u9 u10 u11 u12 u13 u14 u15 u16 u17 u18 u19 u20 u21 u22 u23 u24 u25 u26 u27 u28 u29 u30 u31 u32 u33 u34 u35 u36 u37 u38 u39 u40 u41 u42 u43 u44 u45 u46 u47 u48 u49 u50 u51 u52 u53 u54 u55 u56 : Value), a' = { tmps := #[.pointer (some ⟨b, 0, none⟩), .pointer (some ⟨lb, 0, none⟩), .pointer (some ⟨db, 0, none⟩), u3, u4, u5, u6, u7, u8, u9, u10, u11, u12, u13, u14, u15, u16, u17, u18, u19, u20, u21, u22, u23, u24, u25, u26, u27, u28, u29, u30, u31, u32, u33, u34, u35, u36, u37, u38, u39, u40, u41, u42, u43, u44, u45, u46, u47, u48, u49, u50, u51, u52, u53, u54, u55, u56], defers := [] } ∧ C w'

/-- .. and what it has come to -/
def SymC (w0 : World) (b rb : Nat) (s : ByteArray) (m : Nat) (l d : List Nat) (ov0 : Value) (st' : US) (w : World) : Prop :=
  ∃ (ov : Value) (st : US) (k : Nat), UAt w b rb s ov m st ∧ UG w0 w b rb ov0 ov ∧ (symbolsU l d k s m st).2 = st' ∧ 8 * s.size - st.t < k ∧ st.er = 0 ∧ st.t ≤ 8 * s.size ∧ st.out.length ≤ m

set_option maxHeartbeats 3200000 in
set_option maxRecDepth 100000 in
theorem usymbols_any (b rb lo hi lb db : Nat) (l d : List Nat) (s : ByteArray) (st st' : US) (ov : Value) (m k : Nat) (w : World) (h : UAt w b rb s ov m st) (hl : TabOf w lo hi lb b rb l) (hd : TabOf w lo hi db b rb d) (hov : ∀ g, ov.ownBlock = some g → g < lo ∨ hi ≤ g)
    (hs : s.size ≤ 140737488351232) (ht : st.t ≤ 8 * s.size) (he : st.er = 0) (hm : m ≤ 9223372036854775807) (hB : st'.out.length ≤ 1099511627776) (hout : st.out.length ≤ m) (hk : 8 * s.size - st.t < k) (hu : (symbolsU l d k s m st).2 = st') :
    Calls Try.prog 71 #[.pointer (some ⟨b, 0, none⟩), .pointer (some ⟨lb, 0, none⟩), .pointer (some ⟨db, 0, none⟩)] w fun e w' => e = .returned (.tuple #[]) ∧ ∃ ov', UAt w' b rb s ov' m st' ∧ UG w w' b rb ov ov' := by
  have HC : Hid (SymC w b rb s m l d ov st' w) := Lib.hid ⟨ov, st, k, h, UG.of (Mut.refl _ _), hu, hk, he, ht, hout⟩
  have HL : Hid (∀ w' ov', UG w w' b rb ov ov' → TabOf w' lo hi lb b rb l ∧ TabOf w' lo hi db b rb d) := Lib.hid fun w' ov' hG => by
    have hx : ∀ x, x ∈ b :: rb :: ov.ownBlock.toList → x < lo ∨ hi ≤ x := by
      intro x hx
      simp only [List.mem_cons, Option.mem_toList] at hx
      rcases hx with rfl | rfl | hx
      · exact hl.nb
      · exact hl.nr
      · exact hov x hx
    exact ⟨hl.mut hG.1 hx, hd.mut hG.1 hx⟩
  clear h hl hd hov ht he hout hk hu
  go_enter Try.func71, Try.ntmps71
  go_wp2_with fail
  refine wp_scope_jumps 0 (SymJ b lb db (fun w' => Hid (SymC w b rb s m l d ov st' w'))) (fun _ w' => 8 * s.size - (intOf ((w'.cell? ⟨rb, 1, none⟩).getD undef)).toNat) rfl ?_ ?_
  · obtain ⟨ov1, st1, k, hU, hG, hf, hk, he, ht, hout⟩ := HC.out
    have hT := HL.out w ov1 hG
    obtain ⟨⟨sym, st2⟩, hn⟩ : ∃ p, nextU l s m st1 = p := ⟨_, rfl⟩
    obtain ⟨k', rfl⟩ : ∃ k', k = k' + 1 := ⟨k - 1, by omega⟩
    obtain ⟨q1, q2, q3⟩ := symbols_step l d k' s m st1 st2 sym hn
    rw [hf] at q1 q2 q3
    have HN := Lib.hid (unext_any b rb lo hi lb l s st1 st2 sym ov1 m w hU hT.1 hs ht hn)
    have HMO : Hid (st2.er = 0 → st1.t < st2.t) := Lib.hid (next_more hn)
    have hno := next_out hn
    have hin := nx_inside hT.1.good hn ht
    have ho2 : st2.out.length ≤ m := by rw [hno]; exact hout
    have hB2 : st2.out.length ≤ 1099511627776 := by
      obtain ⟨lg, hlg⟩ := (symbols_nice l d hT.1.good hT.2.good (k' + 1)).grow s m st1
      rw [hf] at hlg
      have hx1 := congrArg List.length hlg
      rw [List.length_append] at hx1
      rw [hno]
      omega
    have HG := Lib.hid hG
    have HWT : Hid (intOf ((w.cell? ⟨rb, 1, none⟩).getD undef) = (st1.t : Int)) := Lib.hid (by
      have h1 : w.cell? ⟨rb, 1, none⟩ = some (.int .i64 (st1.t : Int)) := (cells2 hU.rd).2.1
      rw [h1]; rfl)
    have Q1 := Lib.hid q1
    have Q2 := Lib.hid q2
    have Q3 := Lib.hid q3
    have HK := Lib.hid hk
    clear hU hG hf hk he ht hout hT hn q1 q2 q3 hno HC
    go_wp2_with (first | go_step3 | fail)
    refine HN.out.mono ?_
    rintro e w2 ⟨rfl, hu, hm2⟩
    have HU2 := Lib.hid hu
    have HG2 := Lib.hid (HG.out.trans (UG.of hm2))
    clear hu hm2 HN HG
    by_cases he2 : st2.er = 0
    case neg =>
      obtain ⟨c0, c1, c2, c3, f1, f3⟩ := cells4 HU2.out.box
      have hI : ((st2.er : Int) == 0) = false := by rw [beq_eq_false_iff_ne]; omega
      have hI' : ((st2.er : Int) != 0) = true := by simp [bne, hI]
      have HE := Lib.hid (Q1.out he2)
      clear Q1 Q2 Q3
      go_wp2_with (first | go_step3 | fail)
      rw [jump_ret]
      refine bodyPost_ret (results_none rfl _ _ _) rfl ⟨rfl, ov1, ?_, HG2.out⟩
      rw [HE.out]
      exact HU2.out
    case pos =>
      obtain ⟨t2, o2, er2⟩ := st2
      simp only at he2
      subst he2
      have HM2 : Hid (st1.t < t2) := Lib.hid (HMO.out rfl)
      clear HMO
      obtain ⟨c0, c1, c2, c3, f1, f3⟩ := cellsU HU2.out.box
      by_cases h256 : sym = 256
      case pos =>
        subst h256
        have HE := Lib.hid (Q2.out rfl)
        clear Q1 Q2 Q3
        go_wp2_with (first | go_step3 | fail)
        rw [jump_ret]
        refine bodyPost_ret (results_none rfl _ _ _) rfl ⟨rfl, ov1, ?_, HG2.out⟩
        rw [HE.out]
        exact HU2.out
      case neg =>
        have h256I : ((sym : Int) == 256) = false := by rw [beq_eq_false_iff_ne]; omega
        obtain ⟨q3, q4⟩ := Q3.out rfl h256
        have Q5 := Lib.hid q3
        have Q6 := Lib.hid q4
        clear Q1 Q2 Q3 q3 q4
        by_cases hgt : 256 < sym
        case pos =>
          have hgtI : (256 : Int) < (sym : Int) := by omega
          have hsy : symbolU sym d = copiedU sym d := by unfold symbolU; rw [if_pos hgt]
          obtain ⟨st3, h3⟩ : ∃ st3, (copiedU sym d s m ⟨t2, o2, 0⟩).2 = st3 := ⟨_, rfl⟩
          rw [hsy, h3] at Q5 Q6
          have hT := (HL.out w2 ov1 HG2.out).2
          have hI3 := (copied_nice sym d hT.good).inside s m ⟨t2, o2, 0⟩ hin
          have hM3 := (copied_nice sym d hT.good).most s m ⟨t2, o2, 0⟩ ho2
          have hF3 := (copied_nice sym d hT.good).fwd s m ⟨t2, o2, 0⟩
          rw [h3] at hI3 hM3 hF3
          have HCP := Lib.hid (ucopied_any b rb lo hi db d s ⟨t2, o2, 0⟩ st3 sym ov1 m w2 HU2.out hT hs hin rfl hm hB2 ho2 h3)
          have HF3 := Lib.hid hF3
          clear hT hsy h3 hF3 c0 c1 c2 f1 f3
          go_wp2_with (first | go_step3 | fail)
          refine HCP.out.mono ?_
          rintro e w3 ⟨rfl, ov3, hu, hg⟩
          have HU3 := Lib.hid hu
          have HG3 := Lib.hid (HG2.out.trans hg)
          obtain ⟨c0, c1, c2, c3, f1, f3⟩ := cells4 HU3.out.box
          clear hu hg HCP
          by_cases he3 : st3.er = 0
          case neg =>
            have hI : ((st3.er : Int) == 0) = false := by rw [beq_eq_false_iff_ne]; omega
            have HE := Lib.hid (Q5.out he3)
            clear Q5 Q6
            go_wp2_with (first | go_step3 | fail)
            rw [jump_norm]
            go_end0
            refine ⟨rfl, ov3, ?_, HG3.out⟩
            rw [HE.out]
            exact HU3.out
          case pos =>
            have HCN : Hid (SymC w b rb s m l d ov st' w3) := Lib.hid ⟨ov3, st3, k', HU3.out, HG3.out, (Q6.out he3).symm, by have := HK.out; have := HM2.out; have := HF3.out; omega, he3, hI3, hM3⟩
            have HMS : Hid (8 * s.size - (intOf ((w3.cell? ⟨rb, 1, none⟩).getD undef)).toNat < 8 * s.size - (intOf ((w.cell? ⟨rb, 1, none⟩).getD undef)).toNat) := Lib.hid (by
              have h1 : w3.cell? ⟨rb, 1, none⟩ = some (.int .i64 (st3.t : Int)) := (cells2 HU3.out.rd).2.1
              rw [h1, HWT.out]
              show 8 * s.size - ((st3.t : Int)).toNat < _
              have := HM2.out
              have := HF3.out
              have := hI3
              omega)
            have hI : ((st3.er : Int) == 0) = true := by rw [he3]; rfl
            clear Q5 Q6 he3 hI3 hM3
            go_wp2_with (first | go_step3 | fail)
            refine ⟨rfl, ?_⟩
            (repeat apply Exists.intro)
            exact ⟨rfl, HCN⟩
        case neg =>
          have hgtI : ¬ (256 : Int) < (sym : Int) := by omega
          have hsy : symbolU sym d = (longU 1).bind fun b => if b = true then UM.ret () else pushU [sym] := by unfold symbolU; rw [if_neg hgt]
          obtain ⟨ao, cap, rfl⟩ := row_form HU2.out.row
          by_cases hfull : m ≤ o2.length
          case pos =>
            have hfD : decide (m ≤ o2.length) = true := decide_eq_true hfull
            have h3 : (symbolU sym d s m ⟨t2, o2, 0⟩).2 = ⟨t2, o2, 2⟩ := by
              rw [hsy]
              simp [UM.bind, longU, failU, UM.ret, show m < o2.length + 1 by omega]
            rw [h3] at Q5 Q6
            have HE := Lib.hid (Q5.out (show (2 : Nat) ≠ 0 by decide))
            have HFB : Hid (∀ q, Calls Try.prog 90 #[.pointer (some ⟨b, 0, none⟩), .bool true, .int .i64 2] (w2.drewN q) fun e w' => e = .returned (.bool true) ∧ UIs w' b rb s t2 (.slice ao o2.length cap) o2 m 2 ∧ Mut [b] (w2.drewN q) w') :=
              Lib.hid (fun q => ufail_yes b rb s t2 _ o2 m 2 2 (w2.drewN q) (HU2.out.mut ((Mut.refl [] w2).drewN q) (by simp) (by simp) (by simp)) rfl (by decide))
            clear Q5 Q6 hsy h3
            go_wp2_with (first | go_step3 | fail)
            refine wp_region_bar 11 _ rfl (by kernel_rfl) (by kernel_rfl) ?_
            simp only [List.take_succ_cons, List.take_zero, List.drop_succ_cons, List.drop_zero]
            repeat (go_big_quiet_step (fail))
            refine wpQuiet_nil ?_
            rintro _ ⟨nq, rfl⟩ K hK
            go_simp
            go_at_call 90
            refine (HFB.out _).mono ?_
            rintro e w3 ⟨rfl, hu, hm3⟩
            have HU3 := Lib.hid hu
            have HG3 := Lib.hid (HG2.out.trans (UG.of ((((Mut.refl _ w2).drewN nq).trans' hm3).mono (T := [b, rb]) (by simp))))
            clear hu hm3
            go_simp
            refine hK _ _ ?_; clear hK K
            repeat (go_big_quiet_step (fail))
            refine wpQuiet_nil ?_
            rintro _ ⟨nq2, rfl⟩
            have HU4 : Hid (UIs (w3.drewN nq2) b rb s t2 (.slice ao o2.length cap) o2 m 2) := Lib.hid (HU3.out.mut ((Mut.refl [] w3).drewN nq2) (by simp) (by simp) (by simp))
            have HG4 := Lib.hid (HG3.out.trans (UG.of ((Mut.refl _ w3).drewN nq2)))
            generalize w3.drewN nq2 = w4 at *
            obtain ⟨c0, c1, c2, c3, f1, f3⟩ := cells4 HU4.out.box
            go_wp2_with (first | go_step3 | fail)
            rw [jump_norm]
            go_end0
            refine ⟨rfl, _, ?_, HG4.out⟩
            rw [HE.out]
            exact HU4.out
          case neg =>
            have hfD : decide (m ≤ o2.length) = false := decide_eq_false hfull
            have h3 : (symbolU sym d s m ⟨t2, o2, 0⟩).2 = ⟨t2, o2 ++ [sym], 0⟩ := by
              rw [hsy]
              simp [UM.bind, longU, failU, pushU, show ¬ m < o2.length + 1 by omega]
            rw [h3] at Q5 Q6
            have HE := Lib.hid (Q6.out rfl)
            have HFN : Hid (∀ q, Calls Try.prog 90 #[.pointer (some ⟨b, 0, none⟩), .bool false, .int .i64 2] (w2.drewN q) fun e w' => e = .returned (.bool false) ∧ w' = w2.drewN q) :=
              Lib.hid (fun q => (ufail_no b rb s t2 _ o2 m 2 (w2.drewN q) (HU2.out.mut ((Mut.refl [] w2).drewN q) (by simp) (by simp) (by simp))).mono fun e w' ⟨h1, h2⟩ => ⟨h1, h2.symm⟩)
            have hlt : (sym : Int) < 256 := by omega
            have hlt0 : (0 : Int) ≤ (sym : Int) := by omega
            clear Q5 Q6 hsy h3
            go_wp2_with (first | go_step3 | fail)
            go_quiet ((go_at_call 90; exact (HFN.out _).mono fun e w'' ⟨he, hw⟩ => ⟨he, _, hw⟩))
            have HU3 : Hid (UIs (w2.drewN nq) b rb s t2 (.slice ao o2.length cap) o2 m 0) := Lib.hid (HU2.out.mut ((Mut.refl [] w2).drewN nq) (by simp) (by simp) (by simp))
            have HG3 := Lib.hid (HG2.out.trans (UG.of ((Mut.refl _ w2).drewN nq)))
            generalize w2.drewN nq = w3 at *
            obtain ⟨c0, c1, c2, c3, f1, f3⟩ := cellsU HU3.out.box
            have hm0 : Mut [] w3 (w3.alloc (.cells #[.int .u8 (sym : Int)] 5 (0, 0))) := (Mut.refl [] w3).alloc _
            have hnew : (w3.alloc (.cells #[.int .u8 (sym : Int)] 5 (0, 0))).heap[w3.heap.size]? = some (.cells #[.int .u8 (sym : Int)] 5 (0, 0)) := heap_alloc_new w3 _
            have hUa : UIs (w3.alloc (.cells #[.int .u8 (sym : Int)] 5 (0, 0))) b rb s t2 (.slice ao o2.length cap) o2 m 0 := HU3.out.mut hm0 (by simp) (by simp) (by simp)
            obtain ⟨i0, hi, hz0, hz1, hz2⟩ := info_parts info_u8r
            have hol : o2.length < 1099511627777 := by omega
            have HUa := Lib.hid hUa
            have HNW := Lib.hid hnew
            clear HFN HU2 HG2 hUa hnew
            go_wp2_with (first | go_step3 | (at_builtin; refine wp_app rfl (.tmp 45) (.tmp 48) 54 54 rfl 5 i0 (.int .u8 0) 1 1 Try.underlying54 hi hz0 hz1 hz2 rfl HUa.out.row rfl (src1 Try.underlying54 HNW.out rfl (one1 rfl)) rfl (by unfold maxLen; omega) (by omega) ?_))
            intro v' w' r1 r2 r3
            have hap := HUa.out.appended v' [sym] 1 rfl r1 r2
            have hb5 : w'.heap[b]? = _ := ((Mut.refl (Value.slice ao o2.length cap).ownBlock.toList _).grown r2 (by intro g hg; simp [hg])).get HUa.out.box (by simpa using HUa.out.ne.2.1)
            obtain ⟨ap, ac, rfl⟩ := row_form r1
            have hG5 : UG w3 (w'.setCell ⟨b, 1, none⟩ (.slice ap (o2.length + 1) ac)) b rb (.slice ao o2.length cap) (.slice ap (o2.length + 1) ac) := by
              refine ⟨(hm0.mono (by simp)).trans' (hap.2.mono (fun y hy => .inl ?_)), fun g' hg' => ?_⟩
              · simp only [List.mem_cons] at hy ⊢
                rcases hy with h | h
                · exact .inl h
                · exact .inr (.inr h)
              · rcases r3 g' hg' with h | h
                · exact .inl h
                · exact .inr (by omega)
            have HAP := Lib.hid hap.1
            have HG5 := Lib.hid (HG3.out.trans hG5)
            clear r1 r2 r3 hap hm0 hi hz0 hz1 hz2 hG5 c0 c1 c2 c3 f1 f3
            obtain ⟨c0, c1, c2, c3, f1, f3⟩ := cellsU hb5
            clear hb5
            have HCN : Hid (SymC w b rb s m l d ov st' (w'.setCell ⟨b, 1, none⟩ (.slice ap (o2.length + 1) ac))) := Lib.hid ⟨_, ⟨t2, o2 ++ [sym], 0⟩, k', HAP.out, HG5.out, HE.out.symm, by have := HK.out; have := HM2.out; show 8 * s.size - t2 < k'; omega, rfl, hin, by rw [List.length_append]; show o2.length + 1 ≤ m; omega⟩
            have HMS : Hid (8 * s.size - (intOf (((w'.setCell ⟨b, 1, none⟩ (.slice ap (o2.length + 1) ac)).cell? ⟨rb, 1, none⟩).getD undef)).toNat < 8 * s.size - (intOf ((w.cell? ⟨rb, 1, none⟩).getD undef)).toNat) := Lib.hid (by
              have h1 : (w'.setCell ⟨b, 1, none⟩ (.slice ap (o2.length + 1) ac)).cell? ⟨rb, 1, none⟩ = some (.int .i64 (t2 : Int)) := (cells2 HAP.out.rd).2.1
              rw [h1, HWT.out]
              show 8 * s.size - ((t2 : Int)).toNat < _
              have := HM2.out
              have := hin
              omega)
            go_wp2_with (first | go_step3 | fail)
            refine ⟨rfl, ?_⟩
            (repeat apply Exists.intro)
            exact ⟨rfl, HCN⟩
  · intro a1 W hJ
    obtain ⟨u3, u4, u5, u6, u7, u8, u9, u10, u11, u12, u13, u14, u15, u16, u17, u18, u19, u20, u21, u22, u23, u24, u25, u26, u27, u28, u29, u30, u31, u32, u33, u34, u35, u36, u37, u38, u39, u40, u41, u42, u43, u44, u45, u46, u47, u48, u49, u50, u51, u52, u53, u54, u55, u56, rfl, HC⟩ := hJ
    obtain ⟨ov1, st1, k, hU, hG, hf, hk, he, ht, hout⟩ := HC.out
    have hT := HL.out W ov1 hG
    obtain ⟨⟨sym, st2⟩, hn⟩ : ∃ p, nextU l s m st1 = p := ⟨_, rfl⟩
    obtain ⟨k', rfl⟩ : ∃ k', k = k' + 1 := ⟨k - 1, by omega⟩
    obtain ⟨q1, q2, q3⟩ := symbols_step l d k' s m st1 st2 sym hn
    rw [hf] at q1 q2 q3
    have HN := Lib.hid (unext_any b rb lo hi lb l s st1 st2 sym ov1 m W hU hT.1 hs ht hn)
    have HMO : Hid (st2.er = 0 → st1.t < st2.t) := Lib.hid (next_more hn)
    have hno := next_out hn
    have hin := nx_inside hT.1.good hn ht
    have ho2 : st2.out.length ≤ m := by rw [hno]; exact hout
    have hB2 : st2.out.length ≤ 1099511627776 := by
      obtain ⟨lg, hlg⟩ := (symbols_nice l d hT.1.good hT.2.good (k' + 1)).grow s m st1
      rw [hf] at hlg
      have hx1 := congrArg List.length hlg
      rw [List.length_append] at hx1
      rw [hno]
      omega
    have HG := Lib.hid hG
    have HWT : Hid (intOf ((W.cell? ⟨rb, 1, none⟩).getD undef) = (st1.t : Int)) := Lib.hid (by
      have h1 : W.cell? ⟨rb, 1, none⟩ = some (.int .i64 (st1.t : Int)) := (cells2 hU.rd).2.1
      rw [h1]; rfl)
    have Q1 := Lib.hid q1
    have Q2 := Lib.hid q2
    have Q3 := Lib.hid q3
    have HK := Lib.hid hk
    clear hU hG hf hk he ht hout hT hn q1 q2 q3 hno HC
    go_wp2_with (first | go_step3 | fail)
    refine HN.out.mono ?_
    rintro e w2 ⟨rfl, hu, hm2⟩
    have HU2 := Lib.hid hu
    have HG2 := Lib.hid (HG.out.trans (UG.of hm2))
    clear hu hm2 HN HG
    by_cases he2 : st2.er = 0
    case neg =>
      obtain ⟨c0, c1, c2, c3, f1, f3⟩ := cells4 HU2.out.box
      have hI : ((st2.er : Int) == 0) = false := by rw [beq_eq_false_iff_ne]; omega
      have hI' : ((st2.er : Int) != 0) = true := by simp [bne, hI]
      have HE := Lib.hid (Q1.out he2)
      clear Q1 Q2 Q3
      go_wp2_with (first | go_step3 | fail)
      rw [jump_ret]
      refine bodyPost_ret (results_none rfl _ _ _) rfl ⟨rfl, ov1, ?_, HG2.out⟩
      rw [HE.out]
      exact HU2.out
    case pos =>
      obtain ⟨t2, o2, er2⟩ := st2
      simp only at he2
      subst he2
      have HM2 : Hid (st1.t < t2) := Lib.hid (HMO.out rfl)
      clear HMO
      obtain ⟨c0, c1, c2, c3, f1, f3⟩ := cellsU HU2.out.box
      by_cases h256 : sym = 256
      case pos =>
        subst h256
        have HE := Lib.hid (Q2.out rfl)
        clear Q1 Q2 Q3
        go_wp2_with (first | go_step3 | fail)
        rw [jump_ret]
        refine bodyPost_ret (results_none rfl _ _ _) rfl ⟨rfl, ov1, ?_, HG2.out⟩
        rw [HE.out]
        exact HU2.out
      case neg =>
        have h256I : ((sym : Int) == 256) = false := by rw [beq_eq_false_iff_ne]; omega
        obtain ⟨q3, q4⟩ := Q3.out rfl h256
        have Q5 := Lib.hid q3
        have Q6 := Lib.hid q4
        clear Q1 Q2 Q3 q3 q4
        by_cases hgt : 256 < sym
        case pos =>
          have hgtI : (256 : Int) < (sym : Int) := by omega
          have hsy : symbolU sym d = copiedU sym d := by unfold symbolU; rw [if_pos hgt]
          obtain ⟨st3, h3⟩ : ∃ st3, (copiedU sym d s m ⟨t2, o2, 0⟩).2 = st3 := ⟨_, rfl⟩
          rw [hsy, h3] at Q5 Q6
          have hT := (HL.out w2 ov1 HG2.out).2
          have hI3 := (copied_nice sym d hT.good).inside s m ⟨t2, o2, 0⟩ hin
          have hM3 := (copied_nice sym d hT.good).most s m ⟨t2, o2, 0⟩ ho2
          have hF3 := (copied_nice sym d hT.good).fwd s m ⟨t2, o2, 0⟩
          rw [h3] at hI3 hM3 hF3
          have HCP := Lib.hid (ucopied_any b rb lo hi db d s ⟨t2, o2, 0⟩ st3 sym ov1 m w2 HU2.out hT hs hin rfl hm hB2 ho2 h3)
          have HF3 := Lib.hid hF3
          clear hT hsy h3 hF3 c0 c1 c2 f1 f3
          go_wp2_with (first | go_step3 | fail)
          refine HCP.out.mono ?_
          rintro e w3 ⟨rfl, ov3, hu, hg⟩
          have HU3 := Lib.hid hu
          have HG3 := Lib.hid (HG2.out.trans hg)
          obtain ⟨c0, c1, c2, c3, f1, f3⟩ := cells4 HU3.out.box
          clear hu hg HCP
          by_cases he3 : st3.er = 0
          case neg =>
            have hI : ((st3.er : Int) == 0) = false := by rw [beq_eq_false_iff_ne]; omega
            have HE := Lib.hid (Q5.out he3)
            clear Q5 Q6
            go_wp2_with (first | go_step3 | fail)
            rw [jump_norm]
            go_end0
            refine ⟨rfl, ov3, ?_, HG3.out⟩
            rw [HE.out]
            exact HU3.out
          case pos =>
            have HCN : Hid (SymC w b rb s m l d ov st' w3) := Lib.hid ⟨ov3, st3, k', HU3.out, HG3.out, (Q6.out he3).symm, by have := HK.out; have := HM2.out; have := HF3.out; omega, he3, hI3, hM3⟩
            have HMS : Hid (8 * s.size - (intOf ((w3.cell? ⟨rb, 1, none⟩).getD undef)).toNat < 8 * s.size - (intOf ((W.cell? ⟨rb, 1, none⟩).getD undef)).toNat) := Lib.hid (by
              have h1 : w3.cell? ⟨rb, 1, none⟩ = some (.int .i64 (st3.t : Int)) := (cells2 HU3.out.rd).2.1
              rw [h1, HWT.out]
              show 8 * s.size - ((st3.t : Int)).toNat < _
              have := HM2.out
              have := HF3.out
              have := hI3
              omega)
            have hI : ((st3.er : Int) == 0) = true := by rw [he3]; rfl
            clear Q5 Q6 he3 hI3 hM3
            go_wp2_with (first | go_step3 | fail)
            refine ⟨rfl, ?_, HMS.out⟩
            (repeat apply Exists.intro)
            exact ⟨rfl, HCN⟩
        case neg =>
          have hgtI : ¬ (256 : Int) < (sym : Int) := by omega
          have hsy : symbolU sym d = (longU 1).bind fun b => if b = true then UM.ret () else pushU [sym] := by unfold symbolU; rw [if_neg hgt]
          obtain ⟨ao, cap, rfl⟩ := row_form HU2.out.row
          by_cases hfull : m ≤ o2.length
          case pos =>
            have hfD : decide (m ≤ o2.length) = true := decide_eq_true hfull
            have h3 : (symbolU sym d s m ⟨t2, o2, 0⟩).2 = ⟨t2, o2, 2⟩ := by
              rw [hsy]
              simp [UM.bind, longU, failU, UM.ret, show m < o2.length + 1 by omega]
            rw [h3] at Q5 Q6
            have HE := Lib.hid (Q5.out (show (2 : Nat) ≠ 0 by decide))
            have HFB : Hid (∀ q, Calls Try.prog 90 #[.pointer (some ⟨b, 0, none⟩), .bool true, .int .i64 2] (w2.drewN q) fun e w' => e = .returned (.bool true) ∧ UIs w' b rb s t2 (.slice ao o2.length cap) o2 m 2 ∧ Mut [b] (w2.drewN q) w') :=
              Lib.hid (fun q => ufail_yes b rb s t2 _ o2 m 2 2 (w2.drewN q) (HU2.out.mut ((Mut.refl [] w2).drewN q) (by simp) (by simp) (by simp)) rfl (by decide))
            clear Q5 Q6 hsy h3
            go_wp2_with (first | go_step3 | fail)
            refine wp_region_bar 11 _ rfl (by kernel_rfl) (by kernel_rfl) ?_
            simp only [List.take_succ_cons, List.take_zero, List.drop_succ_cons, List.drop_zero]
            repeat (go_big_quiet_step (fail))
            refine wpQuiet_nil ?_
            rintro _ ⟨nq, rfl⟩ K hK
            go_simp
            go_at_call 90
            refine (HFB.out _).mono ?_
            rintro e w3 ⟨rfl, hu, hm3⟩
            have HU3 := Lib.hid hu
            have HG3 := Lib.hid (HG2.out.trans (UG.of ((((Mut.refl _ w2).drewN nq).trans' hm3).mono (T := [b, rb]) (by simp))))
            clear hu hm3
            go_simp
            refine hK _ _ ?_; clear hK K
            repeat (go_big_quiet_step (fail))
            refine wpQuiet_nil ?_
            rintro _ ⟨nq2, rfl⟩
            have HU4 : Hid (UIs (w3.drewN nq2) b rb s t2 (.slice ao o2.length cap) o2 m 2) := Lib.hid (HU3.out.mut ((Mut.refl [] w3).drewN nq2) (by simp) (by simp) (by simp))
            have HG4 := Lib.hid (HG3.out.trans (UG.of ((Mut.refl _ w3).drewN nq2)))
            generalize w3.drewN nq2 = w4 at *
            obtain ⟨c0, c1, c2, c3, f1, f3⟩ := cells4 HU4.out.box
            go_wp2_with (first | go_step3 | fail)
            rw [jump_norm]
            go_end0
            refine ⟨rfl, _, ?_, HG4.out⟩
            rw [HE.out]
            exact HU4.out
          case neg =>
            have hfD : decide (m ≤ o2.length) = false := decide_eq_false hfull
            have h3 : (symbolU sym d s m ⟨t2, o2, 0⟩).2 = ⟨t2, o2 ++ [sym], 0⟩ := by
              rw [hsy]
              simp [UM.bind, longU, failU, pushU, show ¬ m < o2.length + 1 by omega]
            rw [h3] at Q5 Q6
            have HE := Lib.hid (Q6.out rfl)
            have HFN : Hid (∀ q, Calls Try.prog 90 #[.pointer (some ⟨b, 0, none⟩), .bool false, .int .i64 2] (w2.drewN q) fun e w' => e = .returned (.bool false) ∧ w' = w2.drewN q) :=
              Lib.hid (fun q => (ufail_no b rb s t2 _ o2 m 2 (w2.drewN q) (HU2.out.mut ((Mut.refl [] w2).drewN q) (by simp) (by simp) (by simp))).mono fun e w' ⟨h1, h2⟩ => ⟨h1, h2.symm⟩)
            have hlt : (sym : Int) < 256 := by omega
            have hlt0 : (0 : Int) ≤ (sym : Int) := by omega
            clear Q5 Q6 hsy h3
            go_wp2_with (first | go_step3 | fail)
            go_quiet ((go_at_call 90; exact (HFN.out _).mono fun e w'' ⟨he, hw⟩ => ⟨he, _, hw⟩))
            have HU3 : Hid (UIs (w2.drewN nq) b rb s t2 (.slice ao o2.length cap) o2 m 0) := Lib.hid (HU2.out.mut ((Mut.refl [] w2).drewN nq) (by simp) (by simp) (by simp))
            have HG3 := Lib.hid (HG2.out.trans (UG.of ((Mut.refl _ w2).drewN nq)))
            generalize w2.drewN nq = w3 at *
            obtain ⟨c0, c1, c2, c3, f1, f3⟩ := cellsU HU3.out.box
            have hm0 : Mut [] w3 (w3.alloc (.cells #[.int .u8 (sym : Int)] 5 (0, 0))) := (Mut.refl [] w3).alloc _
            have hnew : (w3.alloc (.cells #[.int .u8 (sym : Int)] 5 (0, 0))).heap[w3.heap.size]? = some (.cells #[.int .u8 (sym : Int)] 5 (0, 0)) := heap_alloc_new w3 _
            have hUa : UIs (w3.alloc (.cells #[.int .u8 (sym : Int)] 5 (0, 0))) b rb s t2 (.slice ao o2.length cap) o2 m 0 := HU3.out.mut hm0 (by simp) (by simp) (by simp)
            obtain ⟨i0, hi, hz0, hz1, hz2⟩ := info_parts info_u8r
            have hol : o2.length < 1099511627777 := by omega
            have HUa := Lib.hid hUa
            have HNW := Lib.hid hnew
            clear HFN HU2 HG2 hUa hnew
            go_wp2_with (first | go_step3 | (at_builtin; refine wp_app rfl (.tmp 45) (.tmp 48) 54 54 rfl 5 i0 (.int .u8 0) 1 1 Try.underlying54 hi hz0 hz1 hz2 rfl HUa.out.row rfl (src1 Try.underlying54 HNW.out rfl (one1 rfl)) rfl (by unfold maxLen; omega) (by omega) ?_))
            intro v' w' r1 r2 r3
            have hap := HUa.out.appended v' [sym] 1 rfl r1 r2
            have hb5 : w'.heap[b]? = _ := ((Mut.refl (Value.slice ao o2.length cap).ownBlock.toList _).grown r2 (by intro g hg; simp [hg])).get HUa.out.box (by simpa using HUa.out.ne.2.1)
            obtain ⟨ap, ac, rfl⟩ := row_form r1
            have hG5 : UG w3 (w'.setCell ⟨b, 1, none⟩ (.slice ap (o2.length + 1) ac)) b rb (.slice ao o2.length cap) (.slice ap (o2.length + 1) ac) := by
              refine ⟨(hm0.mono (by simp)).trans' (hap.2.mono (fun y hy => .inl ?_)), fun g' hg' => ?_⟩
              · simp only [List.mem_cons] at hy ⊢
                rcases hy with h | h
                · exact .inl h
                · exact .inr (.inr h)
              · rcases r3 g' hg' with h | h
                · exact .inl h
                · exact .inr (by omega)
            have HAP := Lib.hid hap.1
            have HG5 := Lib.hid (HG3.out.trans hG5)
            clear r1 r2 r3 hap hm0 hi hz0 hz1 hz2 hG5 c0 c1 c2 c3 f1 f3
            obtain ⟨c0, c1, c2, c3, f1, f3⟩ := cellsU hb5
            clear hb5
            have HCN : Hid (SymC w b rb s m l d ov st' (w'.setCell ⟨b, 1, none⟩ (.slice ap (o2.length + 1) ac))) := Lib.hid ⟨_, ⟨t2, o2 ++ [sym], 0⟩, k', HAP.out, HG5.out, HE.out.symm, by have := HK.out; have := HM2.out; show 8 * s.size - t2 < k'; omega, rfl, hin, by rw [List.length_append]; show o2.length + 1 ≤ m; omega⟩
            have HMS : Hid (8 * s.size - (intOf (((w'.setCell ⟨b, 1, none⟩ (.slice ap (o2.length + 1) ac)).cell? ⟨rb, 1, none⟩).getD undef)).toNat < 8 * s.size - (intOf ((W.cell? ⟨rb, 1, none⟩).getD undef)).toNat) := Lib.hid (by
              have h1 : (w'.setCell ⟨b, 1, none⟩ (.slice ap (o2.length + 1) ac)).cell? ⟨rb, 1, none⟩ = some (.int .i64 (t2 : Int)) := (cells2 HAP.out.rd).2.1
              rw [h1, HWT.out]
              show 8 * s.size - ((t2 : Int)).toNat < _
              have := HM2.out
              have := hin
              omega)
            go_wp2_with (first | go_step3 | fail)
            refine ⟨rfl, ?_, HMS.out⟩
            (repeat apply Exists.intro)
            exact ⟨rfl, HCN⟩

end Go.Proofs.Ytgjcnembeebjfaa
